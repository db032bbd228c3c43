/-
  Plain: a step, and a run, over what stands in the pages.
-/
import Derived.Test.YtkoomlbnfhdhcaaGreatDoorCpL
namespace Go.Proofs.YtkoomlbnfhdhcaaGreatDoor
open Go.RowKit
set_option linter.unusedVariables false

def loadMG (g : Rg) (P : Mem) (k b : Nat) (c : Int) : Rg × Mem × End :=
  if (loadE P (sumA g b c) 4).2 = 0 then (resA g k (leV (loadE P (sumA g b c) 4).1), P, goOn) else (g, P, ⟨4, 0, sumA g b c⟩)
def loadByteMG (g : Rg) (P : Mem) (k b : Nat) (c : Int) : Rg × Mem × End :=
  if (loadE P (sumA g b c) 1).2 = 0 then (resA g k ((loadE P (sumA g b c) 1).1.getD 0 0).toNat, P, goOn) else (g, P, ⟨4, 0, sumA g b c⟩)
def storeMG (g : Rg) (P : Mem) (x : Int) (l : List UInt8) : Rg × Mem × End :=
  if (storeE P x l).2 = 0 then (nextA g, (storeE P x l).1, goOn) else (g, (storeE P x l).1, ⟨4, 0, x⟩)
def effM (i : Ins) (g : Rg) (P : Mem) : Rg × Mem × End := match i.op with
  | 0 => (g, P, ⟨3, 0, 0⟩)
  | 1 => (resA g i.a (g.r i.b), P, goOn)
  | 2 => (resA g i.a (i.c % 4294967296), P, goOn)
  | 3 => (resA g i.a (highV i.c (g.r i.a)), P, goOn)
  | 16 => (resA g i.a (sumA g i.b i.c), P, goOn)
  | 17 => loadMG g P i.a i.b i.c
  | 18 => storeMG g P (sumA g i.b i.c) (le4 (g.r i.a).toNat)
  | 19 => loadByteMG g P i.a i.b i.c
  | 20 => storeMG g P (sumA g i.b i.c) [UInt8.ofNat (g.r i.a).toNat]
  | 21 => (jumpA g true i.c, P, goOn)
  | 22 => (jumpA g (g.r i.a == 0) i.c, P, goOn)
  | 23 => (jumpA g (g.r i.a != 0) i.c, P, goOn)
  | 24 => (jumpA { g with r := upd g.r i.a ((g.pc + 4) % 4294967296) } true i.c, P, goOn)
  | 25 => ({ g with pc := g.r i.a }, P, goOn)
  | 26 => (g, P, ⟨2, i.c, 0⟩)
  | op => ((calcG g op i.a i.b i.c.toNat).1, P, (calcG g op i.a i.b i.c.toNat).2)
def obs (r : Rg × AS × End) : Rg × Mem × End := (r.1, effP r.2.1, r.2.2)
section
variable {a : AS} (h : Unk a) (g : Rg) (k b : Nat) (c : Int)
include h
theorem loadG_M : obs (loadG g a k b c) = loadMG g (effP a) k b c ∧ Unk (loadG g a k b c).2.1 := by
  obtain ⟨r1, r2⟩ := load_eff h (sumA g b c) 4
  have hu := load_unk h (sumA g b c) 4
  unfold loadG loadMG
  rw [r2]
  by_cases hz : (loadE (effP a) (sumA g b c) 4).2 = 0
  · rw [if_pos hz, if_pos hz]; exact ⟨by unfold obs; dsimp only; rw [r1], hu⟩
  · rw [if_neg hz, if_neg hz]; exact ⟨by unfold obs; dsimp only; rw [r1], hu⟩
theorem loadByteG_M : obs (loadByteG g a k b c) = loadByteMG g (effP a) k b c ∧ Unk (loadByteG g a k b c).2.1 := by
  obtain ⟨r1, r2⟩ := load_eff h (sumA g b c) 1
  have hu := load_unk h (sumA g b c) 1
  unfold loadByteG loadByteMG
  rw [r2]
  by_cases hz : (loadE (effP a) (sumA g b c) 1).2 = 0
  · rw [if_pos hz, if_pos hz]; exact ⟨by unfold obs; dsimp only; rw [r1], hu⟩
  · rw [if_neg hz, if_neg hz]; exact ⟨by unfold obs; dsimp only; rw [r1], hu⟩
theorem storeG_M : obs (storeG g a k b c) = storeMG g (effP a) (sumA g b c) (le4 (g.r k).toNat) ∧ Unk (storeG g a k b c).2.1 := by
  obtain ⟨r1, r2⟩ := store_eff h (sumA g b c) (le4 (g.r k).toNat)
  have hu := store_unk h (sumA g b c) (le4 (g.r k).toNat)
  unfold storeG storeMG
  rw [r2]
  by_cases hz : (storeE (effP a) (sumA g b c) (le4 (g.r k).toNat)).2 = 0
  · rw [if_pos hz, if_pos hz]; exact ⟨by unfold obs; dsimp only; rw [r1], hu⟩
  · rw [if_neg hz, if_neg hz]; exact ⟨by unfold obs; dsimp only; rw [r1], hu⟩
theorem storeByteG_M : obs (storeByteG g a k b c) = storeMG g (effP a) (sumA g b c) [UInt8.ofNat (g.r k).toNat] ∧ Unk (storeByteG g a k b c).2.1 := by
  obtain ⟨r1, r2⟩ := store_eff h (sumA g b c) [UInt8.ofNat (g.r k).toNat]
  have hu := store_unk h (sumA g b c) [UInt8.ofNat (g.r k).toNat]
  unfold storeByteG storeMG
  rw [r2]
  by_cases hz : (storeE (effP a) (sumA g b c) [UInt8.ofNat (g.r k).toNat]).2 = 0
  · rw [if_pos hz, if_pos hz]; exact ⟨by unfold obs; dsimp only; rw [r1], hu⟩
  · rw [if_neg hz, if_neg hz]; exact ⟨by unfold obs; dsimp only; rw [r1], hu⟩
theorem effA_M (i : Ins) : obs (effA i g a) = effM i g (effP a) ∧ Unk (effA i g a).2.1 := by
  obtain ⟨op, k, b, c⟩ := i
  by_cases h27 : op < 27
  · have h3 : op = 0 ∨ op = 1 ∨ op = 2 ∨ op = 3 ∨ op = 4 ∨ op = 5 ∨ op = 6 ∨ op = 7 ∨ op = 8 ∨ op = 9 ∨ op = 10 ∨ op = 11 ∨ op = 12 ∨ op = 13 ∨ op = 14 ∨ op = 15 ∨ op = 16 ∨ op = 21 ∨ op = 22 ∨ op = 23 ∨ op = 24 ∨ op = 25 ∨ op = 26 ∨ op = 17 ∨ op = 18 ∨ op = 19 ∨ op = 20 := by omega
    rcases h3 with rfl | rfl | rfl | rfl | rfl | rfl | rfl | rfl | rfl | rfl | rfl | rfl | rfl | rfl | rfl | rfl | rfl | rfl | rfl | rfl | rfl | rfl | rfl | rfl | rfl | rfl | rfl
    case inr.inr.inr.inr.inr.inr.inr.inr.inr.inr.inr.inr.inr.inr.inr.inr.inr.inr.inr.inr.inr.inr.inr.inl => exact loadG_M h g k b c
    case inr.inr.inr.inr.inr.inr.inr.inr.inr.inr.inr.inr.inr.inr.inr.inr.inr.inr.inr.inr.inr.inr.inr.inr.inl => exact storeG_M h g k b c
    case inr.inr.inr.inr.inr.inr.inr.inr.inr.inr.inr.inr.inr.inr.inr.inr.inr.inr.inr.inr.inr.inr.inr.inr.inr.inl => exact loadByteG_M h g k b c
    case inr.inr.inr.inr.inr.inr.inr.inr.inr.inr.inr.inr.inr.inr.inr.inr.inr.inr.inr.inr.inr.inr.inr.inr.inr.inr => exact storeByteG_M h g k b c
    all_goals exact ⟨rfl, h⟩
  · obtain ⟨n, rfl⟩ : ∃ n, op = n + 27 := ⟨op - 27, by omega⟩
    exact ⟨rfl, h⟩
end
structure SteM where
  g : Rg
  m : Mem
  e : End
def stepM (g : Rg) (P : Mem) : SteM :=
  if (loadE P g.pc 4).2 = 0 then match decL (loadE P g.pc 4).1 with
    | none => ⟨g, P, ⟨5, 0, 0⟩⟩
    | some i => ⟨(effM i g P).1, (effM i g P).2.1, (effM i g P).2.2⟩
  else ⟨g, P, ⟨4, 0, g.pc⟩⟩
theorem stepA_M {a : AS} (h : Unk a) (g : Rg) : (stepA g a).g = (stepM g (effP a)).g ∧ effP (stepA g a).a = (stepM g (effP a)).m ∧ (stepA g a).e = (stepM g (effP a)).e ∧ Unk (stepA g a).a := by
  obtain ⟨r1, r2⟩ := load_eff h g.pc 4
  have hu := load_unk h g.pc 4
  unfold stepA stepM
  rw [r2]
  by_cases hz : (loadE (effP a) g.pc 4).2 = 0
  · rw [if_pos hz, if_pos hz]
    cases hd : decL (loadE (effP a) g.pc 4).1 with
    | none => exact ⟨rfl, r1, rfl, hu⟩
    | some i =>
      obtain ⟨q1, q2⟩ := effA_M hu g i
      rw [r1] at q1
      unfold obs at q1
      dsimp only
      rw [← q1]
      exact ⟨rfl, rfl, rfl, q2⟩
  · rw [if_neg hz, if_neg hz]
    exact ⟨rfl, r1, rfl, hu⟩
structure RunM where
  g : Rg
  m : Mem
  e : End
  n : Nat
def loopM : Nat → Nat → Rg → Mem → RunM
  | 0, n, g, P => ⟨g, P, ⟨1, 0, 0⟩, n⟩
  | f + 1, n, g, P => if (stepM g P).e.why = 0 then loopM f (n + 1) (stepM g P).g (stepM g P).m else ⟨(stepM g P).g, (stepM g P).m, (stepM g P).e, n⟩
theorem loopA_M : ∀ (f n : Nat) (g : Rg) {a : AS}, Unk a → (loopA f n g a).g = (loopM f n g (effP a)).g ∧ effP (loopA f n g a).a = (loopM f n g (effP a)).m ∧ (loopA f n g a).e = (loopM f n g (effP a)).e ∧ (loopA f n g a).n = (loopM f n g (effP a)).n ∧ Unk (loopA f n g a).a
  | 0, n, g, a, h => ⟨rfl, rfl, rfl, rfl, h⟩
  | f + 1, n, g, a, h => by
    obtain ⟨q1, q2, q3, q4⟩ := stepA_M h g
    rw [loopA_s]
    unfold loopM
    rw [q1, q3]
    by_cases hz : (stepM g (effP a)).e.why = 0
    · rw [if_pos hz, if_pos hz, ← q2]
      exact loopA_M f (n + 1) _ q4
    · rw [if_neg hz, if_neg hz]
      exact ⟨rfl, q2, rfl, rfl, q4⟩
/-- A step that ends the run changes nothing; and its reason is none of the budget's. -/
theorem storeMG_end (g : Rg) (P : Mem) (x : Int) (l : List UInt8) (h : (storeMG g P x l).2.2.why ≠ 0) : storeMG g P x l = (g, P, ⟨4, 0, x⟩) := by
  unfold storeMG at h ⊢
  by_cases hz : (storeE P x l).2 = 0
  · rw [if_pos hz] at h; exact absurd rfl h
  · rw [if_neg hz]
    have : (storeE P x l).1 = P := by
      unfold storeE at hz ⊢
      exact if_neg hz
    rw [this]
theorem effM_end (i : Ins) (g : Rg) (P : Mem) (h : (effM i g P).2.2.why ≠ 0) : (effM i g P).1 = g ∧ (effM i g P).2.1 = P ∧ (effM i g P).2.2.why ≠ 1 := by
  unfold effM at h ⊢
  split at h
  · exact ⟨rfl, rfl, by show (3 : Int) ≠ 1; decide⟩
  · exact absurd rfl h
  · exact absurd rfl h
  · exact absurd rfl h
  · exact absurd rfl h
  · unfold loadMG at h ⊢
    split at h
    · exact absurd rfl h
    · rename_i hz
      rw [if_neg hz]
      exact ⟨rfl, rfl, by show (4 : Int) ≠ 1; decide⟩
  · rw [storeMG_end _ _ _ _ h]; exact ⟨rfl, rfl, by show (4 : Int) ≠ 1; decide⟩
  · unfold loadByteMG at h ⊢
    split at h
    · exact absurd rfl h
    · rename_i hz
      rw [if_neg hz]
      exact ⟨rfl, rfl, by show (4 : Int) ≠ 1; decide⟩
  · rw [storeMG_end _ _ _ _ h]; exact ⟨rfl, rfl, by show (4 : Int) ≠ 1; decide⟩
  · exact absurd rfl h
  · exact absurd rfl h
  · exact absurd rfl h
  · exact absurd rfl h
  · exact absurd rfl h
  · exact ⟨rfl, rfl, by show (2 : Int) ≠ 1; decide⟩
  · dsimp only at h ⊢
    unfold calcG at h ⊢
    split at h
    · exact absurd rfl h
    · rename_i hz
      rw [if_neg hz]
      exact ⟨rfl, rfl, by show (6 : Int) ≠ 1; decide⟩
theorem stepM_end (g : Rg) (P : Mem) (h : (stepM g P).e.why ≠ 0) : (stepM g P).g = g ∧ (stepM g P).m = P ∧ (stepM g P).e.why ≠ 1 := by
  unfold stepM at h ⊢
  by_cases hz : (loadE P g.pc 4).2 = 0
  · rw [if_pos hz] at h ⊢
    cases hd : decL (loadE P g.pc 4).1 with
    | none => rw [hd] at h; exact ⟨rfl, rfl, by show (5 : Int) ≠ 1; decide⟩
    | some i =>
      rw [hd] at h
      exact effM_end i g P h
  · rw [if_neg hz] at h ⊢
    exact ⟨rfl, rfl, by show (4 : Int) ≠ 1; decide⟩
theorem loopM_s (f n : Nat) (g : Rg) (P : Mem) : loopM (f + 1) n g P = if (stepM g P).e.why = 0 then loopM f (n + 1) (stepM g P).g (stepM g P).m else ⟨(stepM g P).g, (stepM g P).m, (stepM g P).e, n⟩ := rfl
/-- The count may start anywhere. -/
theorem loopM_n : ∀ (f n d : Nat) (g : Rg) (P : Mem), (loopM f (n + d) g P).g = (loopM f n g P).g ∧ (loopM f (n + d) g P).m = (loopM f n g P).m ∧ (loopM f (n + d) g P).e = (loopM f n g P).e ∧ (loopM f (n + d) g P).n = (loopM f n g P).n + d
  | 0, n, d, g, P => ⟨rfl, rfl, rfl, rfl⟩
  | f + 1, n, d, g, P => by
    rw [loopM_s, loopM_s]
    by_cases hz : (stepM g P).e.why = 0
    · rw [if_pos hz, if_pos hz, show n + d + 1 = (n + 1) + d by omega]
      exact loopM_n f (n + 1) d _ _
    · rw [if_neg hz, if_neg hz]
      exact ⟨rfl, rfl, rfl, rfl⟩
/-- A run that its budget ends goes on as one; another stands where it ended. -/
theorem loopM_add : ∀ (i k n : Nat) (g : Rg) (P : Mem),
    ((loopM i n g P).e.why = 1 → loopM (i + k) n g P = loopM k (loopM i n g P).n (loopM i n g P).g (loopM i n g P).m ∧ (loopM i n g P).e = ⟨1, 0, 0⟩) ∧
    ((loopM i n g P).e.why ≠ 1 → loopM (i + k) n g P = loopM i n g P ∧ (stepM (loopM i n g P).g (loopM i n g P).m) = ⟨(loopM i n g P).g, (loopM i n g P).m, (loopM i n g P).e⟩ ∧ (loopM i n g P).e.why ≠ 0)
  | 0, k, n, g, P => ⟨fun _ => ⟨by rw [Nat.zero_add]; rfl, rfl⟩, fun h => absurd rfl h⟩
  | i + 1, k, n, g, P => by
    rw [show i + 1 + k = (i + k) + 1 by omega, loopM_s (i + k), loopM_s i]
    by_cases hz : (stepM g P).e.why = 0
    · rw [if_pos hz, if_pos hz]
      exact loopM_add i k (n + 1) _ _
    · rw [if_neg hz, if_neg hz]
      obtain ⟨q1, q2, q3⟩ := stepM_end g P hz
      refine ⟨fun h => absurd h q3, fun _ => ⟨rfl, ?_, hz⟩⟩
      dsimp only
      rw [q1, q2]
      have e0 : stepM g P = ⟨(stepM g P).g, (stepM g P).m, (stepM g P).e⟩ := rfl
      rw [q1, q2] at e0
      exact e0
end Go.Proofs.YtkoomlbnfhdhcaaGreatDoor
