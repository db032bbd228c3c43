/-
  Plain: a space whose pages come from a source; a run on what it has asked for alone.
-/
import Derived.Test.YtpadpggdealgkaaDoorRRRPlS
namespace Go.Proofs.YtpadpggdealgkaaDoorRRR
open Go.RowKit
set_option linter.unusedVariables false

structure SI (f : Nat → Option (List UInt8)) (a : AS) : Prop where
  src : a.src = some f
  ask : a.asked = a.known
section
variable {f : Nat → Option (List UInt8)} {a : AS}
theorem SI.need (h : SI f a) (p : Nat) : SI f (needA a p) := by
  unfold needA
  split
  · exact h
  · rw [h.src]
    exact ⟨rfl, by show upd a.asked p true = upd a.known p true; rw [h.ask]⟩
theorem SI.reach : ∀ (c p : Nat) (a : AS), SI f a → SI f (reachA c p a).1
  | 0, _, _, h => h
  | c + 1, p, a, h => by
    unfold reachA
    split
    · exact SI.reach c _ _ (h.need p)
    · exact h.need p
theorem SI.access (h : SI f a) (x n : Int) : SI f (accessA a x n).1 := by
  unfold accessA
  split
  · exact h
  · split
    · exact h
    · exact SI.reach _ _ _ h
theorem SI.load (h : SI f a) (x n : Int) : SI f (loadA a x n).1 := by
  unfold loadA
  split
  · exact h
  · exact h.access _ _
theorem SI.store (h : SI f a) (x : Int) (l : List UInt8) : SI f (storeA a x l).1 := by
  have := h.access x l.length
  unfold storeA
  show SI f (if _ then _ else _)
  split
  · exact ⟨(storeGo_src _ _ _ _).trans this.src, (storeGo_asked _ _ _ _).trans (this.ask.trans (storeGo_known _ _ _ _).symm)⟩
  · exact this
theorem SI.eff (h : SI f a) (i : Ins) (g : Rg) : SI f (effA i g a).2.1 := by
  obtain ⟨op, k, b, c⟩ := i
  by_cases h27 : op < 27
  · have h3 : op = 0 ∨ op = 1 ∨ op = 2 ∨ op = 3 ∨ op = 4 ∨ op = 5 ∨ op = 6 ∨ op = 7 ∨ op = 8 ∨ op = 9 ∨ op = 10 ∨ op = 11 ∨ op = 12 ∨ op = 13 ∨ op = 14 ∨ op = 15 ∨ op = 16 ∨ op = 21 ∨ op = 22 ∨ op = 23 ∨ op = 24 ∨ op = 25 ∨ op = 26 ∨ op = 17 ∨ op = 18 ∨ op = 19 ∨ op = 20 := by omega
    rcases h3 with rfl | rfl | rfl | rfl | rfl | rfl | rfl | rfl | rfl | rfl | rfl | rfl | rfl | rfl | rfl | rfl | rfl | rfl | rfl | rfl | rfl | rfl | rfl | rfl | rfl | rfl | rfl
    case inr.inr.inr.inr.inr.inr.inr.inr.inr.inr.inr.inr.inr.inr.inr.inr.inr.inr.inr.inr.inr.inr.inr.inl => show SI f (loadG g a k b c).2.1; unfold loadG; split <;> exact h.load _ _
    case inr.inr.inr.inr.inr.inr.inr.inr.inr.inr.inr.inr.inr.inr.inr.inr.inr.inr.inr.inr.inr.inr.inr.inr.inl => show SI f (storeG g a k b c).2.1; unfold storeG; split <;> exact h.store _ _
    case inr.inr.inr.inr.inr.inr.inr.inr.inr.inr.inr.inr.inr.inr.inr.inr.inr.inr.inr.inr.inr.inr.inr.inr.inr.inl => show SI f (loadByteG g a k b c).2.1; unfold loadByteG; split <;> exact h.load _ _
    case inr.inr.inr.inr.inr.inr.inr.inr.inr.inr.inr.inr.inr.inr.inr.inr.inr.inr.inr.inr.inr.inr.inr.inr.inr.inr => show SI f (storeByteG g a k b c).2.1; unfold storeByteG; split <;> exact h.store _ _
    all_goals exact h
  · obtain ⟨n, rfl⟩ : ∃ n, op = n + 27 := ⟨op - 27, by omega⟩
    exact h
theorem SI.step (h : SI f a) (g : Rg) : SI f (stepA g a).a := by
  unfold stepA
  split
  · split
    · exact h.load _ _
    · exact (h.load _ _).eff _ _
  · exact h.load _ _
theorem SI.loop : ∀ (n k : Nat) (g : Rg) (a : AS), SI f a → SI f (loopA n k g a).a
  | 0, _, _, _, h => h
  | n + 1, k, g, a, h => by
    rw [loopA_s]
    split
    · exact SI.loop n _ _ _ (h.step g)
    · exact h.step g
end
/-- A space that knows nothing yet. -/
def newSA (f : Nat → Option (List UInt8)) : AS := ⟨some f, fun _ => false, fun _ => false, fun _ => false, fun _ => none⟩
theorem newSA_unk (f : Nat → Option (List UInt8)) : Unk (newSA f) := fun _ _ => rfl
theorem newSA_si (f : Nat → Option (List UInt8)) : SI f (newSA f) := ⟨rfl, rfl⟩
theorem newSA_cnt (f : Nat → Option (List UInt8)) : cntK (newSA f) = 0 := by
  show cntF (fun _ => false) 64 = 0
  unfold cntF
  rw [List.filter_eq_nil_iff.2 (fun _ _ h => by cases h)]
  rfl
/-- What the law's source answers. -/
def srcMm (m : Mm) (p : Nat) : Option (List UInt8) := if p < 64 ∧ m.th p = true then some (pgL m p) else none
/-- The pages of a list. -/
def fewM (m : Mm) (f : Nat → Bool) : Mm := ⟨fun k => if f k = true then m.th k else false, fun n => if f (n / 64) = true then m.b n else 0⟩
theorem effP_src (m : Mm) (p : Nat) : effP (newSA (srcMm m)) p = srcMm m p := by
  show (srcMm m p).map padL = srcMm m p
  unfold srcMm
  split
  · rw [Option.map_some, padL_64 _ (pgL_length m p)]
  · rfl
theorem effP_own (m : Mm) (p : Nat) : effP (ownA m 64) p = srcMm m p := by
  unfold effP srcMm
  show (if (decide (p < 64) && m.th p) = true then (if p < 64 ∧ m.th p = true then some (pgL m p) else none) else none) = _
  by_cases h : p < 64 ∧ m.th p = true
  · rw [if_pos h, if_pos (by rw [decide_eq_true h.1, h.2]; rfl)]
  · rw [if_neg h]
    split <;> rfl
theorem few_page (m : Mm) (f : Nat → Bool) (p : Nat) (h : f p = true) : srcMm (fewM m f) p = srcMm m p := by
  have e : pgL (fewM m f) p = pgL m p := by
    unfold pgL
    refine List.map_congr_left fun j hj => ?_
    have hj := List.mem_range.1 hj
    show (if f ((64 * p + j) / 64) = true then m.b (64 * p + j) else 0) = _
    rw [show (64 * p + j) / 64 = p by omega, if_pos h]
  unfold srcMm
  rw [e]
  show (if p < 64 ∧ (if f p = true then m.th p else false) = true then _ else _) = _
  rw [if_pos h]
/-- CpuPages: the run on what was asked for alone ends as the run that asked. -/
theorem pages_same (m : Mm) (k : Nat) (g : Rg) :
    (runA k g (ownA (fewM m (runA k g (newSA (srcMm m))).a.asked) 64)).g = (runA k g (newSA (srcMm m))).g ∧
    (runA k g (ownA (fewM m (runA k g (newSA (srcMm m))).a.asked) 64)).e = (runA k g (newSA (srcMm m))).e ∧
    (runA k g (ownA (fewM m (runA k g (newSA (srcMm m))).a.asked) 64)).n = (runA k g (newSA (srcMm m))).n := by
  have hsi := SI.loop k 0 g _ (newSA_si (srcMm m))
  obtain ⟨x1, _, x3, x4, _⟩ := loopA_M k 0 g (newSA_unk (srcMm m))
  unfold runA
  rw [hsi.ask]
  generalize hF : fewM m (loopA k 0 g (newSA (srcMm m))).a.known = F
  obtain ⟨y1, _, y3, y4, _⟩ := loopA_M k 0 g (ownA_unk F 64)
  obtain ⟨z1, z2, z3⟩ := loop_agr k 0 g (K := fun q => (loopA k 0 g (newSA (srcMm m))).a.known q = true) (Q := effP (ownA F 64)) (newSA_unk (srcMm m)) (fun _ h => h) (fun q hq => by rw [effP_own, effP_src, ← hF]; exact few_page _ _ _ hq)
  exact ⟨y1.trans (z1.trans x1.symm), y3.trans (z2.trans x3.symm), y4.trans (z3.trans x4.symm)⟩
theorem pages_few (m : Mm) (k : Nat) (g : Rg) : (askL (runA k g (newSA (srcMm m))).a 64).length ≤ 4 * ((runA k g (newSA (srcMm m))).n + 1) := by
  have hsi := SI.loop k 0 g _ (newSA_si (srcMm m))
  have h := (loopA_cnt k 0 g (newSA (srcMm m))).2
  rw [newSA_cnt] at h
  unfold askL runA
  rw [hsi.ask]
  have h2 : cntF (loopA k 0 g (newSA (srcMm m))).a.known 64 ≤ 4 * ((loopA k 0 g (newSA (srcMm m))).n + 1) := by
    unfold cntK at h
    omega
  exact h2
end Go.Proofs.YtpadpggdealgkaaDoorRRR
