/-
  Plain: a run looks at the pages that it has asked for alone, and asks for at most four in a step.
-/
import Derived.Test.YtpadpggdealgkaaDoorRRRPlB
namespace Go.Proofs.YtpadpggdealgkaaDoorRRR
open Go.RowKit
set_option linter.unusedVariables false

section
variable {a : AS} {Q : Mem} {K : Nat → Prop}
/-- What two memories agree on. -/
def Agr (K : Nat → Prop) (P Q : Mem) : Prop := ∀ q, K q → Q q = P q
theorem reach_agr : ∀ (c p : Nat) (a : AS), Unk a → (∀ q, (reachA c p a).1.known q = true → K q) → Agr K (effP a) Q → reachB c p Q = reachB c p (effP a)
  | 0, _, _, _, _, _ => rfl
  | c + 1, p, a, h, hk, hq => by
    unfold reachA at hk
    unfold reachB
    have hp := need_page h p
    have he := need_eff h p
    have hkp := needE_known a p p (.inr rfl)
    by_cases hs : ((needA a p).page p).isSome = true
    · rw [if_pos hs] at hk
      rw [hq p (hk p (reach_knows c _ _ p hkp)), ← he]
      rw [reach_agr c (p + 1) (needA a p) (h.need p) hk (by rw [he]; exact hq)]
    · rw [if_neg hs] at hk
      rw [hq p (hk p hkp)]
      rw [hp] at hs
      rw [Bool.not_eq_true _ |>.mp hs]
      rfl
theorem access_agr (h : Unk a) (at_ n : Int) (hk : ∀ q, (accessA a at_ n).1.known q = true → K q) (hq : Agr K (effP a) Q) : accessE Q at_ n = accessE (effP a) at_ n := by
  unfold accessA at hk
  unfold accessE
  split
  · rfl
  · rename_i h0
    rw [if_neg h0] at hk
    split
    · rfl
    · rename_i h1
      rw [if_neg h1] at hk
      exact congrArg errOf (reach_agr _ _ a h hk hq)
theorem access_knows (a : AS) (at_ n : Int) (q : Nat) (h : a.known q = true) : (accessA a at_ n).1.known q = true := by
  unfold accessA
  split
  · exact h
  · split
    · exact h
    · exact reach_knows _ _ _ _ h
theorem load_knows (a : AS) (at_ n : Int) (q : Nat) (h : a.known q = true) : (loadA a at_ n).1.known q = true := by
  unfold loadA
  split
  · exact h
  · exact access_knows _ _ _ _ h
theorem store_knows (a : AS) (at_ : Int) (l : List UInt8) (q : Nat) (h : a.known q = true) : (storeA a at_ l).1.known q = true := by
  unfold storeA
  show (if _ then _ else _ : AS).known q = true
  split
  · rw [storeGo_known]; exact access_knows _ _ _ _ h
  · exact access_knows _ _ _ _ h
theorem load_agr (h : Unk a) (at_ n : Int) (hk : ∀ q, (loadA a at_ n).1.known q = true → K q) (hq : Agr K (effP a) Q) : loadE Q at_ n = loadE (effP a) at_ n := by
  unfold loadA at hk
  unfold loadE
  by_cases h0 : n < 0
  · rw [if_pos h0, if_pos h0]
  · rw [if_neg h0] at hk
    rw [if_neg h0, if_neg h0]
    have ha := access_agr h at_ n hk hq
    rw [ha]
    by_cases hz : accessE (effP a) at_ n = 0
    · rw [if_pos hz, if_pos hz]
      refine Prod.ext ?_ rfl
      show bytesE _ _ _ = bytesE _ _ _
      unfold bytesE
      refine List.map_congr_left fun i hi => ?_
      have hi := List.mem_range.1 hi
      have hz' : (accessA a at_ n).2 = 0 := by rw [(access_eff h at_ n).2]; exact hz
      have hkn := (access_known hz' (by omega) i (by omega)).1
      unfold byteE
      rw [hq _ (hk _ hkn)]
    · rw [if_neg hz, if_neg hz]
theorem storeGo_agr (P : Mem) (x : Nat) (l : List UInt8) (hq : Agr K P Q) : ∀ k, (∀ i, i < k → K ((x + i) / 64)) → Agr K (storeGoE P x l k) (storeGoE Q x l k)
  | 0, _ => hq
  | k + 1, hk => by
    have ih := storeGo_agr P x l hq k (fun i hi => hk i (by omega))
    intro q hKq
    show stepE (storeGoE Q x l k) (x + k) (l.getD k 0) q = stepE (storeGoE P x l k) (x + k) (l.getD k 0) q
    unfold stepE
    rw [ih _ (hk k (by omega))]
    by_cases e : q = (x + k) / 64
    · rw [e, upd_at, upd_at]
    · rw [upd_ne _ _ _ _ e, upd_ne _ _ _ _ e]; exact ih q hKq
theorem store_agr (h : Unk a) (at_ : Int) (l : List UInt8) (hk : ∀ q, (storeA a at_ l).1.known q = true → K q) (hq : Agr K (effP a) Q) : (storeE Q at_ l).2 = (storeE (effP a) at_ l).2 ∧ Agr K (storeE (effP a) at_ l).1 (storeE Q at_ l).1 := by
  have hk' : ∀ q, (accessA a at_ l.length).1.known q = true → K q := fun q hq => hk q (by
    unfold storeA
    show (if _ then _ else _ : AS).known q = true
    split
    · rw [storeGo_known]; exact hq
    · exact hq)
  have ha := access_agr h at_ l.length hk' hq
  unfold storeE
  dsimp only
  rw [ha]
  refine ⟨rfl, ?_⟩
  by_cases hz : accessE (effP a) at_ l.length = 0
  · rw [if_pos hz, if_pos hz]
    have hz' : (accessA a at_ l.length).2 = 0 := by rw [(access_eff h at_ l.length).2]; exact hz
    exact storeGo_agr _ _ _ hq _ fun i hi => hk' _ (access_known hz' (by omega) i (by omega)).1
  · rw [if_neg hz, if_neg hz]; exact hq
end
/-- Two answers of an effect, over two memories. -/
structure AgrE (K : Nat → Prop) (x y : Rg × Mem × End) : Prop where
  g : y.1 = x.1
  e : y.2.2 = x.2.2
  m : Agr K x.2.1 y.2.1
section
variable {a : AS} {Q : Mem} {K : Nat → Prop} (h : Unk a) (g : Rg) (k b : Nat) (c : Int) (hq : Agr K (effP a) Q)
include h hq
theorem loadMG_agr (hk : ∀ q, (loadG g a k b c).2.1.known q = true → K q) : AgrE K (loadMG g (effP a) k b c) (loadMG g Q k b c) := by
  have hk' : ∀ q, (loadA a (sumA g b c) 4).1.known q = true → K q := fun q hq => hk q (by unfold loadG; split <;> exact hq)
  unfold loadMG
  rw [load_agr h _ _ hk' hq]
  split <;> exact ⟨rfl, rfl, hq⟩
theorem loadByteMG_agr (hk : ∀ q, (loadByteG g a k b c).2.1.known q = true → K q) : AgrE K (loadByteMG g (effP a) k b c) (loadByteMG g Q k b c) := by
  have hk' : ∀ q, (loadA a (sumA g b c) 1).1.known q = true → K q := fun q hq => hk q (by unfold loadByteG; split <;> exact hq)
  unfold loadByteMG
  rw [load_agr h _ _ hk' hq]
  split <;> exact ⟨rfl, rfl, hq⟩
theorem storeMG_agr (x : Int) (l : List UInt8) (hk : ∀ q, (storeA a x l).1.known q = true → K q) : AgrE K (storeMG g (effP a) x l) (storeMG g Q x l) := by
  obtain ⟨s1, s2⟩ := store_agr h x l hk hq
  unfold storeMG
  rw [s1]
  split <;> exact ⟨rfl, rfl, s2⟩
theorem effM_agr (i : Ins) (hk : ∀ q, (effA i g a).2.1.known q = true → K q) : AgrE K (effM i g (effP a)) (effM i g Q) := by
  obtain ⟨op, k, b, c⟩ := i
  by_cases h27 : op < 27
  · have h3 : op = 0 ∨ op = 1 ∨ op = 2 ∨ op = 3 ∨ op = 4 ∨ op = 5 ∨ op = 6 ∨ op = 7 ∨ op = 8 ∨ op = 9 ∨ op = 10 ∨ op = 11 ∨ op = 12 ∨ op = 13 ∨ op = 14 ∨ op = 15 ∨ op = 16 ∨ op = 21 ∨ op = 22 ∨ op = 23 ∨ op = 24 ∨ op = 25 ∨ op = 26 ∨ op = 17 ∨ op = 18 ∨ op = 19 ∨ op = 20 := by omega
    rcases h3 with rfl | rfl | rfl | rfl | rfl | rfl | rfl | rfl | rfl | rfl | rfl | rfl | rfl | rfl | rfl | rfl | rfl | rfl | rfl | rfl | rfl | rfl | rfl | rfl | rfl | rfl | rfl
    case inr.inr.inr.inr.inr.inr.inr.inr.inr.inr.inr.inr.inr.inr.inr.inr.inr.inr.inr.inr.inr.inr.inr.inl => exact loadMG_agr h g k b c hq hk
    case inr.inr.inr.inr.inr.inr.inr.inr.inr.inr.inr.inr.inr.inr.inr.inr.inr.inr.inr.inr.inr.inr.inr.inr.inl =>
      exact storeMG_agr h g hq _ _ fun q hq => hk q (by show (storeG g a k b c).2.1.known q = true; unfold storeG; split <;> exact hq)
    case inr.inr.inr.inr.inr.inr.inr.inr.inr.inr.inr.inr.inr.inr.inr.inr.inr.inr.inr.inr.inr.inr.inr.inr.inr.inl => exact loadByteMG_agr h g k b c hq hk
    case inr.inr.inr.inr.inr.inr.inr.inr.inr.inr.inr.inr.inr.inr.inr.inr.inr.inr.inr.inr.inr.inr.inr.inr.inr.inr =>
      exact storeMG_agr h g hq _ _ fun q hq => hk q (by show (storeByteG g a k b c).2.1.known q = true; unfold storeByteG; split <;> exact hq)
    all_goals exact ⟨rfl, rfl, hq⟩
  · obtain ⟨n, rfl⟩ : ∃ n, op = n + 27 := ⟨op - 27, by omega⟩
    exact ⟨rfl, rfl, hq⟩
end
theorem effA_knows (i : Ins) (g : Rg) (a : AS) (q : Nat) (h : a.known q = true) : (effA i g a).2.1.known q = true := by
  obtain ⟨op, k, b, c⟩ := i
  by_cases h27 : op < 27
  · have h3 : op = 0 ∨ op = 1 ∨ op = 2 ∨ op = 3 ∨ op = 4 ∨ op = 5 ∨ op = 6 ∨ op = 7 ∨ op = 8 ∨ op = 9 ∨ op = 10 ∨ op = 11 ∨ op = 12 ∨ op = 13 ∨ op = 14 ∨ op = 15 ∨ op = 16 ∨ op = 21 ∨ op = 22 ∨ op = 23 ∨ op = 24 ∨ op = 25 ∨ op = 26 ∨ op = 17 ∨ op = 18 ∨ op = 19 ∨ op = 20 := by omega
    rcases h3 with rfl | rfl | rfl | rfl | rfl | rfl | rfl | rfl | rfl | rfl | rfl | rfl | rfl | rfl | rfl | rfl | rfl | rfl | rfl | rfl | rfl | rfl | rfl | rfl | rfl | rfl | rfl
    case inr.inr.inr.inr.inr.inr.inr.inr.inr.inr.inr.inr.inr.inr.inr.inr.inr.inr.inr.inr.inr.inr.inr.inl => show (loadG g a k b c).2.1.known q = true; unfold loadG; split <;> exact load_knows _ _ _ _ h
    case inr.inr.inr.inr.inr.inr.inr.inr.inr.inr.inr.inr.inr.inr.inr.inr.inr.inr.inr.inr.inr.inr.inr.inr.inl => show (storeG g a k b c).2.1.known q = true; unfold storeG; split <;> exact store_knows _ _ _ _ h
    case inr.inr.inr.inr.inr.inr.inr.inr.inr.inr.inr.inr.inr.inr.inr.inr.inr.inr.inr.inr.inr.inr.inr.inr.inr.inl => show (loadByteG g a k b c).2.1.known q = true; unfold loadByteG; split <;> exact load_knows _ _ _ _ h
    case inr.inr.inr.inr.inr.inr.inr.inr.inr.inr.inr.inr.inr.inr.inr.inr.inr.inr.inr.inr.inr.inr.inr.inr.inr.inr => show (storeByteG g a k b c).2.1.known q = true; unfold storeByteG; split <;> exact store_knows _ _ _ _ h
    all_goals exact h
  · obtain ⟨n, rfl⟩ : ∃ n, op = n + 27 := ⟨op - 27, by omega⟩
    exact h
theorem stepA_knows (g : Rg) (a : AS) (q : Nat) (h : a.known q = true) : (stepA g a).a.known q = true := by
  unfold stepA
  split
  · split
    · exact load_knows _ _ _ _ h
    · exact effA_knows _ _ _ _ (load_knows _ _ _ _ h)
  · exact load_knows _ _ _ _ h
theorem loopA_knows : ∀ (f n : Nat) (g : Rg) (a : AS) (q : Nat), a.known q = true → (loopA f n g a).a.known q = true
  | 0, _, _, _, _, h => h
  | f + 1, n, g, a, q, h => by
    rw [loopA_s]
    split
    · exact loopA_knows f _ _ _ q (stepA_knows g a q h)
    · exact stepA_knows g a q h
theorem stepM_agr {a : AS} {Q : Mem} {K : Nat → Prop} (h : Unk a) (g : Rg) (hk : ∀ q, (stepA g a).a.known q = true → K q) (hq : Agr K (effP a) Q) :
    (stepM g Q).g = (stepM g (effP a)).g ∧ (stepM g Q).e = (stepM g (effP a)).e ∧ Agr K (stepM g (effP a)).m (stepM g Q).m := by
  have r1 := (load_eff h g.pc 4).1
  have hz2 := (load_eff h g.pc 4).2
  have hkl : ∀ q, (loadA a g.pc 4).1.known q = true → K q := fun q hq => hk q (by
    unfold stepA
    split
    · split
      · exact hq
      · exact effA_knows _ _ _ _ hq
    · exact hq)
  unfold stepM
  rw [load_agr h g.pc 4 hkl hq]
  by_cases hz : (loadE (effP a) g.pc 4).2 = 0
  · rw [if_pos hz, if_pos hz]
    cases hd : decL (loadE (effP a) g.pc 4).1 with
    | none => exact ⟨rfl, rfl, hq⟩
    | some i =>
      have hke : ∀ q, (effA i g (loadA a g.pc 4).1).2.1.known q = true → K q := fun q hq => hk q (by
        unfold stepA
        rw [hz2, if_pos hz, hd]
        exact hq)
      have := effM_agr (load_unk h g.pc 4) g (by rw [r1]; exact hq) i hke
      rw [r1] at this
      exact ⟨this.g, this.e, this.m⟩
  · rw [if_neg hz, if_neg hz]
    exact ⟨rfl, rfl, hq⟩
theorem loop_agr : ∀ (f n : Nat) (g : Rg) {a : AS} {Q : Mem} {K : Nat → Prop}, Unk a → (∀ q, (loopA f n g a).a.known q = true → K q) → Agr K (effP a) Q →
    (loopM f n g Q).g = (loopM f n g (effP a)).g ∧ (loopM f n g Q).e = (loopM f n g (effP a)).e ∧ (loopM f n g Q).n = (loopM f n g (effP a)).n
  | 0, _, _, _, _, _, _, _, _ => ⟨rfl, rfl, rfl⟩
  | f + 1, n, g, a, Q, K, h, hk, hq => by
    obtain ⟨q1, q2, q3, q4⟩ := stepA_M h g
    rw [loopA_s] at hk
    have hks : ∀ q, (stepA g a).a.known q = true → K q := fun q hq => hk q (by
      split
      · exact loopA_knows _ _ _ _ _ hq
      · exact hq)
    obtain ⟨s1, s2, s3⟩ := stepM_agr h g hks hq
    rw [loopM_s, loopM_s, s1, s2]
    by_cases hz : (stepM g (effP a)).e.why = 0
    · rw [if_pos hz, if_pos hz]
      rw [q3, if_pos hz] at hk
      rw [← q1, ← q2]
      exact loop_agr f (n + 1) _ q4 hk (by rw [q2]; exact s3)
    · rw [if_neg hz, if_neg hz]
      exact ⟨rfl, rfl, rfl⟩
/-! ### How many -/
def cntF (f : Nat → Bool) (n : Nat) : Nat := ((List.range n).filter f).length
theorem cntF_succ (f : Nat → Bool) (n : Nat) : cntF f (n + 1) = cntF f n + if f n = true then 1 else 0 := by
  unfold cntF
  rw [List.range_succ, List.filter_append, List.length_append]
  congr 1
  by_cases h : f n = true
  · rw [if_pos h, List.filter_cons_of_pos h]; rfl
  · rw [if_neg h, List.filter_cons_of_neg h]; rfl
theorem cntF_upd (f : Nat → Bool) (p : Nat) : ∀ n, cntF (upd f p true) n ≤ cntF f n + if p < n then 1 else 0
  | 0 => by unfold cntF; simp
  | n + 1 => by
    have ih := cntF_upd f p n
    rw [cntF_succ, cntF_succ]
    by_cases e : n = p
    · subst e
      rw [if_neg (by omega)] at ih
      rw [upd_at, if_pos rfl, if_pos (show n < n + 1 by omega)]
      split <;> omega
    · rw [upd_ne _ _ _ _ e]
      by_cases h : p < n
      · rw [if_pos h] at ih
        rw [if_pos (show p < n + 1 by omega)]
        omega
      · rw [if_neg h] at ih
        rw [if_neg (show ¬ p < n + 1 by omega)]
        omega
def cntK (a : AS) : Nat := cntF a.known 64
theorem need_cnt (a : AS) (p : Nat) : cntK (needA a p) ≤ cntK a + 1 := by
  unfold needA cntK
  split
  · omega
  · have := cntF_upd a.known p 64
    have h : (if p < 64 then 1 else 0) ≤ 1 := by split <;> omega
    have h2 : cntF (upd a.known p true) 64 ≤ cntF a.known 64 + 1 := Nat.le_trans this (Nat.add_le_add_left h _)
    cases a.src <;> exact h2
theorem reach_cnt : ∀ (c p : Nat) (a : AS), cntK (reachA c p a).1 ≤ cntK a + c
  | 0, _, _ => Nat.le_refl _
  | c + 1, p, a => by
    unfold reachA
    have h1 := need_cnt a p
    split
    · have := reach_cnt c (p + 1) (needA a p); omega
    · show cntK (needA a p) ≤ _; omega
theorem access_cnt (a : AS) (at_ n : Int) (h0 : 0 ≤ n) (hn : n ≤ 4) : cntK (accessA a at_ n).1 ≤ cntK a + 2 := by
  unfold accessA
  split
  · show cntK a ≤ _; omega
  · split
    · show cntK a ≤ _; omega
    · have := reach_cnt (((at_ + n - 1) / 64).toNat + 1 - (at_ / 64).toNat) (at_ / 64).toNat a
      show cntK (reachA _ _ a).1 ≤ _
      omega
theorem load_cnt (a : AS) (at_ n : Int) (h0 : 0 ≤ n) (hn : n ≤ 4) : cntK (loadA a at_ n).1 ≤ cntK a + 2 := by
  unfold loadA
  rw [if_neg (by omega)]
  exact access_cnt a at_ n h0 hn
theorem store_cnt (a : AS) (at_ : Int) (l : List UInt8) (hl : l.length ≤ 4) : cntK (storeA a at_ l).1 ≤ cntK a + 2 := by
  have := access_cnt a at_ l.length (by omega) (by omega)
  unfold storeA
  show cntK (if _ then _ else _) ≤ _
  split
  · unfold cntK at this ⊢; rw [storeGo_known]; exact this
  · exact this
theorem effA_cnt (i : Ins) (g : Rg) (a : AS) : cntK (effA i g a).2.1 ≤ cntK a + 2 := by
  obtain ⟨op, k, b, c⟩ := i
  by_cases h27 : op < 27
  · have h3 : op = 0 ∨ op = 1 ∨ op = 2 ∨ op = 3 ∨ op = 4 ∨ op = 5 ∨ op = 6 ∨ op = 7 ∨ op = 8 ∨ op = 9 ∨ op = 10 ∨ op = 11 ∨ op = 12 ∨ op = 13 ∨ op = 14 ∨ op = 15 ∨ op = 16 ∨ op = 21 ∨ op = 22 ∨ op = 23 ∨ op = 24 ∨ op = 25 ∨ op = 26 ∨ op = 17 ∨ op = 18 ∨ op = 19 ∨ op = 20 := by omega
    rcases h3 with rfl | rfl | rfl | rfl | rfl | rfl | rfl | rfl | rfl | rfl | rfl | rfl | rfl | rfl | rfl | rfl | rfl | rfl | rfl | rfl | rfl | rfl | rfl | rfl | rfl | rfl | rfl
    case inr.inr.inr.inr.inr.inr.inr.inr.inr.inr.inr.inr.inr.inr.inr.inr.inr.inr.inr.inr.inr.inr.inr.inl => show cntK (loadG g a k b c).2.1 ≤ _; unfold loadG; split <;> exact load_cnt _ _ _ (by decide) (by decide)
    case inr.inr.inr.inr.inr.inr.inr.inr.inr.inr.inr.inr.inr.inr.inr.inr.inr.inr.inr.inr.inr.inr.inr.inr.inl => show cntK (storeG g a k b c).2.1 ≤ _; unfold storeG; split <;> exact store_cnt _ _ _ (Nat.le_refl 4)
    case inr.inr.inr.inr.inr.inr.inr.inr.inr.inr.inr.inr.inr.inr.inr.inr.inr.inr.inr.inr.inr.inr.inr.inr.inr.inl => show cntK (loadByteG g a k b c).2.1 ≤ _; unfold loadByteG; split <;> exact load_cnt _ _ _ (by decide) (by decide)
    case inr.inr.inr.inr.inr.inr.inr.inr.inr.inr.inr.inr.inr.inr.inr.inr.inr.inr.inr.inr.inr.inr.inr.inr.inr.inr => show cntK (storeByteG g a k b c).2.1 ≤ _; unfold storeByteG; split <;> exact store_cnt _ _ _ (show 1 ≤ 4 by decide)
    all_goals exact Nat.le_add_right _ _
  · obtain ⟨n, rfl⟩ : ∃ n, op = n + 27 := ⟨op - 27, by omega⟩
    exact Nat.le_add_right _ _
theorem stepA_cnt (g : Rg) (a : AS) : cntK (stepA g a).a ≤ cntK a + 4 := by
  have h1 := load_cnt a g.pc 4 (by decide) (by decide)
  unfold stepA
  split
  · split
    · show cntK (loadA a g.pc 4).1 ≤ _; omega
    · rename_i i _
      have := effA_cnt i g (loadA a g.pc 4).1
      show cntK (effA i g (loadA a g.pc 4).1).2.1 ≤ _
      omega
  · show cntK (loadA a g.pc 4).1 ≤ _; omega
theorem loopA_cnt : ∀ (f n : Nat) (g : Rg) (a : AS), n ≤ (loopA f n g a).n ∧ cntK (loopA f n g a).a ≤ cntK a + 4 * ((loopA f n g a).n - n + 1)
  | 0, n, g, a => ⟨Nat.le_refl _, Nat.le_add_right _ _⟩
  | f + 1, n, g, a => by
    have h1 := stepA_cnt g a
    rw [loopA_s]
    split
    · obtain ⟨i1, i2⟩ := loopA_cnt f (n + 1) (stepA g a).g (stepA g a).a
      exact ⟨by omega, by omega⟩
    · refine ⟨Nat.le_refl _, ?_⟩
      show cntK (stepA g a).a ≤ cntK a + 4 * (n - n + 1)
      omega
end Go.Proofs.YtpadpggdealgkaaDoorRRR
