/-
  Plain: the reference's Apply answers as the package's.
-/
import Derived.Test.YtemcabepbncicaaDoorPlainOnes
namespace Go.Proofs.YtemcabepbncicaaDoor
open Go.RowKit

def appBit (q0 q1 q2 r w x p t : Bool) (s : UInt8) (i : Nat) (b : Bool) : Bool :=
  if s = 43 then b || accBit (q3 q0 q1 q2) r w x p t i else if s = 45 then b && !accBit (q3 q0 q1 q2) r w x p t i else (b && !(allN (q3 q0 q1 q2)).testBit i) || accBit (q3 q0 q1 q2) r w x p t i
theorem bits_fin43 : ∀ q0 q1 q2 r w x p t b : Bool, ∀ i < 11, oneBit q0 q1 q2 r w x p t 43 i b = appBit q0 q1 q2 r w x p t 43 i b := by decide +kernel
theorem bits_fin45 : ∀ q0 q1 q2 r w x p t b : Bool, ∀ i < 11, oneBit q0 q1 q2 r w x p t 45 i b = appBit q0 q1 q2 r w x p t 45 i b := by decide +kernel
theorem bits_fin61 : ∀ q0 q1 q2 r w x p t b : Bool, ∀ i < 11, oneBit q0 q1 q2 r w x p t 61 i b = appBit q0 q1 q2 r w x p t 61 i b := by decide +kernel

theorem lead_all (f : UInt8 → Bool) : ∀ l : List UInt8, ∀ b ∈ l.take (lead f l), f b = true
  | [], b, h => by simp at h
  | a :: l, b, h => by
    unfold lead at h
    by_cases ha : f a = true
    · rw [if_pos ha, List.take_succ_cons] at h
      rcases List.mem_cons.1 h with h1 | h1
      · rw [h1]; exact ha
      · exact lead_all f l b h1
    · rw [if_neg ha] at h
      simp at h

/-- The bit behind a clause. -/
theorem applyN_bit (c : Cl) (m i : Nat) (ht : ∀ b ∈ c.t, isBit b = true) :
    (applyN c.x (clsAt c.p) (bitsAcc c.t (clsAt c.p)) m).testBit i = appBit (clsAt c.p 0) (clsAt c.p 1) (clsAt c.p 2) (decide (114 ∈ c.t)) (decide (119 ∈ c.t)) (decide (120 ∈ c.t)) (decide (115 ∈ c.t)) (decide (116 ∈ c.t)) c.x i (m.testBit i) := by
  have ha : (bitsAcc c.t (clsAt c.p)).testBit i = accBit (q3 (clsAt c.p 0) (clsAt c.p 1) (clsAt c.p 2)) (decide (114 ∈ c.t)) (decide (119 ∈ c.t)) (decide (120 ∈ c.t)) (decide (115 ∈ c.t)) (decide (116 ∈ c.t)) i := by
    rw [bitsAcc_bit, any_letters _ _ ht]
    unfold accBit
    rw [bitN_q3 114, bitN_q3 119, bitN_q3 120, bitN_q3 115, bitN_q3 116]
  unfold applyN appBit
  by_cases h43 : c.x = 43
  · rw [if_pos h43, if_pos h43, Nat.testBit_or, ha]
  · rw [if_neg h43, if_neg h43]
    by_cases h45 : c.x = 45
    · rw [if_pos h45, if_pos h45, clr_bit, ha]
    · rw [if_neg h45, if_neg h45, Nat.testBit_or, clr_bit, ha, allN_q3]

theorem apply_one (c : Cl) (m : Nat) (hm : m < 2048) (ht : ∀ b ∈ c.t, isBit b = true) (hx : signB c.x = true) : applyN c.x (clsAt c.p) (bitsAcc c.t (clsAt c.p)) m = oneV c m := by
  refine Nat.eq_of_testBit_eq fun i => ?_
  by_cases hi : i < 11
  · rw [applyN_bit c m i ht, oneV_bit c m i hm]
    unfold signB at hx
    simp only [Bool.or_eq_true, beq_iff_eq] at hx
    rcases hx with (hx | hx) | hx
    · rw [hx]; exact (bits_fin43 _ _ _ _ _ _ _ _ _ i hi).symm
    · rw [hx]; exact (bits_fin45 _ _ _ _ _ _ _ _ _ i hi).symm
    · rw [hx]; exact (bits_fin61 _ _ _ _ _ _ _ _ _ i hi).symm
  · have h1 := applyN_lt c.x (clsAt c.p) (bitsAcc c.t (clsAt c.p)) m (bitsAcc_lt _ _) hm
    have h2 := oneV_lt c m hm
    have h3 : (2048 : Nat) ≤ 2 ^ i := Nat.pow_le_pow_right (show 0 < 2 by omega) (show 11 ≤ i by omega)
    rw [Nat.testBit_lt_two_pow (Nat.lt_of_lt_of_le h1 h3), Nat.testBit_lt_two_pow (Nat.lt_of_lt_of_le h2 h3)]

theorem step_one (l : List UInt8) (m : Nat) (hm : m < 2048) (hno : noClause l = false) : stepN l m = oneV (clOf l) m := by
  have hs : signB (l.getD (lead isCls l) 0) = true := by
    unfold noClause at hno
    simp only [Bool.or_eq_false_iff] at hno
    simpa using hno.2
  exact apply_one (clOf l) m hm (lead_all isBit _) hs

theorem clOf_t_len (l : List UInt8) : (clOf l).t.length ≤ l.length := by
  show (List.take _ _).length ≤ _
  rw [List.length_take, List.length_drop]
  omega

/-- Clauses and Apply side by side. -/
theorem clauses_apply : ∀ (f a : Nat) (l : List UInt8) (m : Nat) (acc : List Cl), m < 2048 → l.length < f →
    (∃ cs : List Cl, clausesGo f a l acc = (acc ++ cs, -1) ∧ applyGo f a l m = (cs.foldl (fun m c => oneV c m) m, 0, 0) ∧ ∀ c ∈ cs, c.t.length ≤ l.length) ∨ (∃ n : Nat, clausesGo f a l acc = ([], (n : Int)) ∧ applyGo f a l m = (0, n, 30))
  | 0, _, _, _, _, _, h => by omega
  | f + 1, a, l, m, acc, hm, hf => by
    unfold clausesGo applyGo
    by_cases hno : noClause l = true
    · exact .inr ⟨a + lead isCls l, by rw [if_pos hno], by rw [if_pos hno]⟩
    · rw [if_neg hno, if_neg hno]
      have hno0 : noClause l = false := by simpa using hno
      have hst := step_one l m hm hno0
      by_cases hl : clLen l = l.length
      · rw [if_pos hl, if_pos hl]
        exact .inl ⟨[clOf l], rfl, by rw [hst]; rfl, fun c hc => by rw [List.mem_singleton.1 hc]; exact clOf_t_len l⟩
      · rw [if_neg hl, if_neg hl]
        by_cases h44 : l.getD (clLen l) 0 = 44
        · rw [if_pos h44, if_pos h44]
          have hle := clLen_le l hno
          have hlt : (l.drop (clLen l + 1)).length < f := by rw [List.length_drop]; omega
          rcases clauses_apply f (a + clLen l + 1) (l.drop (clLen l + 1)) (stepN l m) (acc ++ [clOf l]) (stepN_lt l m hm) hlt with ⟨cs, h1, h2, h3⟩ | ⟨n, h1, h2⟩
          · refine .inl ⟨clOf l :: cs, by rw [h1, List.append_assoc]; rfl, by rw [h2, hst]; rfl, fun c hc => ?_⟩
            rcases List.mem_cons.1 hc with h | h
            · rw [h]; exact clOf_t_len l
            · have := h3 c h
              rw [List.length_drop] at this
              omega
          · exact .inr ⟨n, h1, h2⟩
        · rw [if_neg h44, if_neg h44]
          exact .inr ⟨a + clLen l, rfl, rfl⟩

theorem clauses_apply_all (l : List UInt8) (m : Nat) (hm : m < 2048) :
    (∃ cs : List Cl, clausesV l = (cs, -1) ∧ applyGo (l.length + 1) 0 l m = (cs.foldl (fun m c => oneV c m) m, 0, 0) ∧ ∀ c ∈ cs, c.t.length ≤ l.length) ∨ (∃ n : Nat, clausesV l = ([], (n : Int)) ∧ applyGo (l.length + 1) 0 l m = (0, n, 30)) := by
  rcases clauses_apply (l.length + 1) 0 l m [] hm (by omega) with ⟨cs, h1, h2, h3⟩ | ⟨n, h1, h2⟩
  · exact .inl ⟨cs, h1, h2, h3⟩
  · exact .inr ⟨n, h1, h2⟩
end Go.Proofs.YtemcabepbncicaaDoor
