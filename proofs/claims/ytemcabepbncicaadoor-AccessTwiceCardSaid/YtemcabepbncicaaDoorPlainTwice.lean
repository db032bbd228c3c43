/-
  Plain: a clause twice is a clause once; other classes keep their bits.
-/
import Derived.Test.YtemcabepbncicaaDoorPlainApplies
namespace Go.Proofs.YtemcabepbncicaaDoor
open Go.RowKit

theorem clauses_sign : ∀ (f a : Nat) (l : List UInt8) (acc : List Cl) (c : Cl), c ∈ (clausesGo f a l acc).1 → c ∈ acc ∨ signB c.x = true
  | 0, _, _, _, _, h => by simp [clausesGo] at h
  | f + 1, a, l, acc, c, h => by
    unfold clausesGo at h
    by_cases hno : noClause l = true
    · rw [if_pos hno] at h; simp at h
    · rw [if_neg hno] at h
      have hs : signB (clOf l).x = true := by
        have hno0 : noClause l = false := by simpa using hno
        unfold noClause at hno0
        simp only [Bool.or_eq_false_iff] at hno0
        show signB (l.getD (lead isCls l) 0) = true
        simpa using hno0.2
      have hin : c ∈ acc ++ [clOf l] → c ∈ acc ∨ signB c.x = true := fun hc => by
        rcases List.mem_append.1 hc with h1 | h1
        · exact .inl h1
        · rw [List.mem_singleton.1 h1]; exact .inr hs
      by_cases hl : clLen l = l.length
      · rw [if_pos hl] at h
        exact hin h
      · rw [if_neg hl] at h
        by_cases h44 : l.getD (clLen l) 0 = 44
        · rw [if_pos h44] at h
          rcases clauses_sign f _ _ _ c h with h1 | h1
          · exact hin h1
          · exact .inr h1
        · rw [if_neg h44] at h; simp at h

theorem twice_fin43 : ∀ q0 q1 q2 r w x p t b : Bool, ∀ i < 11, oneBit q0 q1 q2 r w x p t 43 i (oneBit q0 q1 q2 r w x p t 43 i b) = oneBit q0 q1 q2 r w x p t 43 i b := by decide +kernel
theorem twice_fin45 : ∀ q0 q1 q2 r w x p t b : Bool, ∀ i < 11, oneBit q0 q1 q2 r w x p t 45 i (oneBit q0 q1 q2 r w x p t 45 i b) = oneBit q0 q1 q2 r w x p t 45 i b := by decide +kernel
theorem twice_fin61 : ∀ q0 q1 q2 r w x p t b : Bool, ∀ i < 11, oneBit q0 q1 q2 r w x p t 61 i (oneBit q0 q1 q2 r w x p t 61 i b) = oneBit q0 q1 q2 r w x p t 61 i b := by decide +kernel
theorem keep_fin43 : ∀ q0 q1 q2 r w x p t b : Bool, ∀ k < 3, ∀ i < 3, q3 q0 q1 q2 k = false → oneBit q0 q1 q2 r w x p t 43 (3 * (2 - k) + i) b = b := by decide +kernel
theorem keep_fin45 : ∀ q0 q1 q2 r w x p t b : Bool, ∀ k < 3, ∀ i < 3, q3 q0 q1 q2 k = false → oneBit q0 q1 q2 r w x p t 45 (3 * (2 - k) + i) b = b := by decide +kernel
theorem keep_fin61 : ∀ q0 q1 q2 r w x p t b : Bool, ∀ k < 3, ∀ i < 3, q3 q0 q1 q2 k = false → oneBit q0 q1 q2 r w x p t 61 (3 * (2 - k) + i) b = b := by decide +kernel

theorem one_twice (c : Cl) (m : Nat) (hm : m < 2048) (hx : signB c.x = true) : oneV c (oneV c m) = oneV c m := by
  refine Nat.eq_of_testBit_eq fun i => ?_
  have h1 := oneV_lt c m hm
  have h2 := oneV_lt c _ h1
  by_cases hi : i < 11
  · rw [oneV_bit c _ i h1, oneV_bit c m i hm]
    unfold signB at hx
    simp only [Bool.or_eq_true, beq_iff_eq] at hx
    rcases hx with (hx | hx) | hx
    · rw [hx]; exact twice_fin43 _ _ _ _ _ _ _ _ _ i hi
    · rw [hx]; exact twice_fin45 _ _ _ _ _ _ _ _ _ i hi
    · rw [hx]; exact twice_fin61 _ _ _ _ _ _ _ _ _ i hi
  · have h3 : (2048 : Nat) ≤ 2 ^ i := Nat.pow_le_pow_right (show 0 < 2 by omega) (show 11 ≤ i by omega)
    rw [Nat.testBit_lt_two_pow (Nat.lt_of_lt_of_le h1 h3), Nat.testBit_lt_two_pow (Nat.lt_of_lt_of_le h2 h3)]

theorem clsAt_q3 (p : List UInt8) (k : Nat) (hk : k < 3) : q3 (clsAt p 0) (clsAt p 1) (clsAt p 2) k = clsAt p k := by
  match k, hk with
  | 0, _ => rfl
  | 1, _ => rfl
  | 2, _ => rfl

theorem bitsN_bit (n k i : Nat) : (bitsN n k).testBit i = (decide (i < 3) && n.testBit (3 * (2 - k) + i)) := by
  have e : bitsN n k = n / 2 ^ (3 * (2 - k)) % 2 ^ 3 := by
    unfold bitsN
    rw [show (8 : Nat) = 2 ^ 3 from rfl, ← Nat.pow_mul]
  rw [e, Nat.testBit_mod_two_pow, Nat.testBit_div_two_pow]
  rw [Nat.add_comm i]

theorem one_keep (c : Cl) (m : Nat) (hm : m < 2048) (hx : signB c.x = true) (k : Nat) (hk : k < 3) (hq : clsAt c.p k = false) : bitsV (oneV c m : Nat) k = bitsV m k := by
  have h1 := oneV_lt c m hm
  unfold bitsV
  rw [if_pos (by omega), if_pos (by omega), Int.toNat_natCast, Int.toNat_natCast, Int.toNat_natCast]
  refine Nat.eq_of_testBit_eq fun i => ?_
  rw [bitsN_bit _ k i, bitsN_bit _ k i]
  by_cases hi : i < 3
  · rw [decide_eq_true hi, Bool.true_and, Bool.true_and, oneV_bit c m _ hm]
    rw [← clsAt_q3 c.p k hk] at hq
    unfold signB at hx
    simp only [Bool.or_eq_true, beq_iff_eq] at hx
    rcases hx with (hx | hx) | hx
    · rw [hx]; exact keep_fin43 _ _ _ _ _ _ _ _ _ k hk i hi hq
    · rw [hx]; exact keep_fin45 _ _ _ _ _ _ _ _ _ k hk i hi hq
    · rw [hx]; exact keep_fin61 _ _ _ _ _ _ _ _ _ k hk i hi hq
  · rw [decide_eq_false hi, Bool.false_and, Bool.false_and]

/-- The law in plain words. -/
theorem twice_plain (l : List UInt8) (m : Nat) (hm : m < 2048) (hl : l.length ≤ 100) (c : Cl) (h : clausesV l = ([c], -1)) :
    applyV m l = (oneV c m, 0, 0) ∧ applyV (oneV c m : Nat) l = (oneV c m, 0, 0) ∧ ∀ k < 3, clsAt c.p k = false → bitsV (oneV c m : Nat) k = bitsV m k := by
  have hx : signB c.x = true := by
    have := clauses_sign (l.length + 1) 0 l [] c (by show c ∈ (clausesV l).1; rw [h]; simp)
    rcases this with h1 | h1
    · simp at h1
    · exact h1
  have h1 := oneV_lt c m hm
  have e : ∀ n : Nat, n < 2048 → applyV (n : Int) l = (oneV c n, 0, 0) := fun n hn => by
    unfold applyV
    rw [if_neg (by omega), if_neg (by omega), Int.toNat_natCast]
    rcases clauses_apply_all l n hn with ⟨cs, h2, h3, _⟩ | ⟨k, h2, _⟩
    · rw [h] at h2
      injection h2 with h2
      rw [h3, ← h2]
      rfl
    · rw [h] at h2
      injection h2 with h2
      cases h2
  exact ⟨e m hm, by rw [e _ h1, one_twice c m hm hx], fun k hk hq => one_keep c m hm hx k hk hq⟩
end Go.Proofs.YtemcabepbncicaaDoor
