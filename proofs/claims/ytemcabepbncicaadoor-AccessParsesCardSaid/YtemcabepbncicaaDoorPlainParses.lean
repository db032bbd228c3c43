/-
  Plain: what Parse accepts is the text of the mode.
-/
import Derived.Test.YtemcabepbncicaaDoorAccQ
namespace Go.Proofs.YtemcabepbncicaaDoor
open Go.RowKit

theorem step_on : ∀ k < 9, ∀ m < 512, m * 2 ^ (9 - k) ||| 2 ^ (8 - k) = (2 * m + 1) * 2 ^ (9 - (k + 1)) := by decide +kernel
theorem step_off : ∀ k < 9, ∀ m < 512, m * 2 ^ (9 - k) = (2 * m) * 2 ^ (9 - (k + 1)) := by decide +kernel
theorem tails : ∀ m < 512, (m ||| 512) = m + 512 ∧ (m ||| 1024) = m + 1024 ∧ (m ||| 1536) = m + 1536 := by decide +kernel
theorem text_on : ∀ k < 9, ∀ m < 2 ^ k, textGo ((2 * m + 1) * 2 ^ (9 - (k + 1))) (k + 1) = textGo (m * 2 ^ (9 - k)) k ++ [letterN k] := by decide +kernel
theorem text_off : ∀ k < 9, ∀ m < 2 ^ k, textGo ((2 * m) * 2 ^ (9 - (k + 1))) (k + 1) = textGo (m * 2 ^ (9 - k)) k ++ [45] := by decide +kernel
theorem text_tails : ∀ m < 512, textN m = textGo m 9 ++ [] ∧ textN (m ||| 512) = textGo m 9 ++ [43, 115] ∧ textN (m ||| 1024) = textGo m 9 ++ [43, 116] ∧ textN (m ||| 1536) = textGo m 9 ++ [43, 115, 116] := by decide +kernel

theorem take_next (l : List UInt8) (k : Nat) (h : k < l.length) : l.take (k + 1) = l.take k ++ [l.getD k 0] := by
  rw [List.take_succ_eq_append_getElem h, List.getD_eq_getElem?_getD, List.getElem?_eq_getElem h]
  rfl

theorem parse_back (l : List UInt8) : ∀ (f k m : Nat), f + k = 9 → k ≤ l.length → m < 2 ^ k → l.take k = textGo (m * 2 ^ (9 - k)) k → (parseGo l f k (m * 2 ^ (9 - k))).2.2 = 0 → (parseGo l f k (m * 2 ^ (9 - k))).1 < 2048 ∧ textN (parseGo l f k (m * 2 ^ (9 - k))).1 = l
  | 0, k, m, hk, hl, hm, ht, h => by
    obtain rfl : k = 9 := by omega
    rw [show m * 2 ^ (9 - 9) = m by omega] at *
    have hm2 : m < 512 := hm
    have hx := List.take_append_drop 9 l
    rw [ht] at hx
    obtain ⟨t0, t1, t2, t3⟩ := text_tails m hm2
    obtain ⟨u1, u2, u3⟩ := tails m hm2
    unfold parseGo parseEnd parseTail at *
    rw [if_neg (by omega)] at *
    by_cases h0 : l.drop 9 = []
    · rw [if_pos h0, t0, ← h0]; exact ⟨by show m < _; omega, hx⟩
    rw [if_neg h0] at *
    by_cases h1 : l.drop 9 = [43, 115]
    · rw [if_pos h1]; exact ⟨by show (m ||| 512) < _; omega, by show textN (m ||| 512) = l; rw [t1, ← h1]; exact hx⟩
    rw [if_neg h1] at *
    by_cases h2 : l.drop 9 = [43, 116]
    · rw [if_pos h2]; exact ⟨by show (m ||| 1024) < _; omega, by show textN (m ||| 1024) = l; rw [t2, ← h2]; exact hx⟩
    rw [if_neg h2] at *
    by_cases h3 : l.drop 9 = [43, 115, 116]
    · rw [if_pos h3]; exact ⟨by show (m ||| 1536) < _; omega, by show textN (m ||| 1536) = l; rw [t3, ← h3]; exact hx⟩
    rw [if_neg h3] at h
    simp at h
  | f + 1, k, m, hk, hl, hm, ht, h => by
    have hk9 : k < 9 := by omega
    have hm512 : m < 512 := Nat.lt_of_lt_of_le hm (Nat.pow_le_pow_right (show 0 < 2 by omega) (show k ≤ 9 by omega))
    have hp : 2 ^ (k + 1) = 2 * 2 ^ k := by rw [Nat.pow_succ]; omega
    unfold parseGo at *
    by_cases hlt : k < l.length
    · have htk := take_next l k hlt
      rw [if_pos hlt] at *
      by_cases h1 : l.getD k 0 = letterN k
      · rw [if_pos h1, step_on k hk9 m hm512] at *
        exact parse_back l f (k + 1) (2 * m + 1) (by omega) hlt (by omega) (by rw [htk, ht, text_on k hk9 m hm, h1]) h
      rw [if_neg h1] at *
      by_cases h2 : l.getD k 0 = 45
      · rw [if_pos h2, step_off k hk9 m hm512] at *
        exact parse_back l f (k + 1) (2 * m) (by omega) hlt (by omega) (by rw [htk, text_off k hk9 m hm, h2, ht, step_off k hk9 m hm512]) h
      rw [if_neg h2] at h
      simp at h
    · rw [if_neg hlt] at h
      unfold parseEnd at h
      rw [if_pos (by omega)] at h
      simp at h

/-- The law's last part, without the program. -/
theorem parses_plain (l : List UInt8) (h : (parseV l).2.2 = 0) : (parseV l).1 < 2048 ∧ textN (parseV l).1 = l :=
  parse_back l 9 0 0 rfl (Nat.zero_le _) (by decide) rfl h
end Go.Proofs.YtemcabepbncicaaDoor
