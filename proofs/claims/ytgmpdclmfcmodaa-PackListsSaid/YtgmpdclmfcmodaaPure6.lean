/-
  The plain law: the greatest length of a packed form.
-/
import Derived.Test.YtgmpdclmfcmodaaPure5
namespace Go.Proofs.Ytgmpdclmfcmodaa.Pk

theorem flush_exact (p q : List UInt8) : (flush p q).length = p.length + (if q.length = 0 then 0 else q.length + 1) := by
  unfold flush
  by_cases h : q = []
  · rw [if_pos h, h]; rfl
  · rw [if_neg h, if_neg (by intro h0; exact h (List.eq_nil_of_length_eq_zero h0)), List.length_append, List.length_cons]

theorem packGo_bound (l : List UInt8) : ∀ f i p q c, 128 * p.length + 129 * q.length ≤ 129 * c → q.length < 128 → i ≤ l.length →
    (packGo l f i p q).length ≤ (c + (l.length - i)) + (c + (l.length - i) + 127) / 128
  | 0, i, p, q, c, h, hq, hi => by
    unfold packGo
    rw [flush_exact]
    split <;> omega
  | f + 1, i, p, q, c, h, hq, hi => by
    unfold packGo
    by_cases hlt : i < l.length
    · rw [if_pos hlt]
      by_cases h4 : (long l i).1 < 4
      · rw [if_pos h4]
        have e : c + (l.length - i) = (c + 1) + (l.length - (i + 1)) := by omega
        rw [e]
        by_cases h8 : q.length + 1 = 128
        · rw [if_pos h8]
          refine packGo_bound l f (i + 1) _ _ (c + 1) ?_ (by simp) hlt
          rw [flush_exact, List.length_append, List.length_singleton, List.length_nil, if_neg (by omega)]
          omega
        · rw [if_neg h8]
          refine packGo_bound l f (i + 1) _ _ (c + 1) ?_ (by rw [List.length_append, List.length_singleton]; omega) hlt
          rw [List.length_append, List.length_singleton]
          omega
      · rw [if_neg h4]
        have hb := long_bounds l i (by omega)
        have e : c + (l.length - i) = (c + (long l i).1) + (l.length - (i + (long l i).1)) := by omega
        rw [e]
        refine packGo_bound l f _ _ _ (c + (long l i).1) ?_ (by simp) (by omega)
        rw [List.length_append, flush_exact, show (matchBytes (long l i).1 (long l i).2).length = 3 from rfl, List.length_nil]
        split <;> omega
    · rw [if_neg hlt, flush_exact]
      split <;> omega

theorem pack_bound (dict b : List UInt8) : (pack dict b).length ≤ b.length + (b.length + 127) / 128 := by
  have h := packGo_bound (dict ++ b) b.length dict.length [] [] 0 (by simp) (by simp) (by simp)
  rw [List.length_append] at h
  rw [show 0 + (dict.length + b.length - dict.length) = b.length by omega] at h
  exact h
end Go.Proofs.Ytgmpdclmfcmodaa.Pk
