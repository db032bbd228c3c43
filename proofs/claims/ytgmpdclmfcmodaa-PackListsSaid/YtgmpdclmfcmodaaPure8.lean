/-
  The plain law: bytes of a short period are packed as a run and matches of the greatest length.
-/
import Derived.Test.YtgmpdclmfcmodaaPure6
namespace Go.Proofs.Ytgmpdclmfcmodaa.Pk

/-- How many bytes the literals that wait will take. -/
def waits (q : List UInt8) : Nat := if q.length = 0 then 0 else q.length + 1

theorem long_none (l : List UInt8) (i : Nat) (h : l.length < i + 4) : (long l i).1 < 4 := by
  rw [long_small l i (by unfold most; omega)]
  decide

/-- A place behind the first period: the match is as long as it may be. -/
theorem long_period (l : List UInt8) (k i : Nat) (h0 : 0 < k) (hk : k ≤ 4096) (hper : ∀ j, j + k < l.length → l[j + k]? = l[j]?) (hi : k ≤ i) (h4 : i + 4 ≤ l.length) : (long l i).1 = most l i := by
  have hm : 4 ≤ most l i := by unfold most; omega
  have hml : most l i ≤ l.length - i := by unfold most; omega
  have h1 : most l i ≤ comm l (i - k) i (most l i) := by
    refine comm_ge l _ _ _ _ (Nat.le_refl _) fun j hj => ?_
    have := hper (i - k + j) (by omega)
    rw [← this]
    congr 1
    omega
  have h2 := bestTo_ge l i (min 4096 i) k h0 (by omega)
  have h3 := (bestTo_le l i (min 4096 i)).1
  have h5 : (best l i).1 = most l i := by unfold best; omega
  unfold long
  rw [if_pos (by omega)]
  exact h5

/-- The end: fewer than four bytes. -/
theorem packGo_tail (l : List UInt8) : ∀ f i p q, l.length < i + 4 → i ≤ l.length → q.length + (l.length - i) < 128 → l.length ≤ i + f →
    (packGo l f i p q).length = p.length + (if q.length + (l.length - i) = 0 then 0 else q.length + (l.length - i) + 1)
  | 0, i, p, q, h, hi, hq, hf => by
    unfold packGo
    rw [flush_exact, show l.length - i = 0 by omega]
    rfl
  | f + 1, i, p, q, h, hi, hq, hf => by
    unfold packGo
    by_cases hlt : i < l.length
    · rw [if_pos hlt, if_pos (long_none l i h), if_neg (by omega), packGo_tail l f (i + 1) p _ (by omega) hlt (by rw [List.length_append, List.length_singleton]; omega) (by omega)]
      rw [List.length_append, List.length_singleton, show q.length + 1 + (l.length - (i + 1)) = q.length + (l.length - i) by omega]
    · rw [if_neg hlt, flush_exact, show l.length - i = 0 by omega]
      rfl

/-- Behind the first period. -/
theorem packGo_rest (l : List UInt8) (k : Nat) (h0 : 0 < k) (hk : k ≤ 4096) (hper : ∀ j, j + k < l.length → l[j + k]? = l[j]?) : ∀ f i p q, k ≤ i → i ≤ l.length → q.length < 100 → l.length ≤ i + f →
    (packGo l f i p q).length ≤ p.length + waits q + 3 * ((l.length - i + 130) / 131) + 1
  | 0, i, p, q, hi, hl, hq, hf => by
    unfold packGo
    rw [flush_exact]
    unfold waits
    omega
  | f + 1, i, p, q, hi, hl, hq, hf => by
    by_cases h4 : i + 4 ≤ l.length
    · have hlong := long_period l k i h0 hk hper hi h4
      have hm : 4 ≤ most l i := by unfold most; omega
      unfold packGo
      rw [if_pos (by omega), if_neg (by omega), hlong]
      have hml : most l i ≤ l.length - i := by unfold most; omega
      have ih := packGo_rest l k h0 hk hper f (i + most l i) (flush p q ++ matchBytes (most l i) (long l i).2) [] (by omega) (by omega) (by simp) (by omega)
      rw [List.length_append, flush_exact, show (matchBytes (most l i) (long l i).2).length = 3 from rfl] at ih
      have e : (l.length - (i + most l i) + 130) / 131 + 1 ≤ (l.length - i + 130) / 131 := by
        unfold most
        unfold most at hm
        omega
      unfold waits at ih ⊢
      simp only [List.length_nil, if_true] at ih
      omega
    · have := packGo_tail l (f + 1) i p q (by omega) hl (by omega) hf
      rw [this]
      unfold waits
      split <;> split <;> omega

/-- Within the first period. -/
theorem packGo_first (l : List UInt8) (k : Nat) (h0 : 0 < k) (hk : k ≤ 20) (hper : ∀ j, j + k < l.length → l[j + k]? = l[j]?) : ∀ f i p q, i ≤ k → i ≤ l.length → q.length ≤ i → l.length ≤ i + f →
    (packGo l f i p q).length ≤ p.length + waits q + (if q.length = 0 then 1 else 0) + (k - i) + 3 * ((l.length + 130) / 131) + 4
  | 0, i, p, q, hi, hl, hq, hf => by
    unfold packGo
    rw [flush_exact]
    unfold waits
    omega
  | f + 1, i, p, q, hi, hl, hq, hf => by
    by_cases hik : i = k
    · have := packGo_rest l k h0 (by omega) hper (f + 1) i p q (by omega) hl (by omega) hf
      have e : (l.length - i + 130) / 131 ≤ (l.length + 130) / 131 := Nat.div_le_div_right (by omega)
      omega
    · unfold packGo
      by_cases hlt : i < l.length
      · rw [if_pos hlt]
        by_cases h4 : (long l i).1 < 4
        · rw [if_pos h4, if_neg (by omega)]
          have ih := packGo_first l k h0 hk hper f (i + 1) p (q ++ [l.getD i 0]) (by omega) (by omega) (by rw [List.length_append, List.length_singleton]; omega) (by omega)
          unfold waits at ih ⊢
          rw [List.length_append, List.length_singleton, if_neg (by omega), if_neg (by omega)] at ih
          split <;> omega
        · rw [if_neg h4]
          have hb := long_bounds l i (by omega)
          by_cases hik2 : i + (long l i).1 ≤ k
          · have ih := packGo_first l k h0 hk hper f (i + (long l i).1) (flush p q ++ matchBytes (long l i).1 (long l i).2) [] hik2 (by omega) (by simp) (by omega)
            rw [List.length_append, flush_exact, show (matchBytes (long l i).1 (long l i).2).length = 3 from rfl] at ih
            unfold waits at ih ⊢
            simp only [List.length_nil, if_true] at ih
            split <;> simp_all <;> omega
          · have ih := packGo_rest l k h0 (by omega) hper f (i + (long l i).1) (flush p q ++ matchBytes (long l i).1 (long l i).2) [] (by omega) (by omega) (by simp) (by omega)
            rw [List.length_append, flush_exact, show (matchBytes (long l i).1 (long l i).2).length = 3 from rfl] at ih
            have e : (l.length - (i + (long l i).1) + 130) / 131 ≤ (l.length + 130) / 131 := Nat.div_le_div_right (by omega)
            unfold waits at ih ⊢
            simp only [List.length_nil, if_true] at ih
            split <;> simp_all <;> omega
      · rw [if_neg hlt, flush_exact]
        unfold waits
        omega

theorem pack_period (l : List UInt8) (k : Nat) (hk : k ≤ 20) (hk0 : k = 0 → l = []) (hper : ∀ j, j + k < l.length → l[j + k]? = l[j]?) : (pack [] l).length ≤ k + 1 + 3 * ((l.length + 130) / 131) + 4 := by
  rcases Nat.eq_zero_or_pos k with h0 | h0
  · rw [hk0 h0]
    exact Nat.zero_le _
  · have := packGo_first l k h0 hk hper l.length 0 [] [] (by omega) (by omega) (by simp) (by omega)
    unfold waits at this
    simp only [List.length_nil, if_true] at this
    unfold pack
    rw [List.nil_append]
    exact Nat.le_trans this (by omega)

/-- Bytes that are written again and again. -/
def rep (b : List UInt8) : Nat → List UInt8
  | 0 => []
  | n + 1 => rep b n ++ b

theorem rep_length (b : List UInt8) : ∀ n, (rep b n).length = n * b.length
  | 0 => by simp [rep]
  | n + 1 => by rw [rep, List.length_append, rep_length b n, Nat.succ_mul]

theorem rep_front (b : List UInt8) : ∀ n, b ++ rep b n = rep b n ++ b
  | 0 => by simp [rep]
  | n + 1 => by rw [rep, ← List.append_assoc, rep_front b n]

theorem rep_period (b : List UInt8) (n j : Nat) (hj : j + b.length < (rep b n).length) : (rep b n)[j + b.length]? = (rep b n)[j]? := by
  cases n with
  | zero => simp [rep] at hj
  | succ n =>
    have e : rep b (n + 1) = b ++ rep b n := by rw [rep_front, rep]
    have hl : j < (rep b n).length := by rw [rep_length] at hj ⊢; rw [Nat.succ_mul] at hj; omega
    rw [e, List.getElem?_append_right (by omega), show j + b.length - b.length = j by omega, ← e, rep, List.getElem?_append_left hl]

theorem pack_rep (b : List UInt8) (n : Nat) (hb : b.length ≤ 20) : (pack [] (rep b n)).length ≤ b.length + 1 + 3 * (((rep b n).length + 130) / 131) + 4 :=
  pack_period _ _ hb (fun h => List.eq_nil_of_length_eq_zero (by rw [rep_length, h, Nat.mul_zero])) (rep_period b n)
end Go.Proofs.Ytgmpdclmfcmodaa.Pk
