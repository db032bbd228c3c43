/-
  The plain laws of lengths.
-/
import Derived.Test.YtgmpdclmfcmodaaPure3
namespace Go.Proofs.Ytgmpdclmfcmodaa.Pk

theorem flush_len (p q : List UInt8) : (flush p q).length ≤ p.length + q.length + 1 := by
  unfold flush; split
  · omega
  · rw [List.length_append, List.length_cons]; omega
theorem runTok_len (q : List UInt8) : (runTok q).length ≤ 1 := by
  unfold runTok; split <;> simp

theorem canGo_len (l : List UInt8) : ∀ f i out q, (canGo l f i out q).length ≤ out.length + 2 * f + 1
  | 0, i, out, q => by
    unfold canGo
    have := runTok_len q
    rw [List.length_append]; omega
  | f + 1, i, out, q => by
    have hq := runTok_len q
    unfold canGo
    by_cases hi : i < l.length
    · rw [if_pos hi]
      by_cases h4 : 4 ≤ (best l i).1
      · rw [if_pos h4]
        have := canGo_len l f (i + (best l i).1) (out ++ runTok q ++ [⟨[], (best l i).2, (best l i).1⟩]) []
        simp only [List.length_append, List.length_singleton] at this
        omega
      · rw [if_neg h4]
        by_cases h8 : q.length + 1 = 128
        · rw [if_pos h8]
          have := canGo_len l f (i + 1) (out ++ [⟨q ++ [l.getD i 0], 0, 0⟩]) []
          simp only [List.length_append, List.length_singleton] at this
          omega
        · rw [if_neg h8]
          have := canGo_len l f (i + 1) out (q ++ [l.getD i 0])
          omega
    · rw [if_neg hi, List.length_append]; omega
theorem can_len (d b : List UInt8) : (can d b).length ≤ 2 * b.length + 1 := by
  have := canGo_len (d ++ b) b.length d.length [] []
  simpa [can] using this

theorem packGo_len (l : List UInt8) : ∀ f i p q, (packGo l f i p q).length ≤ p.length + q.length + 4 * f + 1
  | 0, i, p, q => by
    unfold packGo
    have := flush_len p q
    omega
  | f + 1, i, p, q => by
    unfold packGo
    by_cases hi : i < l.length
    · rw [if_pos hi]
      by_cases h4 : (long l i).1 < 4
      · rw [if_pos h4]
        by_cases h8 : q.length + 1 = 128
        · rw [if_pos h8]
          have := packGo_len l f (i + 1) (flush p (q ++ [l.getD i 0])) []
          have h := flush_len p (q ++ [l.getD i 0])
          simp only [List.length_append, List.length_singleton, List.length_nil] at this h
          omega
        · rw [if_neg h8]
          have := packGo_len l f (i + 1) p (q ++ [l.getD i 0])
          simp only [List.length_append, List.length_singleton] at this
          omega
      · rw [if_neg h4]
        have := packGo_len l f (i + (long l i).1) (flush p q ++ matchBytes (long l i).1 (long l i).2) []
        have h := flush_len p q
        rw [List.length_append, show (matchBytes (long l i).1 (long l i).2).length = 3 from rfl, List.length_nil] at this
        omega
    · rw [if_neg hi]
      have := flush_len p q
      omega
theorem pack_len (d b : List UInt8) : (pack d b).length ≤ 4 * b.length + 1 := by
  have := packGo_len (d ++ b) b.length d.length [] []
  simpa [pack] using this
end Go.Proofs.Ytgmpdclmfcmodaa.Pk
