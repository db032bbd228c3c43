/-
  Walks: views.
-/
import Derived.Test.YtbppafbdmdbdiaaSmA
import Derived.Laws.StructEq
namespace Go.Proofs.Ytbppafbdmdbdiaa
open Go.RowKit
set_option linter.unusedVariables false

theorem z58 (w : World) : (zeroValue 58).run Try.prog w = .ok (.agg #[.bool false, .bool false, .bool false, .bool false, .string ⟨#[]⟩]) w := by kernel_rfl
theorem flds96 : ∃ a b c : Field, Try.prog.fieldsOf 96 = #[a, b, c] ∧ (a.name, a.type, a.offset) = ("Page", 3, 0) ∧ (b.name, b.type, b.offset) = ("Bytes", 9, 1) ∧ (c.name, c.type, c.offset) = ("Absent", 4, 2) := by
  refine ⟨(Try.prog.fieldsOf 96)[0]!, (Try.prog.fieldsOf 96)[1]!, (Try.prog.fieldsOf 96)[2]!, ?_, ?_, ?_, ?_⟩ <;> kernel_rfl
theorem ch_neq (W : World) (p : Int) (s : ByteArray) (b : Bool) : (binOp .neq 96 (.agg #[.int .i64 p, .string s, .bool b]) (.agg #[.int .i64 p, .string s, .bool b])).run Try.prog W = .ok (.bool false) W := by
  rw [run_neq_struct, run_equalIn_agg _ _ _ _ _ (by kernel_rfl) (by kernel_rfl)]
  have h0 : (part 3 #[.int .i64 p, .string s, .bool b] 0).run Try.prog W = .ok (.int .i64 p) W := by kernel_rfl
  have h1 : (part 9 #[.int .i64 p, .string s, .bool b] 1).run Try.prog W = .ok (.string s) W := by kernel_rfl
  have h2 : (part 4 #[.int .i64 p, .string s, .bool b] 2).run Try.prog W = .ok (.bool b) W := by kernel_rfl
  obtain ⟨fa, fb, fc, hf, ha, hb, hc⟩ := flds96
  simp only [Prod.mk.injEq] at ha hb hc
  rw [hf]
  simp only [Op.eqFields, ha, hb, hc, Sem.run_bind, Sem.run_ite, h0, h1, h2, Result.andThen_ok, run_equalIn_int _ _ _ _ _ _ _ Try.underlying3, run_equalIn_bool' _ _ _ _ _ Try.underlying4, run_equalIn_string _ _ _ _ _ Try.underlying9]
  simp
theorem askL_app (x : AS) (k : Nat) : ∀ n, k ≤ n → ∃ t, askL x n = askL x k ++ t
  | 0, h => ⟨[], by rw [show k = 0 by omega]; simp⟩
  | n + 1, h => by
    by_cases e : k = n + 1
    · exact ⟨[], by rw [e]; simp⟩
    · obtain ⟨t, ht⟩ := askL_app x k n (by omega)
      exact ⟨t ++ (if x.asked n = true then [n] else []), by rw [← List.append_assoc, ← ht, askL_succ]⟩
theorem askL_at (x : AS) (p n : Nat) (hp : p < n) (h : x.asked p = true) : (askL x n)[(askL x p).length]? = some p ∧ (askL x p).length < (askL x n).length ∧ (askL x (p + 1)).length = (askL x p).length + 1 := by
  obtain ⟨t, ht⟩ := askL_app x (p + 1) n hp
  rw [ht, askL_succ, if_pos h]
  exact ⟨by simp, by simp, by simp⟩
theorem askL_no (x : AS) (p : Nat) (h : x.asked p = false) : askL x (p + 1) = askL x p := by
  rw [askL_succ, h]
  simp
theorem chL_app (x : AS) (k : Nat) : ∀ n, k ≤ n → ∃ t, chL x n = chL x k ++ t
  | 0, h => ⟨[], by rw [show k = 0 by omega]; simp⟩
  | n + 1, h => by
    by_cases e : k = n + 1
    · exact ⟨[], by rw [e]; simp⟩
    · obtain ⟨t, ht⟩ := chL_app x k n (by omega)
      exact ⟨t ++ (if x.changed n = true then [(n, x.page n)] else []), by rw [← List.append_assoc, ← ht, chL_succ]⟩
theorem chCells_at0 (p : Nat) (o : Option (List UInt8)) : (chCells (p, o))[0]? = some (.int .i64 (p : Nat)) := by cases o <;> rfl
theorem chCells_at1 (p : Nat) (o : Option (List UInt8)) : (chCells (p, o))[1]? = some (.string ⟨(o.getD []).toArray⟩) := by cases o <;> rfl
theorem chCells_at2 (p : Nat) (o : Option (List UInt8)) : (chCells (p, o))[2]? = some (.bool (!o.isSome)) := by cases o <;> rfl
theorem chVals_at (l : List Ch) (i : Nat) (c : Ch) (h : l[i]? = some c) (j : Nat) (v : Value) (hv : (chCells c)[j]? = some v) : (chVals l)[i * 3 + j]? = some v := by
  induction l generalizing i with
  | nil => simp at h
  | cons a l ih =>
    have hj : j < 3 := by
      have := (List.getElem?_eq_some_iff.1 hv).1
      rw [chCells_length] at this
      exact this
    show (chCells a ++ chVals l)[i * 3 + j]? = some v
    cases i with
    | zero =>
      simp at h
      subst h
      rw [List.getElem?_append_left (by rw [chCells_length]; omega), Nat.zero_mul, Nat.zero_add]
      exact hv
    | succ i =>
      rw [List.getElem?_append_right (by rw [chCells_length]; omega), chCells_length, show (i + 1) * 3 + j - 3 = i * 3 + j by omega]
      exact ih i (by simpa using h)
theorem chL_at (x : AS) (p n : Nat) (hp : p < n) (h : x.changed p = true) : (chL x n)[(chL x p).length]? = some (p, x.page p) ∧ (chL x p).length < (chL x n).length ∧ (chL x (p + 1)).length = (chL x p).length + 1 := by
  obtain ⟨t, ht⟩ := chL_app x (p + 1) n hp
  rw [ht, chL_succ, if_pos h]
  exact ⟨by simp, by simp, by simp⟩
theorem chL_no (x : AS) (p : Nat) (h : x.changed p = false) : chL x (p + 1) = chL x p := by
  rw [chL_succ, h]
  simp
end Go.Proofs.Ytbppafbdmdbdiaa
