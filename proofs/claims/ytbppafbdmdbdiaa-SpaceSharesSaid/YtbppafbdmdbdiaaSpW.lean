/-
  Walks: Equal.
-/
import Derived.Test.YtbppafbdmdbdiaaSpV
import Derived.ChangeKeysEq
namespace Go.Proofs.Ytbppafbdmdbdiaa
open Go.RowKit
set_option linter.unusedVariables false

theorem info5' : ∃ i, Try.prog.info? 5 = some i := by
  obtain ⟨i, hi, _⟩ := info_parts info5
  exact ⟨i, hi⟩
theorem cells5 : Try.prog.cellsOf 5 = 1 := by kernel_rfl
theorem plain5 : Try.prog.plainKey 5 = true := by kernel_rfl
theorem part5 (W : World) (b : List UInt8) (i : Nat) (hi : i < b.length) : (part 5 (bs b).toArray (i * 1)).run Try.prog W = .ok (.int .u8 (b.getD i 0).toNat) W := by
  refine run_part_plain W plain5 ?_
  rw [Nat.mul_one, List.getElem?_toArray, bs_get, List.getElem?_eq_getElem hi, List.getD_eq_getElem?_getD, List.getElem?_eq_getElem hi]
  rfl
theorem items89 (W : World) (d : Nat) (b c : List UInt8) (hb : b.length = 64) (hc : c.length = 64) : ∀ (is : List Nat), (∀ i ∈ is, i < 64) → (Op.eqItems (d + 1) 5 1 (bs b).toArray (bs c).toArray is).run Try.prog W = .ok (decide (∀ i ∈ is, b.getD i 0 = c.getD i 0)) W
  | [], _ => by simp [Op.eqItems]
  | i :: is, h => by
    have hi := h i List.mem_cons_self
    have ih := items89 W d b c hb hc is (fun j hj => h j (List.mem_cons_of_mem _ hj))
    have he : (Op.equalIn (d + 1) 5 (.int .u8 (b.getD i 0).toNat) (.int .u8 (c.getD i 0).toNat)).run Try.prog W = .ok (((b.getD i 0).toNat : Int) == ((c.getD i 0).toNat : Int)) W := by
      simp only [Op.equalIn, Sem.run_bind, run_underlying Try.underlying5, Result.andThen_ok]
      simp
    simp only [Op.eqItems, Sem.run_bind, part5 W b i (by omega), part5 W c i (by omega), he, Result.andThen_ok]
    by_cases e : b.getD i 0 = c.getD i 0
    · rw [e]
      simp only [beq_self_eq_true, Bool.not_true, Bool.false_eq_true, if_false, ih]
      refine congrArg (Result.ok · W) ?_
      exact decide_eq_decide.2 ⟨fun h j hj => (List.mem_cons.1 hj).elim (fun h2 => by rw [h2, e]) (fun h2 => h j h2), fun h j hj => h j (List.mem_cons_of_mem _ hj)⟩
    · have : (((b.getD i 0).toNat : Int) == ((c.getD i 0).toNat : Int)) = false := beq_eq_false_iff_ne.2 (fun h => e (UInt8.toNat_inj.1 (by omega)))
      rw [this]
      simp only [Bool.not_false, if_true, Sem.run_pure]
      refine congrArg (Result.ok · W) ?_
      exact (decide_eq_false (fun h => e (h i List.mem_cons_self))).symm
theorem eq_of_getD (b c : List UInt8) (hb : b.length = 64) (hc : c.length = 64) : (∀ i ∈ List.range 64, b.getD i 0 = c.getD i 0) ↔ b = c := by
  constructor
  · intro h
    refine List.ext_getElem (by omega) fun i h1 h2 => ?_
    have := h i (List.mem_range.2 (by omega))
    rw [List.getD_eq_getElem?_getD, List.getD_eq_getElem?_getD, List.getElem?_eq_getElem h1, List.getElem?_eq_getElem h2] at this
    exact this
  · rintro rfl i _; rfl
theorem neq89 (W : World) (b c : List UInt8) (hb : b.length = 64) (hc : c.length = 64) : (binOp .neq 89 (.agg (bs b).toArray) (.agg (bs c).toArray)).run Try.prog W = .ok (.bool (!decide (b = c))) W := by
  obtain ⟨i5, hi⟩ := info5'
  have h : ∀ d, (Op.equalIn (d + 2) 89 (.agg (bs b).toArray) (.agg (bs c).toArray)).run Try.prog W = .ok (decide (b = c)) W := fun d => by
    rw [run_equalIn_array W (d + 1) _ _ Try.underlying89 hi, cells5, items89 W d b c hb hc _ (fun i hi => List.mem_range.1 hi)]
    refine congrArg (Result.ok · W) ?_
    exact decide_eq_decide.2 (eq_of_getD b c hb hc)
  have h2 := h 9998
  simp only [Nat.reduceAdd] at h2
  rw [run_neq_struct, h2]
  rfl
theorem guard89 : Try.prog.eqGuardType Try.prog.depth 89 = false := by kernel_rfl
theorem info84 : (Try.prog.info? 84).map (·.size) = some 64 := by kernel_rfl

/-- Equal pages. -/
def eqUp (a b : AS) (k : Nat) : Bool := (List.range k).all fun p => decide (a.page p = b.page p)
def eqA (a b : AS) : Bool := eqUp a b 64
theorem eqUp_succ (a b : AS) (k : Nat) : eqUp a b (k + 1) = (eqUp a b k && decide (a.page k = b.page k)) := by
  unfold eqUp
  rw [List.range_succ, List.all_append]
  simp
theorem eqUp_false (a b : AS) (k n : Nat) (hk : k < n) (h : a.page k ≠ b.page k) : eqUp a b n = false := by
  unfold eqUp
  rw [List.all_eq_false]
  exact ⟨k, List.mem_range.2 hk, by simpa using h⟩
/-- The pages of a space as a row. -/
theorem row_range (W : World) (g : Nat) (s : Sp) (h : Blk W g 86 (spCells s)) : W.rangeAt g 193 (row ptrV s.pg) := fun j v hv => by
  have hj : j < 64 := by
    have := (List.getElem?_eq_some_iff.1 hv).1
    rw [row_length] at this
    exact this
  rw [h.cell, sp_pg s j hj, ← hv, row_get _ _ j hj]
end Go.Proofs.Ytbppafbdmdbdiaa
