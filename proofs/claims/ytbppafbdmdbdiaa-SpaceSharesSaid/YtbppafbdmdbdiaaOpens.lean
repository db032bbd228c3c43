/-
  From what a law is handed to words for memory: an operation.
-/
import Derived.Test.YtbppafbdmdbdiaaSpA
import Derived.Test.YtbppafbdmdbdiaaRow
import Derived.Lib.SmallJoins
import Derived.OpenShut
namespace Go.Proofs.Ytbppafbdmdbdiaa
open Go.ChangeShapes Go.WideShapes Go.ChangeAt Go.RowKit

section
variable {H : Type} {enc : TypeId × Value → H} {W : World} {b0 : Nat} {held : Bool} {v : Value} {d : DataW H} {p : List MemPlace}

theorem array5 {α : Type} {cs : Array α} (h : cs.size = 5) : ∃ c0 c1 c2 c3 c4, cs = #[c0, c1, c2, c3, c4] := by
  obtain ⟨l⟩ := cs
  match l, h with
  | [c0, c1, c2, c3, c4], _ => exact ⟨c0, c1, c2, c3, c4, rfl⟩

set_option maxRecDepth 100000 in
theorem open_op (hv : Value.okWide Try.prog W .any b0 45 v) (h : DataW.Trod enc Try.prog W 0 (fun _ => true) held 45 v d p) :
    ∃ k q x n t, v = .agg #[.int .u8 k, .int .u8 q, .int .i64 x, .int .i64 n, .string t] ∧ (Lit.int .u8 k).wf = true ∧ (Lit.int .u8 q).wf = true ∧ (Lit.int .i64 x).wf = true ∧ (Lit.int .i64 n).wf = true ∧ t.size ≤ maxLen := by
  have c45 : Try.prog.cellsOf 45 = 5 := by kernel_rfl
  have c5 : Try.prog.cellsOf 5 = 1 := by kernel_rfl
  have c3 : Try.prog.cellsOf 3 = 1 := by kernel_rfl
  have c9 : Try.prog.cellsOf 9 = 1 := by kernel_rfl
  obtain ⟨cs, rfl, hsz⟩ := okWide_struct Try.underlying45 hv
  obtain ⟨a0, a1, a2, a3, a4, rfl⟩ := array5 (hsz.trans c45)
  obtain ⟨fuel, hf⟩ := h
  obtain ⟨xs, m, _, _, _, hlen, hf2⟩ := DataW.trod_struct Try.underlying45 hf
  match xs, hlen with
  | [y0, y1, y2, y3, y4], _ =>
    obtain ⟨k, e0, _, w0⟩ := DataW.trod_int (P := Try.prog) Try.underlying5 (show DataW.trod _ Try.prog W 0 _ _ m 5 _ = some y0 from hf2 0 _ rfl)
    obtain ⟨q, e1, _, w1⟩ := DataW.trod_int (P := Try.prog) Try.underlying5 (show DataW.trod _ Try.prog W 0 _ _ m 5 _ = some y1 from hf2 1 _ rfl)
    obtain ⟨x, e2, _, w2⟩ := DataW.trod_int (P := Try.prog) Try.underlying3 (show DataW.trod _ Try.prog W 0 _ _ m 3 _ = some y2 from hf2 2 _ rfl)
    obtain ⟨n, e3, _, w3⟩ := DataW.trod_int (P := Try.prog) Try.underlying3 (show DataW.trod _ Try.prog W 0 _ _ m 3 _ = some y3 from hf2 3 _ rfl)
    obtain ⟨t, e4, _, w4⟩ := DataW.trod_string (P := Try.prog) Try.underlying9 (show DataW.trod _ Try.prog W 0 _ _ m 9 _ = some y4 from hf2 4 _ rfl)
    simp [Value.cells, c5, c3, c9] at e0 e1 e2 e3 e4
    subst e0 e1 e2 e3 e4
    exact ⟨k, q, x, n, t, rfl, w0, w1, w2, w3, w4⟩
end
end Go.Proofs.Ytbppafbdmdbdiaa
