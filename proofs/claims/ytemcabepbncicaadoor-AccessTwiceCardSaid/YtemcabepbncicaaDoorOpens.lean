/-
  From what a law is handed to words for memory: an identity, a file, two bytes.
-/
import Derived.Test.YtemcabepbncicaaDoorAccO
import Derived.Test.YtemcabepbncicaaDoorRow
import Derived.Lib.SmallJoins
import Derived.OpenShut
namespace Go.Proofs.YtemcabepbncicaaDoor
open Go.ChangeShapes Go.WideShapes Go.ChangeAt Go.RowKit

section
variable {H : Type} {enc : TypeId × Value → H} {W : World} {b0 : Nat} {held : Bool} {v : Value} {d : DataW H} {p : List MemPlace}

/-- A slice of integers that came in, as a list. -/
theorem rdi_of_row {w : World} {x : Addr} {len cap : Nat} {zs : List Int} (hl : len ≤ cap) (hm : cap ≤ maxLen) (hz : zs.length = cap) (hcell : ∀ i, i < zs.length → w.cell? (x.add i) = some (.int .i64 (zs.getD i 0))) :
    RdI w w.heap.size (.slice (some x) len cap) (zs.take len) := by
  have hlen : (zs.take len).length = len := by rw [List.length_take]; omega
  refine ⟨some x, cap, by rw [hlen], by rw [hlen]; exact hl, hm, by simp, fun h0 => ⟨x, rfl, ?_, fun j u hu => ?_⟩⟩
  · rw [hlen] at h0
    have h1 := hcell 0 (by omega)
    rcases Nat.lt_or_ge x.block w.heap.size with h2 | h2
    · exact h2
    · unfold World.cell? at h1
      rw [block_of_add, Array.getElem?_eq_none h2] at h1
      simp at h1
  · rw [List.getElem?_map] at hu
    have hj : j < len := by
      rcases Nat.lt_or_ge j len with h | h
      · exact h
      · rw [List.getElem?_eq_none (by rw [hlen]; exact h)] at hu; cases hu
    have hjz : j < zs.length := by omega
    rw [hcell j hjz]
    rw [List.getElem?_take_of_lt hj, List.getElem?_eq_getElem hjz] at hu
    simp only [Option.map_some, Option.some.injEq] at hu
    subst hu
    rw [List.getD_eq_getElem?_getD, List.getElem?_eq_getElem hjz, Option.getD_some]

theorem open_id (hv : Value.okWide Tryd.prog W .any b0 24 v) (h : DataW.Trod enc Tryd.prog W 0 (fun _ => true) held 24 v d p) :
    ∃ u a len cap g, v = .agg #[.int .i64 u, .slice a len cap] ∧ (Lit.int .i64 u).wf = true ∧ RdI W W.heap.size (.slice a len cap) g := by
  obtain ⟨v0, v1, y0, y1, n, rfl, _, _, h0, h1⟩ := Joins.open_agg2 (P := Tryd.prog) Tryd.underlying24 (by kernel_rfl) (by kernel_rfl) hv h
  obtain ⟨u, a1, _, wu⟩ := DataW.trod_int (P := Tryd.prog) Tryd.underlying3 h0
  simp only [List.cons.injEq, and_true] at a1
  subst a1
  rcases open_ints (P := Tryd.prog) Tryd.underlying22 Tryd.underlying3 (by kernel_rfl) h1 with ⟨hcs, _⟩ | ⟨x, l, c, zs, hcs, _, hl, hm, hz, _, hcell, _⟩
  · simp only [List.cons.injEq, and_true] at hcs
    subst hcs
    exact ⟨u, none, 0, 0, [], rfl, wu, RdI.nil _ _⟩
  · simp only [List.cons.injEq, and_true] at hcs
    subst hcs
    exact ⟨u, some x, l, c, _, rfl, wu, rdi_of_row hl hm (by simpa using hz) hcell⟩

theorem open_file (hv : Value.okWide Tryd.prog W .any b0 26 v) (h : DataW.Trod enc Tryd.prog W 0 (fun _ => true) held 26 v d p) :
    ∃ x y z, v = .agg #[.int .i64 x, .int .i64 y, .int .i64 z] ∧ (Lit.int .i64 x).wf = true ∧ (Lit.int .i64 y).wf = true ∧ (Lit.int .i64 z).wf = true := by
  obtain ⟨v0, v1, v2, y0, y1, y2, n, rfl, _, _, h0, h1, h2⟩ := Joins.open_agg3 (P := Tryd.prog) Tryd.underlying26 (by kernel_rfl) (by kernel_rfl) hv h
  obtain ⟨x, a0, _, w0⟩ := DataW.trod_int (P := Tryd.prog) Tryd.underlying3 h0
  obtain ⟨y, a1, _, w1⟩ := DataW.trod_int (P := Tryd.prog) Tryd.underlying3 h1
  obtain ⟨z, a2, _, w2⟩ := DataW.trod_int (P := Tryd.prog) Tryd.underlying3 h2
  simp only [List.cons.injEq, and_true] at a0 a1 a2
  subst a0 a1 a2
  exact ⟨x, y, z, rfl, w0, w1, w2⟩

theorem open_two (hv : Value.okWide Tryd.prog W .any b0 38 v) (h : DataW.Trod enc Tryd.prog W 0 (fun _ => true) held 38 v d p) :
    ∃ x y, v = .agg #[.int .u8 x, .int .u8 y] ∧ (Lit.int .u8 x).wf = true ∧ (Lit.int .u8 y).wf = true := by
  have c5 : Tryd.prog.cellsOf 5 = 1 := by kernel_rfl
  have c38 : Tryd.prog.cellsOf 38 = 2 := by kernel_rfl
  simp only [Value.okWide, Tryd.underlying38] at hv
  obtain ⟨cs, rfl, hsz, _⟩ := hv
  obtain ⟨a, b, rfl⟩ := Joins.array2 (hsz.trans c38)
  obtain ⟨fuel, hf⟩ := h
  obtain ⟨xs, m1, _, _, _, hn, hel⟩ := DataW.trod_array (P := Tryd.prog) Tryd.underlying38 hf
  have h0 := hel 0 (by decide)
  have h1 := hel 1 (by decide)
  match xs, hn, h0, h1 with
  | [x0, x1], _, h0, h1 =>
    obtain ⟨x, a0, _, w0⟩ := DataW.trod_int (P := Tryd.prog) Tryd.underlying5 (show DataW.trod _ Tryd.prog W 0 _ _ m1 5 _ = some x0 from h0)
    obtain ⟨y, a1, _, w1⟩ := DataW.trod_int (P := Tryd.prog) Tryd.underlying5 (show DataW.trod _ Tryd.prog W 0 _ _ m1 5 _ = some x1 from h1)
    rw [c5] at a0 a1
    simp [Value.cells] at a0 a1
    subst a0 a1
    exact ⟨x, y, rfl, w0, w1⟩
end
end Go.Proofs.YtemcabepbncicaaDoor
