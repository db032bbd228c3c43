/-
  From what a law is handed to words for memory: a list of operations.
-/
import Derived.Test.YtbppafbdmdbdiaaMOp
import Derived.Test.YtbppafbdmdbdiaaPlA
import Derived.Deep.SlicePairs
namespace Go.Proofs.Ytbppafbdmdbdiaa
open Go.ChangeShapes Go.WideShapes Go.ChangeAt Go.RowKit

section
variable {H : Type} {enc : TypeId × Value → H} {W : World} {held : Bool} {d : DataW H} {p : List MemPlace} {a0 : Option Addr} {len cap : Nat}
theorem u8_bounds {a : Int} (h : (Lit.int .u8 a).wf = true) : 0 ≤ a ∧ a < 256 := by
  simp [Lit.wf, IntKind.min, IntKind.max, IntKind.bits, IntKind.signed] at h
  omega
theorem i64_bounds {a : Int} (h : (Lit.int .i64 a).wf = true) : -9223372036854775808 ≤ a ∧ a ≤ 9223372036854775807 := by
  simp [Lit.wf, IntKind.min, IntKind.max, IntKind.bits, IntKind.signed] at h
  omega
set_option maxRecDepth 100000 in
theorem open_ops (h : DataW.Trod enc Try.prog W 0 (fun _ => true) held 52 (.slice a0 len cap) d p) : ∃ l, RdO W W.heap.size (.slice a0 len cap) l := by
  have c45 : Try.prog.cellsOf 45 = 5 := by kernel_rfl
  have c5 : Try.prog.cellsOf 5 = 1 := by kernel_rfl
  have c3 : Try.prog.cellsOf 3 = 1 := by kernel_rfl
  have c9 : Try.prog.cellsOf 9 = 1 := by kernel_rfl
  obtain ⟨fuel, hf⟩ := h
  rcases Go.Deep.open_slice Try.underlying52 hf with ⟨hcs, _⟩ | ⟨a, len', cap', m, n, D, Pl, hcs, _, hl, hm, hmm, _, hx⟩
  · simp [Value.cells] at hcs
    obtain ⟨rfl, rfl, rfl⟩ := hcs
    exact ⟨[], none, 0, rfl, by simp, fun i hi => absurd hi (by simp)⟩
  · simp [Value.cells] at hcs
    obtain ⟨rfl, rfl, rfl⟩ := hcs
    simp only [if_true] at hmm
    have hmm' := hmm.symm
    subst hmm'
    rw [c45] at hx
    have each : ∀ i, ∃ o : OpV, i < cap → o.Ok ∧ ∀ j u, o.cells[j]? = some u → W.cell? ((a.add (i * 5)).add j) = some u := by
      intro i
      by_cases hi : i < cap
      · obtain ⟨cs', h1, h2⟩ := hx i hi
        obtain ⟨_, hlen, hcell⟩ := World.cells?_some h1
        obtain ⟨xs, k, hk, hxy, _, hxl, hf2⟩ := DataW.trod_struct Try.underlying45 h2
        match xs, hxl, cs', hlen with
        | [y0, y1, y2, y3, y4], _, [v0, v1, v2, v3, v4], _ =>
          obtain ⟨kd, e0, _, w0⟩ := DataW.trod_int (P := Try.prog) Try.underlying5 (show DataW.trod _ Try.prog W 0 _ _ k 5 _ = some y0 from hf2 0 _ rfl)
          obtain ⟨q, e1, _, w1⟩ := DataW.trod_int (P := Try.prog) Try.underlying5 (show DataW.trod _ Try.prog W 0 _ _ k 5 _ = some y1 from hf2 1 _ rfl)
          obtain ⟨x, e2, _, w2⟩ := DataW.trod_int (P := Try.prog) Try.underlying3 (show DataW.trod _ Try.prog W 0 _ _ k 3 _ = some y2 from hf2 2 _ rfl)
          obtain ⟨nn, e3, _, w3⟩ := DataW.trod_int (P := Try.prog) Try.underlying3 (show DataW.trod _ Try.prog W 0 _ _ k 3 _ = some y3 from hf2 3 _ rfl)
          obtain ⟨t, e4, _, w4⟩ := DataW.trod_string (P := Try.prog) Try.underlying9 (show DataW.trod _ Try.prog W 0 _ _ k 9 _ = some y4 from hf2 4 _ rfl)
          simp [c5, c3, c9] at e0 e1 e2 e3 e4
          subst e0 e1 e2 e3 e4
          refine ⟨⟨kd, q, x, nn, t⟩, fun _ => ⟨⟨(u8_bounds w0).1, (u8_bounds w0).2, (u8_bounds w1).1, (u8_bounds w1).2, (i64_bounds w2).1, (i64_bounds w2).2, (i64_bounds w3).1, (i64_bounds w3).2, w4⟩, fun j u hu => ?_⟩⟩
          have hj : j < 5 := (List.getElem?_eq_some_iff.1 hu).1
          have hc := hcell j hj
          rw [hc]
          exact hu
      · exact ⟨⟨0, 0, 0, 0, ⟨#[]⟩⟩, fun h => absurd h hi⟩
    obtain ⟨f, hf⟩ : ∃ f : Nat → OpV, ∀ i, i < cap → (f i).Ok ∧ ∀ j u, (f i).cells[j]? = some u → W.cell? ((a.add (i * 5)).add j) = some u := ⟨fun r => Classical.choose (each r), fun r => Classical.choose_spec (each r)⟩
    have hln : ((List.range len).map f).length = len := by simp
    refine ⟨(List.range len).map f, some a, cap, by rw [hln], by rw [hln]; omega, fun i hi => ?_⟩
    rw [hln] at hi
    obtain ⟨q1, q2⟩ := hf i (by omega)
    obtain ⟨b, off, spot⟩ := a
    have h0 := (hf 0 (by omega)).2 0 _ rfl
    have hspot : spot = none := by simpa [Addr.add] using World.cell?_spot h0
    subst hspot
    have hb := block_of_cell h0
    rw [Addr.add_mid, Addr.add_mid] at hb
    have hfi : ((List.range len).map f)[i]'(by rw [hln]; exact hi) = f i := by simp
    rw [hfi]
    refine ⟨q1, b, off, rfl, hb, hb, fun j u hu => ?_⟩
    have := q2 j u hu
    rw [Addr.add_mid, Addr.add_mid] at this
    exact this
end
end Go.Proofs.Ytbppafbdmdbdiaa
