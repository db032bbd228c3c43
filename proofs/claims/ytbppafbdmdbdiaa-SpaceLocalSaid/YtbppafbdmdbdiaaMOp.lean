/-
  From what a law is handed to words for memory: an operation.
-/
import Derived.Test.YtbppafbdmdbdiaaMSa
import Derived.Test.YtbppafbdmdbdiaaRow
import Derived.Lib.SmallJoins
import Derived.OpenShut
import Derived.Test.YtbppafbdmdbdiaaMSh
import Derived.Deep.SlicePairs
namespace Go.Proofs.Ytbppafbdmdbdiaa
open Go.ChangeShapes Go.WideShapes Go.ChangeAt Go.RowKit

section
variable {H : Type} {enc : TypeId × Value → H} {W : World} {b0 : Nat} {held : Bool} {v : Value} {d : DataW H} {p : List MemPlace}

theorem array5 {α : Type} {cs : Array α} (h : cs.size = 5) : ∃ c0 c1 c2 c3 c4, cs = #[c0, c1, c2, c3, c4] := by
  obtain ⟨l⟩ := cs
  match l, h with
  | [c0, c1, c2, c3, c4], _ => exact ⟨c0, c1, c2, c3, c4, rfl⟩

set_option maxRecDepth 100000 in
theorem open_op (hv : Value.okWide Try.prog W .any b0 45 v) (h : DataW.Trod enc Try.prog W 0 (fun _ => true) held 45 v d p) :
    ∃ k q x n t, v = .agg #[.int .u8 k, .int .u8 q, .int .i64 x, .int .i64 n, .string t] ∧ (Lit.int .u8 k).wf = true ∧ (Lit.int .u8 q).wf = true ∧ (Lit.int .i64 x).wf = true ∧ (Lit.int .i64 n).wf = true ∧ t.size ≤ maxLen := by
  have c45 : Try.prog.cellsOf 45 = 5 := by kernel_rfl
  have c5 : Try.prog.cellsOf 5 = 1 := by kernel_rfl
  have c3 : Try.prog.cellsOf 3 = 1 := by kernel_rfl
  have c9 : Try.prog.cellsOf 9 = 1 := by kernel_rfl
  obtain ⟨cs, rfl, hsz⟩ := okWide_struct Try.underlying45 hv
  obtain ⟨a0, a1, a2, a3, a4, rfl⟩ := array5 (hsz.trans c45)
  obtain ⟨fuel, hf⟩ := h
  obtain ⟨xs, m, _, _, _, hlen, hf2⟩ := DataW.trod_struct Try.underlying45 hf
  match xs, hlen with
  | [y0, y1, y2, y3, y4], _ =>
    obtain ⟨k, e0, _, w0⟩ := DataW.trod_int (P := Try.prog) Try.underlying5 (show DataW.trod _ Try.prog W 0 _ _ m 5 _ = some y0 from hf2 0 _ rfl)
    obtain ⟨q, e1, _, w1⟩ := DataW.trod_int (P := Try.prog) Try.underlying5 (show DataW.trod _ Try.prog W 0 _ _ m 5 _ = some y1 from hf2 1 _ rfl)
    obtain ⟨x, e2, _, w2⟩ := DataW.trod_int (P := Try.prog) Try.underlying3 (show DataW.trod _ Try.prog W 0 _ _ m 3 _ = some y2 from hf2 2 _ rfl)
    obtain ⟨n, e3, _, w3⟩ := DataW.trod_int (P := Try.prog) Try.underlying3 (show DataW.trod _ Try.prog W 0 _ _ m 3 _ = some y3 from hf2 3 _ rfl)
    obtain ⟨t, e4, _, w4⟩ := DataW.trod_string (P := Try.prog) Try.underlying9 (show DataW.trod _ Try.prog W 0 _ _ m 9 _ = some y4 from hf2 4 _ rfl)
    simp [Value.cells, c5, c3, c9] at e0 e1 e2 e3 e4
    subst e0 e1 e2 e3 e4
    exact ⟨k, q, x, n, t, rfl, w0, w1, w2, w3, w4⟩
end
end Go.Proofs.Ytbppafbdmdbdiaa

/-
  From what a law is handed to words for memory: a list of fills.
-/
namespace Go.Proofs.Ytbppafbdmdbdiaa
open Go.ChangeShapes Go.WideShapes Go.ChangeAt Go.RowKit

section
variable {H : Type} {enc : TypeId × Value → H} {W : World} {held : Bool} {d : DataW H} {p : List MemPlace} {a0 : Option Addr} {len cap : Nat}
theorem block_of_cell {w : World} {q : Addr} {v : Value} (h : w.cell? q = some v) : q.block < w.heap.size := by
  rcases Nat.lt_or_ge q.block w.heap.size with h2 | h2
  · exact h2
  · unfold World.cell? at h
    rw [Array.getElem?_eq_none h2] at h
    simp at h
set_option maxRecDepth 100000 in
theorem open_fills (h : DataW.Trod enc Try.prog W 0 (fun _ => true) held 31 (.slice a0 len cap) d p) : ∃ l, RdF W W.heap.size (.slice a0 len cap) l := by
  have c93 : Try.prog.cellsOf 93 = 2 := by kernel_rfl
  have c5 : Try.prog.cellsOf 5 = 1 := by kernel_rfl
  have c9 : Try.prog.cellsOf 9 = 1 := by kernel_rfl
  obtain ⟨fuel, hf⟩ := h
  rcases Go.Deep.open_slice_pairs Try.underlying31 Try.underlying93 c93 rfl rfl c5 c9 hf with ⟨hcs, _⟩ | ⟨a, len', cap', m, n, V0, V1, D0, D1, P0, P1, hcs, _, hl, hm, hmm, _, hx⟩
  · simp [Value.cells] at hcs
    obtain ⟨rfl, rfl, rfl⟩ := hcs
    exact ⟨[], none, 0, rfl, by simp, fun i hi => absurd hi (by simp)⟩
  · simp [Value.cells] at hcs
    obtain ⟨rfl, rfl, rfl⟩ := hcs
    simp only [if_true] at hmm
    have hmm' := hmm.symm
    subst hmm'
    have each : ∀ i, ∃ q : Fl, i < cap → W.cell? (a.add (i * 2)) = some (.int .u8 q.1.toNat) ∧ W.cell? (a.add (i * 2 + 1)) = some (.string q.2) ∧ q.2.size ≤ maxLen := by
      intro i
      by_cases hi : i < cap
      · obtain ⟨h1, h2, h3, h4⟩ := hx i hi
        obtain ⟨k, e0, _, w0⟩ := DataW.trod_int (P := Try.prog) Try.underlying5 h3
        obtain ⟨s, e1, _, w1⟩ := DataW.trod_string (P := Try.prog) Try.underlying9 h4
        simp at e0 e1
        refine ⟨(UInt8.ofNat k.toNat, s), fun _ => ⟨?_, ?_, w1⟩⟩
        · rw [h1, e0, u8_of_wf w0]
        · rw [h2, e1]
      · exact ⟨(0, ⟨#[]⟩), fun h => absurd h hi⟩
    obtain ⟨f, hf⟩ : ∃ f : Nat → Fl, ∀ i, i < cap → W.cell? (a.add (i * 2)) = some (.int .u8 (f i).1.toNat) ∧ W.cell? (a.add (i * 2 + 1)) = some (.string (f i).2) ∧ (f i).2.size ≤ maxLen := ⟨fun r => Classical.choose (each r), fun r => Classical.choose_spec (each r)⟩
    have hln : ((List.range len).map f).length = len := by simp
    refine ⟨(List.range len).map f, some a, cap, by rw [hln], by rw [hln]; omega, fun i hi => ?_⟩
    rw [hln] at hi
    obtain ⟨q1, q2, q3⟩ := hf i (by omega)
    obtain ⟨b, off, spot⟩ := a
    have hspot : spot = none := by simpa [Addr.add] using World.cell?_spot (hf 0 (by omega)).1
    subst hspot
    have hb := block_of_cell q1
    rw [Addr.add_mid] at q1 q2 hb
    refine ⟨b, off, rfl, hb, ?_, ?_, ?_⟩
    · simpa using q1
    · simpa [Nat.add_assoc] using q2
    · simpa using q3
end
end Go.Proofs.Ytbppafbdmdbdiaa
