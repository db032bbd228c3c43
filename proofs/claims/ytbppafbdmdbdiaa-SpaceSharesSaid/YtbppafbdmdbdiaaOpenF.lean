/-
  From what a law is handed to words for memory: a list of fills.
-/
import Derived.Test.YtbppafbdmdbdiaaOpens
import Derived.Test.YtbppafbdmdbdiaaFills
import Derived.Deep.SlicePairs
namespace Go.Proofs.Ytbppafbdmdbdiaa
open Go.ChangeShapes Go.WideShapes Go.ChangeAt Go.RowKit

section
variable {H : Type} {enc : TypeId × Value → H} {W : World} {held : Bool} {d : DataW H} {p : List MemPlace} {a0 : Option Addr} {len cap : Nat}
theorem block_of_cell {w : World} {q : Addr} {v : Value} (h : w.cell? q = some v) : q.block < w.heap.size := by
  rcases Nat.lt_or_ge q.block w.heap.size with h2 | h2
  · exact h2
  · unfold World.cell? at h
    rw [Array.getElem?_eq_none h2] at h
    simp at h
set_option maxRecDepth 100000 in
theorem open_fills (h : DataW.Trod enc Try.prog W 0 (fun _ => true) held 31 (.slice a0 len cap) d p) : ∃ l, RdF W W.heap.size (.slice a0 len cap) l := by
  have c93 : Try.prog.cellsOf 93 = 2 := by kernel_rfl
  have c5 : Try.prog.cellsOf 5 = 1 := by kernel_rfl
  have c9 : Try.prog.cellsOf 9 = 1 := by kernel_rfl
  obtain ⟨fuel, hf⟩ := h
  rcases Go.Deep.open_slice_pairs Try.underlying31 Try.underlying93 c93 rfl rfl c5 c9 hf with ⟨hcs, _⟩ | ⟨a, len', cap', m, n, V0, V1, D0, D1, P0, P1, hcs, _, hl, hm, hmm, _, hx⟩
  · simp [Value.cells] at hcs
    obtain ⟨rfl, rfl, rfl⟩ := hcs
    exact ⟨[], none, 0, rfl, by simp, fun i hi => absurd hi (by simp)⟩
  · simp [Value.cells] at hcs
    obtain ⟨rfl, rfl, rfl⟩ := hcs
    simp only [if_true] at hmm
    have hmm' := hmm.symm
    subst hmm'
    have each : ∀ i, ∃ q : Fl, i < cap → W.cell? (a.add (i * 2)) = some (.int .u8 q.1.toNat) ∧ W.cell? (a.add (i * 2 + 1)) = some (.string q.2) ∧ q.2.size ≤ maxLen := by
      intro i
      by_cases hi : i < cap
      · obtain ⟨h1, h2, h3, h4⟩ := hx i hi
        obtain ⟨k, e0, _, w0⟩ := DataW.trod_int (P := Try.prog) Try.underlying5 h3
        obtain ⟨s, e1, _, w1⟩ := DataW.trod_string (P := Try.prog) Try.underlying9 h4
        simp at e0 e1
        refine ⟨(UInt8.ofNat k.toNat, s), fun _ => ⟨?_, ?_, w1⟩⟩
        · rw [h1, e0, u8_of_wf w0]
        · rw [h2, e1]
      · exact ⟨(0, ⟨#[]⟩), fun h => absurd h hi⟩
    obtain ⟨f, hf⟩ : ∃ f : Nat → Fl, ∀ i, i < cap → W.cell? (a.add (i * 2)) = some (.int .u8 (f i).1.toNat) ∧ W.cell? (a.add (i * 2 + 1)) = some (.string (f i).2) ∧ (f i).2.size ≤ maxLen := ⟨fun r => Classical.choose (each r), fun r => Classical.choose_spec (each r)⟩
    have hln : ((List.range len).map f).length = len := by simp
    refine ⟨(List.range len).map f, some a, cap, by rw [hln], by rw [hln]; omega, fun i hi => ?_⟩
    rw [hln] at hi
    obtain ⟨q1, q2, q3⟩ := hf i (by omega)
    obtain ⟨b, off, spot⟩ := a
    have hspot : spot = none := by simpa [Addr.add] using World.cell?_spot (hf 0 (by omega)).1
    subst hspot
    have hb := block_of_cell q1
    rw [Addr.add_mid] at q1 q2 hb
    refine ⟨b, off, rfl, hb, ?_, ?_, ?_⟩
    · simpa using q1
    · simpa [Nat.add_assoc] using q2
    · simpa using q3
end
end Go.Proofs.Ytbppafbdmdbdiaa
