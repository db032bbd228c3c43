/-
  From what a law is handed to words for memory: registers.
-/
import Derived.Test.YtpadpggdealgkaaDoorRRRMCb
import Derived.Test.YtpadpggdealgkaaDoorRRRRow
import Derived.Lib.SmallJoins
import Derived.OpenShut
namespace Go.Proofs.YtpadpggdealgkaaDoorRRR
open Go.ChangeShapes Go.WideShapes Go.ChangeAt Go.RowKit
set_option linter.constructorNameAsVariable false

section
variable {H : Type} {enc : TypeId × Value → H} {W : World} {b0 : Nat} {held : Bool} {v : Value} {d : DataW H} {p : List MemPlace}
theorem u32_bounds {a : Int} (h : (Lit.int .u32 a).wf = true) : 0 ≤ a ∧ a < 4294967296 := by
  simp [Lit.wf, IntKind.min, IntKind.max, IntKind.bits, IntKind.signed] at h
  omega
theorem take_one {α : Type} {l : List α} {a n : Nat} {v : α} (h : ((l.drop a).take n) = [v]) (hn : n = 1) : l[a]? = some v := by
  subst hn
  have h0 : ((l.drop a).take 1)[0]? = some v := by rw [h]; rfl
  rw [List.getElem?_take_of_lt (by decide), List.getElem?_drop] at h0
  exact h0
/-- Registers that stand in cells, as numbers. -/
theorem regs_of {m : Nat} {cl : List Value} {y0 y1 : DataW H × List MemPlace} (h0 : DataW.trod enc Tryd.prog W 0 (fun _ => true) held m 24 ((cl.drop 0).take (Tryd.prog.cellsOf 24)) = some y0) (h1 : DataW.trod enc Tryd.prog W 0 (fun _ => true) held m 23 ((cl.drop 8).take (Tryd.prog.cellsOf 23)) = some y1) (hl : cl.length = 9) :
    ∃ g : Rg, cl = g.vals ∧ g.Ok := by
  have c23 : Tryd.prog.cellsOf 23 = 1 := by kernel_rfl
  have c24 : Tryd.prog.cellsOf 24 = 8 := by kernel_rfl
  obtain ⟨n, a1, _, w1⟩ := DataW.trod_int (P := Tryd.prog) Tryd.underlying23 h1
  have g8 := take_one a1 c23
  obtain ⟨xs, m1, _, _, _, hn, hel⟩ := DataW.trod_array (P := Tryd.prog) Tryd.underlying24 h0
  have each : ∀ i, ∃ x : Int, (0 ≤ x ∧ x < 4294967296) ∧ (i < 8 → cl[i]? = some (.int .u32 x)) := by
    intro i
    by_cases hi : i < 8
    · have h2 := hel i hi
      rw [List.getElem?_eq_getElem (by omega)] at h2
      obtain ⟨x, a2, _, w2⟩ := DataW.trod_int (P := Tryd.prog) Tryd.underlying23 h2
      have g := take_one a2 c23
      rw [c23, Nat.mul_one, c24, List.getElem?_take_of_lt hi, List.getElem?_drop, Nat.zero_add] at g
      exact ⟨x, u32_bounds w2, fun _ => g⟩
    · exact ⟨0, by decide, fun h => absurd h hi⟩
  obtain ⟨f, hf⟩ : ∃ f : Nat → Int, ∀ i, (0 ≤ f i ∧ f i < 4294967296) ∧ (i < 8 → cl[i]? = some (.int .u32 (f i))) := ⟨fun r => Classical.choose (each r), fun r => Classical.choose_spec (each r)⟩
  refine ⟨⟨f, n⟩, ?_, ⟨fun k => (hf k).1.1, fun k => (hf k).1.2, (u32_bounds w1).1, (u32_bounds w1).2⟩⟩
  apply List.ext_getElem?
  intro j
  by_cases hj : j < 9
  · by_cases h8 : j < 8
    · rw [(hf j).2 h8]
      have h3 : j = 0 ∨ j = 1 ∨ j = 2 ∨ j = 3 ∨ j = 4 ∨ j = 5 ∨ j = 6 ∨ j = 7 := by omega
      rcases h3 with rfl | rfl | rfl | rfl | rfl | rfl | rfl | rfl <;> rfl
    · obtain rfl : j = 8 := by omega
      rw [g8]
      rfl
  · rw [List.getElem?_eq_none (by omega), List.getElem?_eq_none (by show 9 ≤ j; omega)]
theorem open_G (hv : Value.okWide Tryd.prog W .any b0 26 v) (h : DataW.Trod enc Tryd.prog W 0 (fun _ => true) held 26 v d p) : ∃ g : Rg, v = .agg g.vals.toArray ∧ g.Ok := by
  have c26 : Tryd.prog.cellsOf 26 = 9 := by kernel_rfl
  simp only [Value.okWide, Tryd.underlying26] at hv
  obtain ⟨cs, rfl, hsz, _⟩ := hv
  obtain ⟨fuel, hf⟩ := h
  obtain ⟨ys, m, _, _, _, hn, hel⟩ := DataW.trod_struct (P := Tryd.prog) Tryd.underlying26 hf
  match ys, hn, hel with
  | [y0, y1], _, hel =>
    obtain ⟨g, hg, hok⟩ := regs_of (cl := cs.toList) (hel 0 _ rfl) (hel 1 _ rfl) (by rw [Array.length_toList, hsz, c26])
    exact ⟨g, by rw [← hg], hok⟩
end
end Go.Proofs.YtpadpggdealgkaaDoorRRR
