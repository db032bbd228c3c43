/-
  What the rows' condition gives: the table of shifts.
-/
import Derived.Test.YtemcabepbncicaaDoorAccO
import Derived.Test.YtemcabepbncicaaDoorCards
import Derived.Test.YtemcabepbncicaaDoorTie
import Derived.Test.YtemcabepbncicaaDoorRow
import Derived.ProofKit
import Derived.LaidMore
import Derived.OpenShut
import Derived.ShutString
import Derived.Stop.Joined
import Derived.SevenTiedAt
namespace Go.Proofs.YtemcabepbncicaaDoor
open Go.ChangeShapes Go.WideShapes Go.ChangeAt Go.RowKit

theorem own : ownKnob Tryd.prog.godebug = none := by kernel_rfl
theorem laidOut : laidOutB Tryd.prog = true := by kernel_rfl
theorem gShifts : Tryd.prog.globalNamed "replevin/access.shifts" = some 0 := by kernel_rfl
theorem tShifts : (Tryd.prog.globals[0]?).map (·.type) = some 65 := by kernel_rfl

/-- The door's own heap meets the condition. -/
theorem door_met (os : Os) (args : Array Value) : laidMetH Tryd.prog [("replevin/access.shifts", Rows.laid_replevin_access_shifts)] ((World.doorLaid Tryd.prog 400 os).forCall (fun _ _ => 0) ⟨#[], args, []⟩).memory :=
  laidMetH_of_parts3 (fuel := 8) (laidMet_of_run' 8 (by kernel_rfl) (by kernel_rfl)) (by kernel_rfl) (by kernel_rfl)

theorem sh_of_laid {W : World} (h : laidMetH Tryd.prog [("replevin/access.shifts", Rows.laid_replevin_access_shifts)] W) : Sh W := by
  rw [MakeChecks.laidMetH_plain _ _ _ (by kernel_rfl)] at h
  obtain ⟨ps, ⟨g0, t0, cs0, f0, p0, q0, hg0, ht0, hv0, hd0, _, _⟩, _, _⟩ := h
  obtain rfl := Option.some.inj (gShifts.symm.trans hg0)
  obtain rfl := Option.some.inj (tShifts.symm.trans ht0)
  obtain ⟨xs, m1, rfl, hx1, hlen, hn3, hel⟩ := DataW.trod_array Tryd.underlying65 hd0
  have c3 : Tryd.prog.cellsOf 3 = 1 := by kernel_rfl
  have c65 : Tryd.prog.cellsOf 65 = 3 := by kernel_rfl
  have h0 := hel 0 (by decide)
  have h1 := hel 1 (by decide)
  have h2 := hel 2 (by decide)
  simp only [Rows.laid_replevin_access_shifts, Prod.mk.injEq, DataW.agg.injEq] at hx1
  match xs, hn3, hx1, h0, h1, h2 with
  | [x0, x1, x2], _, hx1, h0, h1, h2 =>
    simp only [List.map_cons, List.map_nil, List.cons.injEq] at hx1
    obtain ⟨k0, a1, a2, _⟩ := DataW.trod_int Tryd.underlying3 (show DataW.trod _ Tryd.prog W 0 _ false m1 3 _ = some x0 from h0)
    obtain ⟨k1, b1, b2, _⟩ := DataW.trod_int Tryd.underlying3 (show DataW.trod _ Tryd.prog W 0 _ false m1 3 _ = some x1 from h1)
    obtain ⟨k2, d1, d2, _⟩ := DataW.trod_int Tryd.underlying3 (show DataW.trod _ Tryd.prog W 0 _ false m1 3 _ = some x2 from h2)
    have e0 : k0 = 6 := by rw [a2] at hx1; simpa using hx1.1.1.symm
    have e1 : k1 = 3 := by rw [b2] at hx1; simpa using hx1.1.2.1.symm
    have e2 : k2 = 0 := by rw [d2] at hx1; simpa using hx1.1.2.2.1.symm
    subst e0 e1 e2
    have w0 := World.var?_cell hg0 hv0 0
    have w1 := World.var?_cell hg0 hv0 1
    have w2 := World.var?_cell hg0 hv0 2
    obtain ⟨l1⟩ := cs0
    rw [c3] at a1 b1 d1
    match l1, a1, b1, d1 with
    | [y0, y1, y2], a1, b1, d1 =>
      simp at a1 b1 d1
      subst a1 b1 d1
      simp at w0 w1 w2
      refine ⟨?_, w0, w1, w2⟩
      rcases Nat.eq_zero_or_pos W.heap.size with hz | hz
      · unfold World.cell? at w0
        rw [Array.getElem?_eq_none (by omega)] at w0
        simp at w0
      · exact hz
end Go.Proofs.YtemcabepbncicaaDoor
