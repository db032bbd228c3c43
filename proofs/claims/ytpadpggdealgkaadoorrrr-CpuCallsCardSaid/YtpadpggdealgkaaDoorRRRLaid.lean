/-
  What the rows' condition gives: the table of operations.
-/
import Derived.Test.YtpadpggdealgkaaDoorRRRMCa
import Derived.Test.YtpadpggdealgkaaDoorRRRCards
import Derived.Test.YtpadpggdealgkaaDoorRRRTie
import Derived.Test.YtpadpggdealgkaaDoorRRRRow
import Derived.ProofKit
import Derived.LaidMore
import Derived.OpenShut
import Derived.ShutString
import Derived.Stop.Joined
import Derived.SevenTiedAt
namespace Go.Proofs.YtpadpggdealgkaaDoorRRR
open Go.ChangeShapes Go.WideShapes Go.ChangeAt Go.RowKit

theorem own : ownKnob Tryd.prog.godebug = none := by kernel_rfl
theorem laidOut : laidOutB Tryd.prog = true := by kernel_rfl
theorem gOps : Tryd.prog.globalNamed "replevin/instr.operations" = some 0 := by kernel_rfl
theorem tOps : (Tryd.prog.globals[0]?).map (·.type) = some 125 := by kernel_rfl

/-- The door's own heap meets the condition. -/
theorem door_met (os : Os) (args : Array Value) : laidMetH Tryd.prog [("replevin/instr.operations", Rows.laid_replevin_instr_operations)] ((World.doorLaid Tryd.prog 400 os).forCall (fun _ _ => 0) ⟨#[], args, []⟩).memory :=
  laidMetH_of_parts3 (fuel := 8) (laidMet_of_run' 8 (by kernel_rfl) (by kernel_rfl)) (by kernel_rfl) (by kernel_rfl)

def opD (H : Type) : List (DataW H) := match (Rows.laid_replevin_instr_operations : DataW H) with
  | .agg l => l
  | _ => []
theorem opD_eq (H : Type) : (Rows.laid_replevin_instr_operations : DataW H) = .agg (opD H) := rfl
theorem opD_get (H : Type) (k : Nat) (hk : k < 27) : ∃ s u v, (opD H)[k]? = some (.agg [.lit (.string s), .lit (.int .i64 ((opT k).1 : Nat)), .lit (.int .i64 (opT k).2.1), .lit (.int .i64 (opT k).2.2), .lit (.bool u), .lit (.bool v)]) := by
  have h3 : k = 0 ∨ k = 1 ∨ k = 2 ∨ k = 3 ∨ k = 4 ∨ k = 5 ∨ k = 6 ∨ k = 7 ∨ k = 8 ∨ k = 9 ∨ k = 10 ∨ k = 11 ∨ k = 12 ∨ k = 13 ∨ k = 14 ∨ k = 15 ∨ k = 16 ∨ k = 17 ∨ k = 18 ∨ k = 19 ∨ k = 20 ∨ k = 21 ∨ k = 22 ∨ k = 23 ∨ k = 24 ∨ k = 25 ∨ k = 26 := by omega
  rcases h3 with rfl | rfl | rfl | rfl | rfl | rfl | rfl | rfl | rfl | rfl | rfl | rfl | rfl | rfl | rfl | rfl | rfl | rfl | rfl | rfl | rfl | rfl | rfl | rfl | rfl | rfl | rfl
  all_goals exact ⟨_, _, _, rfl⟩
theorem take_drop_get {α : Type} (l : List α) (o n j : Nat) (hj : j < n) : ((l.drop o).take n)[j]? = l[o + j]? := by
  rw [List.getElem?_take_of_lt hj, List.getElem?_drop]
theorem one_get {l : List Value} {a b n : Nat} {v : Value} (h : ((((l.drop a).take 6).drop b).take n) = [v]) (hn : n = 1) (hb : b < 6) : l[a + b]? = some v := by
  subst hn
  have h0 : ((((l.drop a).take 6).drop b).take 1)[0]? = some v := by rw [h]; rfl
  rw [take_drop_get _ _ _ _ (by decide : 0 < 1), Nat.add_zero, take_drop_get _ _ _ _ hb] at h0
  exact h0
theorem ops_of_laid {W : World} (h : laidMetH Tryd.prog [("replevin/instr.operations", Rows.laid_replevin_instr_operations)] W) : Ops W := by
  rw [MakeChecks.laidMetH_plain _ _ _ (by kernel_rfl)] at h
  obtain ⟨ps, ⟨g0, t0, cs0, f0, p0, q0, hg0, ht0, hv0, hd0, _, _⟩, _, _⟩ := h
  obtain rfl := Option.some.inj (gOps.symm.trans hg0)
  obtain rfl := Option.some.inj (tOps.symm.trans ht0)
  obtain ⟨xs, m1, rfl, hx1, hlen, hn, hel⟩ := DataW.trod_array Tryd.underlying125 hd0
  have c124 : Tryd.prog.cellsOf 124 = 6 := by kernel_rfl
  have c9 : Tryd.prog.cellsOf 9 = 1 := by kernel_rfl
  have c3 : Tryd.prog.cellsOf 3 = 1 := by kernel_rfl
  have c4 : Tryd.prog.cellsOf 4 = 1 := by kernel_rfl
  rw [opD_eq] at hx1
  simp only [Prod.mk.injEq, DataW.agg.injEq] at hx1
  have each : ∀ k, k < 27 → ∃ s u v, ∀ j x, (opCells k s u v)[j]? = some x → W.cell? ⟨0, k * 6 + j, none⟩ = some x := by
    intro k hk
    have h1 := hel k hk
    obtain ⟨s, u, v, hD⟩ := opD_get _ k hk
    rw [hx1.1, List.getElem?_map] at hD
    cases hxk : xs[k]? with
    | none => rw [hxk] at hD; cases hD
    | some y =>
      rw [hxk] at hD h1
      simp only [Option.map_some, Option.some.injEq] at hD
      rw [c124] at h1
      obtain ⟨ys, m2, rfl, hy, hlen2, hn2, hf⟩ := DataW.trod_struct Tryd.underlying124 h1
      rw [hy] at hD
      simp only [DataW.agg.injEq] at hD
      match ys, hn2, hD with
      | [y0, y1, y2, y3, y4, y5], _, hD =>
        simp only [List.map_cons, List.map_nil, List.cons.injEq] at hD
        obtain ⟨k0, a0, b0, _⟩ := DataW.trod_string (P := Tryd.prog) Tryd.underlying9 (show DataW.trod _ Tryd.prog W 0 _ _ m2 9 _ = some y0 from hf 0 _ rfl)
        obtain ⟨k1, a1, b1, _⟩ := DataW.trod_int (P := Tryd.prog) Tryd.underlying3 (show DataW.trod _ Tryd.prog W 0 _ _ m2 3 _ = some y1 from hf 1 _ rfl)
        obtain ⟨k2, a2, b2, _⟩ := DataW.trod_int (P := Tryd.prog) Tryd.underlying3 (show DataW.trod _ Tryd.prog W 0 _ _ m2 3 _ = some y2 from hf 2 _ rfl)
        obtain ⟨k3, a3, b3, _⟩ := DataW.trod_int (P := Tryd.prog) Tryd.underlying3 (show DataW.trod _ Tryd.prog W 0 _ _ m2 3 _ = some y3 from hf 3 _ rfl)
        obtain ⟨k4, a4, b4⟩ := DataW.trod_bool (P := Tryd.prog) Tryd.underlying4 (show DataW.trod _ Tryd.prog W 0 _ _ m2 4 _ = some y4 from hf 4 _ rfl)
        obtain ⟨k5, a5, b5⟩ := DataW.trod_bool (P := Tryd.prog) Tryd.underlying4 (show DataW.trod _ Tryd.prog W 0 _ _ m2 4 _ = some y5 from hf 5 _ rfl)
        subst b0 b1 b2 b3 b4 b5
        simp only [DataW.lit.injEq, Lit.int.injEq, Lit.bool.injEq, Lit.string.injEq, true_and, and_true] at hD
        obtain ⟨e0, e1, e2, e3, e4, e5⟩ := hD
        have g0 := one_get (l := cs0.toList) (a := k * 6) (b := 0) a0 c9 (by decide)
        have g1 := one_get (l := cs0.toList) (a := k * 6) (b := 1) a1 c3 (by decide)
        have g2 := one_get (l := cs0.toList) (a := k * 6) (b := 2) a2 c3 (by decide)
        have g3 := one_get (l := cs0.toList) (a := k * 6) (b := 3) a3 c3 (by decide)
        have g4 := one_get (l := cs0.toList) (a := k * 6) (b := 4) a4 c4 (by decide)
        have g5 := one_get (l := cs0.toList) (a := k * 6) (b := 5) a5 c4 (by decide)
        have get : ∀ j x, cs0.toList[k * 6 + j]? = some x → W.cell? ⟨0, k * 6 + j, none⟩ = some x := fun j x hx => by
          rw [World.var?_cell hg0 hv0, ← hx, Array.getElem?_toList]
        refine ⟨k0, k4, k5, fun j x hx => get j x ?_⟩
        have hj : j < 6 := (List.getElem?_eq_some_iff.1 hx).1
        rw [← hx]
        unfold opCells
        rw [← e1, ← e2, ← e3]
        have h3 : j = 0 ∨ j = 1 ∨ j = 2 ∨ j = 3 ∨ j = 4 ∨ j = 5 := by omega
        rcases h3 with rfl | rfl | rfl | rfl | rfl | rfl
        · exact g0
        · exact g1
        · exact g2
        · exact g3
        · exact g4
        · exact g5
  refine ⟨?_, fun op hop => ?_⟩
  · obtain ⟨s, u, v, h0⟩ := each 0 (by decide)
    have w0 := h0 0 _ rfl
    rcases Nat.eq_zero_or_pos W.heap.size with hz | hz
    · unfold World.cell? at w0
      rw [Array.getElem?_eq_none (by omega)] at w0
      simp at w0
    · exact hz
  · exact each op hop
end Go.Proofs.YtpadpggdealgkaaDoorRRR
