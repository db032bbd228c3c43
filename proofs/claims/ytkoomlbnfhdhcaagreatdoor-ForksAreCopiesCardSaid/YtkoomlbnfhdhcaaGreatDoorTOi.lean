/-
  ForksAreCopies returns true for every image, number and list of bytes.
-/
import Derived.Test.YtkoomlbnfhdhcaaGreatDoorGf
import Derived.Test.YtkoomlbnfhdhcaaGreatDoorCards
import Derived.Test.YtkoomlbnfhdhcaaGreatDoorTie
import Derived.Test.YtkoomlbnfhdhcaaGreatDoorRow
import Derived.ProofKit
import Derived.LaidMore
import Derived.OpenShut
import Derived.ShutString
import Derived.Stop.Joined
import Derived.SevenTiedAt
import Derived.Lib.SmallJoins
import Derived.ChangeMaps5
namespace Go.Proofs.YtkoomlbnfhdhcaaGreatDoor
open Go.RowKit
set_option linter.unusedVariables false

theorem forks_any (w : World) (i : Img) (bf : Nat) (tv : Value) (l : List UInt8) (hbf : bf < 256) (hl : RdB w w.heap.size tv l) (ho : Ops w) (hu : Usg w) (h1 : 1 < w.heap.size) (hg : ∃ cs fr, w.heap[1]? = some (.cells cs 210 fr)) :
    Calls Tryz.prog 3 #[.agg (imgCells i), .int .u8 (bf : Int), tv] w fun e w' => e = .returned (.bool true) ∧ Below w.heap.size w w' := by
  by_cases hc : i.c.length ≤ 200
  · by_cases hd : i.d.length ≤ 200
    · by_cases hn : imgChk i = 0
      · exact forks_main w i bf tv l hu h1 hg ho hbf hl (imgChk_ok i hc hd hn)
      · exact forks_n w i bf tv hu h1 hg hc hd hn
    · exact forks_d w i bf tv hu h1 hg hc (by omega)
  · exact forks_c w i bf tv hu h1 hg (by omega)
end Go.Proofs.YtkoomlbnfhdhcaaGreatDoor

/-
  What the row's condition gives: the tables of operations and of usages; the image that the law is handed.
-/
namespace Go.Proofs.YtkoomlbnfhdhcaaGreatDoor
open Go.ChangeShapes Go.WideShapes Go.ChangeAt Go.RowKit
set_option linter.unusedVariables false

theorem ownNone : ownKnob Tryz.prog.godebug = none := by kernel_rfl
theorem gOps : Tryz.prog.globalNamed "replevin/instr.operations" = some 0 := by kernel_rfl
theorem tOps : (Tryz.prog.globals[0]?).map (·.type) = some 206 := by kernel_rfl
theorem gUsg : Tryz.prog.globalNamed "replevin/object.usages" = some 1 := by kernel_rfl
theorem tUsg : (Tryz.prog.globals[1]?).map (·.type) = some 210 := by kernel_rfl
/-- The variables that the row lists. -/
abbrev laidL : List (String × DataW Unit) := [("math/bits.deBruijn32tab", Rows.laid_math_bits_deBruijn32tab), ("math/bits.deBruijn64tab", Rows.laid_math_bits_deBruijn64tab), ("internal/strconv.uint64pow10", Rows.laid_internal_strconv_uint64pow10), ("replevin/instr.operations", Rows.laid_replevin_instr_operations), ("replevin/object.usages", Rows.laid_replevin_object_usages)]
/-- The door's own heap meets the condition. -/
theorem door_met (os : Os) (args : Array Value) : laidMetH Tryz.prog laidL ((World.doorLaid Tryz.prog 400 os).forCall (fun _ _ => 0) ⟨#[], args, []⟩).memory :=
  laidMetH_of_parts3 (fuel := 8) (laidMet_of_run' 8 (by kernel_rfl) (by kernel_rfl)) (by kernel_rfl) (by kernel_rfl)

def opD : List (DataW Unit) := match (Rows.laid_replevin_instr_operations : DataW Unit) with
  | .agg l => l
  | _ => []
theorem opD_eq : (Rows.laid_replevin_instr_operations : DataW Unit) = .agg opD := rfl
theorem opD_get (k : Nat) (hk : k < 27) : ∃ s u v, opD[k]? = some (.agg [.lit (.string s), .lit (.int .i64 ((opT k).1 : Nat)), .lit (.int .i64 (opT k).2.1), .lit (.int .i64 (opT k).2.2), .lit (.bool u), .lit (.bool v)]) := by
  have h3 : k = 0 ∨ k = 1 ∨ k = 2 ∨ k = 3 ∨ k = 4 ∨ k = 5 ∨ k = 6 ∨ k = 7 ∨ k = 8 ∨ k = 9 ∨ k = 10 ∨ k = 11 ∨ k = 12 ∨ k = 13 ∨ k = 14 ∨ k = 15 ∨ k = 16 ∨ k = 17 ∨ k = 18 ∨ k = 19 ∨ k = 20 ∨ k = 21 ∨ k = 22 ∨ k = 23 ∨ k = 24 ∨ k = 25 ∨ k = 26 := by omega
  rcases h3 with rfl | rfl | rfl | rfl | rfl | rfl | rfl | rfl | rfl | rfl | rfl | rfl | rfl | rfl | rfl | rfl | rfl | rfl | rfl | rfl | rfl | rfl | rfl | rfl | rfl | rfl | rfl
  all_goals exact ⟨_, _, _, rfl⟩
theorem take_drop_get {α : Type} (l : List α) (o n j : Nat) (hj : j < n) : ((l.drop o).take n)[j]? = l[o + j]? := by
  rw [List.getElem?_take_of_lt hj, List.getElem?_drop]
theorem one_get {l : List Value} {a b n : Nat} {v : Value} (h : ((((l.drop a).take 6).drop b).take n) = [v]) (hn : n = 1) (hb : b < 6) : l[a + b]? = some v := by
  subst hn
  have h0 : ((((l.drop a).take 6).drop b).take 1)[0]? = some v := by rw [h]; rfl
  rw [take_drop_get _ _ _ _ (by decide : 0 < 1), Nat.add_zero, take_drop_get _ _ _ _ hb] at h0
  exact h0
theorem c9' : Tryz.prog.cellsOf 9 = 1 := by kernel_rfl
theorem c3' : Tryz.prog.cellsOf 3 = 1 := by kernel_rfl
theorem c4' : Tryz.prog.cellsOf 4 = 1 := by kernel_rfl
theorem ops_of {W : World} {cs0 : Array Value} {f0 : Nat} {p0 : List MemPlace} (hv0 : W.var? Tryz.prog "replevin/instr.operations" = some cs0) (hd0 : DataW.trod (fun _ => ()) Tryz.prog W 0 (fun _ => true) false f0 206 cs0.toList = some (Rows.laid_replevin_instr_operations, p0)) : Ops W := by
  obtain ⟨xs, m1, hx0, hx1, hlen, hn, hel⟩ := DataW.trod_array Tryz.underlying206 hd0
  have c124 : Tryz.prog.cellsOf 205 = 6 := by kernel_rfl
  rw [opD_eq] at hx1
  simp only [Prod.mk.injEq, DataW.agg.injEq] at hx1
  have each : ∀ k, k < 27 → ∃ s u v, ∀ j x, (opCells k s u v)[j]? = some x → W.cell? ⟨0, k * 6 + j, none⟩ = some x := by
    intro k hk
    have h1 := hel k hk
    obtain ⟨s, u, v, hD⟩ := opD_get k hk
    rw [hx1.1, List.getElem?_map] at hD
    cases hxk : xs[k]? with
    | none => rw [hxk] at hD; cases hD
    | some y =>
      rw [hxk] at hD h1
      simp only [Option.map_some, Option.some.injEq] at hD
      rw [c124] at h1
      obtain ⟨ys, m2, rfl, hy, hlen2, hn2, hf⟩ := DataW.trod_struct Tryz.underlying205 h1
      rw [hy] at hD
      simp only [DataW.agg.injEq] at hD
      match ys, hn2, hD with
      | [y0, y1, y2, y3, y4, y5], _, hD =>
        simp only [List.map_cons, List.map_nil, List.cons.injEq] at hD
        obtain ⟨k0, a0, b0, _⟩ := DataW.trod_string (P := Tryz.prog) Tryz.underlying9 (show DataW.trod _ Tryz.prog W 0 _ _ m2 9 _ = some y0 from hf 0 _ rfl)
        obtain ⟨k1, a1, b1, _⟩ := DataW.trod_int (P := Tryz.prog) Tryz.underlying3 (show DataW.trod _ Tryz.prog W 0 _ _ m2 3 _ = some y1 from hf 1 _ rfl)
        obtain ⟨k2, a2, b2, _⟩ := DataW.trod_int (P := Tryz.prog) Tryz.underlying3 (show DataW.trod _ Tryz.prog W 0 _ _ m2 3 _ = some y2 from hf 2 _ rfl)
        obtain ⟨k3, a3, b3, _⟩ := DataW.trod_int (P := Tryz.prog) Tryz.underlying3 (show DataW.trod _ Tryz.prog W 0 _ _ m2 3 _ = some y3 from hf 3 _ rfl)
        obtain ⟨k4, a4, b4⟩ := DataW.trod_bool (P := Tryz.prog) Tryz.underlying4 (show DataW.trod _ Tryz.prog W 0 _ _ m2 4 _ = some y4 from hf 4 _ rfl)
        obtain ⟨k5, a5, b5⟩ := DataW.trod_bool (P := Tryz.prog) Tryz.underlying4 (show DataW.trod _ Tryz.prog W 0 _ _ m2 4 _ = some y5 from hf 5 _ rfl)
        subst b0 b1 b2 b3 b4 b5
        simp only [DataW.lit.injEq, Lit.int.injEq, Lit.bool.injEq, Lit.string.injEq, true_and, and_true] at hD
        obtain ⟨e0, e1, e2, e3, e4, e5⟩ := hD
        have g0 := one_get (l := cs0.toList) (a := k * 6) (b := 0) a0 c9' (by decide)
        have g1 := one_get (l := cs0.toList) (a := k * 6) (b := 1) a1 c3' (by decide)
        have g2 := one_get (l := cs0.toList) (a := k * 6) (b := 2) a2 c3' (by decide)
        have g3 := one_get (l := cs0.toList) (a := k * 6) (b := 3) a3 c3' (by decide)
        have g4 := one_get (l := cs0.toList) (a := k * 6) (b := 4) a4 c4' (by decide)
        have g5 := one_get (l := cs0.toList) (a := k * 6) (b := 5) a5 c4' (by decide)
        have get : ∀ j x, cs0.toList[k * 6 + j]? = some x → W.cell? ⟨0, k * 6 + j, none⟩ = some x := fun j x hx => by
          rw [World.var?_cell gOps hv0, ← hx, Array.getElem?_toList]
        refine ⟨k0, k4, k5, fun j x hx => get j x ?_⟩
        have hj : j < 6 := (List.getElem?_eq_some_iff.1 hx).1
        rw [← hx]
        unfold opCells
        rw [← e1, ← e2, ← e3]
        have h3 : j = 0 ∨ j = 1 ∨ j = 2 ∨ j = 3 ∨ j = 4 ∨ j = 5 := by omega
        rcases h3 with rfl | rfl | rfl | rfl | rfl | rfl
        · exact g0
        · exact g1
        · exact g2
        · exact g3
        · exact g4
        · exact g5
  refine ⟨?_, fun op hop => each op hop⟩
  obtain ⟨s, u, v, h0⟩ := each 0 (by decide)
  have w0 := h0 0 _ rfl
  rcases Nat.eq_zero_or_pos W.heap.size with hz | hz
  · unfold World.cell? at w0
    rw [Array.getElem?_eq_none (by omega)] at w0
    simp at w0
  · exact hz
def usD : List (DataW Unit) := match (Rows.laid_replevin_object_usages : DataW Unit) with
  | .agg l => l
  | _ => []
theorem usD_eq : (Rows.laid_replevin_object_usages : DataW Unit) = .agg usD := rfl
theorem usg_of {W : World} {cs0 : Array Value} {f0 : Nat} {p0 : List MemPlace} (hv0 : W.var? Tryz.prog "replevin/object.usages" = some cs0) (hd0 : DataW.trod (fun _ => ()) Tryz.prog W 0 (fun _ => true) false f0 210 cs0.toList = some (Rows.laid_replevin_object_usages, p0)) : Usg W := by
  obtain ⟨xs, m1, hx0, hx1, hlen, hn, hel⟩ := DataW.trod_array Tryz.underlying210 hd0
  have c124 : Tryz.prog.cellsOf 209 = 6 := by kernel_rfl
  rw [usD_eq] at hx1
  simp only [Prod.mk.injEq, DataW.agg.injEq] at hx1
  have each : ∀ k, k < 21 → ∀ s a b c d m, usD[k]? = some (.agg [.lit (.string s), .lit (.bool a), .lit (.bool b), .lit (.bool c), .lit (.bool d), .lit (.int .i64 m)]) → ∃ s', W.rangeAt 1 (k * 6) [.string s', .bool a, .bool b, .bool c, .bool d, .int .i64 m] := by
    intro k hk s a b c d m hD
    have h1 := hel k hk
    rw [hx1.1, List.getElem?_map] at hD
    cases hxk : xs[k]? with
    | none => rw [hxk] at hD; cases hD
    | some y =>
      rw [hxk] at hD h1
      simp only [Option.map_some, Option.some.injEq] at hD
      rw [c124] at h1
      obtain ⟨ys, m2, rfl, hy, hlen2, hn2, hf⟩ := DataW.trod_struct Tryz.underlying209 h1
      rw [hy] at hD
      simp only [DataW.agg.injEq] at hD
      match ys, hn2, hD with
      | [y0, y1, y2, y3, y4, y5], _, hD =>
        simp only [List.map_cons, List.map_nil, List.cons.injEq] at hD
        obtain ⟨k0, a0, b0, _⟩ := DataW.trod_string (P := Tryz.prog) Tryz.underlying9 (show DataW.trod _ Tryz.prog W 0 _ _ m2 9 _ = some y0 from hf 0 _ rfl)
        obtain ⟨k1, a1, b1⟩ := DataW.trod_bool (P := Tryz.prog) Tryz.underlying4 (show DataW.trod _ Tryz.prog W 0 _ _ m2 4 _ = some y1 from hf 1 _ rfl)
        obtain ⟨k2, a2, b2⟩ := DataW.trod_bool (P := Tryz.prog) Tryz.underlying4 (show DataW.trod _ Tryz.prog W 0 _ _ m2 4 _ = some y2 from hf 2 _ rfl)
        obtain ⟨k3, a3, b3⟩ := DataW.trod_bool (P := Tryz.prog) Tryz.underlying4 (show DataW.trod _ Tryz.prog W 0 _ _ m2 4 _ = some y3 from hf 3 _ rfl)
        obtain ⟨k4, a4, b4⟩ := DataW.trod_bool (P := Tryz.prog) Tryz.underlying4 (show DataW.trod _ Tryz.prog W 0 _ _ m2 4 _ = some y4 from hf 4 _ rfl)
        obtain ⟨k5, a5, b5, _⟩ := DataW.trod_int (P := Tryz.prog) Tryz.underlying3 (show DataW.trod _ Tryz.prog W 0 _ _ m2 3 _ = some y5 from hf 5 _ rfl)
        subst b0 b1 b2 b3 b4 b5
        simp only [DataW.lit.injEq, Lit.int.injEq, Lit.bool.injEq, Lit.string.injEq, true_and, and_true] at hD
        obtain ⟨e0, e1, e2, e3, e4, e5⟩ := hD
        have g0 := one_get (l := cs0.toList) (a := k * 6) (b := 0) a0 c9' (by decide)
        have g1 := one_get (l := cs0.toList) (a := k * 6) (b := 1) a1 c4' (by decide)
        have g2 := one_get (l := cs0.toList) (a := k * 6) (b := 2) a2 c4' (by decide)
        have g3 := one_get (l := cs0.toList) (a := k * 6) (b := 3) a3 c4' (by decide)
        have g4 := one_get (l := cs0.toList) (a := k * 6) (b := 4) a4 c4' (by decide)
        have g5 := one_get (l := cs0.toList) (a := k * 6) (b := 5) a5 c3' (by decide)
        have get : ∀ j x, cs0.toList[k * 6 + j]? = some x → W.cell? ⟨1, k * 6 + j, none⟩ = some x := fun j x hx => by
          rw [World.var?_cell gUsg hv0, ← hx, Array.getElem?_toList]
        refine ⟨k0, fun j x hx => get j x ?_⟩
        have hj : j < 6 := (List.getElem?_eq_some_iff.1 hx).1
        rw [← hx, ← e1, ← e2, ← e3, ← e4, ← e5]
        have h3 : j = 0 ∨ j = 1 ∨ j = 2 ∨ j = 3 ∨ j = 4 ∨ j = 5 := by omega
        rcases h3 with rfl | rfl | rfl | rfl | rfl | rfl
        · exact g0
        · exact g1
        · exact g2
        · exact g3
        · exact g4
        · exact g5
  obtain ⟨t1, r1⟩ := each 1 (by decide) _ _ _ _ _ _ rfl
  obtain ⟨t2, r2⟩ := each 2 (by decide) _ _ _ _ _ _ rfl
  obtain ⟨t3, r3⟩ := each 3 (by decide) _ _ _ _ _ _ rfl
  obtain ⟨t5, r5⟩ := each 5 (by decide) _ _ _ _ _ _ rfl
  obtain ⟨t20, r20⟩ := each 20 (by decide) _ _ _ _ _ _ rfl
  refine ⟨?_, fun k hk => ?_, ⟨t3, r3⟩, ⟨t20, _, r20⟩⟩
  · have w0 := r1 0 _ rfl
    rcases Nat.lt_or_ge 1 W.heap.size with hz | hz
    · exact hz
    · unfold World.cell? at w0
      rw [Array.getElem?_eq_none (by exact hz)] at w0
      simp at w0
  · rcases hk with rfl | rfl | rfl
    · exact ⟨t1, _, r1⟩
    · exact ⟨t2, _, r2⟩
    · exact ⟨t5, _, r5⟩
set_option maxRecDepth 100000 in
theorem tables_of_laid {W : World} (h : laidMetH Tryz.prog laidL W) : Ops W ∧ Usg W := by
  rw [MakeChecks.laidMetH_plain _ _ _ (by kernel_rfl)] at h
  obtain ⟨ps, h0, _⟩ := h
  obtain ⟨_, _, _, _, _, _, _, _, _, _, h1, _⟩ := h0
  obtain ⟨_, _, _, _, _, _, _, _, _, _, h2, _⟩ := h1
  obtain ⟨_, _, _, _, _, _, _, _, _, _, h3, _⟩ := h2
  obtain ⟨g3, t3, cs3, f3, p3, q3, hg3, ht3, hv3, hd3, h4, _⟩ := h3
  obtain ⟨g4, t4, cs4, f4, p4, q4, hg4, ht4, hv4, hd4, _⟩ := h4
  obtain rfl := Option.some.inj (gOps.symm.trans hg3)
  obtain rfl := Option.some.inj (tOps.symm.trans ht3)
  obtain rfl := Option.some.inj (gUsg.symm.trans hg4)
  obtain rfl := Option.some.inj (tUsg.symm.trans ht4)
  exact ⟨ops_of hv3 hd3, usg_of hv4 hd4⟩
theorem begin1 : (((begin Tryz.prog (fun _ _ => 0) default).world.heap[1]?).bind Obj.row?).map (·.2) = some 210 := by kernel_rfl
theorem nGlob : 1 < Tryz.prog.globals.size := by decide +kernel
theorem usages_block {W : World} (h : W.ShapedOpen Tryz.prog) : ∃ cs fr, W.heap[1]? = some (.cells cs 210 fr) := by
  cases hb : ((begin Tryz.prog (fun _ _ => 0) default).world.heap[1]?).bind Obj.row? with
  | none => have := begin1; rw [hb] at this; cases this
  | some x =>
    obtain ⟨zero, t⟩ := x
    have ht : t = 210 := by have := begin1; rw [hb] at this; exact Option.some.inj this
    subst ht
    obtain ⟨cs, hc, _⟩ := h.1 1 zero 210 nGlob hb
    exact ⟨cs, _, hc⟩
section
variable {H : Type} {enc : TypeId × Value → H} {W : World} {b0 : Nat} {held : Bool} {v : Value} {d : DataW H} {p : List MemPlace}
set_option maxRecDepth 100000 in
theorem open_img (hv : Value.okWide Tryz.prog W .any b0 23 v) (h : DataW.Trod enc Tryz.prog W 0 (fun _ => true) held 23 v d p) : ∃ i : Img, v = .agg (imgCells i) := by
  obtain ⟨v0, v1, v2, v3, y0, y1, y2, y3, n, rfl, _, _, h0, h1, h2, h3⟩ := Joins.open_agg4 (P := Tryz.prog) Tryz.underlying23 (by kernel_rfl) (by kernel_rfl) hv h
  obtain ⟨s, a0, _, _⟩ := DataW.trod_string (P := Tryz.prog) Tryz.underlying9 h0
  obtain ⟨t, a1, _, _⟩ := DataW.trod_string (P := Tryz.prog) Tryz.underlying9 h1
  obtain ⟨y, a2, _, w2⟩ := DataW.trod_int (P := Tryz.prog) Tryz.underlying3 h2
  obtain ⟨z, a3, _, w3⟩ := DataW.trod_int (P := Tryz.prog) Tryz.underlying3 h3
  simp only [List.cons.injEq, and_true] at a0 a1 a2 a3
  subst a0 a1 a2 a3
  exact ⟨⟨s.data.toList, t.data.toList, y, z⟩, by unfold imgCells; simp only [strL_data]⟩
end
theorem u8_nat {a : Int} (h : (Lit.int .u8 a).wf = true) : ∃ n : Nat, n < 256 ∧ a = n := by
  have := u8_of_wf h
  exact ⟨(UInt8.ofNat a.toNat).toNat, UInt8.toNat_lt _, this.symm⟩
theorem forks_row (W : World) (i : Img) (a : Int) (v : Value) (l : List UInt8) (ha : (Lit.int .u8 a).wf = true) (hl : RdB W W.heap.size v l) (ht : Ops W ∧ Usg W) (hs : W.ShapedOpen Tryz.prog) :
    Calls Tryz.prog 3 #[.agg (imgCells i), .int .u8 a, v] W fun e w' => e = .returned (.bool true) ∧ Below W.heap.size W w' := by
  obtain ⟨n, hn, rfl⟩ := u8_nat ha
  exact forks_any W i n v l hn hl ht.1 ht.2 ht.2.1 (usages_block hs)
end Go.Proofs.YtkoomlbnfhdhcaaGreatDoor
