/-
  Walks: CpuErrors.
-/
import Derived.Test.YtpadpggdealgkaaDoorRRRMCf
namespace Go.Proofs.YtpadpggdealgkaaDoorRRR
open Go.RowKit
set_option linter.unusedVariables false
set_option linter.unusedSectionVars false
set_option linter.unusedSimpArgs false

theorem eq47 (W : World) : (binOp BinOp.eql 47 (.agg #[.int .u32 0, .int .u32 0, .int .u32 0, .int .u32 0, .int .u32 0, .int .u32 0, .int .u32 0, .int .u32 0, .int .u32 0, .int .i64 0, .int .i64 0, .int .u32 0, .int .i64 0]) (.agg #[.int .u32 0, .int .u32 0, .int .u32 0, .int .u32 0, .int .u32 0, .int .u32 0, .int .u32 0, .int .u32 0, .int .u32 0, .int .i64 0, .int .i64 0, .int .u32 0, .int .i64 0])).run Tryd.prog W = .ok (.bool true) W := by kernel_rfl
set_option maxRecDepth 100000 in
set_option maxHeartbeats 4000000 in
theorem cpuErrors_any (w : World) (g : Rg) (m : Int) (ho : Ops w) : Calls Tryd.prog 4 #[.agg g.vals.toArray, .int .i64 m] w fun e w' => e = .returned (.bool true) ∧ Below w.heap.size w w' := by
  have HOP := Lib.hid ho
  have hbx := Blk.new w 26 g.vals.toArray
  have hbl : Below w.heap.size w (w.alloc (.cells g.vals.toArray 26)) := (Below.refl _ _).alloc (Nat.le_refl _) _
  have hreg := fun w => registers_any w g
  have hrun := fun w => run_nil w g m
  have hstp := fun w => stepF_nil w g
  have hq := eq47
  unfold Rg.vals at hbx hbl hreg hrun hstp ⊢
  unfold zRes at hrun hstp
  have HBX := Lib.hid hbx
  have HBL := Lib.hid hbl
  have HREG := Lib.hid hreg
  have HRUN := Lib.hid hrun
  have HSTP := Lib.hid hstp
  clear ho hbx hbl hreg hrun hstp
  go_enter Tryd.func4, Tryd.ntmps4
  go_upto_region 1 with (fail)
  generalize w.alloc (.cells #[.int .u32 (g.r 0), .int .u32 (g.r 1), .int .u32 (g.r 2), .int .u32 (g.r 3), .int .u32 (g.r 4), .int .u32 (g.r 5), .int .u32 (g.r 6), .int .u32 (g.r 7), .int .u32 g.pc] 26) = W0 at *
  have cells : ∀ wr, Below W0.heap.size W0 wr → wr.cell? ⟨w.heap.size, 0, none⟩ = some (.int .u32 (g.r 0)) ∧ wr.cell? ⟨w.heap.size, 1, none⟩ = some (.int .u32 (g.r 1)) ∧ wr.cell? ⟨w.heap.size, 2, none⟩ = some (.int .u32 (g.r 2)) ∧ wr.cell? ⟨w.heap.size, 3, none⟩ = some (.int .u32 (g.r 3)) ∧ wr.cell? ⟨w.heap.size, 4, none⟩ = some (.int .u32 (g.r 4)) ∧ wr.cell? ⟨w.heap.size, 5, none⟩ = some (.int .u32 (g.r 5)) ∧ wr.cell? ⟨w.heap.size, 6, none⟩ = some (.int .u32 (g.r 6)) ∧ wr.cell? ⟨w.heap.size, 7, none⟩ = some (.int .u32 (g.r 7)) ∧ wr.cell? ⟨w.heap.size, 8, none⟩ = some (.int .u32 g.pc) := fun wr hb => by
    have h := HBX.out.below hb HBX.out.lt
    exact ⟨h.cell 0, h.cell 1, h.cell 2, h.cell 3, h.cell 4, h.cell 5, h.cell 6, h.cell 7, h.cell 8⟩
  have HC := Lib.hid cells
  obtain ⟨c0, c1, c2, c3, c4, c5, c6, c7, c8⟩ := cells W0 (Below.refl _ _)
  clear cells
  go_wp2_with fail
  refine (HREG.out _).mono ?_
  rintro e w1 ⟨rfl, nb⟩
  have HB1 : Hid (Below W0.heap.size W0 w1) := Lib.hid nb
  clear nb c0 c1 c2 c3 c4 c5 c6 c7 c8
  dsimp only
  go_wp2_with fail
  refine (HRUN.out _).mono ?_
  rintro e w2 ⟨rfl, nb⟩
  have HB2 : Hid (Below W0.heap.size W0 w2) := Lib.hid (HB1.out.trans (nb.mono HB1.out.size))
  clear nb HB1
  obtain ⟨w3, hw3⟩ : ∃ w3, w3 = w2.alloc (.cells #[.int .u32 0, .int .u32 0, .int .u32 0, .int .u32 0, .int .u32 0, .int .u32 0, .int .u32 0, .int .u32 0, .int .u32 0, .int .i64 0, .int .i64 0, .int .u32 0, .int .i64 0] 47) := ⟨_, rfl⟩
  have hk3 : Blk w3 w2.heap.size 47 #[.int .u32 0, .int .u32 0, .int .u32 0, .int .u32 0, .int .u32 0, .int .u32 0, .int .u32 0, .int .u32 0, .int .u32 0, .int .i64 0, .int .i64 0, .int .u32 0, .int .i64 0] := by rw [hw3]; exact Blk.new _ _ _
  have HB3 : Hid (Below W0.heap.size W0 w3) := Lib.hid (by rw [hw3]; exact HB2.out.alloc HB2.out.size _)
  have HK3 := Lib.hid hk3
  clear hk3 HB2
  obtain ⟨c0, c1, c2, c3, c4, c5, c6, c7, c8⟩ := HC.out w3 HB3.out
  dsimp only
  go_upto_region 2 with (fail)
  rw [← hw3]
  clear hw3
  go_wp2_with fail
  refine (HREG.out _).mono ?_
  rintro e w4 ⟨rfl, nb⟩
  have HB4 : Hid (Below W0.heap.size W0 w4) := Lib.hid (HB3.out.trans (nb.mono HB3.out.size))
  have HK4 := Lib.hid (HK3.out.below nb HK3.out.lt)
  clear nb HB3 HK3 c0 c1 c2 c3 c4 c5 c6 c7 c8
  dsimp only
  go_wp2_with fail
  refine (HSTP.out _).mono ?_
  rintro e w5 ⟨rfl, nb⟩
  have HB5 : Hid (Below W0.heap.size W0 w5) := Lib.hid (HB4.out.trans (nb.mono HB4.out.size))
  have HK5 := Lib.hid (HK4.out.below nb HK4.out.lt)
  clear nb HB4 HK4
  obtain ⟨w6, hw6⟩ : ∃ w6, w6 = w5.alloc (.cells #[.int .u32 0, .int .u32 0, .int .u32 0, .int .u32 0, .int .u32 0, .int .u32 0, .int .u32 0, .int .u32 0, .int .u32 0, .int .i64 0, .int .i64 0, .int .u32 0, .int .i64 0] 47) := ⟨_, rfl⟩
  have hk6 : Blk w6 w5.heap.size 47 #[.int .u32 0, .int .u32 0, .int .u32 0, .int .u32 0, .int .u32 0, .int .u32 0, .int .u32 0, .int .u32 0, .int .u32 0, .int .i64 0, .int .i64 0, .int .u32 0, .int .i64 0] := by rw [hw6]; exact Blk.new _ _ _
  have HB6 : Hid (Below W0.heap.size W0 w6) := Lib.hid (by rw [hw6]; exact HB5.out.alloc HB5.out.size _)
  have HK6 := Lib.hid hk6
  have HK7 : Hid (Blk w6 w2.heap.size 47 #[.int .u32 0, .int .u32 0, .int .u32 0, .int .u32 0, .int .u32 0, .int .u32 0, .int .u32 0, .int .u32 0, .int .u32 0, .int .i64 0, .int .i64 0, .int .u32 0, .int .i64 0]) := Lib.hid (by rw [hw6]; exact HK5.out.alloc _)
  clear hk6 HB5 HK5
  dsimp only
  go_upto_region 3 with (fail)
  rw [← hw6]
  clear hw6
  have HOP6 : Hid (Ops w6) := Lib.hid (HOP.out.belowS (HBL.out.trans (HB6.out.mono HBL.out.size)))
  go_wp2_with fail
  refine (known_any w6 HOP6.out).mono ?_
  rintro e w7 ⟨rfl, nb⟩
  have HB7 : Hid (Below w.heap.size w w7) := Lib.hid (HBL.out.trans ((HB6.out.trans (nb.mono HB6.out.size)).mono HBL.out.size))
  have hk1 := HK6.out.below nb HK6.out.lt
  have hk2 := HK7.out.below nb HK7.out.lt
  clear nb HB6
  have c0_0 : w7.cell? ⟨w2.heap.size, 0, none⟩ = some (.int .u32 0) := hk2.cell 0
  have c0_1 : w7.cell? ⟨w2.heap.size, 1, none⟩ = some (.int .u32 0) := hk2.cell 1
  have c0_2 : w7.cell? ⟨w2.heap.size, 2, none⟩ = some (.int .u32 0) := hk2.cell 2
  have c0_3 : w7.cell? ⟨w2.heap.size, 3, none⟩ = some (.int .u32 0) := hk2.cell 3
  have c0_4 : w7.cell? ⟨w2.heap.size, 4, none⟩ = some (.int .u32 0) := hk2.cell 4
  have c0_5 : w7.cell? ⟨w2.heap.size, 5, none⟩ = some (.int .u32 0) := hk2.cell 5
  have c0_6 : w7.cell? ⟨w2.heap.size, 6, none⟩ = some (.int .u32 0) := hk2.cell 6
  have c0_7 : w7.cell? ⟨w2.heap.size, 7, none⟩ = some (.int .u32 0) := hk2.cell 7
  have c0_8 : w7.cell? ⟨w2.heap.size, 8, none⟩ = some (.int .u32 0) := hk2.cell 8
  have c0_9 : w7.cell? ⟨w2.heap.size, 9, none⟩ = some (.int .i64 0) := hk2.cell 9
  have c0_10 : w7.cell? ⟨w2.heap.size, 10, none⟩ = some (.int .i64 0) := hk2.cell 10
  have c0_11 : w7.cell? ⟨w2.heap.size, 11, none⟩ = some (.int .u32 0) := hk2.cell 11
  have c0_12 : w7.cell? ⟨w2.heap.size, 12, none⟩ = some (.int .i64 0) := hk2.cell 12
  have c1_0 : w7.cell? ⟨w5.heap.size, 0, none⟩ = some (.int .u32 0) := hk1.cell 0
  have c1_1 : w7.cell? ⟨w5.heap.size, 1, none⟩ = some (.int .u32 0) := hk1.cell 1
  have c1_2 : w7.cell? ⟨w5.heap.size, 2, none⟩ = some (.int .u32 0) := hk1.cell 2
  have c1_3 : w7.cell? ⟨w5.heap.size, 3, none⟩ = some (.int .u32 0) := hk1.cell 3
  have c1_4 : w7.cell? ⟨w5.heap.size, 4, none⟩ = some (.int .u32 0) := hk1.cell 4
  have c1_5 : w7.cell? ⟨w5.heap.size, 5, none⟩ = some (.int .u32 0) := hk1.cell 5
  have c1_6 : w7.cell? ⟨w5.heap.size, 6, none⟩ = some (.int .u32 0) := hk1.cell 6
  have c1_7 : w7.cell? ⟨w5.heap.size, 7, none⟩ = some (.int .u32 0) := hk1.cell 7
  have c1_8 : w7.cell? ⟨w5.heap.size, 8, none⟩ = some (.int .u32 0) := hk1.cell 8
  have c1_9 : w7.cell? ⟨w5.heap.size, 9, none⟩ = some (.int .i64 0) := hk1.cell 9
  have c1_10 : w7.cell? ⟨w5.heap.size, 10, none⟩ = some (.int .i64 0) := hk1.cell 10
  have c1_11 : w7.cell? ⟨w5.heap.size, 11, none⟩ = some (.int .u32 0) := hk1.cell 11
  have c1_12 : w7.cell? ⟨w5.heap.size, 12, none⟩ = some (.int .i64 0) := hk1.cell 12
  dsimp only
  go_wp2_with fail
  go_ret
  exact ⟨rfl, HB7.out⟩
theorem cpuErrors_row (w : World) (g : Rg) (m : Int) (_ : g.Ok) (_ : (Lit.int .i64 m).wf = true) (ho : Ops w) : Calls Tryd.prog 4 #[.agg g.vals.toArray, .int .i64 m] w fun e w' => e = .returned (.bool true) ∧ Below w.heap.size w w' := cpuErrors_any w g m ho
end Go.Proofs.YtpadpggdealgkaaDoorRRR
