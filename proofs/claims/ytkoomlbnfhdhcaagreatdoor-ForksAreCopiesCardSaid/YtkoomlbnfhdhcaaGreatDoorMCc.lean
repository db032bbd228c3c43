/-
  Walks: the effects that only turn registers, the rest. (genCpF.py prints this text.)
-/
import Derived.Test.YtkoomlbnfhdhcaaGreatDoorMCb
namespace Go.Proofs.YtkoomlbnfhdhcaaGreatDoor
open Go.RowKit
set_option linter.unusedVariables false
set_option linter.unusedSectionVars false

section
variable {w : World} {X sp ef : Nat} {g : Rg}
set_option maxRecDepth 100000 in
set_option maxHeartbeats 2000000 in
theorem sum_any (h : Blk w X 116 (mcells g sp ef)) (op k c : Int) (b : Nat) (hb : b < 8) : Calls Tryz.prog 127 #[.pointer (some ⟨X, 0, none⟩), insV op k b c] w fun e w' => e = .returned (.int .u32 (sumA g b c)) ∧ Below w.heap.size w w' := by
  have c0 : w.cell? ⟨X, b, none⟩ = some (.int .u32 (g.r b)) := (h.cell b).trans (mc_r g sp ef b hb)
  have hx := h.lt
  have hb1 : (b : Int) < 8 := by omega
  have HB := Lib.hid (((Below.refl w.heap.size w).alloc (Nat.le_refl _) (.cells #[.int .i64 op, .int .i64 k, .int .i64 b, .int .i64 c] 109)).drew)
  have c1 : (w.alloc (.cells #[.int .i64 op, .int .i64 k, .int .i64 b, .int .i64 c] 109)).cell? ⟨X, b, none⟩ = some (.int .u32 (g.r b)) := by rw [World.cell?_alloc_lt _ _ _ hx]; exact c0
  clear h
  unfold insV
  go_enter Tryz.func127, Tryz.ntmps127
  go_wp2_with fail
  refine wp_region_tail 12 (by kernel_rfl) (by kernel_rfl) ?_
  simp only [List.take_succ_cons, List.take_zero, List.drop_succ_cons, List.drop_zero]
  repeat still_step
  still_call (Calls.still (unsigned_any _ c))
  repeat still_step
  refine wpStill_nil ?_
  go_wp2_with fail
  go_ret
  exact ⟨rfl, HB.out⟩
set_option maxRecDepth 100000 in
set_option maxHeartbeats 2000000 in
theorem set_any (h : Blk w X 116 (mcells g sp ef)) (op b c : Int) (k : Nat) (hk : k < 8) : Calls Tryz.prog 79 #[.pointer (some ⟨X, 0, none⟩), insV op k b c] w (EffR w X sp ef (resA g k (c % 4294967296)) goOn) := by
  obtain ⟨i1, i2, i3, i4, i5⟩ := eff_in h #[.int .i64 op, .int .i64 k, .int .i64 b, .int .i64 c]
  unfold insV
  go_enter Tryz.func79, Tryz.ntmps79
  go_upto_region 1 with (fail)
  generalize ((w.alloc (.cells #[.int .i64 op, .int .i64 k, .int .i64 b, .int .i64 c] 109)).alloc (.cells #[.int .i64 0, .int .i64 0, .int .u32 0] 111)) = W0 at *
  have HI := Lib.hid i1
  have HE := Lib.hid i2
  have HX := Lib.hid i3
  have HB := Lib.hid i4
  have HW0 := Lib.hid i5
  have n1 := i3.ne_ i2 (by decide)
  have n2 := i3.ne_ i1 (by decide)
  have ci0 : W0.cell? ⟨w.heap.size, 0, none⟩ = some (.int .i64 op) := i1.cell 0
  have ci1 : W0.cell? ⟨w.heap.size, 1, none⟩ = some (.int .i64 k) := i1.cell 1
  have ci2 : W0.cell? ⟨w.heap.size, 2, none⟩ = some (.int .i64 b) := i1.cell 2
  have ci3 : W0.cell? ⟨w.heap.size, 3, none⟩ = some (.int .i64 c) := i1.cell 3
  clear i1 i2 i3 i4 i5 h
  refine wp_region_tail 5 (by kernel_rfl) (by kernel_rfl) ?_
  simp only [List.take_succ_cons, List.take_zero, List.drop_succ_cons, List.drop_zero]
  repeat still_step
  still_call (Calls.still (unsigned_any _ c))
  repeat still_step
  refine wpStill_nil ?_
  go_wp2_with fail
  refine (result_any HX.out.drew op b c _ k hk).mono ?_
  rintro e w2 ⟨rfl, hx2, hf2⟩
  have he2 := HE.out.drew.fr hf2 (by simpa using fun e => n1 e.symm)
  have HX2 := Lib.hid hx2
  have HF2 := Lib.hid hf2
  have hz2 := he2.lt
  clear hx2 hf2
  dsimp only
  go_wp2_with (refine wpList_store_blk rfl 111 (.tmp 4) (.tmp 10) rfl (w.heap.size + 1) rfl _ rfl he2 rfl infoEnd rfl ?_; intro w3 hk3 hf3)
  exact end_cell rfl rfl hk3 Tryz.underlying111 rfl infoEnd ⟨rfl, HX2.out.fr hf3 (by simpa using n1), ((Fr.of_below HB.out).drew.trans HF2.out (by simp)).trans hf3 (by simp)⟩
set_option maxRecDepth 100000 in
set_option maxHeartbeats 2000000 in
theorem high_any (h : Blk w X 116 (mcells g sp ef)) (op b c : Int) (k : Nat) (hk : k < 8) : Calls Tryz.prog 80 #[.pointer (some ⟨X, 0, none⟩), insV op k b c] w (EffR w X sp ef (resA g k (highV c (g.r k))) goOn) := by
  have hh : Hid (highV c (g.r k) = bits .or .u32 (c % 4294967296 * 65536 % 4294967296) (bits .and .u32 (g.r k) 65535)) := Lib.hid rfl
  obtain ⟨i1, i2, i3, i4, i5⟩ := eff_in h #[.int .i64 op, .int .i64 k, .int .i64 b, .int .i64 c]
  unfold insV
  go_enter Tryz.func80, Tryz.ntmps80
  go_upto_region 1 with (fail)
  generalize ((w.alloc (.cells #[.int .i64 op, .int .i64 k, .int .i64 b, .int .i64 c] 109)).alloc (.cells #[.int .i64 0, .int .i64 0, .int .u32 0] 111)) = W0 at *
  have HI := Lib.hid i1
  have HE := Lib.hid i2
  have HX := Lib.hid i3
  have HB := Lib.hid i4
  have HW0 := Lib.hid i5
  have n1 := i3.ne_ i2 (by decide)
  have n2 := i3.ne_ i1 (by decide)
  have ci0 : W0.cell? ⟨w.heap.size, 0, none⟩ = some (.int .i64 op) := i1.cell 0
  have ci1 : W0.cell? ⟨w.heap.size, 1, none⟩ = some (.int .i64 k) := i1.cell 1
  have ci2 : W0.cell? ⟨w.heap.size, 2, none⟩ = some (.int .i64 b) := i1.cell 2
  have ci3 : W0.cell? ⟨w.heap.size, 3, none⟩ = some (.int .i64 c) := i1.cell 3
  have cxk : W0.cell? ⟨X, k, none⟩ = some (.int .u32 (g.r k)) := (i3.cell k).trans (mc_r g sp ef k hk)
  have fxk := i3.frozen k
  have xk : (k : Int) < 8 := by omega
  clear i1 i2 i3 i4 i5 h
  refine wp_region_tail 16 (by kernel_rfl) (by kernel_rfl) ?_
  simp only [List.take_succ_cons, List.take_zero, List.drop_succ_cons, List.drop_zero]
  repeat still_step
  still_call (Calls.still (unsigned_any _ c))
  repeat still_step
  refine wpStill_nil ?_
  go_wp2_with fail
  rw [hh.out]
  refine (result_any HX.out.drew op b c _ k hk).mono ?_
  rintro e w2 ⟨rfl, hx2, hf2⟩
  have he2 := HE.out.drew.fr hf2 (by simpa using fun e => n1 e.symm)
  have HX2 := Lib.hid hx2
  have HF2 := Lib.hid hf2
  have hz2 := he2.lt
  clear hx2 hf2
  dsimp only
  go_wp2_with (refine wpList_store_blk rfl 111 (.tmp 4) (.tmp 21) rfl (w.heap.size + 1) rfl _ rfl he2 rfl infoEnd rfl ?_; intro w3 hk3 hf3)
  exact end_cell rfl rfl hk3 Tryz.underlying111 rfl infoEnd ⟨rfl, HX2.out.fr hf3 (by simpa using n1), ((Fr.of_below HB.out).drew.trans HF2.out (by simp)).trans hf3 (by simp)⟩
set_option maxRecDepth 100000 in
set_option maxHeartbeats 2000000 in
theorem jumpZero_any (h : Blk w X 116 (mcells g sp ef)) (op b c : Int) (k : Nat) (hk : k < 8) : Calls Tryz.prog 87 #[.pointer (some ⟨X, 0, none⟩), insV op k b c] w (EffR w X sp ef (jumpA g (g.r k == 0) c) goOn) := by
  obtain ⟨i1, i2, i3, i4, i5⟩ := eff_in h #[.int .i64 op, .int .i64 k, .int .i64 b, .int .i64 c]
  unfold insV
  go_enter Tryz.func87, Tryz.ntmps87
  go_upto_region 1 with (fail)
  generalize ((w.alloc (.cells #[.int .i64 op, .int .i64 k, .int .i64 b, .int .i64 c] 109)).alloc (.cells #[.int .i64 0, .int .i64 0, .int .u32 0] 111)) = W0 at *
  have HI := Lib.hid i1
  have HE := Lib.hid i2
  have HX := Lib.hid i3
  have HB := Lib.hid i4
  have HW0 := Lib.hid i5
  have n1 := i3.ne_ i2 (by decide)
  have n2 := i3.ne_ i1 (by decide)
  have ci0 : W0.cell? ⟨w.heap.size, 0, none⟩ = some (.int .i64 op) := i1.cell 0
  have ci1 : W0.cell? ⟨w.heap.size, 1, none⟩ = some (.int .i64 k) := i1.cell 1
  have ci2 : W0.cell? ⟨w.heap.size, 2, none⟩ = some (.int .i64 b) := i1.cell 2
  have ci3 : W0.cell? ⟨w.heap.size, 3, none⟩ = some (.int .i64 c) := i1.cell 3
  have cxk : W0.cell? ⟨X, k, none⟩ = some (.int .u32 (g.r k)) := (i3.cell k).trans (mc_r g sp ef k hk)
  have fxk := i3.frozen k
  have xk : (k : Int) < 8 := by omega
  clear i1 i2 i3 i4 i5 h
  refine wp_region_tail 11 (by kernel_rfl) (by kernel_rfl) ?_
  simp only [List.take_succ_cons, List.take_zero, List.drop_succ_cons, List.drop_zero]
  repeat still_step
  refine wpStill_nil ?_
  go_wp2_with fail
  refine (jumpIf_any HX.out.drew _ op k b c).mono ?_
  rintro e w2 ⟨rfl, hx2, hf2⟩
  have he2 := HE.out.drew.fr hf2 (by simpa using fun e => n1 e.symm)
  have HX2 := Lib.hid hx2
  have HF2 := Lib.hid hf2
  have hz2 := he2.lt
  clear hx2 hf2
  dsimp only
  go_wp2_with (refine wpList_store_blk rfl 111 (.tmp 4) (.tmp 16) rfl (w.heap.size + 1) rfl _ rfl he2 rfl infoEnd rfl ?_; intro w3 hk3 hf3)
  exact end_cell rfl rfl hk3 Tryz.underlying111 rfl infoEnd ⟨rfl, HX2.out.fr hf3 (by simpa using n1), ((Fr.of_below HB.out).drew.trans HF2.out (by simp)).trans hf3 (by simp)⟩
set_option maxRecDepth 100000 in
set_option maxHeartbeats 2000000 in
theorem jumpNot_any (h : Blk w X 116 (mcells g sp ef)) (op b c : Int) (k : Nat) (hk : k < 8) : Calls Tryz.prog 88 #[.pointer (some ⟨X, 0, none⟩), insV op k b c] w (EffR w X sp ef (jumpA g (g.r k != 0) c) goOn) := by
  obtain ⟨i1, i2, i3, i4, i5⟩ := eff_in h #[.int .i64 op, .int .i64 k, .int .i64 b, .int .i64 c]
  unfold insV
  go_enter Tryz.func88, Tryz.ntmps88
  go_upto_region 1 with (fail)
  generalize ((w.alloc (.cells #[.int .i64 op, .int .i64 k, .int .i64 b, .int .i64 c] 109)).alloc (.cells #[.int .i64 0, .int .i64 0, .int .u32 0] 111)) = W0 at *
  have HI := Lib.hid i1
  have HE := Lib.hid i2
  have HX := Lib.hid i3
  have HB := Lib.hid i4
  have HW0 := Lib.hid i5
  have n1 := i3.ne_ i2 (by decide)
  have n2 := i3.ne_ i1 (by decide)
  have ci0 : W0.cell? ⟨w.heap.size, 0, none⟩ = some (.int .i64 op) := i1.cell 0
  have ci1 : W0.cell? ⟨w.heap.size, 1, none⟩ = some (.int .i64 k) := i1.cell 1
  have ci2 : W0.cell? ⟨w.heap.size, 2, none⟩ = some (.int .i64 b) := i1.cell 2
  have ci3 : W0.cell? ⟨w.heap.size, 3, none⟩ = some (.int .i64 c) := i1.cell 3
  have cxk : W0.cell? ⟨X, k, none⟩ = some (.int .u32 (g.r k)) := (i3.cell k).trans (mc_r g sp ef k hk)
  have fxk := i3.frozen k
  have xk : (k : Int) < 8 := by omega
  clear i1 i2 i3 i4 i5 h
  refine wp_region_tail 11 (by kernel_rfl) (by kernel_rfl) ?_
  simp only [List.take_succ_cons, List.take_zero, List.drop_succ_cons, List.drop_zero]
  repeat still_step
  refine wpStill_nil ?_
  go_wp2_with fail
  refine (jumpIf_any HX.out.drew _ op k b c).mono ?_
  rintro e w2 ⟨rfl, hx2, hf2⟩
  have he2 := HE.out.drew.fr hf2 (by simpa using fun e => n1 e.symm)
  have HX2 := Lib.hid hx2
  have HF2 := Lib.hid hf2
  have hz2 := he2.lt
  clear hx2 hf2
  dsimp only
  go_wp2_with (refine wpList_store_blk rfl 111 (.tmp 4) (.tmp 16) rfl (w.heap.size + 1) rfl _ rfl he2 rfl infoEnd rfl ?_; intro w3 hk3 hf3)
  exact end_cell rfl rfl hk3 Tryz.underlying111 rfl infoEnd ⟨rfl, HX2.out.fr hf3 (by simpa using n1), ((Fr.of_below HB.out).drew.trans HF2.out (by simp)).trans hf3 (by simp)⟩
set_option maxRecDepth 100000 in
set_option maxHeartbeats 2000000 in
theorem jump_any (h : Blk w X 116 (mcells g sp ef)) (op k b c : Int) : Calls Tryz.prog 86 #[.pointer (some ⟨X, 0, none⟩), insV op k b c] w (EffR w X sp ef (jumpA g true c) goOn) := by
  obtain ⟨i1, i2, i3, i4, i5⟩ := eff_in h #[.int .i64 op, .int .i64 k, .int .i64 b, .int .i64 c]
  unfold insV
  go_enter Tryz.func86, Tryz.ntmps86
  go_upto_region 1 with (fail)
  generalize ((w.alloc (.cells #[.int .i64 op, .int .i64 k, .int .i64 b, .int .i64 c] 109)).alloc (.cells #[.int .i64 0, .int .i64 0, .int .u32 0] 111)) = W0 at *
  have HI := Lib.hid i1
  have HE := Lib.hid i2
  have HX := Lib.hid i3
  have HB := Lib.hid i4
  have HW0 := Lib.hid i5
  have n1 := i3.ne_ i2 (by decide)
  have n2 := i3.ne_ i1 (by decide)
  have ci0 : W0.cell? ⟨w.heap.size, 0, none⟩ = some (.int .i64 op) := i1.cell 0
  have ci1 : W0.cell? ⟨w.heap.size, 1, none⟩ = some (.int .i64 k) := i1.cell 1
  have ci2 : W0.cell? ⟨w.heap.size, 2, none⟩ = some (.int .i64 b) := i1.cell 2
  have ci3 : W0.cell? ⟨w.heap.size, 3, none⟩ = some (.int .i64 c) := i1.cell 3
  clear i1 i2 i3 i4 i5 h
  go_wp2_with fail
  refine (jumpIf_any HX.out true op k b c).mono ?_
  rintro e w2 ⟨rfl, hx2, hf2⟩
  have he2 := HE.out.fr hf2 (by simpa using fun e => n1 e.symm)
  have HX2 := Lib.hid hx2
  have HF2 := Lib.hid hf2
  have hz2 := he2.lt
  clear hx2 hf2
  dsimp only
  go_wp2_with (refine wpList_store_blk rfl 111 (.tmp 4) (.tmp 7) rfl (w.heap.size + 1) rfl _ rfl he2 rfl infoEnd rfl ?_; intro w3 hk3 hf3)
  exact end_cell rfl rfl hk3 Tryz.underlying111 rfl infoEnd ⟨rfl, HX2.out.fr hf3 (by simpa using n1), ((Fr.of_below HB.out).trans HF2.out (by simp)).trans hf3 (by simp)⟩
set_option maxRecDepth 100000 in
set_option maxHeartbeats 2000000 in
theorem call_any (h : Blk w X 116 (mcells g sp ef)) (op b c : Int) (k : Nat) (hk : k < 8) : Calls Tryz.prog 89 #[.pointer (some ⟨X, 0, none⟩), insV op k b c] w (EffR w X sp ef (jumpA { g with r := upd g.r k ((g.pc + 4) % 4294967296) } true c) goOn) := by
  obtain ⟨i1, i2, i3, i4, i5⟩ := eff_in h #[.int .i64 op, .int .i64 k, .int .i64 b, .int .i64 c]
  unfold insV
  go_enter Tryz.func89, Tryz.ntmps89
  go_upto_region 1 with (fail)
  generalize ((w.alloc (.cells #[.int .i64 op, .int .i64 k, .int .i64 b, .int .i64 c] 109)).alloc (.cells #[.int .i64 0, .int .i64 0, .int .u32 0] 111)) = W0 at *
  have HI := Lib.hid i1
  have HE := Lib.hid i2
  have HX := Lib.hid i3
  have HB := Lib.hid i4
  have HW0 := Lib.hid i5
  have n1 := i3.ne_ i2 (by decide)
  have n2 := i3.ne_ i1 (by decide)
  have ci0 : W0.cell? ⟨w.heap.size, 0, none⟩ = some (.int .i64 op) := i1.cell 0
  have ci1 : W0.cell? ⟨w.heap.size, 1, none⟩ = some (.int .i64 k) := i1.cell 1
  have ci2 : W0.cell? ⟨w.heap.size, 2, none⟩ = some (.int .i64 b) := i1.cell 2
  have ci3 : W0.cell? ⟨w.heap.size, 3, none⟩ = some (.int .i64 c) := i1.cell 3
  have cxk : W0.cell? ⟨X, k, none⟩ = some (.int .u32 (g.r k)) := (i3.cell k).trans (mc_r g sp ef k hk)
  have fxk := i3.frozen k
  have xk : (k : Int) < 8 := by omega
  have c8 : W0.cell? ⟨X, 8, none⟩ = some (.int .u32 g.pc) := (i3.cell 8).trans (mc_pc g sp ef)
  have f8 := i3.frozen 8
  have h2 := i3.set_ k (.int .u32 ((g.pc + 4) % 4294967296))
  rw [mc_set _ _ _ _ hk] at h2
  have H2 := Lib.hid h2
  have HF := Lib.hid ((Fr.of_below HB.out (L := [X])).setCell (p := ⟨X, k, none⟩) (.inl (by simp)) (.int .u32 ((g.pc + 4) % 4294967296)))
  have hE2 := i2.far (p := ⟨X, k, none⟩) (fun e => n1 e.symm) (.int .u32 ((g.pc + 4) % 4294967296))
  have hI2 := i1.far (p := ⟨X, k, none⟩) (fun e => n2 e.symm) (.int .u32 ((g.pc + 4) % 4294967296))
  have HE2 := Lib.hid hE2
  have d0 := hI2.cell 0
  have d1 := hI2.cell 1
  have d2 := hI2.cell 2
  have d3 := hI2.cell 3
  simp at d0 d1 d2 d3
  clear h2 hE2 hI2
  clear i1 i2 i3 i4 i5 h
  refine wp_region_tail 13 (by kernel_rfl) (by kernel_rfl) ?_
  simp only [List.take_succ_cons, List.take_zero, List.drop_succ_cons, List.drop_zero]
  repeat still_step
  refine wpStill_nil ?_
  go_wp2_with fail
  refine (jumpIf_any H2.out.drew true op k b c).mono ?_
  rintro e w2 ⟨rfl, hx2, hf2⟩
  have he2 := HE2.out.drew.fr hf2 (by simpa using fun e => n1 e.symm)
  have HX2 := Lib.hid hx2
  have HF2 := Lib.hid hf2
  clear hx2 hf2
  dsimp only
  go_wp2_with (refine wpList_store_blk rfl 111 (.tmp 4) (.tmp 20) rfl (w.heap.size + 1) rfl _ rfl he2 rfl infoEnd rfl ?_; intro w3 hk3 hf3)
  exact end_cell rfl rfl hk3 Tryz.underlying111 rfl infoEnd ⟨rfl, HX2.out.fr hf3 (by simpa using n1), (HF.out.drew.trans HF2.out (by simp)).trans hf3 (by simp)⟩
set_option maxRecDepth 100000 in
set_option maxHeartbeats 2000000 in
theorem back_any (h : Blk w X 116 (mcells g sp ef)) (op b c : Int) (k : Nat) (hk : k < 8) : Calls Tryz.prog 90 #[.pointer (some ⟨X, 0, none⟩), insV op k b c] w (EffR w X sp ef { g with pc := g.r k } goOn) := by
  obtain ⟨i1, i2, i3, i4, i5⟩ := eff_in h #[.int .i64 op, .int .i64 k, .int .i64 b, .int .i64 c]
  unfold insV
  go_enter Tryz.func90, Tryz.ntmps90
  go_upto_region 1 with (fail)
  generalize ((w.alloc (.cells #[.int .i64 op, .int .i64 k, .int .i64 b, .int .i64 c] 109)).alloc (.cells #[.int .i64 0, .int .i64 0, .int .u32 0] 111)) = W0 at *
  have HI := Lib.hid i1
  have HE := Lib.hid i2
  have HX := Lib.hid i3
  have HB := Lib.hid i4
  have HW0 := Lib.hid i5
  have n1 := i3.ne_ i2 (by decide)
  have n2 := i3.ne_ i1 (by decide)
  have ci0 : W0.cell? ⟨w.heap.size, 0, none⟩ = some (.int .i64 op) := i1.cell 0
  have ci1 : W0.cell? ⟨w.heap.size, 1, none⟩ = some (.int .i64 k) := i1.cell 1
  have ci2 : W0.cell? ⟨w.heap.size, 2, none⟩ = some (.int .i64 b) := i1.cell 2
  have ci3 : W0.cell? ⟨w.heap.size, 3, none⟩ = some (.int .i64 c) := i1.cell 3
  have cxk : W0.cell? ⟨X, k, none⟩ = some (.int .u32 (g.r k)) := (i3.cell k).trans (mc_r g sp ef k hk)
  have fxk := i3.frozen k
  have xk : (k : Int) < 8 := by omega
  have c8 : W0.cell? ⟨X, 8, none⟩ = some (.int .u32 g.pc) := (i3.cell 8).trans (mc_pc g sp ef)
  have f8 := i3.frozen 8
  have h2 := i3.set_ 8 (.int .u32 (g.r k))
  rw [mc_setpc] at h2
  have H2 := Lib.hid h2
  have HF := Lib.hid ((Fr.of_below HB.out (L := [X])).setCell (p := ⟨X, 8, none⟩) (.inl (by simp)) (.int .u32 (g.r k)))
  have HE2 := Lib.hid (i2.far (p := ⟨X, 8, none⟩) (fun e => n1 e.symm) (.int .u32 (g.r k)))
  clear h2
  clear i1 i2 i3 i4 i5 h
  refine wp_region_tail 12 (by kernel_rfl) (by kernel_rfl) ?_
  simp only [List.take_succ_cons, List.take_zero, List.drop_succ_cons, List.drop_zero]
  repeat still_step
  refine wpStill_nil ?_
  have he2 := HE2.out.drew
  go_wp2_with (refine wpList_store_blk rfl 111 (.tmp 4) (.tmp 17) rfl (w.heap.size + 1) rfl _ rfl he2 rfl infoEnd rfl ?_; intro w3 hk3 hf3)
  exact end_cell rfl rfl hk3 Tryz.underlying111 rfl infoEnd ⟨rfl, H2.out.drew.fr hf3 (by simpa using n1), HF.out.drew.trans hf3 (by simp)⟩
end
end Go.Proofs.YtkoomlbnfhdhcaaGreatDoor

/-
  Walks: calculate. (genCpG.py prints this text.)
-/
namespace Go.Proofs.YtkoomlbnfhdhcaaGreatDoor
open Go.RowKit
set_option linter.unusedVariables false
set_option linter.unusedSectionVars false

section
variable {w : World} {X sp ef : Nat} {g : Rg}
def calcG (g : Rg) (op k b cc : Nat) : Rg × End := if (calcR op (g.r b) (g.r cc)).2 = 0 then (resA g k (calcR op (g.r b) (g.r cc)).1, goOn) else (g, ⟨6, 0, 0⟩)
theorem calcR_two (op : Nat) (x y : Int) : (calcR op x y).2 = 0 ∨ (calcR op x y).2 = 38 := by
  unfold calcR
  split
  · exact .inr rfl
  · exact .inl rfl
set_option maxRecDepth 100000 in
set_option maxHeartbeats 2000000 in
theorem calculate_any (h : Blk w X 116 (mcells g sp ef)) (hg : g.Ok) (op k b c : Nat) (h4 : 4 ≤ op) (h15 : op ≤ 15) (hk : k < 8) (hb : b < 8) (hc : c < 8) : Calls Tryz.prog 92 #[.pointer (some ⟨X, 0, none⟩), insV op k b c] w (EffR w X sp ef (calcG g op k b c).1 (calcG g op k b c).2) := by
  obtain ⟨i1, i2, i3, i4, i5⟩ := eff_in h #[.int .i64 op, .int .i64 k, .int .i64 b, .int .i64 c]
  unfold insV
  go_enter Tryz.func92, Tryz.ntmps92
  go_upto_region 1 with (fail)
  generalize ((w.alloc (.cells #[.int .i64 op, .int .i64 k, .int .i64 b, .int .i64 c] 109)).alloc (.cells #[.int .i64 0, .int .i64 0, .int .u32 0] 111)) = W0 at *
  have HI := Lib.hid i1
  have HE := Lib.hid i2
  have HX := Lib.hid i3
  have HB := Lib.hid i4
  have HW0 := Lib.hid i5
  have n1 := i3.ne_ i2 (by decide)
  have n2 := i3.ne_ i1 (by decide)
  have ci0 : W0.cell? ⟨w.heap.size, 0, none⟩ = some (.int .i64 op) := i1.cell 0
  have ci1 : W0.cell? ⟨w.heap.size, 1, none⟩ = some (.int .i64 k) := i1.cell 1
  have ci2 : W0.cell? ⟨w.heap.size, 2, none⟩ = some (.int .i64 b) := i1.cell 2
  have ci3 : W0.cell? ⟨w.heap.size, 3, none⟩ = some (.int .i64 c) := i1.cell 3
  have cxb : W0.cell? ⟨X, b, none⟩ = some (.int .u32 (g.r b)) := (i3.cell b).trans (mc_r g sp ef b hb)
  have fxb := i3.frozen b
  have xb : (b : Int) < 8 := by omega
  have cxc : W0.cell? ⟨X, c, none⟩ = some (.int .u32 (g.r c)) := (i3.cell c).trans (mc_r g sp ef c hc)
  have fxc := i3.frozen c
  have xc : (c : Int) < 8 := by omega
  have HRD : Hid (∀ W, Below W0.drew.heap.size W0.drew W → W.cell? ⟨w.heap.size, 0, none⟩ = some (.int .i64 op) ∧ W.cell? ⟨w.heap.size, 2, none⟩ = some (.int .i64 b) ∧ W.cell? ⟨w.heap.size, 3, none⟩ = some (.int .i64 c) ∧ W.cell? ⟨X, b, none⟩ = some (.int .u32 (g.r b)) ∧ W.cell? ⟨X, c, none⟩ = some (.int .u32 (g.r c))) := Lib.hid fun W hW =>
    have j1 := i1.drew.below hW i1.lt
    have j3 := i3.drew.below hW i3.lt
    ⟨j1.cell 0, j1.cell 2, j1.cell 3, (j3.cell b).trans (mc_r g sp ef b hb), (j3.cell c).trans (mc_r g sp ef c hc)⟩
  have HCA := Lib.hid (calc_any W0.drew (g.r b) (g.r c) (hg.r0 b) (hg.r1 b) (hg.r0 c) (hg.r1 c) op h4 h15)
  have HT := Lib.hid (calcR_two op (g.r b) (g.r c))
  obtain ⟨R, hR⟩ : ∃ R, R = calcG g op k b c := ⟨_, rfl⟩
  have HR : Hid (R = if (calcR op (g.r b) (g.r c)).2 = 0 then (resA g k (calcR op (g.r b) (g.r c)).1, goOn) else (g, ⟨6, 0, 0⟩)) := Lib.hid hR
  have HR0 := Lib.hid hR
  clear hR
  clear i1 i2 i3 i4 i5 h
  refine wp_region_mixL (fun W => Below W0.drew.heap.size W0.drew W) [1, 4, 9, 12, 17, 18] [18] [0, 1, 2, 3, 4, 5, 6, 7, 8, 9, 10, 11, 12, 13, 14, 15, 16, 17, 18, 19, 20, 21, 22, 23] (by kernel_rfl) (by kernel_rfl) (Below.refl _ _) ?_
  simp only [inOrder, opAt]
  obtain ⟨Wd, hWd⟩ : ∃ Wd, Wd = W0.drew := ⟨_, rfl⟩
  have HWD := Lib.hid hWd
  rw [← hWd] at HRD HCA ⊢
  clear hWd ci0 ci1 ci2 ci3 cxb cxc
  iterate 18
    (refine wpMixS_read (v := ?_) rfl rfl (fun w' hS => ?_) ?_
     rotate_left
     · ((try (obtain ⟨s0, s2, s3, sb, sc⟩ := HRD.out w' (hS rfl))); (try clear hS); go_simp; (try with_reducible rfl))
     try simp only [Act.put, List.setIfInBounds_toArray, List.set_cons_zero, List.set_cons_succ])
  refine wpMixS_eff rfl rfl (fun K hK => ?_)
  go_simp
  refine HCA.out.mono ?_
  rintro e w1 ⟨rfl, nb⟩
  have HNB := Lib.hid nb
  clear nb HRD HCA
  generalize calcR op (g.r b) (g.r c) = V at *
  obtain ⟨v, er⟩ := V
  dsimp only at HT ⊢
  refine hK.out _ _ _ (fun _ h => h) (fun _ => HNB.out) ?_
  clear hK K
  try simp only [Act.put, List.setIfInBounds_toArray, List.set_cons_zero, List.set_cons_succ]
  iterate 5
    (refine wpMixS_read (v := ?_) rfl rfl (fun w' hS => ?_) ?_
     rotate_left
     · ((try clear hS); go_simp; (try with_reducible rfl))
     try simp only [Act.put, List.setIfInBounds_toArray, List.set_cons_zero, List.set_cons_succ])
  refine wpMixS_nil ?_
  have HE1 := Lib.hid (HE.out.drew.below (show Below W0.drew.heap.size W0.drew w1 by rw [← HWD.out]; exact HNB.out) HE.out.drew.lt)
  have HX1 := Lib.hid (HX.out.drew.below (show Below W0.drew.heap.size W0.drew w1 by rw [← HWD.out]; exact HNB.out) HX.out.drew.lt)
  have HI1 := Lib.hid (HI.out.drew.below (show Below W0.drew.heap.size W0.drew w1 by rw [← HWD.out]; exact HNB.out) HI.out.drew.lt)
  have HF1 : Hid (Fr [X] w w1) := Lib.hid ((Fr.of_below HB.out).drew.trans (Fr.of_below (L := []) (show Below W0.drew.heap.size W0.drew w1 by rw [← HWD.out]; exact HNB.out)) (by simp))
  have HZ : Hid (w.heap.size < w1.heap.size) := Lib.hid HI1.out.lt
  clear HNB HWD
  have d0 := HI1.out.cell 0
  have d1 := HI1.out.cell 1
  have d2 := HI1.out.cell 2
  have d3 := HI1.out.cell 3
  simp at d0 d1 d2 d3
  dsimp only at HR
  rcases HT.out with rfl | rfl
  · have HRV : Hid (R = (resA g k v, goOn)) := Lib.hid (HR.out.trans (if_pos rfl))
    clear HR HT
    go_wp2_with fail
    refine (result_any HX1.out op b c v k hk).mono ?_
    rintro e w2 ⟨rfl, hx2, hf2⟩
    have he2 := HE1.out.fr hf2 (by simpa using fun e => n1 e.symm)
    have HX2 := Lib.hid hx2
    have HF2 := Lib.hid hf2
    clear hx2 hf2
    dsimp only
    go_wp2_with (refine wpList_store_blk rfl 111 (.tmp 4) (.tmp 35) rfl (w.heap.size + 1) rfl _ rfl he2 rfl infoEnd rfl ?_; intro w3 hk3 hf3)
    refine end_cell rfl rfl hk3 Tryz.underlying111 rfl infoEnd ?_
    rw [← HR0.out, HRV.out]
    exact ⟨rfl, HX2.out.fr hf3 (by simpa using n1), (HF1.out.trans HF2.out (by simp)).trans hf3 (by simp)⟩
  · have HRV : Hid (R = (g, ⟨6, 0, 0⟩)) := Lib.hid (HR.out.trans (if_neg (by decide)))
    clear HR HT
    have he2 := HE1.out
    go_wp2_with (refine wpList_store_blk rfl 111 (.tmp 4) (.tmp 31) rfl (w.heap.size + 1) rfl _ rfl he2 rfl infoEnd rfl ?_; intro w3 hk3 hf3)
    refine end_cell rfl rfl hk3 Tryz.underlying111 rfl infoEnd ?_
    rw [← HR0.out, HRV.out]
    exact ⟨rfl, HX1.out.fr hf3 (by simpa using n1), HF1.out.trans hf3 (by simp)⟩
end
end Go.Proofs.YtkoomlbnfhdhcaaGreatDoor
