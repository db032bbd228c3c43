/-
  Walks: CpuRegisters.
-/
import Derived.Test.YtpadpggdealgkaaDoorRRRLawDecodes
import Derived.Test.YtpadpggdealgkaaDoorRRRMixT
namespace Go.Proofs.YtpadpggdealgkaaDoorRRR
open Go.RowKit
set_option linter.unusedVariables false
set_option linter.unusedSectionVars false
set_option linter.unusedSimpArgs false

theorem z44 (w : World) : (zeroValue 44).run Tryd.prog w = .ok (.agg #[.int .u32 0, .int .u32 0, .int .u32 0, .int .u32 0, .int .u32 0, .int .u32 0, .int .u32 0, .int .u32 0, .int .u32 0]) w := by kernel_rfl
theorem resume_ex (w : World) (g : Rg) (x : Int) (hg : g.Ok) : Calls Tryd.prog 23 #[.agg #[.int .u32 (g.r 0), .int .u32 (g.r 1), .int .u32 (g.r 2), .int .u32 (g.r 3), .int .u32 (g.r 4), .int .u32 (g.r 5), .int .u32 (g.r 6), .int .u32 (g.r 7), .int .u32 g.pc], .int .u32 x] w fun e w' => e = .returned (.agg #[.int .u32 x, .int .u32 (g.r 1), .int .u32 (g.r 2), .int .u32 (g.r 3), .int .u32 (g.r 4), .int .u32 (g.r 5), .int .u32 (g.r 6), .int .u32 (g.r 7), .int .u32 ((g.pc + 4) % 4294967296)]) ∧ Below w.heap.size w w' := resume_any w g x hg
theorem interrupt_ex (w : World) (g : Rg) (y : Int) (hg : g.Ok) : Calls Tryd.prog 24 #[.agg #[.int .u32 (g.r 0), .int .u32 (g.r 1), .int .u32 (g.r 2), .int .u32 (g.r 3), .int .u32 (g.r 4), .int .u32 (g.r 5), .int .u32 (g.r 6), .int .u32 (g.r 7), .int .u32 g.pc], .int .u32 y] w fun e w' => e = .returned (.agg #[.int .u32 (g.r 0), .int .u32 (g.r 1), .int .u32 (g.r 2), .int .u32 (g.r 3), .int .u32 (g.r 4), .int .u32 (g.r 5), .int .u32 (g.r 6), .int .u32 g.pc, .int .u32 y]) ∧ Below w.heap.size w w' := interrupt_any w g y hg
theorem encReg_ex (w : World) (g : Rg) (hg : g.Ok) : Calls Tryd.prog 22 #[.agg #[.int .u32 (g.r 0), .int .u32 (g.r 1), .int .u32 (g.r 2), .int .u32 (g.r 3), .int .u32 (g.r 4), .int .u32 (g.r 5), .int .u32 (g.r 6), .int .u32 (g.r 7), .int .u32 g.pc]] w fun e w' => e = .returned (.string (strL (encT g 9))) ∧ Below w.heap.size w w' := encReg_any w g hg
theorem refText_ex (w : World) (g : Rg) (hg : g.Ok) : Calls Tryd.prog 25 #[.agg #[.int .u32 (g.r 0), .int .u32 (g.r 1), .int .u32 (g.r 2), .int .u32 (g.r 3), .int .u32 (g.r 4), .int .u32 (g.r 5), .int .u32 (g.r 6), .int .u32 (g.r 7), .int .u32 g.pc]] w fun e w' => e = .returned (.string (strL (encT g 9))) ∧ Below w.heap.size w w' := refText_any w g hg
theorem decodeReg_ex (w : World) (g : Rg) (hg : g.Ok) : Calls Tryd.prog 21 #[.string (strL (encT g 9))] w fun e w' => e = .returned (.tuple #[.agg #[.int .u32 (g.r 0), .int .u32 (g.r 1), .int .u32 (g.r 2), .int .u32 (g.r 3), .int .u32 (g.r 4), .int .u32 (g.r 5), .int .u32 (g.r 6), .int .u32 (g.r 7), .int .u32 g.pc], .int .i64 0]) ∧ Below w.heap.size w w' := by
  have := decodeReg_any w (encT g 9) (encT_length g 9)
  rw [dec_enc_vals g hg] at this
  exact this
set_option maxRecDepth 100000 in
set_option maxHeartbeats 8000000 in
theorem cpuRegisters_any (w : World) (g : Rg) (x y : Int) (hg : g.Ok) (ho : Ops w) :
    Calls Tryd.prog 8 #[.agg g.vals.toArray, .int .u32 x, .int .u32 y] w fun e w' => e = .returned (.bool true) ∧ Below w.heap.size w w' := by
  have HRES := Lib.hid (fun W => resume_ex W g x hg)
  have HINT := Lib.hid (fun W => interrupt_ex W g y hg)
  have HENC := Lib.hid (fun W => encReg_ex W g hg)
  have HTXT := Lib.hid (fun W => refText_ex W g hg)
  have HDEC := Lib.hid (fun W => decodeReg_ex W g hg)
  have hreg := fun w => registers_any w g
  unfold Rg.vals at hreg ⊢
  have HREG := Lib.hid hreg
  have hp0 := hg.p0
  have hp1 := hg.p1
  have HB0 := Lib.hid (Blk.new w 26 #[.int .u32 (g.r 0), .int .u32 (g.r 1), .int .u32 (g.r 2), .int .u32 (g.r 3), .int .u32 (g.r 4), .int .u32 (g.r 5), .int .u32 (g.r 6), .int .u32 (g.r 7), .int .u32 g.pc])
  have HBL : Hid (Below w.heap.size w (w.alloc (.cells #[.int .u32 (g.r 0), .int .u32 (g.r 1), .int .u32 (g.r 2), .int .u32 (g.r 3), .int .u32 (g.r 4), .int .u32 (g.r 5), .int .u32 (g.r 6), .int .u32 (g.r 7), .int .u32 g.pc] 26))) := Lib.hid ((Below.refl _ _).alloc (Nat.le_refl _) _)
  have HOP := Lib.hid (ho.belowS HBL.out)
  clear hreg ho hg
  go_enter Tryd.func8, Tryd.ntmps8
  go_upto_region 1 with (fail)
  have hz0 : (w.alloc (.cells #[.int .u32 (g.r 0), .int .u32 (g.r 1), .int .u32 (g.r 2), .int .u32 (g.r 3), .int .u32 (g.r 4), .int .u32 (g.r 5), .int .u32 (g.r 6), .int .u32 (g.r 7), .int .u32 g.pc] 26)).heap.size = w.heap.size + 1 := by simp
  generalize w.alloc (.cells #[.int .u32 (g.r 0), .int .u32 (g.r 1), .int .u32 (g.r 2), .int .u32 (g.r 3), .int .u32 (g.r 4), .int .u32 (g.r 5), .int .u32 (g.r 6), .int .u32 (g.r 7), .int .u32 g.pc] 26) = W0 at *
  have HQL : Hid (∀ x, Below W0.heap.size W0 x → Below w.heap.size w x) := Lib.hid fun x h => HBL.out.trans (h.mono HBL.out.size)
  have c0 := HB0.out.cell 0
  have c1 := HB0.out.cell 1
  have c2 := HB0.out.cell 2
  have c3 := HB0.out.cell 3
  have c4 := HB0.out.cell 4
  have c5 := HB0.out.cell 5
  have c6 := HB0.out.cell 6
  have c7 := HB0.out.cell 7
  have c8 := HB0.out.cell 8
  simp at c0 c1 c2 c3 c4 c5 c6 c7 c8
  go_wp2_with fail
  refine (HREG.out _).mono ?_
  rintro e w1 ⟨rfl, nb⟩
  obtain ⟨b1, hb1⟩ : ∃ b1, b1 = w1.heap.size := ⟨_, rfl⟩
  obtain ⟨w2, hw2⟩ : ∃ w2, w2 = w1.alloc (.cells #[.int .u32 (g.r 0), .int .u32 (g.r 1), .int .u32 (g.r 2), .int .u32 (g.r 3), .int .u32 (g.r 4), .int .u32 (g.r 5), .int .u32 (g.r 6), .int .u32 (g.r 7), .int .u32 g.pc] 44) := ⟨_, rfl⟩
  have HN1 := Lib.hid hb1
  have H1 : Hid (Blk w2 b1 44 #[.int .u32 (g.r 0), .int .u32 (g.r 1), .int .u32 (g.r 2), .int .u32 (g.r 3), .int .u32 (g.r 4), .int .u32 (g.r 5), .int .u32 (g.r 6), .int .u32 (g.r 7), .int .u32 g.pc]) := Lib.hid (by rw [hw2, hb1]; exact Blk.new _ _ _)
  have HB2 : Hid (Below W0.heap.size W0 w2) := Lib.hid (by rw [hw2]; exact nb.alloc nb.size _)
  have hge1 : W0.heap.size ≤ b1 := by rw [hb1]; exact nb.size
  clear nb hb1
  dsimp only
  go_upto_region 2 with (fail)
  rw [← hw2, ← HN1.out]
  clear hw2
  have H1Wk : Hid (Blk w2.drew b1 44 #[.int .u32 (g.r 0), .int .u32 (g.r 1), .int .u32 (g.r 2), .int .u32 (g.r 3), .int .u32 (g.r 4), .int .u32 (g.r 5), .int .u32 (g.r 6), .int .u32 (g.r 7), .int .u32 g.pc]) := Lib.hid H1.out.drew
  have HB2d : Hid (Below W0.heap.size W0 w2.drew) := Lib.hid HB2.out.drew
  refine wp_cutR (fun a' w' => ∃ b2 b3, a' = ⟨#[.agg #[.int .u32 (g.r 0), .int .u32 (g.r 1), .int .u32 (g.r 2), .int .u32 (g.r 3), .int .u32 (g.r 4), .int .u32 (g.r 5), .int .u32 (g.r 6), .int .u32 (g.r 7), .int .u32 g.pc], .int .u32 x, .int .u32 y, .pointer (some ⟨w.heap.size, 0, none⟩), undef, undef, .bool false, .pointer (some ⟨b1, 0, none⟩), .pointer (some ⟨b2, 0, none⟩), .pointer (some ⟨b3, 0, none⟩), undef, undef, undef, undef, undef, .agg #[.int .u32 (g.r 0), .int .u32 (g.r 1), .int .u32 (g.r 2), .int .u32 (g.r 3), .int .u32 (g.r 4), .int .u32 (g.r 5), .int .u32 (g.r 6), .int .u32 (g.r 7), .int .u32 g.pc], .agg #[.int .u32 (g.r 0), .int .u32 (g.r 1), .int .u32 (g.r 2), .int .u32 (g.r 3), .int .u32 (g.r 4), .int .u32 (g.r 5), .int .u32 (g.r 6), .int .u32 (g.r 7), .int .u32 g.pc], .agg #[.int .u32 (g.r 0), .int .u32 (g.r 1), .int .u32 (g.r 2), .int .u32 (g.r 3), .int .u32 (g.r 4), .int .u32 (g.r 5), .int .u32 (g.r 6), .int .u32 (g.r 7), .int .u32 g.pc], .int .u32 x, .agg #[.int .u32 x, .int .u32 (g.r 1), .int .u32 (g.r 2), .int .u32 (g.r 3), .int .u32 (g.r 4), .int .u32 (g.r 5), .int .u32 (g.r 6), .int .u32 (g.r 7), .int .u32 ((g.pc + 4) % 4294967296)], .agg #[.int .u32 (g.r 0), .int .u32 (g.r 1), .int .u32 (g.r 2), .int .u32 (g.r 3), .int .u32 (g.r 4), .int .u32 (g.r 5), .int .u32 (g.r 6), .int .u32 (g.r 7), .int .u32 g.pc], .int .u32 y, .agg #[.int .u32 (g.r 0), .int .u32 (g.r 1), .int .u32 (g.r 2), .int .u32 (g.r 3), .int .u32 (g.r 4), .int .u32 (g.r 5), .int .u32 (g.r 6), .int .u32 g.pc, .int .u32 y], undef, undef, undef, undef, undef, undef, undef, undef, undef, undef, undef, undef, undef, undef, undef, undef, undef, undef, undef, undef, undef, undef, undef, undef, undef, undef, undef, undef, undef, undef, undef, undef, undef, undef, undef, undef, undef, undef, undef, undef, undef, undef, undef, undef, undef, undef, undef, undef], []⟩ ∧ Below w2.drew.heap.size w2.drew w' ∧ Blk w' b2 44 #[.int .u32 x, .int .u32 (g.r 1), .int .u32 (g.r 2), .int .u32 (g.r 3), .int .u32 (g.r 4), .int .u32 (g.r 5), .int .u32 (g.r 6), .int .u32 (g.r 7), .int .u32 ((g.pc + 4) % 4294967296)] ∧ Blk w' b3 44 #[.int .u32 (g.r 0), .int .u32 (g.r 1), .int .u32 (g.r 2), .int .u32 (g.r 3), .int .u32 (g.r 4), .int .u32 (g.r 5), .int .u32 (g.r 6), .int .u32 g.pc, .int .u32 y] ∧ Blk w' b1 44 #[.int .u32 (g.r 0), .int .u32 (g.r 1), .int .u32 (g.r 2), .int .u32 (g.r 3), .int .u32 (g.r 4), .int .u32 (g.r 5), .int .u32 (g.r 6), .int .u32 (g.r 7), .int .u32 g.pc]) ?_ ?_
  · refine wp_region_T (fun W => Below w2.drew.heap.size w2.drew W) [0, 1, 2, 3, 4, 5, 6, 7, 8] 10 rfl (by kernel_rfl) (by kernel_rfl) (Below.refl _ _) (fun htk => ?_)
    have HTK := Lib.hid htk
    clear htk
    generalize w2.drew = Wk at *
    have hb1w := H1Wk.out.lt
    have HRD : Hid (∀ W, Below Wk.heap.size Wk W → Blk W b1 44 #[.int .u32 (g.r 0), .int .u32 (g.r 1), .int .u32 (g.r 2), .int .u32 (g.r 3), .int .u32 (g.r 4), .int .u32 (g.r 5), .int .u32 (g.r 6), .int .u32 (g.r 7), .int .u32 g.pc]) := Lib.hid fun W hb => Blk.below H1Wk.out hb H1Wk.out.lt
    have HQWk : Hid (Below Wk.heap.size Wk Wk) := Lib.hid (Below.refl _ _)
    clear H1 HB2 HB2d
    refine wpT_read HTK.out 0 (by decide) (by kernel_rfl) (by simp only [opAt]; rfl) (v := ?_) rfl (fun w' hS => ?_) ?_
    rotate_left
    · ((try (have s := HRD.out w' (hS rfl); have s0 := s.cell 0; have s1 := s.cell 1; have s2 := s.cell 2; have s3 := s.cell 3; have s4 := s.cell 4; have s5 := s.cell 5; have s6 := s.cell 6; have s7 := s.cell 7; have s8 := s.cell 8; simp at s0 s1 s2 s3 s4 s5 s6 s7 s8; clear s)); (try clear hS); go_simp; (try with_reducible rfl))
    try simp only [Act.put, List.setIfInBounds_toArray, List.set_cons_zero, List.set_cons_succ]
    refine wpT_read HTK.out 1 (by decide) (by kernel_rfl) (by simp only [opAt]; rfl) (v := ?_) rfl (fun w' hS => ?_) ?_
    rotate_left
    · ((try (have s := HRD.out w' (hS rfl); have s0 := s.cell 0; have s1 := s.cell 1; have s2 := s.cell 2; have s3 := s.cell 3; have s4 := s.cell 4; have s5 := s.cell 5; have s6 := s.cell 6; have s7 := s.cell 7; have s8 := s.cell 8; simp at s0 s1 s2 s3 s4 s5 s6 s7 s8; clear s)); (try clear hS); go_simp; (try with_reducible rfl))
    try simp only [Act.put, List.setIfInBounds_toArray, List.set_cons_zero, List.set_cons_succ]
    refine wpT_read HTK.out 3 (by decide) (by kernel_rfl) (by simp only [opAt]; rfl) (v := ?_) rfl (fun w' hS => ?_) ?_
    rotate_left
    · ((try (have s := HRD.out w' (hS rfl); have s0 := s.cell 0; have s1 := s.cell 1; have s2 := s.cell 2; have s3 := s.cell 3; have s4 := s.cell 4; have s5 := s.cell 5; have s6 := s.cell 6; have s7 := s.cell 7; have s8 := s.cell 8; simp at s0 s1 s2 s3 s4 s5 s6 s7 s8; clear s)); (try clear hS); go_simp; (try with_reducible rfl))
    try simp only [Act.put, List.setIfInBounds_toArray, List.set_cons_zero, List.set_cons_succ]
    refine wpT_read HTK.out 4 (by decide) (by kernel_rfl) (by simp only [opAt]; rfl) (v := ?_) rfl (fun w' hS => ?_) ?_
    rotate_left
    · ((try (have s := HRD.out w' (hS rfl); have s0 := s.cell 0; have s1 := s.cell 1; have s2 := s.cell 2; have s3 := s.cell 3; have s4 := s.cell 4; have s5 := s.cell 5; have s6 := s.cell 6; have s7 := s.cell 7; have s8 := s.cell 8; simp at s0 s1 s2 s3 s4 s5 s6 s7 s8; clear s)); (try clear hS); go_simp; (try with_reducible rfl))
    try simp only [Act.put, List.setIfInBounds_toArray, List.set_cons_zero, List.set_cons_succ]
    refine wpT_br [2, 6, 7] (by kernel_rfl) rfl (List.forall_mem_cons.2 ⟨?_, List.forall_mem_cons.2 ⟨?_, List.forall_mem_cons.2 ⟨?_, fun _ h => (by cases h)⟩⟩⟩)
    · refine wpT_eff HTK.out 2 (by decide) (by kernel_rfl) (by simp only [opAt]; rfl) rfl (fun K hK => ?_)
      go_simp
      refine (HRES.out _).mono ?_
      rintro e v1 ⟨rfl, nb⟩
      have HQv1 := Lib.hid (HQWk.out.trans (nb.mono HQWk.out.size))
      have H1v1 := Lib.hid (H1Wk.out.below nb H1Wk.out.lt)
      clear nb
      dsimp only
      refine hK.out _ _ _ (fun _ h => h) (fun _ => HQv1.out) ?_
      clear hK K
      try simp only [Act.put, List.setIfInBounds_toArray, List.set_cons_zero, List.set_cons_succ]
      refine wpT_br [5, 6, 7] (by kernel_rfl) rfl (List.forall_mem_cons.2 ⟨?_, List.forall_mem_cons.2 ⟨?_, List.forall_mem_cons.2 ⟨?_, fun _ h => (by cases h)⟩⟩⟩)
      · refine wpT_eff HTK.out 5 (by decide) (by kernel_rfl) (by simp only [opAt]; rfl) rfl (fun K hK => ?_)
        go_simp
        refine (HINT.out _).mono ?_
        rintro e v2 ⟨rfl, nb⟩
        have HQv2 := Lib.hid (HQv1.out.trans (nb.mono HQv1.out.size))
        have H1v2 := Lib.hid (H1v1.out.below nb H1v1.out.lt)
        clear nb
        dsimp only
        refine hK.out _ _ _ (fun _ h => h) (fun _ => HQv2.out) ?_
        clear hK K
        try simp only [Act.put, List.setIfInBounds_toArray, List.set_cons_zero, List.set_cons_succ]
        refine wpT_br [6, 7] (by kernel_rfl) rfl (List.forall_mem_cons.2 ⟨?_, List.forall_mem_cons.2 ⟨?_, fun _ h => (by cases h)⟩⟩)
        · refine wpT_eff HTK.out 6 (by decide) (by kernel_rfl) (by simp only [opAt]; rfl) rfl (fun K hK => ?_)
          have hz := z44
          obtain ⟨v3, hv3⟩ : ∃ v3, v3 = v2.alloc (.cells #[.int .u32 0, .int .u32 0, .int .u32 0, .int .u32 0, .int .u32 0, .int .u32 0, .int .u32 0, .int .u32 0, .int .u32 0] 44) := ⟨_, rfl⟩
          obtain ⟨b2, hb2⟩ : ∃ b2, b2 = v2.heap.size := ⟨_, rfl⟩
          go_simp
          rw [← hv3, ← hb2]
          have nb : Below v2.heap.size v2 v3 := by rw [hv3]; exact (Below.refl _ _).alloc (Nat.le_refl _) _
          have HQv3 := Lib.hid (HQv2.out.trans (nb.mono HQv2.out.size))
          have H1v3 := Lib.hid (H1v2.out.below nb H1v2.out.lt)
          have F2v3 : Hid (Blk v3 b2 44 #[.int .u32 0, .int .u32 0, .int .u32 0, .int .u32 0, .int .u32 0, .int .u32 0, .int .u32 0, .int .u32 0, .int .u32 0]) := Lib.hid (by rw [hv3, hb2]; exact Blk.new _ _ _)
          have hgeb2 : Wk.heap.size ≤ b2 := by rw [hb2]; exact HQv2.out.size
          clear nb hz hv3 hb2
          refine hK.out _ _ _ (fun _ h => h) (fun _ => HQv3.out) ?_
          clear hK K
          try simp only [Act.put, List.setIfInBounds_toArray, List.set_cons_zero, List.set_cons_succ]
          refine wpT_br [7] (by kernel_rfl) rfl (List.forall_mem_cons.2 ⟨?_, fun _ h => (by cases h)⟩)
          · refine wpT_eff HTK.out 7 (by decide) (by kernel_rfl) (by simp only [opAt]; rfl) rfl (fun K hK => ?_)
            have hz := z44
            obtain ⟨v4, hv4⟩ : ∃ v4, v4 = v3.alloc (.cells #[.int .u32 0, .int .u32 0, .int .u32 0, .int .u32 0, .int .u32 0, .int .u32 0, .int .u32 0, .int .u32 0, .int .u32 0] 44) := ⟨_, rfl⟩
            obtain ⟨b3, hb3⟩ : ∃ b3, b3 = v3.heap.size := ⟨_, rfl⟩
            go_simp
            rw [← hv4, ← hb3]
            have nb : Below v3.heap.size v3 v4 := by rw [hv4]; exact (Below.refl _ _).alloc (Nat.le_refl _) _
            have HQv4 := Lib.hid (HQv3.out.trans (nb.mono HQv3.out.size))
            have F2v4 := Lib.hid (F2v3.out.below nb F2v3.out.lt)
            have H1v4 := Lib.hid (H1v3.out.below nb H1v3.out.lt)
            have F3v4 : Hid (Blk v4 b3 44 #[.int .u32 0, .int .u32 0, .int .u32 0, .int .u32 0, .int .u32 0, .int .u32 0, .int .u32 0, .int .u32 0, .int .u32 0]) := Lib.hid (by rw [hv4, hb3]; exact Blk.new _ _ _)
            have hne : b2 ≠ b3 := by have := F2v3.out.lt; omega
            have hgeb3 : Wk.heap.size ≤ b3 := by rw [hb3]; exact HQv3.out.size
            clear nb hz hv4 hb3
            refine hK.out _ _ _ (fun _ h => h) (fun _ => HQv4.out) ?_
            clear hK K
            try simp only [Act.put, List.setIfInBounds_toArray, List.set_cons_zero, List.set_cons_succ]
            refine wpT_br [8] (by kernel_rfl) rfl (List.forall_mem_cons.2 ⟨?_, fun _ h => (by cases h)⟩)
            · refine wpT_eff HTK.out 8 (by decide) (by kernel_rfl) (by simp only [opAt]; rfl) rfl (fun K hK => ?_)
              refine wp_store_blk 44 (.tmp 8) (.tmp 19) rfl b2 rfl #[.int .u32 x, .int .u32 (g.r 1), .int .u32 (g.r 2), .int .u32 (g.r 3), .int .u32 (g.r 4), .int .u32 (g.r 5), .int .u32 (g.r 6), .int .u32 (g.r 7), .int .u32 ((g.pc + 4) % 4294967296)] rfl F2v4.out rfl info44a rfl ?_
              intro v5 hk hf
              have HQv5 : Hid (Below Wk.heap.size Wk v5) := Lib.hid (belowFr HQv4.out hf hgeb2 (Nat.le_refl _))
              have F2v5 := Lib.hid hk
              have F3v5 := Lib.hid (F3v4.out.fr hf (by simp; omega))
              have H1v5 := Lib.hid (H1v4.out.fr hf (by simp; omega))
              clear hk hf
              refine hK.out _ _ _ (fun _ h => h) (fun _ => HQv5.out) ?_
              clear hK K
              try simp only [Act.put, List.setIfInBounds_toArray, List.set_cons_zero, List.set_cons_succ]
              refine wpT_br [9] (by kernel_rfl) rfl (List.forall_mem_cons.2 ⟨?_, fun _ h => (by cases h)⟩)
              · refine wpT_eff HTK.out 9 (by decide) (by kernel_rfl) (by simp only [opAt]; rfl) rfl (fun K hK => ?_)
                refine wp_store_blk 44 (.tmp 9) (.tmp 22) rfl b3 rfl #[.int .u32 (g.r 0), .int .u32 (g.r 1), .int .u32 (g.r 2), .int .u32 (g.r 3), .int .u32 (g.r 4), .int .u32 (g.r 5), .int .u32 (g.r 6), .int .u32 g.pc, .int .u32 y] rfl F3v5.out rfl info44a rfl ?_
                intro v6 hk hf
                have HQv6 : Hid (Below Wk.heap.size Wk v6) := Lib.hid (belowFr HQv5.out hf hgeb3 (Nat.le_refl _))
                have F3v6 := Lib.hid hk
                have F2v6 := Lib.hid (F2v5.out.fr hf (by simp; omega))
                have H1v6 := Lib.hid (H1v5.out.fr hf (by simp; omega))
                clear hk hf
                refine hK.out _ _ _ (fun _ h => h) (fun _ => HQv6.out) ?_
                clear hK K
                try simp only [Act.put, List.setIfInBounds_toArray, List.set_cons_zero, List.set_cons_succ]
                refine wpT_nil (by kernel_rfl) ?_
                exact ⟨rfl, b2, b3, rfl, HQv6.out, F2v6.out, F3v6.out, H1v6.out⟩
        · refine wpT_eff HTK.out 7 (by decide) (by kernel_rfl) (by simp only [opAt]; rfl) rfl (fun K hK => ?_)
          have hz := z44
          obtain ⟨v7, hv7⟩ : ∃ v7, v7 = v2.alloc (.cells #[.int .u32 0, .int .u32 0, .int .u32 0, .int .u32 0, .int .u32 0, .int .u32 0, .int .u32 0, .int .u32 0, .int .u32 0] 44) := ⟨_, rfl⟩
          obtain ⟨b3, hb3⟩ : ∃ b3, b3 = v2.heap.size := ⟨_, rfl⟩
          go_simp
          rw [← hv7, ← hb3]
          have nb : Below v2.heap.size v2 v7 := by rw [hv7]; exact (Below.refl _ _).alloc (Nat.le_refl _) _
          have HQv7 := Lib.hid (HQv2.out.trans (nb.mono HQv2.out.size))
          have H1v7 := Lib.hid (H1v2.out.below nb H1v2.out.lt)
          have F3v7 : Hid (Blk v7 b3 44 #[.int .u32 0, .int .u32 0, .int .u32 0, .int .u32 0, .int .u32 0, .int .u32 0, .int .u32 0, .int .u32 0, .int .u32 0]) := Lib.hid (by rw [hv7, hb3]; exact Blk.new _ _ _)
          have hgeb3 : Wk.heap.size ≤ b3 := by rw [hb3]; exact HQv2.out.size
          clear nb hz hv7 hb3
          refine hK.out _ _ _ (fun _ h => h) (fun _ => HQv7.out) ?_
          clear hK K
          try simp only [Act.put, List.setIfInBounds_toArray, List.set_cons_zero, List.set_cons_succ]
          refine wpT_br [6] (by kernel_rfl) rfl (List.forall_mem_cons.2 ⟨?_, fun _ h => (by cases h)⟩)
          · refine wpT_eff HTK.out 6 (by decide) (by kernel_rfl) (by simp only [opAt]; rfl) rfl (fun K hK => ?_)
            have hz := z44
            obtain ⟨v8, hv8⟩ : ∃ v8, v8 = v7.alloc (.cells #[.int .u32 0, .int .u32 0, .int .u32 0, .int .u32 0, .int .u32 0, .int .u32 0, .int .u32 0, .int .u32 0, .int .u32 0] 44) := ⟨_, rfl⟩
            obtain ⟨b2, hb2⟩ : ∃ b2, b2 = v7.heap.size := ⟨_, rfl⟩
            go_simp
            rw [← hv8, ← hb2]
            have nb : Below v7.heap.size v7 v8 := by rw [hv8]; exact (Below.refl _ _).alloc (Nat.le_refl _) _
            have HQv8 := Lib.hid (HQv7.out.trans (nb.mono HQv7.out.size))
            have F3v8 := Lib.hid (F3v7.out.below nb F3v7.out.lt)
            have H1v8 := Lib.hid (H1v7.out.below nb H1v7.out.lt)
            have F2v8 : Hid (Blk v8 b2 44 #[.int .u32 0, .int .u32 0, .int .u32 0, .int .u32 0, .int .u32 0, .int .u32 0, .int .u32 0, .int .u32 0, .int .u32 0]) := Lib.hid (by rw [hv8, hb2]; exact Blk.new _ _ _)
            have hne : b2 ≠ b3 := by have := F3v7.out.lt; omega
            have hgeb2 : Wk.heap.size ≤ b2 := by rw [hb2]; exact HQv7.out.size
            clear nb hz hv8 hb2
            refine hK.out _ _ _ (fun _ h => h) (fun _ => HQv8.out) ?_
            clear hK K
            try simp only [Act.put, List.setIfInBounds_toArray, List.set_cons_zero, List.set_cons_succ]
            refine wpT_br [8] (by kernel_rfl) rfl (List.forall_mem_cons.2 ⟨?_, fun _ h => (by cases h)⟩)
            · refine wpT_eff HTK.out 8 (by decide) (by kernel_rfl) (by simp only [opAt]; rfl) rfl (fun K hK => ?_)
              refine wp_store_blk 44 (.tmp 8) (.tmp 19) rfl b2 rfl #[.int .u32 x, .int .u32 (g.r 1), .int .u32 (g.r 2), .int .u32 (g.r 3), .int .u32 (g.r 4), .int .u32 (g.r 5), .int .u32 (g.r 6), .int .u32 (g.r 7), .int .u32 ((g.pc + 4) % 4294967296)] rfl F2v8.out rfl info44a rfl ?_
              intro v9 hk hf
              have HQv9 : Hid (Below Wk.heap.size Wk v9) := Lib.hid (belowFr HQv8.out hf hgeb2 (Nat.le_refl _))
              have F2v9 := Lib.hid hk
              have F3v9 := Lib.hid (F3v8.out.fr hf (by simp; omega))
              have H1v9 := Lib.hid (H1v8.out.fr hf (by simp; omega))
              clear hk hf
              refine hK.out _ _ _ (fun _ h => h) (fun _ => HQv9.out) ?_
              clear hK K
              try simp only [Act.put, List.setIfInBounds_toArray, List.set_cons_zero, List.set_cons_succ]
              refine wpT_br [9] (by kernel_rfl) rfl (List.forall_mem_cons.2 ⟨?_, fun _ h => (by cases h)⟩)
              · refine wpT_eff HTK.out 9 (by decide) (by kernel_rfl) (by simp only [opAt]; rfl) rfl (fun K hK => ?_)
                refine wp_store_blk 44 (.tmp 9) (.tmp 22) rfl b3 rfl #[.int .u32 (g.r 0), .int .u32 (g.r 1), .int .u32 (g.r 2), .int .u32 (g.r 3), .int .u32 (g.r 4), .int .u32 (g.r 5), .int .u32 (g.r 6), .int .u32 g.pc, .int .u32 y] rfl F3v9.out rfl info44a rfl ?_
                intro v10 hk hf
                have HQv10 : Hid (Below Wk.heap.size Wk v10) := Lib.hid (belowFr HQv9.out hf hgeb3 (Nat.le_refl _))
                have F3v10 := Lib.hid hk
                have F2v10 := Lib.hid (F2v9.out.fr hf (by simp; omega))
                have H1v10 := Lib.hid (H1v9.out.fr hf (by simp; omega))
                clear hk hf
                refine hK.out _ _ _ (fun _ h => h) (fun _ => HQv10.out) ?_
                clear hK K
                try simp only [Act.put, List.setIfInBounds_toArray, List.set_cons_zero, List.set_cons_succ]
                refine wpT_nil (by kernel_rfl) ?_
                exact ⟨rfl, b2, b3, rfl, HQv10.out, F2v10.out, F3v10.out, H1v10.out⟩
      · refine wpT_eff HTK.out 6 (by decide) (by kernel_rfl) (by simp only [opAt]; rfl) rfl (fun K hK => ?_)
        have hz := z44
        obtain ⟨v11, hv11⟩ : ∃ v11, v11 = v1.alloc (.cells #[.int .u32 0, .int .u32 0, .int .u32 0, .int .u32 0, .int .u32 0, .int .u32 0, .int .u32 0, .int .u32 0, .int .u32 0] 44) := ⟨_, rfl⟩
        obtain ⟨b2, hb2⟩ : ∃ b2, b2 = v1.heap.size := ⟨_, rfl⟩
        go_simp
        rw [← hv11, ← hb2]
        have nb : Below v1.heap.size v1 v11 := by rw [hv11]; exact (Below.refl _ _).alloc (Nat.le_refl _) _
        have HQv11 := Lib.hid (HQv1.out.trans (nb.mono HQv1.out.size))
        have H1v11 := Lib.hid (H1v1.out.below nb H1v1.out.lt)
        have F2v11 : Hid (Blk v11 b2 44 #[.int .u32 0, .int .u32 0, .int .u32 0, .int .u32 0, .int .u32 0, .int .u32 0, .int .u32 0, .int .u32 0, .int .u32 0]) := Lib.hid (by rw [hv11, hb2]; exact Blk.new _ _ _)
        have hgeb2 : Wk.heap.size ≤ b2 := by rw [hb2]; exact HQv1.out.size
        clear nb hz hv11 hb2
        refine hK.out _ _ _ (fun _ h => h) (fun _ => HQv11.out) ?_
        clear hK K
        try simp only [Act.put, List.setIfInBounds_toArray, List.set_cons_zero, List.set_cons_succ]
        refine wpT_br [5, 7] (by kernel_rfl) rfl (List.forall_mem_cons.2 ⟨?_, List.forall_mem_cons.2 ⟨?_, fun _ h => (by cases h)⟩⟩)
        · refine wpT_eff HTK.out 5 (by decide) (by kernel_rfl) (by simp only [opAt]; rfl) rfl (fun K hK => ?_)
          go_simp
          refine (HINT.out _).mono ?_
          rintro e v12 ⟨rfl, nb⟩
          have HQv12 := Lib.hid (HQv11.out.trans (nb.mono HQv11.out.size))
          have F2v12 := Lib.hid (F2v11.out.below nb F2v11.out.lt)
          have H1v12 := Lib.hid (H1v11.out.below nb H1v11.out.lt)
          clear nb
          dsimp only
          refine hK.out _ _ _ (fun _ h => h) (fun _ => HQv12.out) ?_
          clear hK K
          try simp only [Act.put, List.setIfInBounds_toArray, List.set_cons_zero, List.set_cons_succ]
          refine wpT_br [7] (by kernel_rfl) rfl (List.forall_mem_cons.2 ⟨?_, fun _ h => (by cases h)⟩)
          · refine wpT_eff HTK.out 7 (by decide) (by kernel_rfl) (by simp only [opAt]; rfl) rfl (fun K hK => ?_)
            have hz := z44
            obtain ⟨v13, hv13⟩ : ∃ v13, v13 = v12.alloc (.cells #[.int .u32 0, .int .u32 0, .int .u32 0, .int .u32 0, .int .u32 0, .int .u32 0, .int .u32 0, .int .u32 0, .int .u32 0] 44) := ⟨_, rfl⟩
            obtain ⟨b3, hb3⟩ : ∃ b3, b3 = v12.heap.size := ⟨_, rfl⟩
            go_simp
            rw [← hv13, ← hb3]
            have nb : Below v12.heap.size v12 v13 := by rw [hv13]; exact (Below.refl _ _).alloc (Nat.le_refl _) _
            have HQv13 := Lib.hid (HQv12.out.trans (nb.mono HQv12.out.size))
            have F2v13 := Lib.hid (F2v12.out.below nb F2v12.out.lt)
            have H1v13 := Lib.hid (H1v12.out.below nb H1v12.out.lt)
            have F3v13 : Hid (Blk v13 b3 44 #[.int .u32 0, .int .u32 0, .int .u32 0, .int .u32 0, .int .u32 0, .int .u32 0, .int .u32 0, .int .u32 0, .int .u32 0]) := Lib.hid (by rw [hv13, hb3]; exact Blk.new _ _ _)
            have hne : b2 ≠ b3 := by have := F2v12.out.lt; omega
            have hgeb3 : Wk.heap.size ≤ b3 := by rw [hb3]; exact HQv12.out.size
            clear nb hz hv13 hb3
            refine hK.out _ _ _ (fun _ h => h) (fun _ => HQv13.out) ?_
            clear hK K
            try simp only [Act.put, List.setIfInBounds_toArray, List.set_cons_zero, List.set_cons_succ]
            refine wpT_br [8] (by kernel_rfl) rfl (List.forall_mem_cons.2 ⟨?_, fun _ h => (by cases h)⟩)
            · refine wpT_eff HTK.out 8 (by decide) (by kernel_rfl) (by simp only [opAt]; rfl) rfl (fun K hK => ?_)
              refine wp_store_blk 44 (.tmp 8) (.tmp 19) rfl b2 rfl #[.int .u32 x, .int .u32 (g.r 1), .int .u32 (g.r 2), .int .u32 (g.r 3), .int .u32 (g.r 4), .int .u32 (g.r 5), .int .u32 (g.r 6), .int .u32 (g.r 7), .int .u32 ((g.pc + 4) % 4294967296)] rfl F2v13.out rfl info44a rfl ?_
              intro v14 hk hf
              have HQv14 : Hid (Below Wk.heap.size Wk v14) := Lib.hid (belowFr HQv13.out hf hgeb2 (Nat.le_refl _))
              have F2v14 := Lib.hid hk
              have F3v14 := Lib.hid (F3v13.out.fr hf (by simp; omega))
              have H1v14 := Lib.hid (H1v13.out.fr hf (by simp; omega))
              clear hk hf
              refine hK.out _ _ _ (fun _ h => h) (fun _ => HQv14.out) ?_
              clear hK K
              try simp only [Act.put, List.setIfInBounds_toArray, List.set_cons_zero, List.set_cons_succ]
              refine wpT_br [9] (by kernel_rfl) rfl (List.forall_mem_cons.2 ⟨?_, fun _ h => (by cases h)⟩)
              · refine wpT_eff HTK.out 9 (by decide) (by kernel_rfl) (by simp only [opAt]; rfl) rfl (fun K hK => ?_)
                refine wp_store_blk 44 (.tmp 9) (.tmp 22) rfl b3 rfl #[.int .u32 (g.r 0), .int .u32 (g.r 1), .int .u32 (g.r 2), .int .u32 (g.r 3), .int .u32 (g.r 4), .int .u32 (g.r 5), .int .u32 (g.r 6), .int .u32 g.pc, .int .u32 y] rfl F3v14.out rfl info44a rfl ?_
                intro v15 hk hf
                have HQv15 : Hid (Below Wk.heap.size Wk v15) := Lib.hid (belowFr HQv14.out hf hgeb3 (Nat.le_refl _))
                have F3v15 := Lib.hid hk
                have F2v15 := Lib.hid (F2v14.out.fr hf (by simp; omega))
                have H1v15 := Lib.hid (H1v14.out.fr hf (by simp; omega))
                clear hk hf
                refine hK.out _ _ _ (fun _ h => h) (fun _ => HQv15.out) ?_
                clear hK K
                try simp only [Act.put, List.setIfInBounds_toArray, List.set_cons_zero, List.set_cons_succ]
                refine wpT_nil (by kernel_rfl) ?_
                exact ⟨rfl, b2, b3, rfl, HQv15.out, F2v15.out, F3v15.out, H1v15.out⟩
        · refine wpT_eff HTK.out 7 (by decide) (by kernel_rfl) (by simp only [opAt]; rfl) rfl (fun K hK => ?_)
          have hz := z44
          obtain ⟨v16, hv16⟩ : ∃ v16, v16 = v11.alloc (.cells #[.int .u32 0, .int .u32 0, .int .u32 0, .int .u32 0, .int .u32 0, .int .u32 0, .int .u32 0, .int .u32 0, .int .u32 0] 44) := ⟨_, rfl⟩
          obtain ⟨b3, hb3⟩ : ∃ b3, b3 = v11.heap.size := ⟨_, rfl⟩
          go_simp
          rw [← hv16, ← hb3]
          have nb : Below v11.heap.size v11 v16 := by rw [hv16]; exact (Below.refl _ _).alloc (Nat.le_refl _) _
          have HQv16 := Lib.hid (HQv11.out.trans (nb.mono HQv11.out.size))
          have F2v16 := Lib.hid (F2v11.out.below nb F2v11.out.lt)
          have H1v16 := Lib.hid (H1v11.out.below nb H1v11.out.lt)
          have F3v16 : Hid (Blk v16 b3 44 #[.int .u32 0, .int .u32 0, .int .u32 0, .int .u32 0, .int .u32 0, .int .u32 0, .int .u32 0, .int .u32 0, .int .u32 0]) := Lib.hid (by rw [hv16, hb3]; exact Blk.new _ _ _)
          have hne : b2 ≠ b3 := by have := F2v11.out.lt; omega
          have hgeb3 : Wk.heap.size ≤ b3 := by rw [hb3]; exact HQv11.out.size
          clear nb hz hv16 hb3
          refine hK.out _ _ _ (fun _ h => h) (fun _ => HQv16.out) ?_
          clear hK K
          try simp only [Act.put, List.setIfInBounds_toArray, List.set_cons_zero, List.set_cons_succ]
          refine wpT_br [5] (by kernel_rfl) rfl (List.forall_mem_cons.2 ⟨?_, fun _ h => (by cases h)⟩)
          · refine wpT_eff HTK.out 5 (by decide) (by kernel_rfl) (by simp only [opAt]; rfl) rfl (fun K hK => ?_)
            go_simp
            refine (HINT.out _).mono ?_
            rintro e v17 ⟨rfl, nb⟩
            have HQv17 := Lib.hid (HQv16.out.trans (nb.mono HQv16.out.size))
            have F2v17 := Lib.hid (F2v16.out.below nb F2v16.out.lt)
            have F3v17 := Lib.hid (F3v16.out.below nb F3v16.out.lt)
            have H1v17 := Lib.hid (H1v16.out.below nb H1v16.out.lt)
            clear nb
            dsimp only
            refine hK.out _ _ _ (fun _ h => h) (fun _ => HQv17.out) ?_
            clear hK K
            try simp only [Act.put, List.setIfInBounds_toArray, List.set_cons_zero, List.set_cons_succ]
            refine wpT_br [8] (by kernel_rfl) rfl (List.forall_mem_cons.2 ⟨?_, fun _ h => (by cases h)⟩)
            · refine wpT_eff HTK.out 8 (by decide) (by kernel_rfl) (by simp only [opAt]; rfl) rfl (fun K hK => ?_)
              refine wp_store_blk 44 (.tmp 8) (.tmp 19) rfl b2 rfl #[.int .u32 x, .int .u32 (g.r 1), .int .u32 (g.r 2), .int .u32 (g.r 3), .int .u32 (g.r 4), .int .u32 (g.r 5), .int .u32 (g.r 6), .int .u32 (g.r 7), .int .u32 ((g.pc + 4) % 4294967296)] rfl F2v17.out rfl info44a rfl ?_
              intro v18 hk hf
              have HQv18 : Hid (Below Wk.heap.size Wk v18) := Lib.hid (belowFr HQv17.out hf hgeb2 (Nat.le_refl _))
              have F2v18 := Lib.hid hk
              have F3v18 := Lib.hid (F3v17.out.fr hf (by simp; omega))
              have H1v18 := Lib.hid (H1v17.out.fr hf (by simp; omega))
              clear hk hf
              refine hK.out _ _ _ (fun _ h => h) (fun _ => HQv18.out) ?_
              clear hK K
              try simp only [Act.put, List.setIfInBounds_toArray, List.set_cons_zero, List.set_cons_succ]
              refine wpT_br [9] (by kernel_rfl) rfl (List.forall_mem_cons.2 ⟨?_, fun _ h => (by cases h)⟩)
              · refine wpT_eff HTK.out 9 (by decide) (by kernel_rfl) (by simp only [opAt]; rfl) rfl (fun K hK => ?_)
                refine wp_store_blk 44 (.tmp 9) (.tmp 22) rfl b3 rfl #[.int .u32 (g.r 0), .int .u32 (g.r 1), .int .u32 (g.r 2), .int .u32 (g.r 3), .int .u32 (g.r 4), .int .u32 (g.r 5), .int .u32 (g.r 6), .int .u32 g.pc, .int .u32 y] rfl F3v18.out rfl info44a rfl ?_
                intro v19 hk hf
                have HQv19 : Hid (Below Wk.heap.size Wk v19) := Lib.hid (belowFr HQv18.out hf hgeb3 (Nat.le_refl _))
                have F3v19 := Lib.hid hk
                have F2v19 := Lib.hid (F2v18.out.fr hf (by simp; omega))
                have H1v19 := Lib.hid (H1v18.out.fr hf (by simp; omega))
                clear hk hf
                refine hK.out _ _ _ (fun _ h => h) (fun _ => HQv19.out) ?_
                clear hK K
                try simp only [Act.put, List.setIfInBounds_toArray, List.set_cons_zero, List.set_cons_succ]
                refine wpT_nil (by kernel_rfl) ?_
                exact ⟨rfl, b2, b3, rfl, HQv19.out, F2v19.out, F3v19.out, H1v19.out⟩
      · refine wpT_eff HTK.out 7 (by decide) (by kernel_rfl) (by simp only [opAt]; rfl) rfl (fun K hK => ?_)
        have hz := z44
        obtain ⟨v20, hv20⟩ : ∃ v20, v20 = v1.alloc (.cells #[.int .u32 0, .int .u32 0, .int .u32 0, .int .u32 0, .int .u32 0, .int .u32 0, .int .u32 0, .int .u32 0, .int .u32 0] 44) := ⟨_, rfl⟩
        obtain ⟨b3, hb3⟩ : ∃ b3, b3 = v1.heap.size := ⟨_, rfl⟩
        go_simp
        rw [← hv20, ← hb3]
        have nb : Below v1.heap.size v1 v20 := by rw [hv20]; exact (Below.refl _ _).alloc (Nat.le_refl _) _
        have HQv20 := Lib.hid (HQv1.out.trans (nb.mono HQv1.out.size))
        have H1v20 := Lib.hid (H1v1.out.below nb H1v1.out.lt)
        have F3v20 : Hid (Blk v20 b3 44 #[.int .u32 0, .int .u32 0, .int .u32 0, .int .u32 0, .int .u32 0, .int .u32 0, .int .u32 0, .int .u32 0, .int .u32 0]) := Lib.hid (by rw [hv20, hb3]; exact Blk.new _ _ _)
        have hgeb3 : Wk.heap.size ≤ b3 := by rw [hb3]; exact HQv1.out.size
        clear nb hz hv20 hb3
        refine hK.out _ _ _ (fun _ h => h) (fun _ => HQv20.out) ?_
        clear hK K
        try simp only [Act.put, List.setIfInBounds_toArray, List.set_cons_zero, List.set_cons_succ]
        refine wpT_br [5, 6] (by kernel_rfl) rfl (List.forall_mem_cons.2 ⟨?_, List.forall_mem_cons.2 ⟨?_, fun _ h => (by cases h)⟩⟩)
        · refine wpT_eff HTK.out 5 (by decide) (by kernel_rfl) (by simp only [opAt]; rfl) rfl (fun K hK => ?_)
          go_simp
          refine (HINT.out _).mono ?_
          rintro e v21 ⟨rfl, nb⟩
          have HQv21 := Lib.hid (HQv20.out.trans (nb.mono HQv20.out.size))
          have F3v21 := Lib.hid (F3v20.out.below nb F3v20.out.lt)
          have H1v21 := Lib.hid (H1v20.out.below nb H1v20.out.lt)
          clear nb
          dsimp only
          refine hK.out _ _ _ (fun _ h => h) (fun _ => HQv21.out) ?_
          clear hK K
          try simp only [Act.put, List.setIfInBounds_toArray, List.set_cons_zero, List.set_cons_succ]
          refine wpT_br [6] (by kernel_rfl) rfl (List.forall_mem_cons.2 ⟨?_, fun _ h => (by cases h)⟩)
          · refine wpT_eff HTK.out 6 (by decide) (by kernel_rfl) (by simp only [opAt]; rfl) rfl (fun K hK => ?_)
            have hz := z44
            obtain ⟨v22, hv22⟩ : ∃ v22, v22 = v21.alloc (.cells #[.int .u32 0, .int .u32 0, .int .u32 0, .int .u32 0, .int .u32 0, .int .u32 0, .int .u32 0, .int .u32 0, .int .u32 0] 44) := ⟨_, rfl⟩
            obtain ⟨b2, hb2⟩ : ∃ b2, b2 = v21.heap.size := ⟨_, rfl⟩
            go_simp
            rw [← hv22, ← hb2]
            have nb : Below v21.heap.size v21 v22 := by rw [hv22]; exact (Below.refl _ _).alloc (Nat.le_refl _) _
            have HQv22 := Lib.hid (HQv21.out.trans (nb.mono HQv21.out.size))
            have F3v22 := Lib.hid (F3v21.out.below nb F3v21.out.lt)
            have H1v22 := Lib.hid (H1v21.out.below nb H1v21.out.lt)
            have F2v22 : Hid (Blk v22 b2 44 #[.int .u32 0, .int .u32 0, .int .u32 0, .int .u32 0, .int .u32 0, .int .u32 0, .int .u32 0, .int .u32 0, .int .u32 0]) := Lib.hid (by rw [hv22, hb2]; exact Blk.new _ _ _)
            have hne : b2 ≠ b3 := by have := F3v21.out.lt; omega
            have hgeb2 : Wk.heap.size ≤ b2 := by rw [hb2]; exact HQv21.out.size
            clear nb hz hv22 hb2
            refine hK.out _ _ _ (fun _ h => h) (fun _ => HQv22.out) ?_
            clear hK K
            try simp only [Act.put, List.setIfInBounds_toArray, List.set_cons_zero, List.set_cons_succ]
            refine wpT_br [8] (by kernel_rfl) rfl (List.forall_mem_cons.2 ⟨?_, fun _ h => (by cases h)⟩)
            · refine wpT_eff HTK.out 8 (by decide) (by kernel_rfl) (by simp only [opAt]; rfl) rfl (fun K hK => ?_)
              refine wp_store_blk 44 (.tmp 8) (.tmp 19) rfl b2 rfl #[.int .u32 x, .int .u32 (g.r 1), .int .u32 (g.r 2), .int .u32 (g.r 3), .int .u32 (g.r 4), .int .u32 (g.r 5), .int .u32 (g.r 6), .int .u32 (g.r 7), .int .u32 ((g.pc + 4) % 4294967296)] rfl F2v22.out rfl info44a rfl ?_
              intro v23 hk hf
              have HQv23 : Hid (Below Wk.heap.size Wk v23) := Lib.hid (belowFr HQv22.out hf hgeb2 (Nat.le_refl _))
              have F2v23 := Lib.hid hk
              have F3v23 := Lib.hid (F3v22.out.fr hf (by simp; omega))
              have H1v23 := Lib.hid (H1v22.out.fr hf (by simp; omega))
              clear hk hf
              refine hK.out _ _ _ (fun _ h => h) (fun _ => HQv23.out) ?_
              clear hK K
              try simp only [Act.put, List.setIfInBounds_toArray, List.set_cons_zero, List.set_cons_succ]
              refine wpT_br [9] (by kernel_rfl) rfl (List.forall_mem_cons.2 ⟨?_, fun _ h => (by cases h)⟩)
              · refine wpT_eff HTK.out 9 (by decide) (by kernel_rfl) (by simp only [opAt]; rfl) rfl (fun K hK => ?_)
                refine wp_store_blk 44 (.tmp 9) (.tmp 22) rfl b3 rfl #[.int .u32 (g.r 0), .int .u32 (g.r 1), .int .u32 (g.r 2), .int .u32 (g.r 3), .int .u32 (g.r 4), .int .u32 (g.r 5), .int .u32 (g.r 6), .int .u32 g.pc, .int .u32 y] rfl F3v23.out rfl info44a rfl ?_
                intro v24 hk hf
                have HQv24 : Hid (Below Wk.heap.size Wk v24) := Lib.hid (belowFr HQv23.out hf hgeb3 (Nat.le_refl _))
                have F3v24 := Lib.hid hk
                have F2v24 := Lib.hid (F2v23.out.fr hf (by simp; omega))
                have H1v24 := Lib.hid (H1v23.out.fr hf (by simp; omega))
                clear hk hf
                refine hK.out _ _ _ (fun _ h => h) (fun _ => HQv24.out) ?_
                clear hK K
                try simp only [Act.put, List.setIfInBounds_toArray, List.set_cons_zero, List.set_cons_succ]
                refine wpT_nil (by kernel_rfl) ?_
                exact ⟨rfl, b2, b3, rfl, HQv24.out, F2v24.out, F3v24.out, H1v24.out⟩
        · refine wpT_eff HTK.out 6 (by decide) (by kernel_rfl) (by simp only [opAt]; rfl) rfl (fun K hK => ?_)
          have hz := z44
          obtain ⟨v25, hv25⟩ : ∃ v25, v25 = v20.alloc (.cells #[.int .u32 0, .int .u32 0, .int .u32 0, .int .u32 0, .int .u32 0, .int .u32 0, .int .u32 0, .int .u32 0, .int .u32 0] 44) := ⟨_, rfl⟩
          obtain ⟨b2, hb2⟩ : ∃ b2, b2 = v20.heap.size := ⟨_, rfl⟩
          go_simp
          rw [← hv25, ← hb2]
          have nb : Below v20.heap.size v20 v25 := by rw [hv25]; exact (Below.refl _ _).alloc (Nat.le_refl _) _
          have HQv25 := Lib.hid (HQv20.out.trans (nb.mono HQv20.out.size))
          have F3v25 := Lib.hid (F3v20.out.below nb F3v20.out.lt)
          have H1v25 := Lib.hid (H1v20.out.below nb H1v20.out.lt)
          have F2v25 : Hid (Blk v25 b2 44 #[.int .u32 0, .int .u32 0, .int .u32 0, .int .u32 0, .int .u32 0, .int .u32 0, .int .u32 0, .int .u32 0, .int .u32 0]) := Lib.hid (by rw [hv25, hb2]; exact Blk.new _ _ _)
          have hne : b2 ≠ b3 := by have := F3v20.out.lt; omega
          have hgeb2 : Wk.heap.size ≤ b2 := by rw [hb2]; exact HQv20.out.size
          clear nb hz hv25 hb2
          refine hK.out _ _ _ (fun _ h => h) (fun _ => HQv25.out) ?_
          clear hK K
          try simp only [Act.put, List.setIfInBounds_toArray, List.set_cons_zero, List.set_cons_succ]
          refine wpT_br [5] (by kernel_rfl) rfl (List.forall_mem_cons.2 ⟨?_, fun _ h => (by cases h)⟩)
          · refine wpT_eff HTK.out 5 (by decide) (by kernel_rfl) (by simp only [opAt]; rfl) rfl (fun K hK => ?_)
            go_simp
            refine (HINT.out _).mono ?_
            rintro e v26 ⟨rfl, nb⟩
            have HQv26 := Lib.hid (HQv25.out.trans (nb.mono HQv25.out.size))
            have F3v26 := Lib.hid (F3v25.out.below nb F3v25.out.lt)
            have F2v26 := Lib.hid (F2v25.out.below nb F2v25.out.lt)
            have H1v26 := Lib.hid (H1v25.out.below nb H1v25.out.lt)
            clear nb
            dsimp only
            refine hK.out _ _ _ (fun _ h => h) (fun _ => HQv26.out) ?_
            clear hK K
            try simp only [Act.put, List.setIfInBounds_toArray, List.set_cons_zero, List.set_cons_succ]
            refine wpT_br [8] (by kernel_rfl) rfl (List.forall_mem_cons.2 ⟨?_, fun _ h => (by cases h)⟩)
            · refine wpT_eff HTK.out 8 (by decide) (by kernel_rfl) (by simp only [opAt]; rfl) rfl (fun K hK => ?_)
              refine wp_store_blk 44 (.tmp 8) (.tmp 19) rfl b2 rfl #[.int .u32 x, .int .u32 (g.r 1), .int .u32 (g.r 2), .int .u32 (g.r 3), .int .u32 (g.r 4), .int .u32 (g.r 5), .int .u32 (g.r 6), .int .u32 (g.r 7), .int .u32 ((g.pc + 4) % 4294967296)] rfl F2v26.out rfl info44a rfl ?_
              intro v27 hk hf
              have HQv27 : Hid (Below Wk.heap.size Wk v27) := Lib.hid (belowFr HQv26.out hf hgeb2 (Nat.le_refl _))
              have F2v27 := Lib.hid hk
              have F3v27 := Lib.hid (F3v26.out.fr hf (by simp; omega))
              have H1v27 := Lib.hid (H1v26.out.fr hf (by simp; omega))
              clear hk hf
              refine hK.out _ _ _ (fun _ h => h) (fun _ => HQv27.out) ?_
              clear hK K
              try simp only [Act.put, List.setIfInBounds_toArray, List.set_cons_zero, List.set_cons_succ]
              refine wpT_br [9] (by kernel_rfl) rfl (List.forall_mem_cons.2 ⟨?_, fun _ h => (by cases h)⟩)
              · refine wpT_eff HTK.out 9 (by decide) (by kernel_rfl) (by simp only [opAt]; rfl) rfl (fun K hK => ?_)
                refine wp_store_blk 44 (.tmp 9) (.tmp 22) rfl b3 rfl #[.int .u32 (g.r 0), .int .u32 (g.r 1), .int .u32 (g.r 2), .int .u32 (g.r 3), .int .u32 (g.r 4), .int .u32 (g.r 5), .int .u32 (g.r 6), .int .u32 g.pc, .int .u32 y] rfl F3v27.out rfl info44a rfl ?_
                intro v28 hk hf
                have HQv28 : Hid (Below Wk.heap.size Wk v28) := Lib.hid (belowFr HQv27.out hf hgeb3 (Nat.le_refl _))
                have F3v28 := Lib.hid hk
                have F2v28 := Lib.hid (F2v27.out.fr hf (by simp; omega))
                have H1v28 := Lib.hid (H1v27.out.fr hf (by simp; omega))
                clear hk hf
                refine hK.out _ _ _ (fun _ h => h) (fun _ => HQv28.out) ?_
                clear hK K
                try simp only [Act.put, List.setIfInBounds_toArray, List.set_cons_zero, List.set_cons_succ]
                refine wpT_nil (by kernel_rfl) ?_
                exact ⟨rfl, b2, b3, rfl, HQv28.out, F2v28.out, F3v28.out, H1v28.out⟩
    · refine wpT_eff HTK.out 6 (by decide) (by kernel_rfl) (by simp only [opAt]; rfl) rfl (fun K hK => ?_)
      have hz := z44
      obtain ⟨v29, hv29⟩ : ∃ v29, v29 = Wk.alloc (.cells #[.int .u32 0, .int .u32 0, .int .u32 0, .int .u32 0, .int .u32 0, .int .u32 0, .int .u32 0, .int .u32 0, .int .u32 0] 44) := ⟨_, rfl⟩
      obtain ⟨b2, hb2⟩ : ∃ b2, b2 = Wk.heap.size := ⟨_, rfl⟩
      go_simp
      rw [← hv29, ← hb2]
      have nb : Below Wk.heap.size Wk v29 := by rw [hv29]; exact (Below.refl _ _).alloc (Nat.le_refl _) _
      have HQv29 := Lib.hid (HQWk.out.trans (nb.mono HQWk.out.size))
      have H1v29 := Lib.hid (H1Wk.out.below nb H1Wk.out.lt)
      have F2v29 : Hid (Blk v29 b2 44 #[.int .u32 0, .int .u32 0, .int .u32 0, .int .u32 0, .int .u32 0, .int .u32 0, .int .u32 0, .int .u32 0, .int .u32 0]) := Lib.hid (by rw [hv29, hb2]; exact Blk.new _ _ _)
      have hgeb2 : Wk.heap.size ≤ b2 := by rw [hb2]; exact HQWk.out.size
      clear nb hz hv29 hb2
      refine hK.out _ _ _ (fun _ h => h) (fun _ => HQv29.out) ?_
      clear hK K
      try simp only [Act.put, List.setIfInBounds_toArray, List.set_cons_zero, List.set_cons_succ]
      refine wpT_br [2, 7] (by kernel_rfl) rfl (List.forall_mem_cons.2 ⟨?_, List.forall_mem_cons.2 ⟨?_, fun _ h => (by cases h)⟩⟩)
      · refine wpT_eff HTK.out 2 (by decide) (by kernel_rfl) (by simp only [opAt]; rfl) rfl (fun K hK => ?_)
        go_simp
        refine (HRES.out _).mono ?_
        rintro e v30 ⟨rfl, nb⟩
        have HQv30 := Lib.hid (HQv29.out.trans (nb.mono HQv29.out.size))
        have F2v30 := Lib.hid (F2v29.out.below nb F2v29.out.lt)
        have H1v30 := Lib.hid (H1v29.out.below nb H1v29.out.lt)
        clear nb
        dsimp only
        refine hK.out _ _ _ (fun _ h => h) (fun _ => HQv30.out) ?_
        clear hK K
        try simp only [Act.put, List.setIfInBounds_toArray, List.set_cons_zero, List.set_cons_succ]
        refine wpT_br [5, 7] (by kernel_rfl) rfl (List.forall_mem_cons.2 ⟨?_, List.forall_mem_cons.2 ⟨?_, fun _ h => (by cases h)⟩⟩)
        · refine wpT_eff HTK.out 5 (by decide) (by kernel_rfl) (by simp only [opAt]; rfl) rfl (fun K hK => ?_)
          go_simp
          refine (HINT.out _).mono ?_
          rintro e v31 ⟨rfl, nb⟩
          have HQv31 := Lib.hid (HQv30.out.trans (nb.mono HQv30.out.size))
          have F2v31 := Lib.hid (F2v30.out.below nb F2v30.out.lt)
          have H1v31 := Lib.hid (H1v30.out.below nb H1v30.out.lt)
          clear nb
          dsimp only
          refine hK.out _ _ _ (fun _ h => h) (fun _ => HQv31.out) ?_
          clear hK K
          try simp only [Act.put, List.setIfInBounds_toArray, List.set_cons_zero, List.set_cons_succ]
          refine wpT_br [7] (by kernel_rfl) rfl (List.forall_mem_cons.2 ⟨?_, fun _ h => (by cases h)⟩)
          · refine wpT_eff HTK.out 7 (by decide) (by kernel_rfl) (by simp only [opAt]; rfl) rfl (fun K hK => ?_)
            have hz := z44
            obtain ⟨v32, hv32⟩ : ∃ v32, v32 = v31.alloc (.cells #[.int .u32 0, .int .u32 0, .int .u32 0, .int .u32 0, .int .u32 0, .int .u32 0, .int .u32 0, .int .u32 0, .int .u32 0] 44) := ⟨_, rfl⟩
            obtain ⟨b3, hb3⟩ : ∃ b3, b3 = v31.heap.size := ⟨_, rfl⟩
            go_simp
            rw [← hv32, ← hb3]
            have nb : Below v31.heap.size v31 v32 := by rw [hv32]; exact (Below.refl _ _).alloc (Nat.le_refl _) _
            have HQv32 := Lib.hid (HQv31.out.trans (nb.mono HQv31.out.size))
            have F2v32 := Lib.hid (F2v31.out.below nb F2v31.out.lt)
            have H1v32 := Lib.hid (H1v31.out.below nb H1v31.out.lt)
            have F3v32 : Hid (Blk v32 b3 44 #[.int .u32 0, .int .u32 0, .int .u32 0, .int .u32 0, .int .u32 0, .int .u32 0, .int .u32 0, .int .u32 0, .int .u32 0]) := Lib.hid (by rw [hv32, hb3]; exact Blk.new _ _ _)
            have hne : b2 ≠ b3 := by have := F2v31.out.lt; omega
            have hgeb3 : Wk.heap.size ≤ b3 := by rw [hb3]; exact HQv31.out.size
            clear nb hz hv32 hb3
            refine hK.out _ _ _ (fun _ h => h) (fun _ => HQv32.out) ?_
            clear hK K
            try simp only [Act.put, List.setIfInBounds_toArray, List.set_cons_zero, List.set_cons_succ]
            refine wpT_br [8] (by kernel_rfl) rfl (List.forall_mem_cons.2 ⟨?_, fun _ h => (by cases h)⟩)
            · refine wpT_eff HTK.out 8 (by decide) (by kernel_rfl) (by simp only [opAt]; rfl) rfl (fun K hK => ?_)
              refine wp_store_blk 44 (.tmp 8) (.tmp 19) rfl b2 rfl #[.int .u32 x, .int .u32 (g.r 1), .int .u32 (g.r 2), .int .u32 (g.r 3), .int .u32 (g.r 4), .int .u32 (g.r 5), .int .u32 (g.r 6), .int .u32 (g.r 7), .int .u32 ((g.pc + 4) % 4294967296)] rfl F2v32.out rfl info44a rfl ?_
              intro v33 hk hf
              have HQv33 : Hid (Below Wk.heap.size Wk v33) := Lib.hid (belowFr HQv32.out hf hgeb2 (Nat.le_refl _))
              have F2v33 := Lib.hid hk
              have F3v33 := Lib.hid (F3v32.out.fr hf (by simp; omega))
              have H1v33 := Lib.hid (H1v32.out.fr hf (by simp; omega))
              clear hk hf
              refine hK.out _ _ _ (fun _ h => h) (fun _ => HQv33.out) ?_
              clear hK K
              try simp only [Act.put, List.setIfInBounds_toArray, List.set_cons_zero, List.set_cons_succ]
              refine wpT_br [9] (by kernel_rfl) rfl (List.forall_mem_cons.2 ⟨?_, fun _ h => (by cases h)⟩)
              · refine wpT_eff HTK.out 9 (by decide) (by kernel_rfl) (by simp only [opAt]; rfl) rfl (fun K hK => ?_)
                refine wp_store_blk 44 (.tmp 9) (.tmp 22) rfl b3 rfl #[.int .u32 (g.r 0), .int .u32 (g.r 1), .int .u32 (g.r 2), .int .u32 (g.r 3), .int .u32 (g.r 4), .int .u32 (g.r 5), .int .u32 (g.r 6), .int .u32 g.pc, .int .u32 y] rfl F3v33.out rfl info44a rfl ?_
                intro v34 hk hf
                have HQv34 : Hid (Below Wk.heap.size Wk v34) := Lib.hid (belowFr HQv33.out hf hgeb3 (Nat.le_refl _))
                have F3v34 := Lib.hid hk
                have F2v34 := Lib.hid (F2v33.out.fr hf (by simp; omega))
                have H1v34 := Lib.hid (H1v33.out.fr hf (by simp; omega))
                clear hk hf
                refine hK.out _ _ _ (fun _ h => h) (fun _ => HQv34.out) ?_
                clear hK K
                try simp only [Act.put, List.setIfInBounds_toArray, List.set_cons_zero, List.set_cons_succ]
                refine wpT_nil (by kernel_rfl) ?_
                exact ⟨rfl, b2, b3, rfl, HQv34.out, F2v34.out, F3v34.out, H1v34.out⟩
        · refine wpT_eff HTK.out 7 (by decide) (by kernel_rfl) (by simp only [opAt]; rfl) rfl (fun K hK => ?_)
          have hz := z44
          obtain ⟨v35, hv35⟩ : ∃ v35, v35 = v30.alloc (.cells #[.int .u32 0, .int .u32 0, .int .u32 0, .int .u32 0, .int .u32 0, .int .u32 0, .int .u32 0, .int .u32 0, .int .u32 0] 44) := ⟨_, rfl⟩
          obtain ⟨b3, hb3⟩ : ∃ b3, b3 = v30.heap.size := ⟨_, rfl⟩
          go_simp
          rw [← hv35, ← hb3]
          have nb : Below v30.heap.size v30 v35 := by rw [hv35]; exact (Below.refl _ _).alloc (Nat.le_refl _) _
          have HQv35 := Lib.hid (HQv30.out.trans (nb.mono HQv30.out.size))
          have F2v35 := Lib.hid (F2v30.out.below nb F2v30.out.lt)
          have H1v35 := Lib.hid (H1v30.out.below nb H1v30.out.lt)
          have F3v35 : Hid (Blk v35 b3 44 #[.int .u32 0, .int .u32 0, .int .u32 0, .int .u32 0, .int .u32 0, .int .u32 0, .int .u32 0, .int .u32 0, .int .u32 0]) := Lib.hid (by rw [hv35, hb3]; exact Blk.new _ _ _)
          have hne : b2 ≠ b3 := by have := F2v30.out.lt; omega
          have hgeb3 : Wk.heap.size ≤ b3 := by rw [hb3]; exact HQv30.out.size
          clear nb hz hv35 hb3
          refine hK.out _ _ _ (fun _ h => h) (fun _ => HQv35.out) ?_
          clear hK K
          try simp only [Act.put, List.setIfInBounds_toArray, List.set_cons_zero, List.set_cons_succ]
          refine wpT_br [5] (by kernel_rfl) rfl (List.forall_mem_cons.2 ⟨?_, fun _ h => (by cases h)⟩)
          · refine wpT_eff HTK.out 5 (by decide) (by kernel_rfl) (by simp only [opAt]; rfl) rfl (fun K hK => ?_)
            go_simp
            refine (HINT.out _).mono ?_
            rintro e v36 ⟨rfl, nb⟩
            have HQv36 := Lib.hid (HQv35.out.trans (nb.mono HQv35.out.size))
            have F2v36 := Lib.hid (F2v35.out.below nb F2v35.out.lt)
            have F3v36 := Lib.hid (F3v35.out.below nb F3v35.out.lt)
            have H1v36 := Lib.hid (H1v35.out.below nb H1v35.out.lt)
            clear nb
            dsimp only
            refine hK.out _ _ _ (fun _ h => h) (fun _ => HQv36.out) ?_
            clear hK K
            try simp only [Act.put, List.setIfInBounds_toArray, List.set_cons_zero, List.set_cons_succ]
            refine wpT_br [8] (by kernel_rfl) rfl (List.forall_mem_cons.2 ⟨?_, fun _ h => (by cases h)⟩)
            · refine wpT_eff HTK.out 8 (by decide) (by kernel_rfl) (by simp only [opAt]; rfl) rfl (fun K hK => ?_)
              refine wp_store_blk 44 (.tmp 8) (.tmp 19) rfl b2 rfl #[.int .u32 x, .int .u32 (g.r 1), .int .u32 (g.r 2), .int .u32 (g.r 3), .int .u32 (g.r 4), .int .u32 (g.r 5), .int .u32 (g.r 6), .int .u32 (g.r 7), .int .u32 ((g.pc + 4) % 4294967296)] rfl F2v36.out rfl info44a rfl ?_
              intro v37 hk hf
              have HQv37 : Hid (Below Wk.heap.size Wk v37) := Lib.hid (belowFr HQv36.out hf hgeb2 (Nat.le_refl _))
              have F2v37 := Lib.hid hk
              have F3v37 := Lib.hid (F3v36.out.fr hf (by simp; omega))
              have H1v37 := Lib.hid (H1v36.out.fr hf (by simp; omega))
              clear hk hf
              refine hK.out _ _ _ (fun _ h => h) (fun _ => HQv37.out) ?_
              clear hK K
              try simp only [Act.put, List.setIfInBounds_toArray, List.set_cons_zero, List.set_cons_succ]
              refine wpT_br [9] (by kernel_rfl) rfl (List.forall_mem_cons.2 ⟨?_, fun _ h => (by cases h)⟩)
              · refine wpT_eff HTK.out 9 (by decide) (by kernel_rfl) (by simp only [opAt]; rfl) rfl (fun K hK => ?_)
                refine wp_store_blk 44 (.tmp 9) (.tmp 22) rfl b3 rfl #[.int .u32 (g.r 0), .int .u32 (g.r 1), .int .u32 (g.r 2), .int .u32 (g.r 3), .int .u32 (g.r 4), .int .u32 (g.r 5), .int .u32 (g.r 6), .int .u32 g.pc, .int .u32 y] rfl F3v37.out rfl info44a rfl ?_
                intro v38 hk hf
                have HQv38 : Hid (Below Wk.heap.size Wk v38) := Lib.hid (belowFr HQv37.out hf hgeb3 (Nat.le_refl _))
                have F3v38 := Lib.hid hk
                have F2v38 := Lib.hid (F2v37.out.fr hf (by simp; omega))
                have H1v38 := Lib.hid (H1v37.out.fr hf (by simp; omega))
                clear hk hf
                refine hK.out _ _ _ (fun _ h => h) (fun _ => HQv38.out) ?_
                clear hK K
                try simp only [Act.put, List.setIfInBounds_toArray, List.set_cons_zero, List.set_cons_succ]
                refine wpT_nil (by kernel_rfl) ?_
                exact ⟨rfl, b2, b3, rfl, HQv38.out, F2v38.out, F3v38.out, H1v38.out⟩
      · refine wpT_eff HTK.out 7 (by decide) (by kernel_rfl) (by simp only [opAt]; rfl) rfl (fun K hK => ?_)
        have hz := z44
        obtain ⟨v39, hv39⟩ : ∃ v39, v39 = v29.alloc (.cells #[.int .u32 0, .int .u32 0, .int .u32 0, .int .u32 0, .int .u32 0, .int .u32 0, .int .u32 0, .int .u32 0, .int .u32 0] 44) := ⟨_, rfl⟩
        obtain ⟨b3, hb3⟩ : ∃ b3, b3 = v29.heap.size := ⟨_, rfl⟩
        go_simp
        rw [← hv39, ← hb3]
        have nb : Below v29.heap.size v29 v39 := by rw [hv39]; exact (Below.refl _ _).alloc (Nat.le_refl _) _
        have HQv39 := Lib.hid (HQv29.out.trans (nb.mono HQv29.out.size))
        have F2v39 := Lib.hid (F2v29.out.below nb F2v29.out.lt)
        have H1v39 := Lib.hid (H1v29.out.below nb H1v29.out.lt)
        have F3v39 : Hid (Blk v39 b3 44 #[.int .u32 0, .int .u32 0, .int .u32 0, .int .u32 0, .int .u32 0, .int .u32 0, .int .u32 0, .int .u32 0, .int .u32 0]) := Lib.hid (by rw [hv39, hb3]; exact Blk.new _ _ _)
        have hne : b2 ≠ b3 := by have := F2v29.out.lt; omega
        have hgeb3 : Wk.heap.size ≤ b3 := by rw [hb3]; exact HQv29.out.size
        clear nb hz hv39 hb3
        refine hK.out _ _ _ (fun _ h => h) (fun _ => HQv39.out) ?_
        clear hK K
        try simp only [Act.put, List.setIfInBounds_toArray, List.set_cons_zero, List.set_cons_succ]
        refine wpT_br [2] (by kernel_rfl) rfl (List.forall_mem_cons.2 ⟨?_, fun _ h => (by cases h)⟩)
        · refine wpT_eff HTK.out 2 (by decide) (by kernel_rfl) (by simp only [opAt]; rfl) rfl (fun K hK => ?_)
          go_simp
          refine (HRES.out _).mono ?_
          rintro e v40 ⟨rfl, nb⟩
          have HQv40 := Lib.hid (HQv39.out.trans (nb.mono HQv39.out.size))
          have F2v40 := Lib.hid (F2v39.out.below nb F2v39.out.lt)
          have F3v40 := Lib.hid (F3v39.out.below nb F3v39.out.lt)
          have H1v40 := Lib.hid (H1v39.out.below nb H1v39.out.lt)
          clear nb
          dsimp only
          refine hK.out _ _ _ (fun _ h => h) (fun _ => HQv40.out) ?_
          clear hK K
          try simp only [Act.put, List.setIfInBounds_toArray, List.set_cons_zero, List.set_cons_succ]
          refine wpT_br [5] (by kernel_rfl) rfl (List.forall_mem_cons.2 ⟨?_, fun _ h => (by cases h)⟩)
          · refine wpT_eff HTK.out 5 (by decide) (by kernel_rfl) (by simp only [opAt]; rfl) rfl (fun K hK => ?_)
            go_simp
            refine (HINT.out _).mono ?_
            rintro e v41 ⟨rfl, nb⟩
            have HQv41 := Lib.hid (HQv40.out.trans (nb.mono HQv40.out.size))
            have F2v41 := Lib.hid (F2v40.out.below nb F2v40.out.lt)
            have F3v41 := Lib.hid (F3v40.out.below nb F3v40.out.lt)
            have H1v41 := Lib.hid (H1v40.out.below nb H1v40.out.lt)
            clear nb
            dsimp only
            refine hK.out _ _ _ (fun _ h => h) (fun _ => HQv41.out) ?_
            clear hK K
            try simp only [Act.put, List.setIfInBounds_toArray, List.set_cons_zero, List.set_cons_succ]
            refine wpT_br [8] (by kernel_rfl) rfl (List.forall_mem_cons.2 ⟨?_, fun _ h => (by cases h)⟩)
            · refine wpT_eff HTK.out 8 (by decide) (by kernel_rfl) (by simp only [opAt]; rfl) rfl (fun K hK => ?_)
              refine wp_store_blk 44 (.tmp 8) (.tmp 19) rfl b2 rfl #[.int .u32 x, .int .u32 (g.r 1), .int .u32 (g.r 2), .int .u32 (g.r 3), .int .u32 (g.r 4), .int .u32 (g.r 5), .int .u32 (g.r 6), .int .u32 (g.r 7), .int .u32 ((g.pc + 4) % 4294967296)] rfl F2v41.out rfl info44a rfl ?_
              intro v42 hk hf
              have HQv42 : Hid (Below Wk.heap.size Wk v42) := Lib.hid (belowFr HQv41.out hf hgeb2 (Nat.le_refl _))
              have F2v42 := Lib.hid hk
              have F3v42 := Lib.hid (F3v41.out.fr hf (by simp; omega))
              have H1v42 := Lib.hid (H1v41.out.fr hf (by simp; omega))
              clear hk hf
              refine hK.out _ _ _ (fun _ h => h) (fun _ => HQv42.out) ?_
              clear hK K
              try simp only [Act.put, List.setIfInBounds_toArray, List.set_cons_zero, List.set_cons_succ]
              refine wpT_br [9] (by kernel_rfl) rfl (List.forall_mem_cons.2 ⟨?_, fun _ h => (by cases h)⟩)
              · refine wpT_eff HTK.out 9 (by decide) (by kernel_rfl) (by simp only [opAt]; rfl) rfl (fun K hK => ?_)
                refine wp_store_blk 44 (.tmp 9) (.tmp 22) rfl b3 rfl #[.int .u32 (g.r 0), .int .u32 (g.r 1), .int .u32 (g.r 2), .int .u32 (g.r 3), .int .u32 (g.r 4), .int .u32 (g.r 5), .int .u32 (g.r 6), .int .u32 g.pc, .int .u32 y] rfl F3v42.out rfl info44a rfl ?_
                intro v43 hk hf
                have HQv43 : Hid (Below Wk.heap.size Wk v43) := Lib.hid (belowFr HQv42.out hf hgeb3 (Nat.le_refl _))
                have F3v43 := Lib.hid hk
                have F2v43 := Lib.hid (F2v42.out.fr hf (by simp; omega))
                have H1v43 := Lib.hid (H1v42.out.fr hf (by simp; omega))
                clear hk hf
                refine hK.out _ _ _ (fun _ h => h) (fun _ => HQv43.out) ?_
                clear hK K
                try simp only [Act.put, List.setIfInBounds_toArray, List.set_cons_zero, List.set_cons_succ]
                refine wpT_nil (by kernel_rfl) ?_
                exact ⟨rfl, b2, b3, rfl, HQv43.out, F2v43.out, F3v43.out, H1v43.out⟩
    · refine wpT_eff HTK.out 7 (by decide) (by kernel_rfl) (by simp only [opAt]; rfl) rfl (fun K hK => ?_)
      have hz := z44
      obtain ⟨v44, hv44⟩ : ∃ v44, v44 = Wk.alloc (.cells #[.int .u32 0, .int .u32 0, .int .u32 0, .int .u32 0, .int .u32 0, .int .u32 0, .int .u32 0, .int .u32 0, .int .u32 0] 44) := ⟨_, rfl⟩
      obtain ⟨b3, hb3⟩ : ∃ b3, b3 = Wk.heap.size := ⟨_, rfl⟩
      go_simp
      rw [← hv44, ← hb3]
      have nb : Below Wk.heap.size Wk v44 := by rw [hv44]; exact (Below.refl _ _).alloc (Nat.le_refl _) _
      have HQv44 := Lib.hid (HQWk.out.trans (nb.mono HQWk.out.size))
      have H1v44 := Lib.hid (H1Wk.out.below nb H1Wk.out.lt)
      have F3v44 : Hid (Blk v44 b3 44 #[.int .u32 0, .int .u32 0, .int .u32 0, .int .u32 0, .int .u32 0, .int .u32 0, .int .u32 0, .int .u32 0, .int .u32 0]) := Lib.hid (by rw [hv44, hb3]; exact Blk.new _ _ _)
      have hgeb3 : Wk.heap.size ≤ b3 := by rw [hb3]; exact HQWk.out.size
      clear nb hz hv44 hb3
      refine hK.out _ _ _ (fun _ h => h) (fun _ => HQv44.out) ?_
      clear hK K
      try simp only [Act.put, List.setIfInBounds_toArray, List.set_cons_zero, List.set_cons_succ]
      refine wpT_br [2, 6] (by kernel_rfl) rfl (List.forall_mem_cons.2 ⟨?_, List.forall_mem_cons.2 ⟨?_, fun _ h => (by cases h)⟩⟩)
      · refine wpT_eff HTK.out 2 (by decide) (by kernel_rfl) (by simp only [opAt]; rfl) rfl (fun K hK => ?_)
        go_simp
        refine (HRES.out _).mono ?_
        rintro e v45 ⟨rfl, nb⟩
        have HQv45 := Lib.hid (HQv44.out.trans (nb.mono HQv44.out.size))
        have F3v45 := Lib.hid (F3v44.out.below nb F3v44.out.lt)
        have H1v45 := Lib.hid (H1v44.out.below nb H1v44.out.lt)
        clear nb
        dsimp only
        refine hK.out _ _ _ (fun _ h => h) (fun _ => HQv45.out) ?_
        clear hK K
        try simp only [Act.put, List.setIfInBounds_toArray, List.set_cons_zero, List.set_cons_succ]
        refine wpT_br [5, 6] (by kernel_rfl) rfl (List.forall_mem_cons.2 ⟨?_, List.forall_mem_cons.2 ⟨?_, fun _ h => (by cases h)⟩⟩)
        · refine wpT_eff HTK.out 5 (by decide) (by kernel_rfl) (by simp only [opAt]; rfl) rfl (fun K hK => ?_)
          go_simp
          refine (HINT.out _).mono ?_
          rintro e v46 ⟨rfl, nb⟩
          have HQv46 := Lib.hid (HQv45.out.trans (nb.mono HQv45.out.size))
          have F3v46 := Lib.hid (F3v45.out.below nb F3v45.out.lt)
          have H1v46 := Lib.hid (H1v45.out.below nb H1v45.out.lt)
          clear nb
          dsimp only
          refine hK.out _ _ _ (fun _ h => h) (fun _ => HQv46.out) ?_
          clear hK K
          try simp only [Act.put, List.setIfInBounds_toArray, List.set_cons_zero, List.set_cons_succ]
          refine wpT_br [6] (by kernel_rfl) rfl (List.forall_mem_cons.2 ⟨?_, fun _ h => (by cases h)⟩)
          · refine wpT_eff HTK.out 6 (by decide) (by kernel_rfl) (by simp only [opAt]; rfl) rfl (fun K hK => ?_)
            have hz := z44
            obtain ⟨v47, hv47⟩ : ∃ v47, v47 = v46.alloc (.cells #[.int .u32 0, .int .u32 0, .int .u32 0, .int .u32 0, .int .u32 0, .int .u32 0, .int .u32 0, .int .u32 0, .int .u32 0] 44) := ⟨_, rfl⟩
            obtain ⟨b2, hb2⟩ : ∃ b2, b2 = v46.heap.size := ⟨_, rfl⟩
            go_simp
            rw [← hv47, ← hb2]
            have nb : Below v46.heap.size v46 v47 := by rw [hv47]; exact (Below.refl _ _).alloc (Nat.le_refl _) _
            have HQv47 := Lib.hid (HQv46.out.trans (nb.mono HQv46.out.size))
            have F3v47 := Lib.hid (F3v46.out.below nb F3v46.out.lt)
            have H1v47 := Lib.hid (H1v46.out.below nb H1v46.out.lt)
            have F2v47 : Hid (Blk v47 b2 44 #[.int .u32 0, .int .u32 0, .int .u32 0, .int .u32 0, .int .u32 0, .int .u32 0, .int .u32 0, .int .u32 0, .int .u32 0]) := Lib.hid (by rw [hv47, hb2]; exact Blk.new _ _ _)
            have hne : b2 ≠ b3 := by have := F3v46.out.lt; omega
            have hgeb2 : Wk.heap.size ≤ b2 := by rw [hb2]; exact HQv46.out.size
            clear nb hz hv47 hb2
            refine hK.out _ _ _ (fun _ h => h) (fun _ => HQv47.out) ?_
            clear hK K
            try simp only [Act.put, List.setIfInBounds_toArray, List.set_cons_zero, List.set_cons_succ]
            refine wpT_br [8] (by kernel_rfl) rfl (List.forall_mem_cons.2 ⟨?_, fun _ h => (by cases h)⟩)
            · refine wpT_eff HTK.out 8 (by decide) (by kernel_rfl) (by simp only [opAt]; rfl) rfl (fun K hK => ?_)
              refine wp_store_blk 44 (.tmp 8) (.tmp 19) rfl b2 rfl #[.int .u32 x, .int .u32 (g.r 1), .int .u32 (g.r 2), .int .u32 (g.r 3), .int .u32 (g.r 4), .int .u32 (g.r 5), .int .u32 (g.r 6), .int .u32 (g.r 7), .int .u32 ((g.pc + 4) % 4294967296)] rfl F2v47.out rfl info44a rfl ?_
              intro v48 hk hf
              have HQv48 : Hid (Below Wk.heap.size Wk v48) := Lib.hid (belowFr HQv47.out hf hgeb2 (Nat.le_refl _))
              have F2v48 := Lib.hid hk
              have F3v48 := Lib.hid (F3v47.out.fr hf (by simp; omega))
              have H1v48 := Lib.hid (H1v47.out.fr hf (by simp; omega))
              clear hk hf
              refine hK.out _ _ _ (fun _ h => h) (fun _ => HQv48.out) ?_
              clear hK K
              try simp only [Act.put, List.setIfInBounds_toArray, List.set_cons_zero, List.set_cons_succ]
              refine wpT_br [9] (by kernel_rfl) rfl (List.forall_mem_cons.2 ⟨?_, fun _ h => (by cases h)⟩)
              · refine wpT_eff HTK.out 9 (by decide) (by kernel_rfl) (by simp only [opAt]; rfl) rfl (fun K hK => ?_)
                refine wp_store_blk 44 (.tmp 9) (.tmp 22) rfl b3 rfl #[.int .u32 (g.r 0), .int .u32 (g.r 1), .int .u32 (g.r 2), .int .u32 (g.r 3), .int .u32 (g.r 4), .int .u32 (g.r 5), .int .u32 (g.r 6), .int .u32 g.pc, .int .u32 y] rfl F3v48.out rfl info44a rfl ?_
                intro v49 hk hf
                have HQv49 : Hid (Below Wk.heap.size Wk v49) := Lib.hid (belowFr HQv48.out hf hgeb3 (Nat.le_refl _))
                have F3v49 := Lib.hid hk
                have F2v49 := Lib.hid (F2v48.out.fr hf (by simp; omega))
                have H1v49 := Lib.hid (H1v48.out.fr hf (by simp; omega))
                clear hk hf
                refine hK.out _ _ _ (fun _ h => h) (fun _ => HQv49.out) ?_
                clear hK K
                try simp only [Act.put, List.setIfInBounds_toArray, List.set_cons_zero, List.set_cons_succ]
                refine wpT_nil (by kernel_rfl) ?_
                exact ⟨rfl, b2, b3, rfl, HQv49.out, F2v49.out, F3v49.out, H1v49.out⟩
        · refine wpT_eff HTK.out 6 (by decide) (by kernel_rfl) (by simp only [opAt]; rfl) rfl (fun K hK => ?_)
          have hz := z44
          obtain ⟨v50, hv50⟩ : ∃ v50, v50 = v45.alloc (.cells #[.int .u32 0, .int .u32 0, .int .u32 0, .int .u32 0, .int .u32 0, .int .u32 0, .int .u32 0, .int .u32 0, .int .u32 0] 44) := ⟨_, rfl⟩
          obtain ⟨b2, hb2⟩ : ∃ b2, b2 = v45.heap.size := ⟨_, rfl⟩
          go_simp
          rw [← hv50, ← hb2]
          have nb : Below v45.heap.size v45 v50 := by rw [hv50]; exact (Below.refl _ _).alloc (Nat.le_refl _) _
          have HQv50 := Lib.hid (HQv45.out.trans (nb.mono HQv45.out.size))
          have F3v50 := Lib.hid (F3v45.out.below nb F3v45.out.lt)
          have H1v50 := Lib.hid (H1v45.out.below nb H1v45.out.lt)
          have F2v50 : Hid (Blk v50 b2 44 #[.int .u32 0, .int .u32 0, .int .u32 0, .int .u32 0, .int .u32 0, .int .u32 0, .int .u32 0, .int .u32 0, .int .u32 0]) := Lib.hid (by rw [hv50, hb2]; exact Blk.new _ _ _)
          have hne : b2 ≠ b3 := by have := F3v45.out.lt; omega
          have hgeb2 : Wk.heap.size ≤ b2 := by rw [hb2]; exact HQv45.out.size
          clear nb hz hv50 hb2
          refine hK.out _ _ _ (fun _ h => h) (fun _ => HQv50.out) ?_
          clear hK K
          try simp only [Act.put, List.setIfInBounds_toArray, List.set_cons_zero, List.set_cons_succ]
          refine wpT_br [5] (by kernel_rfl) rfl (List.forall_mem_cons.2 ⟨?_, fun _ h => (by cases h)⟩)
          · refine wpT_eff HTK.out 5 (by decide) (by kernel_rfl) (by simp only [opAt]; rfl) rfl (fun K hK => ?_)
            go_simp
            refine (HINT.out _).mono ?_
            rintro e v51 ⟨rfl, nb⟩
            have HQv51 := Lib.hid (HQv50.out.trans (nb.mono HQv50.out.size))
            have F3v51 := Lib.hid (F3v50.out.below nb F3v50.out.lt)
            have F2v51 := Lib.hid (F2v50.out.below nb F2v50.out.lt)
            have H1v51 := Lib.hid (H1v50.out.below nb H1v50.out.lt)
            clear nb
            dsimp only
            refine hK.out _ _ _ (fun _ h => h) (fun _ => HQv51.out) ?_
            clear hK K
            try simp only [Act.put, List.setIfInBounds_toArray, List.set_cons_zero, List.set_cons_succ]
            refine wpT_br [8] (by kernel_rfl) rfl (List.forall_mem_cons.2 ⟨?_, fun _ h => (by cases h)⟩)
            · refine wpT_eff HTK.out 8 (by decide) (by kernel_rfl) (by simp only [opAt]; rfl) rfl (fun K hK => ?_)
              refine wp_store_blk 44 (.tmp 8) (.tmp 19) rfl b2 rfl #[.int .u32 x, .int .u32 (g.r 1), .int .u32 (g.r 2), .int .u32 (g.r 3), .int .u32 (g.r 4), .int .u32 (g.r 5), .int .u32 (g.r 6), .int .u32 (g.r 7), .int .u32 ((g.pc + 4) % 4294967296)] rfl F2v51.out rfl info44a rfl ?_
              intro v52 hk hf
              have HQv52 : Hid (Below Wk.heap.size Wk v52) := Lib.hid (belowFr HQv51.out hf hgeb2 (Nat.le_refl _))
              have F2v52 := Lib.hid hk
              have F3v52 := Lib.hid (F3v51.out.fr hf (by simp; omega))
              have H1v52 := Lib.hid (H1v51.out.fr hf (by simp; omega))
              clear hk hf
              refine hK.out _ _ _ (fun _ h => h) (fun _ => HQv52.out) ?_
              clear hK K
              try simp only [Act.put, List.setIfInBounds_toArray, List.set_cons_zero, List.set_cons_succ]
              refine wpT_br [9] (by kernel_rfl) rfl (List.forall_mem_cons.2 ⟨?_, fun _ h => (by cases h)⟩)
              · refine wpT_eff HTK.out 9 (by decide) (by kernel_rfl) (by simp only [opAt]; rfl) rfl (fun K hK => ?_)
                refine wp_store_blk 44 (.tmp 9) (.tmp 22) rfl b3 rfl #[.int .u32 (g.r 0), .int .u32 (g.r 1), .int .u32 (g.r 2), .int .u32 (g.r 3), .int .u32 (g.r 4), .int .u32 (g.r 5), .int .u32 (g.r 6), .int .u32 g.pc, .int .u32 y] rfl F3v52.out rfl info44a rfl ?_
                intro v53 hk hf
                have HQv53 : Hid (Below Wk.heap.size Wk v53) := Lib.hid (belowFr HQv52.out hf hgeb3 (Nat.le_refl _))
                have F3v53 := Lib.hid hk
                have F2v53 := Lib.hid (F2v52.out.fr hf (by simp; omega))
                have H1v53 := Lib.hid (H1v52.out.fr hf (by simp; omega))
                clear hk hf
                refine hK.out _ _ _ (fun _ h => h) (fun _ => HQv53.out) ?_
                clear hK K
                try simp only [Act.put, List.setIfInBounds_toArray, List.set_cons_zero, List.set_cons_succ]
                refine wpT_nil (by kernel_rfl) ?_
                exact ⟨rfl, b2, b3, rfl, HQv53.out, F2v53.out, F3v53.out, H1v53.out⟩
      · refine wpT_eff HTK.out 6 (by decide) (by kernel_rfl) (by simp only [opAt]; rfl) rfl (fun K hK => ?_)
        have hz := z44
        obtain ⟨v54, hv54⟩ : ∃ v54, v54 = v44.alloc (.cells #[.int .u32 0, .int .u32 0, .int .u32 0, .int .u32 0, .int .u32 0, .int .u32 0, .int .u32 0, .int .u32 0, .int .u32 0] 44) := ⟨_, rfl⟩
        obtain ⟨b2, hb2⟩ : ∃ b2, b2 = v44.heap.size := ⟨_, rfl⟩
        go_simp
        rw [← hv54, ← hb2]
        have nb : Below v44.heap.size v44 v54 := by rw [hv54]; exact (Below.refl _ _).alloc (Nat.le_refl _) _
        have HQv54 := Lib.hid (HQv44.out.trans (nb.mono HQv44.out.size))
        have F3v54 := Lib.hid (F3v44.out.below nb F3v44.out.lt)
        have H1v54 := Lib.hid (H1v44.out.below nb H1v44.out.lt)
        have F2v54 : Hid (Blk v54 b2 44 #[.int .u32 0, .int .u32 0, .int .u32 0, .int .u32 0, .int .u32 0, .int .u32 0, .int .u32 0, .int .u32 0, .int .u32 0]) := Lib.hid (by rw [hv54, hb2]; exact Blk.new _ _ _)
        have hne : b2 ≠ b3 := by have := F3v44.out.lt; omega
        have hgeb2 : Wk.heap.size ≤ b2 := by rw [hb2]; exact HQv44.out.size
        clear nb hz hv54 hb2
        refine hK.out _ _ _ (fun _ h => h) (fun _ => HQv54.out) ?_
        clear hK K
        try simp only [Act.put, List.setIfInBounds_toArray, List.set_cons_zero, List.set_cons_succ]
        refine wpT_br [2] (by kernel_rfl) rfl (List.forall_mem_cons.2 ⟨?_, fun _ h => (by cases h)⟩)
        · refine wpT_eff HTK.out 2 (by decide) (by kernel_rfl) (by simp only [opAt]; rfl) rfl (fun K hK => ?_)
          go_simp
          refine (HRES.out _).mono ?_
          rintro e v55 ⟨rfl, nb⟩
          have HQv55 := Lib.hid (HQv54.out.trans (nb.mono HQv54.out.size))
          have F3v55 := Lib.hid (F3v54.out.below nb F3v54.out.lt)
          have F2v55 := Lib.hid (F2v54.out.below nb F2v54.out.lt)
          have H1v55 := Lib.hid (H1v54.out.below nb H1v54.out.lt)
          clear nb
          dsimp only
          refine hK.out _ _ _ (fun _ h => h) (fun _ => HQv55.out) ?_
          clear hK K
          try simp only [Act.put, List.setIfInBounds_toArray, List.set_cons_zero, List.set_cons_succ]
          refine wpT_br [5] (by kernel_rfl) rfl (List.forall_mem_cons.2 ⟨?_, fun _ h => (by cases h)⟩)
          · refine wpT_eff HTK.out 5 (by decide) (by kernel_rfl) (by simp only [opAt]; rfl) rfl (fun K hK => ?_)
            go_simp
            refine (HINT.out _).mono ?_
            rintro e v56 ⟨rfl, nb⟩
            have HQv56 := Lib.hid (HQv55.out.trans (nb.mono HQv55.out.size))
            have F3v56 := Lib.hid (F3v55.out.below nb F3v55.out.lt)
            have F2v56 := Lib.hid (F2v55.out.below nb F2v55.out.lt)
            have H1v56 := Lib.hid (H1v55.out.below nb H1v55.out.lt)
            clear nb
            dsimp only
            refine hK.out _ _ _ (fun _ h => h) (fun _ => HQv56.out) ?_
            clear hK K
            try simp only [Act.put, List.setIfInBounds_toArray, List.set_cons_zero, List.set_cons_succ]
            refine wpT_br [8] (by kernel_rfl) rfl (List.forall_mem_cons.2 ⟨?_, fun _ h => (by cases h)⟩)
            · refine wpT_eff HTK.out 8 (by decide) (by kernel_rfl) (by simp only [opAt]; rfl) rfl (fun K hK => ?_)
              refine wp_store_blk 44 (.tmp 8) (.tmp 19) rfl b2 rfl #[.int .u32 x, .int .u32 (g.r 1), .int .u32 (g.r 2), .int .u32 (g.r 3), .int .u32 (g.r 4), .int .u32 (g.r 5), .int .u32 (g.r 6), .int .u32 (g.r 7), .int .u32 ((g.pc + 4) % 4294967296)] rfl F2v56.out rfl info44a rfl ?_
              intro v57 hk hf
              have HQv57 : Hid (Below Wk.heap.size Wk v57) := Lib.hid (belowFr HQv56.out hf hgeb2 (Nat.le_refl _))
              have F2v57 := Lib.hid hk
              have F3v57 := Lib.hid (F3v56.out.fr hf (by simp; omega))
              have H1v57 := Lib.hid (H1v56.out.fr hf (by simp; omega))
              clear hk hf
              refine hK.out _ _ _ (fun _ h => h) (fun _ => HQv57.out) ?_
              clear hK K
              try simp only [Act.put, List.setIfInBounds_toArray, List.set_cons_zero, List.set_cons_succ]
              refine wpT_br [9] (by kernel_rfl) rfl (List.forall_mem_cons.2 ⟨?_, fun _ h => (by cases h)⟩)
              · refine wpT_eff HTK.out 9 (by decide) (by kernel_rfl) (by simp only [opAt]; rfl) rfl (fun K hK => ?_)
                refine wp_store_blk 44 (.tmp 9) (.tmp 22) rfl b3 rfl #[.int .u32 (g.r 0), .int .u32 (g.r 1), .int .u32 (g.r 2), .int .u32 (g.r 3), .int .u32 (g.r 4), .int .u32 (g.r 5), .int .u32 (g.r 6), .int .u32 g.pc, .int .u32 y] rfl F3v57.out rfl info44a rfl ?_
                intro v58 hk hf
                have HQv58 : Hid (Below Wk.heap.size Wk v58) := Lib.hid (belowFr HQv57.out hf hgeb3 (Nat.le_refl _))
                have F3v58 := Lib.hid hk
                have F2v58 := Lib.hid (F2v57.out.fr hf (by simp; omega))
                have H1v58 := Lib.hid (H1v57.out.fr hf (by simp; omega))
                clear hk hf
                refine hK.out _ _ _ (fun _ h => h) (fun _ => HQv58.out) ?_
                clear hK K
                try simp only [Act.put, List.setIfInBounds_toArray, List.set_cons_zero, List.set_cons_succ]
                refine wpT_nil (by kernel_rfl) ?_
                exact ⟨rfl, b2, b3, rfl, HQv58.out, F2v58.out, F3v58.out, H1v58.out⟩
  · rintro a' w3 ⟨b2, b3, rfl, h1, h2, h3, h4⟩
    have HB3 : Hid (Below W0.heap.size W0 w3) := Lib.hid (HB2d.out.trans (h1.mono HB2d.out.size))
    have HA := Lib.hid h2
    have HBb := Lib.hid h3
    have HG1 := Lib.hid h4
    clear h1 h2 h3 h4 H1 HB2 HB2d H1Wk
    have d0 := HG1.out.cell 0
    have d1 := HG1.out.cell 1
    have d2 := HG1.out.cell 2
    have d3 := HG1.out.cell 3
    have d4 := HG1.out.cell 4
    have d5 := HG1.out.cell 5
    have d6 := HG1.out.cell 6
    have d7 := HG1.out.cell 7
    have d8 := HG1.out.cell 8
    simp at d0 d1 d2 d3 d4 d5 d6 d7 d8
    go_wp2_with fail
    refine (HENC.out _).mono ?_
    rintro e w4 ⟨rfl, nb⟩
    have HB4 := Lib.hid (HB3.out.trans (nb.mono HB3.out.size))
    have HA4 := Lib.hid (HA.out.below nb HA.out.lt)
    have HBb4 := Lib.hid (HBb.out.below nb HBb.out.lt)
    have HG4 := Lib.hid (HG1.out.below nb HG1.out.lt)
    clear nb HB3 HA HBb HG1
    clear d0 d1 d2 d3 d4 d5 d6 d7 d8
    dsimp only
    go_wp2_with fail
    refine (HDEC.out _).mono ?_
    rintro e w5 ⟨rfl, nb⟩
    obtain ⟨b4, hb4⟩ : ∃ b4, b4 = w5.heap.size := ⟨_, rfl⟩
    have HN4 := Lib.hid hb4
    obtain ⟨w6, hw6⟩ : ∃ w6, w6 = w5.alloc (.cells #[.int .u32 (g.r 0), .int .u32 (g.r 1), .int .u32 (g.r 2), .int .u32 (g.r 3), .int .u32 (g.r 4), .int .u32 (g.r 5), .int .u32 (g.r 6), .int .u32 (g.r 7), .int .u32 g.pc] 44) := ⟨_, rfl⟩
    have nb2 : Below w5.heap.size w5 w6 := by rw [hw6]; exact (Below.refl _ _).alloc (Nat.le_refl _) _
    have nb3 : Below w4.heap.size w4 w6 := nb.trans (nb2.mono nb.size)
    have HD6 : Hid (Blk w6 b4 44 #[.int .u32 (g.r 0), .int .u32 (g.r 1), .int .u32 (g.r 2), .int .u32 (g.r 3), .int .u32 (g.r 4), .int .u32 (g.r 5), .int .u32 (g.r 6), .int .u32 (g.r 7), .int .u32 g.pc]) := Lib.hid (by rw [hw6, hb4]; exact Blk.new _ _ _)
    have HB6 := Lib.hid (HB4.out.trans (nb3.mono HB4.out.size))
    have HA6 := Lib.hid (HA4.out.below nb3 HA4.out.lt)
    have HBb6 := Lib.hid (HBb4.out.below nb3 HBb4.out.lt)
    have HG6 := Lib.hid (HG4.out.below nb3 HG4.out.lt)
    clear nb nb2 nb3 HB4 HA4 HBb4 HG4 hb4
    dsimp only
    go_upto_region 5 with (fail)
    rw [← hw6, ← HN4.out]
    clear hw6
    have d0 := HG6.out.cell 0
    have d1 := HG6.out.cell 1
    have d2 := HG6.out.cell 2
    have d3 := HG6.out.cell 3
    have d4 := HG6.out.cell 4
    have d5 := HG6.out.cell 5
    have d6 := HG6.out.cell 6
    have d7 := HG6.out.cell 7
    have d8 := HG6.out.cell 8
    simp at d0 d1 d2 d3 d4 d5 d6 d7 d8
    obtain ⟨b5, hb5⟩ : ∃ b5, b5 = w6.heap.size := ⟨_, rfl⟩
    have HN5 := Lib.hid hb5
    obtain ⟨w7, hw7⟩ : ∃ w7, w7 = w6.alloc (.cells #[.int .u32 (g.r 0), .int .u32 (g.r 1), .int .u32 (g.r 2), .int .u32 (g.r 3), .int .u32 (g.r 4), .int .u32 (g.r 5), .int .u32 (g.r 6), .int .u32 (g.r 7), .int .u32 g.pc] 44) := ⟨_, rfl⟩
    have nb : Below w6.heap.size w6 w7 := by rw [hw7]; exact (Below.refl _ _).alloc (Nat.le_refl _) _
    have HW7 : Hid (Blk w7 b5 44 #[.int .u32 (g.r 0), .int .u32 (g.r 1), .int .u32 (g.r 2), .int .u32 (g.r 3), .int .u32 (g.r 4), .int .u32 (g.r 5), .int .u32 (g.r 6), .int .u32 (g.r 7), .int .u32 g.pc]) := Lib.hid (by rw [hw7, hb5]; exact Blk.new _ _ _)
    have HB7 := Lib.hid (HB6.out.trans (nb.mono HB6.out.size))
    have HA7 := Lib.hid (HA6.out.below nb HA6.out.lt)
    have HBb7 := Lib.hid (HBb6.out.below nb HBb6.out.lt)
    have HG7 := Lib.hid (HG6.out.below nb HG6.out.lt)
    have HD7 := Lib.hid (HD6.out.below nb HD6.out.lt)
    have hl2 : b2 < b5 := by rw [hb5]; exact HA6.out.lt
    have hl3 : b3 < b5 := by rw [hb5]; exact HBb6.out.lt
    have hl1 : b1 < b5 := by rw [hb5]; exact HG6.out.lt
    have hl4 : b4 < b5 := by rw [hb5]; exact HD6.out.lt
    have hl0 : W0.heap.size ≤ b5 := by rw [hb5]; exact HB6.out.size
    clear nb hb5 HB6 HA6 HBb6 HG6 HD6
    go_upto_region 6 with (fail)
    rw [← hw7, ← HN5.out]
    clear hw7
    clear d0 d1 d2 d3 d4 d5 d6 d7 d8
    have HW0 := HW7.out.drew
    have HS0 : w7.drew.cell? ⟨b1, 8, none⟩ = some (.int .u32 g.pc) := HG7.out.drew.cell 8
    have HB8 := Lib.hid HB7.out.drew
    have HA8 := Lib.hid HA7.out.drew
    have HBb8 := Lib.hid HBb7.out.drew
    have HG8 := Lib.hid HG7.out.drew
    have HD8 := Lib.hid HD7.out.drew
    have HW8 := Lib.hid HW0
    have HS8 := Lib.hid HS0
    clear HW0 HS0
    refine wp_region_mix (fun W => W.cell? ⟨b1, 8, none⟩ = some (.int .u32 g.pc)) [0, 1, 2, 3, 4, 5, 6] [6, 8] [0, 1, 2, 3, 4, 5, 6, 7, 8] (by kernel_rfl) (by kernel_rfl) HS8.out ?_
    simp only [inOrder, opAt]
    generalize w7.drew = W8 at *
    clear HB7 HA7 HBb7 HG7 HD7 HW7
    iterate 6
      (refine wpMix_read (v := ?_) rfl rfl (fun w' hS => ?_) ?_
       rotate_left
       · ((try replace hS := hS rfl); (try dsimp only at hS); go_simp; (try with_reducible rfl))
       try simp only [Act.put, List.setIfInBounds_toArray, List.set_cons_zero, List.set_cons_succ])
    refine wpMix_eff rfl rfl (fun K hK => ?_)
    have e0 := HW8.out.cell 0
    have f0 := HW8.out.frozen 0
    have l0 := HW8.out.lt
    simp at e0
    go_simp
    obtain ⟨W9, hW9⟩ : ∃ W9, W9 = W8.setCell ⟨b5, 0, none⟩ (.int .u32 x) := ⟨_, rfl⟩
    rw [← hW9]
    have HG9 : Hid (Blk W9 b1 44 #[.int .u32 (g.r 0), .int .u32 (g.r 1), .int .u32 (g.r 2), .int .u32 (g.r 3), .int .u32 (g.r 4), .int .u32 (g.r 5), .int .u32 (g.r 6), .int .u32 (g.r 7), .int .u32 g.pc]) := Lib.hid (by rw [hW9]; exact HG8.out.far (by show b1 ≠ b5; omega) _)
    have HA9 : Hid (Blk W9 b2 44 #[.int .u32 x, .int .u32 (g.r 1), .int .u32 (g.r 2), .int .u32 (g.r 3), .int .u32 (g.r 4), .int .u32 (g.r 5), .int .u32 (g.r 6), .int .u32 (g.r 7), .int .u32 ((g.pc + 4) % 4294967296)]) := Lib.hid (by rw [hW9]; exact HA8.out.far (by show b2 ≠ b5; omega) _)
    have HBb9 : Hid (Blk W9 b3 44 #[.int .u32 (g.r 0), .int .u32 (g.r 1), .int .u32 (g.r 2), .int .u32 (g.r 3), .int .u32 (g.r 4), .int .u32 (g.r 5), .int .u32 (g.r 6), .int .u32 g.pc, .int .u32 y]) := Lib.hid (by rw [hW9]; exact HBb8.out.far (by show b3 ≠ b5; omega) _)
    have HD9 : Hid (Blk W9 b4 44 #[.int .u32 (g.r 0), .int .u32 (g.r 1), .int .u32 (g.r 2), .int .u32 (g.r 3), .int .u32 (g.r 4), .int .u32 (g.r 5), .int .u32 (g.r 6), .int .u32 (g.r 7), .int .u32 g.pc]) := Lib.hid (by rw [hW9]; exact HD8.out.far (by show b4 ≠ b5; omega) _)
    have HW9 : Hid (Blk W9 b5 44 _) := Lib.hid (by rw [hW9]; exact HW8.out.set_ 0 (.int .u32 x))
    have HB9 : Hid (Below W0.heap.size W0 W9) := Lib.hid (by rw [hW9]; exact HB8.out.setCell (by show W0.heap.size ≤ b5; exact hl0) _)
    clear hW9 HG8 HA8 HBb8 HD8 HW8 HB8 HS8 e0 f0 l0
    refine hK.out _ _ (fun _ => HG9.out.cell 8) ?_
    clear hK K
    try simp only [Act.put, List.setIfInBounds_toArray, List.set_cons_zero, List.set_cons_succ]
    (refine wpMix_read (v := ?_) rfl rfl (fun w' hS => ?_) ?_
     rotate_left
     · ((try clear hS); go_simp; (try with_reducible rfl))
     try simp only [Act.put, List.setIfInBounds_toArray, List.set_cons_zero, List.set_cons_succ])
    refine wpMix_eff rfl rfl (fun K hK => ?_)
    have e0 := HW9.out.cell 8
    have f0 := HW9.out.frozen 8
    have l0 := HW9.out.lt
    simp at e0
    have hwr : IntKind.u32.wrap (g.pc + 4) = (g.pc + 4) % 4294967296 := by rw [IntKind.wrap_u32]
    go_simp
    try rw [hwr]
    clear hwr
    obtain ⟨Wa, hWa⟩ : ∃ Wa, Wa = W9.setCell ⟨b5, 8, none⟩ (.int .u32 ((g.pc + 4) % 4294967296)) := ⟨_, rfl⟩
    rw [← hWa]
    have HGa : Hid (Blk Wa b1 44 #[.int .u32 (g.r 0), .int .u32 (g.r 1), .int .u32 (g.r 2), .int .u32 (g.r 3), .int .u32 (g.r 4), .int .u32 (g.r 5), .int .u32 (g.r 6), .int .u32 (g.r 7), .int .u32 g.pc]) := Lib.hid (by rw [hWa]; exact HG9.out.far (by show b1 ≠ b5; omega) _)
    have HAa : Hid (Blk Wa b2 44 #[.int .u32 x, .int .u32 (g.r 1), .int .u32 (g.r 2), .int .u32 (g.r 3), .int .u32 (g.r 4), .int .u32 (g.r 5), .int .u32 (g.r 6), .int .u32 (g.r 7), .int .u32 ((g.pc + 4) % 4294967296)]) := Lib.hid (by rw [hWa]; exact HA9.out.far (by show b2 ≠ b5; omega) _)
    have HBba : Hid (Blk Wa b3 44 #[.int .u32 (g.r 0), .int .u32 (g.r 1), .int .u32 (g.r 2), .int .u32 (g.r 3), .int .u32 (g.r 4), .int .u32 (g.r 5), .int .u32 (g.r 6), .int .u32 g.pc, .int .u32 y]) := Lib.hid (by rw [hWa]; exact HBb9.out.far (by show b3 ≠ b5; omega) _)
    have HDa : Hid (Blk Wa b4 44 #[.int .u32 (g.r 0), .int .u32 (g.r 1), .int .u32 (g.r 2), .int .u32 (g.r 3), .int .u32 (g.r 4), .int .u32 (g.r 5), .int .u32 (g.r 6), .int .u32 (g.r 7), .int .u32 g.pc]) := Lib.hid (by rw [hWa]; exact HD9.out.far (by show b4 ≠ b5; omega) _)
    have HWa : Hid (Blk Wa b5 44 #[.int .u32 x, .int .u32 (g.r 1), .int .u32 (g.r 2), .int .u32 (g.r 3), .int .u32 (g.r 4), .int .u32 (g.r 5), .int .u32 (g.r 6), .int .u32 (g.r 7), .int .u32 ((g.pc + 4) % 4294967296)]) := Lib.hid (by rw [hWa]; exact HW9.out.set_ 8 (.int .u32 ((g.pc + 4) % 4294967296)))
    have HBa : Hid (Below W0.heap.size W0 Wa) := Lib.hid (by rw [hWa]; exact HB9.out.setCell (by show W0.heap.size ≤ b5; exact hl0) _)
    clear hWa HG9 HA9 HBb9 HD9 HW9 HB9 e0 f0 l0
    refine hK.out _ _ (fun h => by cases h) ?_
    clear hK K
    try simp only [Act.put, List.setIfInBounds_toArray, List.set_cons_zero, List.set_cons_succ]
    refine wpMix_nil ?_
    have d0 := HGa.out.cell 0
    have d1 := HGa.out.cell 1
    have d2 := HGa.out.cell 2
    have d3 := HGa.out.cell 3
    have d4 := HGa.out.cell 4
    have d5 := HGa.out.cell 5
    have d6 := HGa.out.cell 6
    have d7 := HGa.out.cell 7
    have d8 := HGa.out.cell 8
    simp at d0 d1 d2 d3 d4 d5 d6 d7 d8
    obtain ⟨b6, hb6⟩ : ∃ b6, b6 = Wa.heap.size := ⟨_, rfl⟩
    have HN6 := Lib.hid hb6
    obtain ⟨Wb, hWb⟩ : ∃ Wb, Wb = (Wa.alloc (.cells #[.int .u32 (g.r 0), .int .u32 (g.r 1), .int .u32 (g.r 2), .int .u32 (g.r 3), .int .u32 (g.r 4), .int .u32 (g.r 5), .int .u32 (g.r 6), .int .u32 g.pc, .int .u32 y] 44)) := ⟨_, rfl⟩
    have nb : Below Wa.heap.size Wa Wb := by rw [hWb]; exact (Below.refl _ _).alloc (Nat.le_refl _) _
    have HCb : Hid (Blk Wb b6 44 #[.int .u32 (g.r 0), .int .u32 (g.r 1), .int .u32 (g.r 2), .int .u32 (g.r 3), .int .u32 (g.r 4), .int .u32 (g.r 5), .int .u32 (g.r 6), .int .u32 g.pc, .int .u32 y]) := Lib.hid (by rw [hWb, hb6]; exact Blk.new _ _ _)
    have HGb := Lib.hid (HGa.out.below nb HGa.out.lt)
    have HAb := Lib.hid (HAa.out.below nb HAa.out.lt)
    have HBbb := Lib.hid (HBba.out.below nb HBba.out.lt)
    have HDb := Lib.hid (HDa.out.below nb HDa.out.lt)
    have HWb := Lib.hid (HWa.out.below nb HWa.out.lt)
    have HBw := Lib.hid (HBa.out.trans (nb.mono HBa.out.size))
    have hlb := HGa.out.lt
    clear nb hb6
    go_upto_region 9 with (fail)
    rw [← hWb, ← HN6.out]
    clear hWb hlb
    clear d0 d1 d2 d3 d4 d5 d6 d7 d8
    go_wp2_with fail
    refine (known_any Wb (HOP.out.belowS HBw.out)).mono ?_
    rintro e Wc ⟨rfl, nb⟩
    have kA := HAb.out.below nb HAb.out.lt
    have kB := HBbb.out.below nb HBbb.out.lt
    have kW := HWb.out.below nb HWb.out.lt
    have kC := HCb.out.below nb HCb.out.lt
    have HG2 := Lib.hid (HGb.out.below nb HGb.out.lt)
    have HD2 := Lib.hid (HDb.out.below nb HDb.out.lt)
    have HB2 := Lib.hid (HBw.out.trans (nb.mono HBw.out.size))
    have k0 := HB0.out.below HB2.out HB0.out.lt
    clear nb
    have a0 := kA.cell 0
    have a1 := kA.cell 1
    have a2 := kA.cell 2
    have a3 := kA.cell 3
    have a4 := kA.cell 4
    have a5 := kA.cell 5
    have a6 := kA.cell 6
    have a7 := kA.cell 7
    have a8 := kA.cell 8
    simp at a0 a1 a2 a3 a4 a5 a6 a7 a8
    have b_0 := kB.cell 0
    have b_1 := kB.cell 1
    have b_2 := kB.cell 2
    have b_3 := kB.cell 3
    have b_4 := kB.cell 4
    have b_5 := kB.cell 5
    have b_6 := kB.cell 6
    have b_7 := kB.cell 7
    have b_8 := kB.cell 8
    simp at b_0 b_1 b_2 b_3 b_4 b_5 b_6 b_7 b_8
    have w_0 := kW.cell 0
    have w_1 := kW.cell 1
    have w_2 := kW.cell 2
    have w_3 := kW.cell 3
    have w_4 := kW.cell 4
    have w_5 := kW.cell 5
    have w_6 := kW.cell 6
    have w_7 := kW.cell 7
    have w_8 := kW.cell 8
    simp at w_0 w_1 w_2 w_3 w_4 w_5 w_6 w_7 w_8
    have c_0 := kC.cell 0
    have c_1 := kC.cell 1
    have c_2 := kC.cell 2
    have c_3 := kC.cell 3
    have c_4 := kC.cell 4
    have c_5 := kC.cell 5
    have c_6 := kC.cell 6
    have c_7 := kC.cell 7
    have c_8 := kC.cell 8
    simp at c_0 c_1 c_2 c_3 c_4 c_5 c_6 c_7 c_8
    have g_0 := k0.cell 0
    have g_1 := k0.cell 1
    have g_2 := k0.cell 2
    have g_3 := k0.cell 3
    have g_4 := k0.cell 4
    have g_5 := k0.cell 5
    have g_6 := k0.cell 6
    have g_7 := k0.cell 7
    have g_8 := k0.cell 8
    simp at g_0 g_1 g_2 g_3 g_4 g_5 g_6 g_7 g_8
    clear kA kB kW kC k0
    have hq := eq44_refl
    dsimp only
    go_wp2_with fail
    refine (HTXT.out _).mono ?_
    rintro e Wd ⟨rfl, nb⟩
    have kG := HG2.out.below nb HG2.out.lt
    have kD := HD2.out.below nb HD2.out.lt
    have HBf := Lib.hid (HB2.out.trans (nb.mono HB2.out.size))
    clear nb
    clear a0 a1 a2 a3 a4 a5 a6 a7 a8 b_0 b_1 b_2 b_3 b_4 b_5 b_6 b_7 b_8 w_0 w_1 w_2 w_3 w_4 w_5 w_6 w_7 w_8 c_0 c_1 c_2 c_3 c_4 c_5 c_6 c_7 c_8 g_0 g_1 g_2 g_3 g_4 g_5 g_6 g_7 g_8
    have a0 := kG.cell 0
    have a1 := kG.cell 1
    have a2 := kG.cell 2
    have a3 := kG.cell 3
    have a4 := kG.cell 4
    have a5 := kG.cell 5
    have a6 := kG.cell 6
    have a7 := kG.cell 7
    have a8 := kG.cell 8
    simp at a0 a1 a2 a3 a4 a5 a6 a7 a8
    have d0 := kD.cell 0
    have d1 := kD.cell 1
    have d2 := kD.cell 2
    have d3 := kD.cell 3
    have d4 := kD.cell 4
    have d5 := kD.cell 5
    have d6 := kD.cell 6
    have d7 := kD.cell 7
    have d8 := kD.cell 8
    simp at d0 d1 d2 d3 d4 d5 d6 d7 d8
    clear kG kD
    dsimp only
    go_wp2_with fail
    go_ret
    exact ⟨rfl, HQL.out _ HBf.out⟩
theorem cpuRegisters_row (w : World) (g : Rg) (x y : Int) (hg : g.Ok) (_ : (Lit.int .u32 x).wf = true) (_ : (Lit.int .u32 y).wf = true) (ho : Ops w) :
    Calls Tryd.prog 8 #[.agg g.vals.toArray, .int .u32 x, .int .u32 y] w fun e w' => e = .returned (.bool true) ∧ Below w.heap.size w w' := cpuRegisters_any w g x y hg ho
end Go.Proofs.YtpadpggdealgkaaDoorRRR
