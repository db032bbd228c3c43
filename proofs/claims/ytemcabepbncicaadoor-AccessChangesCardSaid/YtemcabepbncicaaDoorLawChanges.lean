/-
  The law AccessChanges, walked.
-/
import Derived.Test.YtemcabepbncicaaDoorIdents
import Derived.Test.YtemcabepbncicaaDoorAccO
import Derived.Test.YtemcabepbncicaaDoorAccT
namespace Go.Proofs.YtemcabepbncicaaDoor
open Go.RowKit
set_option linter.unusedVariables false

set_option maxRecDepth 100000 in
set_option maxHeartbeats 16000000 in
theorem changes_walk (w : World) (u : Int) (v : Value) (x y z want : Int) (gs : List Int) (hu : (Lit.int .i64 u).wf = true) (hr : RdI w w.heap.size v gs)
    (hx : (Lit.int .i64 x).wf = true) (hy : (Lit.int .i64 y).wf = true) (hz : (Lit.int .i64 z).wf = true) (hw : (Lit.int .i64 want).wf = true) (hs : Sh w) :
    Calls Tryd.prog 8 #[.agg #[.int .i64 u, v], .agg #[.int .i64 x, .int .i64 y, .int .i64 z], .int .i64 want] w fun e w' => e = .returned (.bool true) ∧ Below w.heap.size w w' := by
  obtain ⟨A, cap, rfl, _, _, _⟩ := id hr
  clear hu hx hy hz hw
  obtain ⟨n1, n2, n3, n4⟩ := two_boxes w 24 26 #[.int .i64 u, .slice A gs.length cap] #[.int .i64 x, .int .i64 y, .int .i64 z]
  have HC := Lib.hid (who_any _ w.heap.size _ gs u (hr.below n4) (by rw [n3]; omega))
  have N1 := Lib.hid n1
  have N2 := Lib.hid n2
  have N3 := Lib.hid n3
  have N4 := Lib.hid n4
  clear n1 n2 n3 n4
  go_enter Tryd.func8, Tryd.ntmps8
  go_wp2_with fail
  refine HC.out.mono ?_
  clear HC
  rintro e w1 ⟨⟨v1, v2, rfl, h1, h2, r1, r2⟩, b1⟩
  generalize gs.take 8 = g8 at *
  obtain ⟨A1, c1, rfl, -, -, -⟩ := id h1
  obtain ⟨A2, c2, rfl, -, -, -⟩ := id h2
  have k3 := N1.out.below b1 (by rw [N3.out]; omega)
  have k4 := N2.out.below b1 (by rw [N3.out]; omega)
  have b2 := N4.out.trans (b1.mono (by rw [N3.out]; omega))
  have st := St.made (by rw [N3.out]; omega) r1 r2 k3 k4 h1 h2 b2
  have z0 := k3.lt
  have c30 := k3.cell 0
  have c31 := k3.cell 1
  have f30 := k3.frozen 0
  have f31 := k3.frozen 1
  simp at c30 c31
  have HST := Lib.hid st
  clear st b2 k3 k4 b1 N1 N2 N3 N4 h1 h2 r1 r2 hr
  dsimp only
  go_upto_region 2 with (fail)
  generalize w1.heap.size = g at *
  have st := HST.out
  clear HST c30 c31 f30 f31 z0
  generalize ((w1.setCell ⟨w.heap.size, 0, none⟩ (.int .i64 u)).setCell ⟨w.heap.size, 1, none⟩ (.slice A2 g8.length c2)).alloc (.cells #[.int .i64 u, .slice A1 g8.length c1] 27) = W at *
  clear w1
  obtain ⟨s0, s1, s2, s3, s4, s5, s6⟩ := st.cells
  go_wp2_with fail
  refine (change_any W W.heap.size _ g8 u want st.r1).mono ?_
  rintro e W1 ⟨rfl, nb⟩
  clear s0 s1 s2 s3 s4 s5 s6
  replace st := st.next nb
  clear nb
  have hcase : (changeV u want = 0 ∧ (u == 0) = true) ∨ (changeV u want = 0 ∧ (u == 0) = false ∧ (u == want) = true) ∨ (changeV u want = 14 ∧ (u == 0) = false ∧ (u == want) = false) := by
    unfold changeV
    by_cases h0 : u = 0
    · exact .inl ⟨by rw [if_neg (fun h => h.1 h0)], by simp [h0]⟩
    · by_cases h1 : u = want
      · exact .inr (.inl ⟨by rw [if_neg (fun h => h.2 h1)], beq_eq_false_iff_ne.2 h0, by simp [h1]⟩)
      · exact .inr (.inr ⟨by rw [if_pos ⟨h0, h1⟩], beq_eq_false_iff_ne.2 h0, beq_eq_false_iff_ne.2 h1⟩)
  have HCASE := Lib.hid hcase
  clear hcase
  dsimp only
  go_upto_region 3 with (fail)
  replace st := st.drew
  refine wp_region_mixS (fun W' => St w W' g u (.slice A1 g8.length c1) (.slice A2 g8.length c2) x y z g8) (List.range 44) [0, 32, 41] [0, 1, 2, 3, 4, 5, 6, 7, 8, 9, 10, 11, 12, 13, 14, 15, 16, 17, 18, 19, 20, 21, 22, 23, 24, 25, 26, 27, 28, 29, 30, 31, 33, 34, 35, 36, 37, 38, 39, 40, 32, 41, 42, 43, 44] (by kernel_rfl) (by kernel_rfl) st ?_
  simp only [inOrder, opAt]
  generalize W1.drew = W2 at *
  refine wpMixS_eff rfl rfl (fun K hK => ?_)
  go_simp
  refine (known_any _ (hs.belowS st.bl)).mono ?_
  rintro e W ⟨rfl, nb⟩
  replace st := st.next nb
  clear nb
  dsimp only
  refine hK.out _ _ _ (fun _ h => h) (fun _ => st) ?_
  clear hK K
  try simp only [Act.put, List.setIfInBounds_toArray, List.set_cons_zero, List.set_cons_succ]
  rcases HCASE.out with ⟨hv, t1⟩ | ⟨hv, t1, t2⟩ | ⟨hv, t1, t2⟩
  focus
    rw [hv]
    iterate 7
      (refine wpMixS_read (v := ?_) rfl rfl (fun w' hS => ?_) ?_
       rotate_left
       · ((try (obtain ⟨s0, s1, s2, s3, s4, s5, s6⟩ := St.cells (hS rfl))); (try clear hS); go_simp; (try with_reducible rfl))
       try simp only [Act.put, List.setIfInBounds_toArray, List.set_cons_zero, List.set_cons_succ])
    iterate 4
      (refine wpMixS_skip rfl rfl ?_
       try simp only [Act.put, List.setIfInBounds_toArray, List.set_cons_zero, List.set_cons_succ])
    iterate 7
      (refine wpMixS_read (v := ?_) rfl rfl (fun w' hS => ?_) ?_
       rotate_left
       · ((try (obtain ⟨s0, s1, s2, s3, s4, s5, s6⟩ := St.cells (hS rfl))); (try clear hS); go_simp; (try with_reducible rfl))
       try simp only [Act.put, List.setIfInBounds_toArray, List.set_cons_zero, List.set_cons_succ])
    iterate 2
      (refine wpMixS_skip rfl rfl ?_
       try simp only [Act.put, List.setIfInBounds_toArray, List.set_cons_zero, List.set_cons_succ])
    iterate 19
      (refine wpMixS_read (v := ?_) rfl rfl (fun w' hS => ?_) ?_
       rotate_left
       · ((try (obtain ⟨s0, s1, s2, s3, s4, s5, s6⟩ := St.cells (hS rfl))); (try clear hS); go_simp; (try with_reducible rfl))
       try simp only [Act.put, List.setIfInBounds_toArray, List.set_cons_zero, List.set_cons_succ])
    refine wpMixS_eff rfl rfl (fun K hK => ?_)
    go_simp
    refine (remove_any _ _ _ g8 u x y z want st.r1 (Nat.le_refl _) (hs.belowS st.bl)).mono ?_
    rintro e W ⟨rfl, nb⟩
    replace st := st.next nb
    clear nb
    dsimp only
    refine hK.out _ _ _ (fun _ h => h) (fun _ => st) ?_
    clear hK K
    try simp only [Act.put, List.setIfInBounds_toArray, List.set_cons_zero, List.set_cons_succ]
    refine wpMixS_eff rfl rfl (fun K hK => ?_)
    go_simp
    refine (rremove_any _ _ _ g8 u x y z want st.r2 (Nat.le_refl _)).mono ?_
    rintro e W ⟨rfl, nb⟩
    replace st := st.next nb
    clear nb
    dsimp only
    refine hK.out _ _ _ (fun _ h => h) (fun _ => st) ?_
    clear hK K
    try simp only [Act.put, List.setIfInBounds_toArray, List.set_cons_zero, List.set_cons_succ]
    iterate 3
      (refine wpMixS_read (v := ?_) rfl rfl (fun w' hS => ?_) ?_
       rotate_left
       · ((try (obtain ⟨s0, s1, s2, s3, s4, s5, s6⟩ := St.cells (hS rfl))); (try clear hS); go_simp; (try with_reducible rfl))
       try simp only [Act.put, List.setIfInBounds_toArray, List.set_cons_zero, List.set_cons_succ])
    refine wpMixS_nil ?_
    go_wp2_with fail
    go_ret
    exact ⟨by first | rfl | simp, st.bl⟩
  focus
    rw [hv]
    iterate 18
      (refine wpMixS_read (v := ?_) rfl rfl (fun w' hS => ?_) ?_
       rotate_left
       · ((try (obtain ⟨s0, s1, s2, s3, s4, s5, s6⟩ := St.cells (hS rfl))); (try clear hS); go_simp; (try with_reducible rfl))
       try simp only [Act.put, List.setIfInBounds_toArray, List.set_cons_zero, List.set_cons_succ])
    iterate 2
      (refine wpMixS_skip rfl rfl ?_
       try simp only [Act.put, List.setIfInBounds_toArray, List.set_cons_zero, List.set_cons_succ])
    iterate 19
      (refine wpMixS_read (v := ?_) rfl rfl (fun w' hS => ?_) ?_
       rotate_left
       · ((try (obtain ⟨s0, s1, s2, s3, s4, s5, s6⟩ := St.cells (hS rfl))); (try clear hS); go_simp; (try with_reducible rfl))
       try simp only [Act.put, List.setIfInBounds_toArray, List.set_cons_zero, List.set_cons_succ])
    refine wpMixS_eff rfl rfl (fun K hK => ?_)
    go_simp
    refine (remove_any _ _ _ g8 u x y z want st.r1 (Nat.le_refl _) (hs.belowS st.bl)).mono ?_
    rintro e W ⟨rfl, nb⟩
    replace st := st.next nb
    clear nb
    dsimp only
    refine hK.out _ _ _ (fun _ h => h) (fun _ => st) ?_
    clear hK K
    try simp only [Act.put, List.setIfInBounds_toArray, List.set_cons_zero, List.set_cons_succ]
    refine wpMixS_eff rfl rfl (fun K hK => ?_)
    go_simp
    refine (rremove_any _ _ _ g8 u x y z want st.r2 (Nat.le_refl _)).mono ?_
    rintro e W ⟨rfl, nb⟩
    replace st := st.next nb
    clear nb
    dsimp only
    refine hK.out _ _ _ (fun _ h => h) (fun _ => st) ?_
    clear hK K
    try simp only [Act.put, List.setIfInBounds_toArray, List.set_cons_zero, List.set_cons_succ]
    iterate 3
      (refine wpMixS_read (v := ?_) rfl rfl (fun w' hS => ?_) ?_
       rotate_left
       · ((try (obtain ⟨s0, s1, s2, s3, s4, s5, s6⟩ := St.cells (hS rfl))); (try clear hS); go_simp; (try with_reducible rfl))
       try simp only [Act.put, List.setIfInBounds_toArray, List.set_cons_zero, List.set_cons_succ])
    refine wpMixS_nil ?_
    go_wp2_with fail
    go_ret
    exact ⟨by first | rfl | simp, st.bl⟩
  focus
    rw [hv]
    iterate 39
      (refine wpMixS_read (v := ?_) rfl rfl (fun w' hS => ?_) ?_
       rotate_left
       · ((try (obtain ⟨s0, s1, s2, s3, s4, s5, s6⟩ := St.cells (hS rfl))); (try clear hS); go_simp; (try with_reducible rfl))
       try simp only [Act.put, List.setIfInBounds_toArray, List.set_cons_zero, List.set_cons_succ])
    refine wpMixS_eff rfl rfl (fun K hK => ?_)
    go_simp
    refine (remove_any _ _ _ g8 u x y z want st.r1 (Nat.le_refl _) (hs.belowS st.bl)).mono ?_
    rintro e W ⟨rfl, nb⟩
    replace st := st.next nb
    clear nb
    dsimp only
    refine hK.out _ _ _ (fun _ h => h) (fun _ => st) ?_
    clear hK K
    try simp only [Act.put, List.setIfInBounds_toArray, List.set_cons_zero, List.set_cons_succ]
    refine wpMixS_eff rfl rfl (fun K hK => ?_)
    go_simp
    refine (rremove_any _ _ _ g8 u x y z want st.r2 (Nat.le_refl _)).mono ?_
    rintro e W ⟨rfl, nb⟩
    replace st := st.next nb
    clear nb
    dsimp only
    refine hK.out _ _ _ (fun _ h => h) (fun _ => st) ?_
    clear hK K
    try simp only [Act.put, List.setIfInBounds_toArray, List.set_cons_zero, List.set_cons_succ]
    iterate 3
      (refine wpMixS_read (v := ?_) rfl rfl (fun w' hS => ?_) ?_
       rotate_left
       · ((try (obtain ⟨s0, s1, s2, s3, s4, s5, s6⟩ := St.cells (hS rfl))); (try clear hS); go_simp; (try with_reducible rfl))
       try simp only [Act.put, List.setIfInBounds_toArray, List.set_cons_zero, List.set_cons_succ])
    refine wpMixS_nil ?_
    go_wp2_with fail
    go_ret
    exact ⟨by first | rfl | simp, st.bl⟩
end Go.Proofs.YtemcabepbncicaaDoor
