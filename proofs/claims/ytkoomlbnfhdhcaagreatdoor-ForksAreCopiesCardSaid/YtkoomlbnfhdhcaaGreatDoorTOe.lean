/-
  Walks: a process changed; Exit, Load.
-/
import Derived.Test.YtkoomlbnfhdhcaaGreatDoorTOc
import Derived.Test.YtkoomlbnfhdhcaaGreatDoorTOd
import Derived.Defers
import Derived.Recover
import Derived.Laws.Pointers
import Derived.Laws.EntriesVeiled
namespace Go.Proofs.YtkoomlbnfhdhcaaGreatDoor
open Go.RowKit
set_option linter.unusedVariables false

theorem ofNat_cast (n : Nat) : ((n : Nat) : Int) = (n : Int) := rfl
set_option maxRecDepth 100000 in
set_option maxHeartbeats 4000000 in
theorem load1_any (w : World) (q c1 c2 : Nat) (p : Pr) (gv : Value) (who : List UInt8) (i : Img) (hq : Blk w q 40 (prCells p gv)) (h1 : Blk w c1 33 #[.string (strL who)]) (h2 : Blk w c2 23 (imgCells i)) (hi : ImgOk i) :
    Calls Tryz.prog 29 #[.pointer (some ⟨q, 0, none⟩), .pointer (some ⟨c1, 0, none⟩), .pointer (some ⟨c2, 0, none⟩)] w fun e w' => e = .returned (.int .i64 0) ∧ Blk w' q 40 (prCells { p with sp := who, pages := npOf i } gv) ∧ Fr [q] w w' := by
  have hnp := fun W => numPages_any W i hi
  have n1 := h1.ne_ hq (by decide)
  have n2 := h2.ne_ hq (by decide)
  obtain ⟨N, hN⟩ : ∃ N, N = npOf i := ⟨_, rfl⟩
  rw [← hN] at hnp ⊢
  clear hN hi
  obtain ⟨c, d, z, en⟩ := i
  obtain ⟨st, code, user, gs, sp, pages, term⟩ := p
  unfold imgCells prCells at *
  dsimp only at hnp hq h2 ⊢
  have HQ := Lib.hid hq
  have H1 := Lib.hid h1
  have H2 := Lib.hid h2
  clear hq h1 h2
  go_enter Tryz.func29, Tryz.ntmps29
  go_upto_region 1 with (fail)
  refine wp_region_mixL (fun W => Blk W c1 33 #[.string (strL who)] ∧ Blk W c2 23 #[.string (strL c), .string (strL d), .int .i64 z, .int .i64 en]) [3, 4, 5, 8, 11] [5, 8, 11, 14] [0, 1, 2, 3, 4, 5, 6, 7, 8, 9, 10, 11, 12, 13, 14] (by kernel_rfl) (by kernel_rfl) ⟨H1.out.drew, H2.out.drew⟩ ?_
  simp only [inOrder, opAt]
  iterate 5
    (refine wpMixS_read (v := ?_) rfl rfl (fun w' hS => ?_) ?_
     rotate_left
     · ((try (obtain ⟨t, s⟩ := hS rfl; have u0 := t.cell 0; have s0 := s.cell 0; have s1 := s.cell 1; have s2 := s.cell 2; have s3 := s.cell 3; simp at u0 s0 s1 s2 s3; clear t s)); go_simp; (try with_reducible rfl))
     try simp only [Act.put, List.setIfInBounds_toArray, List.set_cons_zero, List.set_cons_succ])
  refine wpMixS_eff rfl rfl (fun K hK => ?_)
  go_simp
  refine (hnp _).mono ?_
  rintro e w1 ⟨rfl, nb⟩
  have hq1 := HQ.out.drew.below nb HQ.out.lt
  have h11 := H1.out.drew.below nb H1.out.lt
  have h21 := H2.out.drew.below nb H2.out.lt
  have hf1 : Fr [q] w w1 := (Fr.refl _ _).drew.trans (Fr.of_below (L := []) nb) (by simp)
  refine hK.out _ _ _ (fun _ h => h) (fun _ => ⟨h11, h21⟩) ?_
  clear hK K nb hnp HQ H1 H2
  try simp only [Act.put, List.setIfInBounds_toArray, List.set_cons_zero, List.set_cons_succ]
  have k0 := hq1.cell 0
  have f0 := hq1.frozen 0
  simp at k0
  iterate 2
    (refine wpMixS_read (v := ?_) rfl rfl (fun w' hS => ?_) ?_
     rotate_left
     · ((try clear hS); go_simp; (try with_reducible rfl))
     try simp only [Act.put, List.setIfInBounds_toArray, List.set_cons_zero, List.set_cons_succ])
  refine wpMixS_eff rfl rfl (fun K hK => ?_)
  go_simp
  have hq2 := hq1.set_ 0 (.int .i64 1)
  have h12 := h11.far (p := ⟨q, 0, none⟩) n1 (.int .i64 1)
  have h22 := h21.far (p := ⟨q, 0, none⟩) n2 (.int .i64 1)
  have hf2 := hf1.setCell (p := ⟨q, 0, none⟩) (.inl (by simp)) (.int .i64 1)
  refine hK.out _ _ _ (fun _ h => h) (fun _ => ⟨h12, h22⟩) ?_
  clear hK K hq1 h11 h21 hf1 k0 f0
  try simp only [Act.put, List.setIfInBounds_toArray, List.set_cons_zero, List.set_cons_succ]
  have k0 := hq2.cell 6
  have f0 := hq2.frozen 6
  simp at k0
  iterate 2
    (refine wpMixS_read (v := ?_) rfl rfl (fun w' hS => ?_) ?_
     rotate_left
     · ((try clear hS); go_simp; (try with_reducible rfl))
     try simp only [Act.put, List.setIfInBounds_toArray, List.set_cons_zero, List.set_cons_succ])
  refine wpMixS_eff rfl rfl (fun K hK => ?_)
  go_simp
  have hq3 := hq2.set_ 6 (.string (strL who))
  have h13 := h12.far (p := ⟨q, 6, none⟩) n1 (.string (strL who))
  have h23 := h22.far (p := ⟨q, 6, none⟩) n2 (.string (strL who))
  have hf3 := hf2.setCell (p := ⟨q, 6, none⟩) (.inl (by simp)) (.string (strL who))
  refine hK.out _ _ _ (fun _ h => h) (fun _ => ⟨h13, h23⟩) ?_
  clear hK K hq2 h12 h22 hf2 k0 f0
  try simp only [Act.put, List.setIfInBounds_toArray, List.set_cons_zero, List.set_cons_succ]
  have k0 := hq3.cell 7
  have f0 := hq3.frozen 7
  simp at k0
  iterate 2
    (refine wpMixS_read (v := ?_) rfl rfl (fun w' hS => ?_) ?_
     rotate_left
     · ((try clear hS); go_simp; (try with_reducible rfl))
     try simp only [Act.put, List.setIfInBounds_toArray, List.set_cons_zero, List.set_cons_succ])
  refine wpMixS_eff rfl rfl (fun K hK => ?_)
  go_simp
  have hq4 := hq3.set_ 7 (.int .i64 (N : Int))
  have hf4 := hf3.setCell (p := ⟨q, 7, none⟩) (.inl (by simp)) (.int .i64 (N : Int))
  refine hK.out _ _ _ (fun _ h => h) (fun h => by cases h) ?_
  clear hK K hq3 h13 h23 hf3 k0 f0
  try simp only [Act.put, List.setIfInBounds_toArray, List.set_cons_zero, List.set_cons_succ]
  refine wpMixS_nil ?_
  go_wp2_with fail
  go_ret
  exact ⟨rfl, by simpa using hq4, hf4⟩
set_option maxRecDepth 100000 in
set_option maxHeartbeats 4000000 in
theorem changeL_any (w : World) (B v n c1 c2 : Nat) (V : Val) (who : List UInt8) (p p' : Pr) (h : Env w B v V n) (hp : Has V who p) (hr : p.st = 1) (hn : n ≤ 100000) (hp' : PrOk p') (hgs : p'.gs = p.gs)
    (hap : ∀ W q gv, VF B w W → Blk W q 40 (prCells p gv) → Calls Tryz.prog 29 #[.pointer (some ⟨q, 0, none⟩), .pointer (some ⟨c1, 0, none⟩), .pointer (some ⟨c2, 0, none⟩)] W fun e W' => e = .returned (.int .i64 0) ∧ Blk W' q 40 (prCells p' gv) ∧ Fr [q] W W') :
    Calls Tryz.prog 28 #[.pointer (some ⟨v, 0, none⟩), .string (strL who), .func (.func 29) #[] #[.pointer (some ⟨c1, 0, none⟩), .pointer (some ⟨c2, 0, none⟩)]] w fun e w' => e = .returned (.int .i64 0) ∧ Env w' B v (vupd V (oP who) (prEnc p')) (n + 1) ∧ VF B w w' := by
  have hrun := fun W (h : Env W B v V n) => running_any W B v n V who p h hp hr hn
  have hput := fun W C gv (h : Env W B v V n) (hg : GrOk W C gv p'.gs) (hC : C ≤ W.heap.size) => put_any W B C v n V who p' gv h hp.w hp' hg hC (by rw [hgs]; exact hp.gs) hn
  obtain ⟨V', hV'⟩ : ∃ V', V' = vupd V (oP who) (prEnc p') := ⟨_, rfl⟩
  rw [← hV'] at hput ⊢
  clear hV'
  have HBw := Lib.hid h.leB
  have HE := Lib.hid h
  clear h
  go_enter Tryz.func28, Tryz.ntmps28
  go_wp2_with fail
  refine (hrun _ HE.out).mono ?_
  rintro e w2 ⟨gv, rfl, hgr, h2, f2⟩
  have hone := pr_one p w2 _ gv hgr
  have hsz := pr_size p gv
  have hsz' := pr_size p' gv
  have HG := Lib.hid hgr
  have HE2 := Lib.hid h2
  have HF2 := Lib.hid f2
  have hap2 := fun W q (h : VF B w W) => hap W q gv h
  clear HE h2 f2 hgr hap
  unfold prV at *
  have hput2 := fun W C => hput W C gv
  clear hput
  obtain ⟨P, hP⟩ : ∃ P, P = prCells p gv := ⟨_, rfl⟩
  obtain ⟨P', hP'⟩ : ∃ P', P' = prCells p' gv := ⟨_, rfl⟩
  rw [← hP] at hsz hone hap2 ⊢
  rw [← hP'] at hsz' hap2 hput2
  have hi40 : (Tryz.prog.info? 40).map (·.size) = some P.size := by rw [hsz]; exact info40
  have hi40' : (Tryz.prog.info? 40).map (·.size) = some P'.size := by rw [hsz']; exact info40
  have HQ0 := Lib.hid (Blk.new w2 40 zPr)
  unfold zPr at HQ0
  clear hP hP'
  go_upto_region 2 with (refine wpList_store_blk rfl 40 (.tmp 7) (.tmp 14) rfl w2.heap.size rfl _ rfl HQ0.out hsz hi40 hone ?_; intro w3 hk3 hf3)
  have HQ3 := Lib.hid hk3
  have hb3 : Below w2.heap.size w2 w3 := belowFr1 ((Below.refl _ _).alloc (Nat.le_refl _) _) hf3 (Nat.le_refl _) (Nat.le_refl _)
  have HE3 := Lib.hid (HE2.out.below hb3)
  have HG3 := Lib.hid (HG.out.below hb3)
  have HF3 := Lib.hid (HF2.out.trans (VF.of_below hb3))
  have HZ3 := Lib.hid hb3.size
  clear hk3 hf3 hb3 HE2 HG HQ0
  go_wp2_with fail
  refine (hap2 w3 w2.heap.size HF3.out HQ3.out).mono ?_
  rintro e w4 ⟨rfl, hq4, hf4⟩
  have HQ4 := Lib.hid hq4
  have HE4 := Lib.hid (HE3.out.fr1 hf4 HQ3.out (by decide) (by decide) (by decide) (Nat.le_trans HBw.out HF2.out.size))
  have HG4 := Lib.hid (HG3.out.fr hf4 HQ3.out (by decide))
  have HF4 := Lib.hid (HF3.out.own hf4 HF2.out.size)
  have HZ4 := Lib.hid (Nat.le_trans HZ3.out hf4.size)
  clear hq4 hf4 HQ3 HE3 HG3 HF3 HZ3
  go_wp2_with (refine wpList_load_blk rfl 40 (.tmp 7) rfl w2.heap.size rfl HQ4.out _ Tryz.underlying40 rfl hi40' ?_)
  refine (hput2 w4 w2.heap.size HE4.out (by rw [hgs]; exact HG4.out) HZ4.out).mono ?_
  rintro e w5 ⟨rfl, h5, f5⟩
  go_wp2_with fail
  go_ret
  exact ⟨rfl, h5, HF4.out.trans f5⟩
set_option maxRecDepth 100000 in
set_option maxHeartbeats 4000000 in
theorem changeE_any (w : World) (B v n c1 : Nat) (V : Val) (who : List UInt8) (p p' : Pr) (h : Env w B v V n) (hp : Has V who p) (hr : p.st = 1) (hn : n ≤ 100000) (hp' : PrOk p') (hgs : p'.gs = p.gs)
    (hap : ∀ W q gv, VF B w W → Blk W q 40 (prCells p gv) → Calls Tryz.prog 103 #[.pointer (some ⟨q, 0, none⟩), .pointer (some ⟨c1, 0, none⟩)] W fun e W' => e = .returned (.int .i64 0) ∧ Blk W' q 40 (prCells p' gv) ∧ Fr [q] W W') :
    Calls Tryz.prog 28 #[.pointer (some ⟨v, 0, none⟩), .string (strL who), .func (.func 103) #[] #[.pointer (some ⟨c1, 0, none⟩)]] w fun e w' => e = .returned (.int .i64 0) ∧ Env w' B v (vupd V (oP who) (prEnc p')) (n + 1) ∧ VF B w w' := by
  have hrun := fun W (h : Env W B v V n) => running_any W B v n V who p h hp hr hn
  have hput := fun W C gv (h : Env W B v V n) (hg : GrOk W C gv p'.gs) (hC : C ≤ W.heap.size) => put_any W B C v n V who p' gv h hp.w hp' hg hC (by rw [hgs]; exact hp.gs) hn
  obtain ⟨V', hV'⟩ : ∃ V', V' = vupd V (oP who) (prEnc p') := ⟨_, rfl⟩
  rw [← hV'] at hput ⊢
  clear hV'
  have HBw := Lib.hid h.leB
  have HE := Lib.hid h
  clear h
  go_enter Tryz.func28, Tryz.ntmps28
  go_wp2_with fail
  refine (hrun _ HE.out).mono ?_
  rintro e w2 ⟨gv, rfl, hgr, h2, f2⟩
  have hone := pr_one p w2 _ gv hgr
  have hsz := pr_size p gv
  have hsz' := pr_size p' gv
  have HG := Lib.hid hgr
  have HE2 := Lib.hid h2
  have HF2 := Lib.hid f2
  have hap2 := fun W q (h : VF B w W) => hap W q gv h
  clear HE h2 f2 hgr hap
  unfold prV at *
  have hput2 := fun W C => hput W C gv
  clear hput
  obtain ⟨P, hP⟩ : ∃ P, P = prCells p gv := ⟨_, rfl⟩
  obtain ⟨P', hP'⟩ : ∃ P', P' = prCells p' gv := ⟨_, rfl⟩
  rw [← hP] at hsz hone hap2 ⊢
  rw [← hP'] at hsz' hap2 hput2
  have hi40 : (Tryz.prog.info? 40).map (·.size) = some P.size := by rw [hsz]; exact info40
  have hi40' : (Tryz.prog.info? 40).map (·.size) = some P'.size := by rw [hsz']; exact info40
  have HQ0 := Lib.hid (Blk.new w2 40 zPr)
  unfold zPr at HQ0
  clear hP hP'
  go_upto_region 2 with (refine wpList_store_blk rfl 40 (.tmp 7) (.tmp 14) rfl w2.heap.size rfl _ rfl HQ0.out hsz hi40 hone ?_; intro w3 hk3 hf3)
  have HQ3 := Lib.hid hk3
  have hb3 : Below w2.heap.size w2 w3 := belowFr1 ((Below.refl _ _).alloc (Nat.le_refl _) _) hf3 (Nat.le_refl _) (Nat.le_refl _)
  have HE3 := Lib.hid (HE2.out.below hb3)
  have HG3 := Lib.hid (HG.out.below hb3)
  have HF3 := Lib.hid (HF2.out.trans (VF.of_below hb3))
  have HZ3 := Lib.hid hb3.size
  clear hk3 hf3 hb3 HE2 HG HQ0
  go_wp2_with fail
  refine (hap2 w3 w2.heap.size HF3.out HQ3.out).mono ?_
  rintro e w4 ⟨rfl, hq4, hf4⟩
  have HQ4 := Lib.hid hq4
  have HE4 := Lib.hid (HE3.out.fr1 hf4 HQ3.out (by decide) (by decide) (by decide) (Nat.le_trans HBw.out HF2.out.size))
  have HG4 := Lib.hid (HG3.out.fr hf4 HQ3.out (by decide))
  have HF4 := Lib.hid (HF3.out.own hf4 HF2.out.size)
  have HZ4 := Lib.hid (Nat.le_trans HZ3.out hf4.size)
  clear hq4 hf4 HQ3 HE3 HG3 HF3 HZ3
  go_wp2_with (refine wpList_load_blk rfl 40 (.tmp 7) rfl w2.heap.size rfl HQ4.out _ Tryz.underlying40 rfl hi40' ?_)
  refine (hput2 w4 w2.heap.size HE4.out (by rw [hgs]; exact HG4.out) HZ4.out).mono ?_
  rintro e w5 ⟨rfl, h5, f5⟩
  go_wp2_with fail
  go_ret
  exact ⟨rfl, h5, HF4.out.trans f5⟩
set_option maxRecDepth 100000 in
set_option maxHeartbeats 4000000 in
theorem exit1_any (w : World) (q c1 : Nat) (p : Pr) (gv : Value) (hq : Blk w q 40 (prCells p gv)) (h1 : Blk w c1 3 #[.int .i64 9]) :
    Calls Tryz.prog 103 #[.pointer (some ⟨q, 0, none⟩), .pointer (some ⟨c1, 0, none⟩)] w fun e w' => e = .returned (.int .i64 0) ∧ Blk w' q 40 (prCells { p with st := 2, code := 9 } gv) ∧ Fr [q] w w' := by
  have hin := fun W => in_any W 9 410 (by omega)
  have n1 := h1.ne_ hq (by decide)
  obtain ⟨st, code, user, gs, sp, pages, term⟩ := p
  unfold prCells at *
  dsimp only at hq ⊢
  have HQ := Lib.hid hq
  have H1 := Lib.hid h1
  have u0 := h1.cell 0
  simp at u0
  clear hq h1
  go_enter Tryz.func103, Tryz.ntmps103
  go_wp2_with fail
  refine (hin _).mono ?_
  rintro e w1 ⟨rfl, rfl⟩
  go_upto_region 3 with (fail)
  refine wp_region_mixL (fun W => Blk W c1 3 #[.int .i64 9]) [2, 5] [5, 8] [0, 1, 2, 3, 4, 5, 6, 7, 8] (by kernel_rfl) (by kernel_rfl) H1.out.drew ?_
  simp only [inOrder, opAt]
  iterate 5
    (refine wpMixS_read (v := ?_) rfl rfl (fun w' hS => ?_) ?_
     rotate_left
     · ((try (have t := hS rfl; have u0 := t.cell 0; simp at u0; clear t)); go_simp; (try with_reducible rfl))
     try simp only [Act.put, List.setIfInBounds_toArray, List.set_cons_zero, List.set_cons_succ])
  refine wpMixS_eff rfl rfl (fun K hK => ?_)
  have hq1 := HQ.out.drew
  have k0 := hq1.cell 1
  have f0 := hq1.frozen 1
  simp at k0
  go_simp
  have hq2 : Blk (w.setCell ⟨q, 1, none⟩ (.int .i64 2)).drew q 40 _ := HQ.out.set_ 1 (.int .i64 2)
  have h12 : Blk (w.setCell ⟨q, 1, none⟩ (.int .i64 2)).drew c1 3 _ := H1.out.far (p := ⟨q, 1, none⟩) n1 (.int .i64 2)
  have hf2 : Fr [q] w (w.setCell ⟨q, 1, none⟩ (.int .i64 2)).drew := ((Fr.refl [q] w).setCell (p := ⟨q, 1, none⟩) (.inl (by simp)) (.int .i64 2)).drew
  refine hK.out _ _ _ (fun _ h => h) (fun _ => h12) ?_
  clear hK K hq1 k0 f0 HQ H1 u0
  try simp only [Act.put, List.setIfInBounds_toArray, List.set_cons_zero, List.set_cons_succ]
  have k0 := hq2.cell 2
  have f0 := hq2.frozen 2
  simp at k0
  iterate 2
    (refine wpMixS_read (v := ?_) rfl rfl (fun w' hS => ?_) ?_
     rotate_left
     · ((try clear hS); go_simp; (try with_reducible rfl))
     try simp only [Act.put, List.setIfInBounds_toArray, List.set_cons_zero, List.set_cons_succ])
  refine wpMixS_eff rfl rfl (fun K hK => ?_)
  go_simp
  have hq3 := hq2.set_ 2 (.int .i64 9)
  have hf3 := hf2.setCell (p := ⟨q, 2, none⟩) (.inl (by simp)) (.int .i64 9)
  refine hK.out _ _ _ (fun _ h => h) (fun h => by cases h) ?_
  clear hK K hq2 h12 hf2 k0 f0
  try simp only [Act.put, List.setIfInBounds_toArray, List.set_cons_zero, List.set_cons_succ]
  refine wpMixS_nil ?_
  go_wp2_with fail
  go_ret
  exact ⟨rfl, hq3, hf3⟩
theorem exit_any (w : World) (B v n : Nat) (V : Val) (who : List UInt8) (p : Pr) (h : Env w B v V n) (hp : Has V who p) (hr : p.st = 1) (hn : n ≤ 100000) :
    Calls Tryz.prog 54 #[.pointer (some ⟨v, 0, none⟩), .string (strL who), .int .i64 9] w fun e w' => e = .returned (.int .i64 0) ∧ Env w' B v (vupd V (oP who) (prEnc { p with st := 2, code := 9 })) (n + 1) ∧ VF B w w' := by
  have hch := fun W c1 (h : Env W B v V n) (hc : Blk W c1 3 #[.int .i64 9]) => changeE_any W B v n c1 V who p { p with st := 2, code := 9 } h hp hr hn ⟨⟨by show 1 ≤ 2; omega, by show 2 ≤ 3; omega⟩, by show 9 < 128; omega, (fun h => by cases h), hp.ok.user, hp.ok.sp, hp.ok.pages, hp.ok.term⟩ rfl (fun W' q gv hf hq => exit1_any W' q c1 p gv hq (hf.blk hc (by decide) (by decide)))
  obtain ⟨V', hV'⟩ : ∃ V', V' = vupd V (oP who) (prEnc { p with st := 2, code := 9 }) := ⟨_, rfl⟩
  rw [← hV'] at hch ⊢
  clear hV'
  have hmf : ∀ (fn : Fn) (first cap : Array Value) (w : World), (Instr.makeFunc fn first cap).run Tryz.prog w = .ok (.func fn first cap) w := fun _ _ _ _ => rfl
  have HB0 := Lib.hid ((Below.refl w.heap.size w).alloc (Nat.le_refl _) (.cells #[.int .i64 9] 3))
  have HN := Lib.hid (Blk.new w 3 #[.int .i64 9])
  have HE := Lib.hid (h.below HB0.out)
  clear h
  go_enter Tryz.func54, Tryz.ntmps54
  go_wp2_with fail
  refine (hch _ _ HE.out HN.out).mono ?_
  rintro e w2 ⟨rfl, h2, f2⟩
  go_wp2_with fail
  go_ret
  exact ⟨rfl, h2, (VF.of_below HB0.out).trans f2⟩
end Go.Proofs.YtkoomlbnfhdhcaaGreatDoor

/-
  Walks: the pages of a process set; Load.
-/
namespace Go.Proofs.YtkoomlbnfhdhcaaGreatDoor
open Go.RowKit
set_option linter.unusedVariables false

/-- The pages of a process are set, the first k. -/
def vpg (V : Val) (who : List UInt8) (l : List (List UInt8)) : Nat → Val
  | 0 => V
  | k + 1 => vupd (vpg V who l k) (oG who k) (l.getD k [])
theorem vpg_other (V : Val) (who : List UInt8) (l : List (List UInt8)) (y : Ob) (h : y.k ≠ 3 ∨ y.o ≠ who) : ∀ k, vpg V who l k y = V y
  | 0 => rfl
  | k + 1 => by
    unfold vpg
    rw [vupd_ne _ _ _ _ (fun e => by rw [e] at h; rcases h with h | h <;> exact h rfl), vpg_other V who l y h k]
theorem vpg_page (V : Val) (who : List UInt8) (l : List (List UInt8)) (i : Nat) : ∀ k, vpg V who l k (oG who i) = if i < k then some (l.getD i []) else V (oG who i)
  | 0 => by rw [if_neg (by omega)]; rfl
  | k + 1 => by
    unfold vpg
    by_cases e : i = k
    · subst e
      rw [vupd_at, if_pos (by omega)]
    · rw [vupd_ne _ _ _ _ (fun h => e (by injection h)), vpg_page V who l i k]
      by_cases h : i < k
      · rw [if_pos h, if_pos (by omega)]
      · rw [if_neg h, if_neg (by omega)]
/-- A row of strings, in a block of their type. -/
def RdS (w : World) (v : Value) (l : List (List UInt8)) : Prop := ∃ A c, v = .slice A l.length c ∧ l.length ≤ 1000 ∧ (0 < l.length → ∃ b cur, A = some ⟨b, 0, none⟩ ∧ Blk w b 9 cur ∧ ∀ k (h : k < l.length), cur[k]? = some (.string (strL l[k])))
theorem RdS.keep {w w' : World} {v : Value} {l : List (List UInt8)} (h : RdS w v l) (hk : ∀ b cur, Blk w b 9 cur → Blk w' b 9 cur) : RdS w' v l := by
  obtain ⟨A, c, h1, h2, h3⟩ := h
  refine ⟨A, c, h1, h2, fun h0 => ?_⟩
  obtain ⟨b, cur, h4, h5, h6⟩ := h3 h0
  exact ⟨b, cur, h4, hk b cur h5, h6⟩
theorem RdS.below {w w' : World} {v : Value} {l : List (List UInt8)} (h : RdS w v l) (hb : Below w.heap.size w w') : RdS w' v l := h.keep fun _ _ h => h.below hb h.lt
theorem RdS.vf {w w' : World} {B : Nat} {v : Value} {l : List (List UInt8)} (h : RdS w v l) (hb : VF B w w') : RdS w' v l := h.keep fun _ _ h => hb.blk h (by decide) (by decide)
theorem RdS.of_own {w : World} {base : Nat} {v : Value} {l : List (List UInt8)} (h : w.ownsRow base 9 1 v l.length (strV l)) (hl : l.length ≤ 1000) : RdS w v l := by
  obtain ⟨OA, oc, rfl⟩ := own_slice h
  refine ⟨OA, oc, rfl, hl, fun h0 => ?_⟩
  rcases h.2 with ⟨_, h2⟩ | ⟨g, cap, cur, hv, hg, hh, h1, h3, h4, h5⟩
  · have : l.length = 0 := by first | exact h2 | exact h2.1
    omega
  · injection hv with e1 e2 e3
    refine ⟨g, cur, e1, hh, fun k hk => ?_⟩
    have := congrArg (fun l => l[k]?) h5
    simp [strV, hk] at this
    exact this
theorem RdS.at_ {w : World} {A : Option Addr} {n c : Nat} {l : List (List UInt8)} (h : RdS w (.slice A n c) l) {k : Nat} (hk : k < l.length) : ∃ b, A = some ⟨b, 0, none⟩ ∧ n = l.length ∧ w.cell? ⟨b, k, none⟩ = some (.string (strL (l.getD k []))) := by
  obtain ⟨A', c', h1, h2, h3⟩ := h
  injection h1 with e1 e2 e3
  obtain ⟨b, cur, h4, h5, h6⟩ := h3 (by omega)
  refine ⟨b, e1.trans h4, e2, ?_⟩
  rw [h5.cell, h6 k hk, List.getD_eq_getElem?_getD, List.getElem?_eq_getElem hk]
  rfl
theorem RdS.len {w : World} {A : Option Addr} {n c : Nat} {l : List (List UInt8)} (h : RdS w (.slice A n c) l) : n = l.length := by
  obtain ⟨A', c', h1, h2, h3⟩ := h
  injection h1
set_option maxRecDepth 100000 in
set_option maxHeartbeats 4000000 in
theorem setPages_any (w : World) (B v n : Nat) (V : Val) (who : List UInt8) (l : List (List UInt8)) (pv : Value) (h : Env w B v V n) (hw : Who who) (hl : l.length ≤ 64) (hpl : ∀ x ∈ l, x.length ≤ 64) (hp : RdS w pv l) (hn : n + 64 ≤ 100000) :
    Calls Tryz.prog 31 #[.pointer (some ⟨v, 0, none⟩), .string (strL who), .int .i64 0, pv] w fun e w' => e = .returned (.int .i64 0) ∧ Env w' B v (vpg V who l l.length) (n + l.length) ∧ VF B w w' := by
  obtain ⟨A, c, rfl, _⟩ := id hp
  have hof := fun W k => ofPage_any W who k
  have hset := fun W k (hk : k < l.length) (h : Env W B v (vpg V who l k) (n + k)) => h.set (b := l.getD k []) (okG hw (i := k) (by omega)) (by omega) (by
    have := hpl (l.getD k []) (by rw [List.getD_eq_getElem?_getD, List.getElem?_eq_getElem hk]; exact List.getElem_mem hk)
    omega)
  have HP := Lib.hid hp
  have HE := Lib.hid h
  clear h hp hpl
  go_enter Tryz.func31, Tryz.ntmps31
  go_wp2_with fail
  go_loopg [14] l.length (fun q iv wr => ∃ k : Nat, k ≤ l.length ∧ q = l.length - k ∧ iv = .int .i64 (k : Int) ∧ Env wr B v (vpg V who l k) (n + k) ∧ VF B w wr)
  case atStart => exact ⟨0, Nat.zero_le _, rfl, rfl, HE.out, VF.refl _ _⟩
  case round =>
    obtain ⟨k, hk, rfl, rfl, he, hf⟩ := hrel
    have HE1 := Lib.hid he
    have HF1 := Lib.hid hf
    clear he hf
    by_cases hlt : k < l.length
    · have i1 : (k : Int) < (l.length : Int) := by omega
      have i0 : (0 : Int) ≤ (k : Int) := by omega
      obtain ⟨b, hA, _, hc⟩ := (HP.out.vf HF1.out).at_ hlt
      subst hA
      have hset1 := hset wr k hlt
      have hset2 := fun W => hset W k hlt
      have hof1 := fun W => hof W k
      unfold oG at hset2
      obtain ⟨x, hx⟩ : ∃ x, x = obV ⟨3, who, k⟩ := ⟨_, rfl⟩
      rw [← hx] at hset2 hof1
      obtain ⟨s, hs⟩ : ∃ s, s = strL (l.getD k []) := ⟨_, rfl⟩
      rw [← hs] at hset2 hc
      have HVS : Hid (vpg V who l (k + 1) = vupd (vpg V who l k) ⟨3, who, k⟩ (l.getD k [])) := Lib.hid rfl
      obtain ⟨V', hV'⟩ : ∃ V', V' = vupd (vpg V who l k) ⟨3, who, k⟩ (l.getD k []) := ⟨_, rfl⟩
      rw [← hV'] at hset2 HVS
      clear hx hs hset1 hV'
      go_wp2_with fail
      refine (hof1 _).mono ?_
      rintro e w2 ⟨rfl, nb⟩
      have HE2 := Lib.hid (HE1.out.below nb)
      go_wp2_with fail
      refine (hset2 _ HE2.out).mono ?_
      rintro e w3 ⟨rfl, h3, f3⟩
      have HE3 := Lib.hid h3
      have HF3 := Lib.hid ((HF1.out.trans (VF.of_below nb)).trans f3)
      clear h3 f3 nb HE2
      go_wp2_with fail
      go_roundg (l.length - (k + 1))
      case measure => omega
      case rel => exact ⟨k + 1, hlt, rfl, by go_num, by rw [HVS.out, show n + (k + 1) = n + k + 1 by omega]; exact HE3.out, HF3.out⟩
    · obtain rfl : k = l.length := by omega
      go_wp2_with fail
      go_ret
      exact ⟨rfl, HE1.out, HF1.out⟩
theorem pages_len {i : Img} (h : ImgOk i) : ∀ x ∈ pagesL i, x.length ≤ 64 := by
  intro x hx
  unfold pagesL at hx
  obtain ⟨k, _, rfl⟩ := List.mem_map.1 hx
  unfold pgOfI
  rw [List.length_take]
  omega
def rgE (e : Int) : Rg := ⟨fun _ => 0, e⟩
theorem rgE_ok (e : Int) (h : 0 ≤ e) (h2 : e ≤ 1000) : (rgE e).Ok := ⟨fun _ => Int.le_refl _, fun _ => by show (0 : Int) < 4294967296; decide, h, by show e < 4294967296; omega⟩
theorem build51 (W : World) (e : Int) : (Instr.build 51 #[(1, .int .u32 e)]).run Tryz.prog W = .ok (.agg #[.int .u32 0, .int .u32 0, .int .u32 0, .int .u32 0, .int .u32 0, .int .u32 0, .int .u32 0, .int .u32 0, .int .u32 e]) W := by kernel_rfl
/-- A view behind Load. -/
def loadV (V : Val) (who : List UInt8) (p : Pr) (i : Img) : Val := vupd (vpg (vupd V (oP who) (prEnc { p with sp := who, pages := npOf i })) who (pagesL i) (npOf i)) (oR who) (encT (rgE i.e) 9)
set_option maxRecDepth 100000 in
set_option maxHeartbeats 8000000 in
theorem load_any' (w : World) (B v n : Nat) (V : Val) (who : List UInt8) (p : Pr) (i : Img) (h : Env w B v V n) (hp : Has V who p) (hr : p.st = 1) (hi : ImgOk i) (hn : n + 100 ≤ 100000) :
    Calls Tryz.prog 9 #[.pointer (some ⟨v, 0, none⟩), .string (strL who), .agg (imgCells i)] w fun e w' => e = .returned (.int .i64 0) ∧ Env w' B v (loadV V who p i) (n + 66) ∧ VF B w w' := by
  have hmf : ∀ (fn : Fn) (first cap : Array Value) (w : World), (Instr.makeFunc fn first cap).run Tryz.prog w = .ok (.func fn first cap) w := fun _ _ _ _ => rfl
  have hbd := build51
  have hck := fun W => imgCheck_any W i hi.cl hi.dl
  rw [hi.chk] at hck
  have hmk := fun W (h : Env W B v V n) => mark_any W B v n V h.vw
  have hch := fun W c1 c2 (h : Env W B v V n) (h1 : Blk W c1 33 #[.string (strL who)]) (h2 : Blk W c2 23 (imgCells i)) => changeL_any W B v n c1 c2 V who p { p with sp := who, pages := npOf i } h hp hr (by omega)
    ⟨hp.ok.st, hp.ok.code, hp.ok.run, hp.ok.user, hp.w, hi.np_le, hp.ok.term⟩ rfl (fun W' q gv hf hq => load1_any W' q c1 c2 p gv who i hq (hf.blk h1 (by decide) (by decide)) (hf.blk h2 (by decide) (by decide)) hi)
  have hpa := fun W => pages_any W i hi
  have hlen := pagesL_length i
  have hnp := hi.np_le
  obtain ⟨V1, hV1⟩ : ∃ V1, V1 = vupd V (oP who) (prEnc { p with sp := who, pages := npOf i }) := ⟨_, rfl⟩
  have hsp := fun W pv (h : Env W B v V1 (n + 1)) (hr : RdS W pv (pagesL i)) => setPages_any W B v (n + 1) V1 who (pagesL i) pv h hp.w (by rw [hlen]; exact hnp) (pages_len hi) hr (by omega)
  rw [hlen] at hsp
  have hsp2 : ∀ W pv, Env W B v V1 (n + 1) → RdS W pv (pagesL i) → Calls Tryz.prog 31 #[.pointer (some ⟨v, 0, none⟩), .string (strL who), .int .i64 0, pv] W fun e w' => e = .returned (.int .i64 0) ∧ Env w' B v (vpg V1 who (pagesL i) (npOf i)) (n + 65) ∧ VF B W w' := fun W pv h1 h2 => (hsp W pv h1 h2).mono fun e w' ⟨g1, g2, g3⟩ => ⟨g1, g2.more (by omega), g3⟩
  clear hsp
  obtain ⟨V2, hV2⟩ : ∃ V2, V2 = vpg V1 who (pagesL i) (npOf i) := ⟨_, rfl⟩
  have he0 := hi.e0
  have he1 : i.e ≤ 200 := by have := hi.el; have := hi.cl; omega
  have hsr := fun W (h : Env W B v V2 (n + 65)) => setRegisters_any W B v (n + 65) V2 who (rgE i.e) h hp.w (rgE_ok _ he0 (by omega)) (by omega)
  have hV3 : loadV V who p i = vupd V2 (oR who) (encT (rgE i.e) 9) := by rw [hV2, hV1]; rfl
  rw [hV3]
  obtain ⟨V3, hV3'⟩ : ∃ V3, V3 = vupd V2 (oR who) (encT (rgE i.e) 9) := ⟨_, rfl⟩
  rw [← hV1] at hch
  rw [← hV2] at hsp2
  rw [← hV3'] at hsr ⊢
  have hro : ∀ (W : World) base v, W.ownsRow base 9 1 v (npOf i) (strV (pagesL i)) → RdS W v (pagesL i) := fun W base v h => RdS.of_own (by rw [hlen]; exact h) (by rw [hlen]; omega)
  clear hV1 hV2 hV3 hV3' hlen
  have HRO := Lib.hid hro
  clear hro hi
  obtain ⟨xs, hxs⟩ : ∃ xs, xs = pagesL i := ⟨_, rfl⟩
  obtain ⟨N, hN⟩ : ∃ N, N = npOf i := ⟨_, rfl⟩
  rw [← hxs] at hpa hsp2 HRO
  rw [← hN] at hpa HRO
  clear hxs hN hnp
  obtain ⟨c, d, z, en⟩ := i
  unfold imgCells at *
  unfold Rg.vals rgE at hsr
  dsimp only at hck hch hpa he0 he1 hsr ⊢
  obtain ⟨Q, hQ⟩ : ∃ Q : Array Value, Q = #[.string (strL c), .string (strL d), .int .i64 z, .int .i64 en] := ⟨_, rfl⟩
  obtain ⟨W0, hW0⟩ : ∃ W0, W0 = (w.alloc (.cells #[.string (strL who)] 33)).alloc (.cells Q 23) := ⟨_, rfl⟩
  have HA : Hid (Blk W0 w.heap.size 33 #[.string (strL who)]) := Lib.hid (by rw [hW0]; exact (Blk.new w 33 #[.string (strL who)]).alloc _)
  have HI : Hid (Blk W0 (w.heap.size + 1) 23 Q) := Lib.hid (by rw [hW0]; exact Blk.new_ _ _ _ (by simp))
  have HB0 : Hid (Below w.heap.size w W0) := Lib.hid (by rw [hW0]; exact ((Below.refl _ _).alloc (Nat.le_refl _) _).alloc (by simp) _)
  have HE := Lib.hid (h.below HB0.out)
  rw [hQ] at HI hW0
  clear h
  go_enter Tryz.func9, Tryz.ntmps9
  go_upto_region 1 with (fail)
  rw [← hW0]
  have i0 := HI.out.cell 0
  have i1 := HI.out.cell 1
  have i2 := HI.out.cell 2
  have i3 := HI.out.cell 3
  simp at i0 i1 i2 i3
  clear hW0 hQ
  go_wp2_with fail
  refine (hck _).mono ?_
  rintro e w1 ⟨rfl, nb⟩
  have HA1 := Lib.hid (HA.out.below nb HA.out.lt)
  have HI1 := Lib.hid (HI.out.below nb HI.out.lt)
  have HE1 := Lib.hid (HE.out.below nb)
  have HB1 := Lib.hid (HB0.out.trans (nb.mono HB0.out.size))
  clear nb HA HI HE HB0 hck i0 i1 i2 i3
  go_wp2_with fail
  refine (hmk _ HE1.out).mono ?_
  rintro e w1' ⟨mk, rfl, rfl⟩
  have a0 := HA1.out.cell 0
  simp at a0
  clear hmk
  go_wp2_with fail
  refine (hch w1 _ _ HE1.out HA1.out HI1.out).mono ?_
  rintro e w2 ⟨rfl, h2, f2⟩
  have HA2 := Lib.hid (f2.blk HA1.out (by decide) (by decide))
  have HI2 := Lib.hid (f2.blk HI1.out (by decide) (by decide))
  have HE2 := Lib.hid h2
  have HF2 := Lib.hid ((VF.of_below HB1.out).trans f2)
  clear h2 f2 HA1 HI1 HE1 HB1 hch a0
  go_upto_region 9 with (fail)
  refine wp_region_mixL (fun W => Blk W w.heap.size 33 #[.string (strL who)] ∧ Blk W (w.heap.size + 1) 23 #[.string (strL c), .string (strL d), .int .i64 z, .int .i64 en]) [1, 2, 3, 4] [3, 4] [0, 1, 2, 3, 4, 5] (by kernel_rfl) (by kernel_rfl) ⟨HA2.out.drew, HI2.out.drew⟩ ?_
  simp only [inOrder, opAt]
  iterate 3
    (refine wpMixS_read (v := ?_) rfl rfl (fun w' hS => ?_) ?_
     rotate_left
     · ((try (obtain ⟨t, s⟩ := hS rfl; have u0 := t.cell 0; have s0 := s.cell 0; have s1 := s.cell 1; have s2 := s.cell 2; have s3 := s.cell 3; simp at u0 s0 s1 s2 s3; clear t s)); go_simp; (try with_reducible rfl))
     try simp only [Act.put, List.setIfInBounds_toArray, List.set_cons_zero, List.set_cons_succ])
  refine wpMixS_eff rfl rfl (fun K hK => ?_)
  go_simp
  refine (hpa _).mono ?_
  rintro e w3 ⟨pv, rfl, hown, nb⟩
  have HR3 := Lib.hid (HRO.out _ _ _ hown)
  have HA3 := Lib.hid (HA2.out.drew.below nb HA2.out.lt)
  have HI3 := Lib.hid (HI2.out.drew.below nb HI2.out.lt)
  have HE3 := Lib.hid ((HE2.out.below (Below.refl _ _).drew).below nb)
  have HF3 := Lib.hid (HF2.out.trans (VF.of_below ((Below.refl _ _).drew.trans nb)))
  refine hK.out _ _ _ (fun _ h => h) (fun _ => ⟨HA3.out, HI3.out⟩) ?_
  clear hK K nb hown HA2 HI2 HE2 HF2 hpa HRO
  try simp only [Act.put, List.setIfInBounds_toArray, List.set_cons_zero, List.set_cons_succ]
  refine wpMixS_eff rfl rfl (fun K hK => ?_)
  go_simp
  refine (hsp2 _ _ HE3.out HR3.out).mono ?_
  rintro e w4 ⟨rfl, h4, f4⟩
  have HA4 := Lib.hid (f4.blk HA3.out (by decide) (by decide))
  have HI4 := Lib.hid (f4.blk HI3.out (by decide) (by decide))
  have HE4 := Lib.hid h4
  have HF4 := Lib.hid (HF3.out.trans f4)
  refine hK.out _ _ _ (fun _ h => h) (fun _ => ⟨HA4.out, HI4.out⟩) ?_
  clear hK K h4 f4 HA3 HI3 HE3 HF3 HR3 hsp2
  try simp only [Act.put, List.setIfInBounds_toArray, List.set_cons_zero, List.set_cons_succ]
  iterate 1
    (refine wpMixS_read (v := ?_) rfl rfl (fun w' hS => ?_) ?_
     rotate_left
     · ((try clear hS); go_simp; (try with_reducible rfl))
     try simp only [Act.put, List.setIfInBounds_toArray, List.set_cons_zero, List.set_cons_succ])
  refine wpMixS_nil ?_
  have a0 := HA4.out.cell 0
  have i3 := HI4.out.cell 3
  simp at a0 i3
  have hw32 : IntKind.u32.wrap en = en := IntWalk.u32_in _ (by omega)
  go_wp2_with fail
  refine (hsr _ HE4.out).mono ?_
  rintro e w5 ⟨rfl, h5, f5⟩
  go_wp2_with fail
  go_ret
  exact ⟨rfl, h5, HF4.out.trans f5⟩
end Go.Proofs.YtkoomlbnfhdhcaaGreatDoor

/-
  Walks: the memory of a process.
-/
namespace Go.Proofs.YtkoomlbnfhdhcaaGreatDoor
open Go.RowKit
set_option linter.unusedVariables false
set_option linter.unusedSimpArgs false

section
variable {P : Program} {fn : Func} {R : Ending → World → Prop} {tmps : Array Value} {w : World} {g g2 p q u t t2 ty ty2 : Nat} {cs cs2 : Array Value} {d d2 : TypeDesc}
theorem end_cells3 (h : fn.results = #[.cell p ty, .cell q ty2, .tmp u]) (hp : tmps.getD p undef = .pointer (some ⟨g, 0, none⟩)) (hq : tmps.getD q undef = .pointer (some ⟨g2, 0, none⟩)) (hb : Blk w g t cs) (hb2 : Blk w g2 t2 cs2)
    (hu : P.underlying ty = some d) (hd : d.isRow = true) (hi : (P.info? ty).map (·.size) = some cs.size) (hu2 : P.underlying ty2 = some d2) (hd2 : d2.isRow = true) (hi2 : (P.info? ty2).map (·.size) = some cs2.size) (hR : R (.returned (.tuple #[.agg cs, .agg cs2, tmps.getD u undef])) w) :
    bodyPost P fn R .ret { tmps := tmps, defers := [] } w := by
  refine bodyPost_ret (v := .tuple #[.agg cs, .agg cs2, tmps.getD u undef]) ?_ rfl hR
  have hp' : tmps[p]?.getD undef = .pointer (some ⟨g, 0, none⟩) := by simpa using hp
  have hq' : tmps[q]?.getD undef = .pointer (some ⟨g2, 0, none⟩) := by simpa using hq
  simp [results, h, hp', hq', asAddr, run_loadVar_blk hb hu hd hi, run_loadVar_blk hb2 hu2 hd2 hi2]
end
set_option maxRecDepth 100000 in
set_option maxHeartbeats 4000000 in
theorem owner_any (w : World) (C v : Nat) (who : List UInt8) (p : Pr) (gv : Value) (hg : GrOk w C gv p.gs) (hs : p.sp = who) :
    Calls Tryz.prog 72 #[.pointer (some ⟨v, 0, none⟩), .string (strL who), prV p gv] w fun e w' => e = .returned (.tuple #[prV p gv, .int .i64 0]) ∧ Below w.heap.size w w' := by
  have hq := fun W => str_eql 33 who who W
  rw [beq_self_eq_true] at hq
  have hone := pr_one p w C gv hg
  have hsz := pr_size p gv
  have hc6 : (prCells p gv)[6]? = some (.string (strL who)) := by rw [← hs]; rfl
  unfold prV at *
  obtain ⟨P, hP⟩ : ∃ P, P = prCells p gv := ⟨_, rfl⟩
  rw [← hP] at hone hsz hc6 ⊢
  have hi40 : (Tryz.prog.info? 40).map (·.size) = some P.size := by rw [hsz]; exact info40
  obtain ⟨W0, hW0⟩ : ∃ W0, W0 = (w.alloc (.cells P 40)).alloc (.cells zPr 40) := ⟨_, rfl⟩
  have HA : Hid (Blk W0 w.heap.size 40 P) := Lib.hid (by rw [hW0]; exact (Blk.new w 40 P).alloc _)
  have HQ : Hid (Blk W0 (w.heap.size + 1) 40 zPr) := Lib.hid (by rw [hW0]; exact Blk.new_ _ _ _ (by simp))
  have HB0 : Hid (Below w.heap.size w W0) := Lib.hid (by rw [hW0]; exact ((Below.refl _ _).alloc (Nat.le_refl _) _).alloc (by simp) _)
  unfold zPr at HQ hW0
  have c6 := HA.out.cell 6
  rw [hc6] at c6
  clear hP hg hc6 hs
  go_enter Tryz.func72, Tryz.ntmps72
  go_upto_region 1 with (fail)
  rw [← hW0]
  clear hW0
  go_wp2_with (first | refine wpList_load_blk rfl 40 (.tmp 5) rfl w.heap.size rfl HA.out _ Tryz.underlying40 rfl hi40 ?_ | (refine wpList_store_blk rfl 40 (.tmp 6) (.tmp 12) rfl (w.heap.size + 1) rfl _ rfl HQ.out hsz hi40 hone ?_; intro w6 hk6 hf6))
  exact end_cell_tmp rfl rfl hk6 Tryz.underlying40 rfl hi40 ⟨rfl, belowFr1 HB0.out hf6 (Nat.le_succ _) (Nat.le_refl _)⟩
set_option maxRecDepth 100000 in
set_option maxHeartbeats 4000000 in
theorem memoryOf_any (w : World) (B v n : Nat) (V : Val) (who : List UInt8) (p : Pr) (h : Env w B v V n) (hp : Has V who p) (hs : p.sp = who) (hn : n ≤ 100000) :
    Calls Tryz.prog 48 #[.pointer (some ⟨v, 0, none⟩), .string (strL who)] w fun e w' => ∃ gv, e = .returned (.tuple #[prV p gv, prV p gv, .int .i64 0]) ∧ GrOk w' w'.heap.size gv p.gs ∧ Env w' B v V n ∧ VF B w w' := by
  have hget := fun W (h : Env W B v V n) => prGet_any W B v n V who p h hp hn
  have how := fun W C gv (hg : GrOk W C gv p.gs) => owner_any W C v who p gv hg hs
  obtain ⟨W0, hW0⟩ : ∃ W0, W0 = (w.alloc (.cells zPr 40)).alloc (.cells zPr 40) := ⟨_, rfl⟩
  have HA : Hid (Blk W0 w.heap.size 40 zPr) := Lib.hid (by rw [hW0]; exact (Blk.new w 40 zPr).alloc _)
  have HO : Hid (Blk W0 (w.heap.size + 1) 40 zPr) := Lib.hid (by rw [hW0]; exact Blk.new_ _ _ _ (by simp))
  have HB0 : Hid (Below w.heap.size w W0) := Lib.hid (by rw [hW0]; exact ((Below.refl _ _).alloc (Nat.le_refl _) _).alloc (by simp) _)
  have HE := Lib.hid (h.below HB0.out)
  have HBw := Lib.hid h.leB
  unfold zPr at HA HO hW0
  clear h hs
  go_enter Tryz.func48, Tryz.ntmps48
  go_upto_region 1 with (fail)
  rw [← hW0]
  clear hW0
  go_wp2_with fail
  refine (hget _ HE.out).mono ?_
  rintro e w1 ⟨gv, rfl, hgr, h1, f1⟩
  have HG1 := Lib.hid hgr
  have HE1 := Lib.hid h1
  have HF1 := Lib.hid ((VF.of_below HB0.out).trans f1)
  have HA1 := Lib.hid (f1.blk HA.out (by decide) (by decide))
  have HO1 := Lib.hid (f1.blk HO.out (by decide) (by decide))
  have how1 := fun W C => how W C gv
  have hone := pr_one p w1 _ gv hgr
  have hsz := pr_size p gv
  clear hgr h1 f1 HA HO HE HB0 hget how
  unfold prV at *
  obtain ⟨P, hP⟩ : ∃ P, P = prCells p gv := ⟨_, rfl⟩
  rw [← hP] at hone hsz how1 ⊢
  have hi40 : (Tryz.prog.info? 40).map (·.size) = some P.size := by rw [hsz]; exact info40
  have HP := Lib.hid hP
  clear hP
  go_upto_region 2 with (refine wpList_store_blk rfl 40 (.tmp 4) (.tmp 11) rfl w.heap.size rfl _ rfl HA1.out hsz hi40 hone ?_; intro w2 hk2 hf2)
  have HA2 := Lib.hid hk2
  have HO2 := Lib.hid (HO1.out.fr hf2 (by simp))
  have HG2 := Lib.hid ((HG1.out.fr hf2 HA1.out (by decide)).more hf2.size)
  have HE2 := Lib.hid (HE1.out.fr1 hf2 HA1.out (by decide) (by decide) (by decide) HBw.out)
  have HF2 := Lib.hid (HF1.out.own hf2 (Nat.le_refl _))
  clear hk2 hf2 HA1 HO1 HG1 HE1 HF1
  go_wp2_with (refine wpList_load_blk rfl 40 (.tmp 4) rfl w.heap.size rfl HA2.out _ Tryz.underlying40 rfl hi40 ?_)
  refine (how1 w2 _ HG2.out).mono ?_
  rintro e w3 ⟨rfl, nb⟩
  have HA3 := Lib.hid (HA2.out.below nb HA2.out.lt)
  have HO3 := Lib.hid (HO2.out.below nb HO2.out.lt)
  have HG3 := Lib.hid ((HG2.out.below nb).more nb.size)
  have HE3 := Lib.hid (HE2.out.below nb)
  have HF3 := Lib.hid (HF2.out.trans (VF.of_below nb))
  clear nb HA2 HO2 HG2 HE2 HF2
  go_upto_region 5 with (refine wpList_store_blk rfl 40 (.tmp 5) (.tmp 23) rfl (w.heap.size + 1) rfl _ rfl HO3.out hsz hi40 hone ?_; intro w4 hk4 hf4)
  have HO4 := Lib.hid hk4
  have HA4 := Lib.hid (HA3.out.fr hf4 (by simp))
  have HG4 := Lib.hid ((HG3.out.fr hf4 HO3.out (by decide)).more hf4.size)
  have HE4 := Lib.hid (HE3.out.fr1 hf4 HO3.out (by decide) (by decide) (by decide) (Nat.le_succ_of_le HBw.out))
  have HF4 := Lib.hid (HF3.out.own hf4 (Nat.le_succ _))
  clear hk4 hf4 HA3 HO3 HG3 HE3 HF3
  go_upto_region 7 with (fail)
  refine wp_region_mixL (fun W => Blk W w.heap.size 40 P ∧ Blk W (w.heap.size + 1) 40 P) [0, 1, 2] [2, 3] [0, 1, 2, 3, 4] (by kernel_rfl) (by kernel_rfl) ⟨HA4.out.drew, HO4.out.drew⟩ ?_
  simp only [inOrder, opAt]
  have hi40' : (Tryz.prog.info? 40).map (·.size) = some P.toList.length := by rw [Array.length_toList]; exact hi40
  refine wpMixS_row rfl rfl 40 (.tmp 4) rfl w.heap.size 0 rfl P.toList _ (fun w' hS => blk_range (hS rfl).1) Tryz.underlying40 rfl hi40' ?_
  simp only [Act.put, List.setIfInBounds_toArray, List.set_cons_zero, List.set_cons_succ, Array.toArray_toList]
  refine wpMixS_row rfl rfl 40 (.tmp 5) rfl (w.heap.size + 1) 0 rfl P.toList _ (fun w' hS => blk_range (hS rfl).2) Tryz.underlying40 rfl hi40' ?_
  simp only [Act.put, List.setIfInBounds_toArray, List.set_cons_zero, List.set_cons_succ, Array.toArray_toList]
  refine wpMixS_eff rfl rfl (fun K hK => ?_)
  refine wp_store_blk 40 (.tmp 4) (.tmp 30) rfl w.heap.size rfl _ rfl HA4.out.drew rfl hi40 hone ?_
  intro w5 hk5 hf5
  have HO5 := Lib.hid (HO4.out.drew.fr hf5 (by simp))
  have HA5 := Lib.hid hk5
  have HG5 := Lib.hid (((show GrOk w4.drew _ gv p.gs from HG4.out).fr hf5 HA4.out.drew (by decide)).more hf5.size)
  have HE5 := Lib.hid ((HE4.out.below (Below.refl _ _).drew).fr1 hf5 HA4.out.drew (by decide) (by decide) (by decide) HBw.out)
  have HF5 := Lib.hid (HF4.out.own ((Fr.refl _ _).drew.trans hf5 (by simp)) (Nat.le_refl _))
  refine hK.out _ _ _ (fun _ h => h) (fun _ => ⟨hk5, HO5.out⟩) ?_
  clear hK K hk5 hf5 HA4 HO4 HG4 HE4 HF4
  try simp only [Act.put, List.setIfInBounds_toArray, List.set_cons_zero, List.set_cons_succ]
  refine wpMixS_eff rfl rfl (fun K hK => ?_)
  refine wp_store_blk 40 (.tmp 5) (.tmp 31) rfl (w.heap.size + 1) rfl _ rfl HO5.out rfl hi40 hone ?_
  intro w6 hk6 hf6
  have HA6 := Lib.hid (HA5.out.fr hf6 (by simp))
  have HO6 := Lib.hid hk6
  have HG6 := Lib.hid ((HG5.out.fr hf6 HO5.out (by decide)).more hf6.size)
  have HE6 := Lib.hid (HE5.out.fr1 hf6 HO5.out (by decide) (by decide) (by decide) (Nat.le_succ_of_le HBw.out))
  have HF6 := Lib.hid (HF5.out.own hf6 (Nat.le_succ _))
  refine hK.out _ _ _ (fun _ h => h) (fun h => by cases h) ?_
  clear hK K hk6 hf6 HA5 HO5 HG5 HE5 HF5
  try simp only [Act.put, List.setIfInBounds_toArray, List.set_cons_zero, List.set_cons_succ]
  iterate 1
    (refine wpMixS_read (v := ?_) rfl rfl (fun w' hS => ?_) ?_
     rotate_left
     · ((try clear hS); go_simp; (try with_reducible rfl))
     try simp only [Act.put, List.setIfInBounds_toArray, List.set_cons_zero, List.set_cons_succ])
  refine wpMixS_nil ?_
  go_wp2_with fail
  exact end_cells3 rfl rfl rfl HA6.out HO6.out Tryz.underlying40 rfl hi40 Tryz.underlying40 rfl hi40 ⟨gv, by rw [HP.out]; rfl, HG6.out, HE6.out, HF6.out⟩
end Go.Proofs.YtkoomlbnfhdhcaaGreatDoor

/-
  Walks: a source that is a view.
-/
namespace Go.Proofs.YtkoomlbnfhdhcaaGreatDoor
open Go.RowKit
set_option linter.unusedVariables false
set_option linter.unusedSectionVars false
set_option linter.unusedSimpArgs false

/-- The memory of a process, as a source. -/
def mV (ob vb pb : Nat) : Value := .func (.func 49) #[] #[.pointer (some ⟨ob, 0, none⟩), .pointer (some ⟨vb, 0, none⟩), .pointer (some ⟨pb, 0, none⟩)]
def memS (V : Val) (p : Pr) : Nat → Option (List UInt8) := fun k => if k < p.pages then V (oG p.sp k) else none
/-- All pages are there. -/
def AllPg (V : Val) (p : Pr) : Prop := ∀ k, k < p.pages → ∃ b, V (oG p.sp k) = some b ∧ b.length ≤ 64
structure MemE (w : World) (B v n : Nat) (V : Val) (ob vb pb : Nat) (p : Pr) (gv : Value) : Prop where
  env : Env w B v V n
  bo : Blk w ob 40 (prCells p gv)
  bv : Blk w vb 28 #[.pointer (some ⟨v, 0, none⟩)]
  bp : Blk w pb 40 (prCells p gv)
section
variable {w w' : World} {B v n : Nat} {V : Val} {ob vb pb : Nat} {p : Pr} {gv : Value}
theorem MemE.below (h : MemE w B v n V ob vb pb p gv) (hb : Below w.heap.size w w') : MemE w' B v n V ob vb pb p gv := ⟨h.env.below hb, h.bo.below hb h.bo.lt, h.bv.below hb h.bv.lt, h.bp.below hb h.bp.lt⟩
set_option maxRecDepth 100000 in
set_option maxHeartbeats 4000000 in
theorem mem1_any (w : World) (B v n : Nat) (V : Val) (ob vb pb : Nat) (p : Pr) (gv : Value) (k : Nat) (h : MemE w B v n V ob vb pb p gv) (hw : Who p.sp) (hpg : AllPg V p) (hmax : p.pages ≤ 64) (hn : n ≤ 100000) :
    Calls Tryz.prog 49 #[.int .i64 (k : Int), .pointer (some ⟨ob, 0, none⟩), .pointer (some ⟨vb, 0, none⟩), .pointer (some ⟨pb, 0, none⟩)] w fun e w' => e = .returned (.tuple #[.string (strL ((memS V p k).getD [])), .bool (memS V p k).isSome]) ∧ Below w.heap.size w w' := by
  have i0 : (0 : Int) ≤ k := by omega
  have ho := h.bo.cell 7
  have hp6 := h.bp.cell 6
  have hv0 := h.bv.cell 0
  simp [prCells] at ho hp6 hv0
  by_cases hlt : k < p.pages
  · obtain ⟨b, hb, _⟩ := hpg k hlt
    have hS : memS V p k = some b := by unfold memS; rw [if_pos hlt, hb]
    rw [hS]
    have i1 : decide ((p.pages : Int) ≤ (k : Int)) = false := decide_eq_false (by omega)
    have i1' : decide (p.pages ≤ k) = false := decide_eq_false (by omega)
    have i3' : ¬ (p.pages ≤ k) := by omega
    have i2' : decide ((k : Int) < 0) = false := decide_eq_false (by omega)
    have hof := fun W => ofPage_any W p.sp k
    have hhit := fun W (h : Env W B v V n) => h.hit (okG hw (i := k) (by omega)) hb hn
    unfold oG at hhit
    obtain ⟨x, hx⟩ : ∃ x, x = obV ⟨3, p.sp, k⟩ := ⟨_, rfl⟩
    rw [← hx] at hof hhit
    obtain ⟨s, hs⟩ : ∃ s, s = strL b := ⟨_, rfl⟩
    rw [← hs] at hhit
    have HS := Lib.hid hs
    have HE := Lib.hid h.env
    have HV := Lib.hid h.bv
    have HP := Lib.hid hp6
    have HPL := Lib.hid h.bp.lt
    clear hx hs hS hb hpg h hlt
    go_enter Tryz.func49, Tryz.ntmps49
    go_upto_region 3 with (fail)
    refine wp_region_mixL (fun W => W.cell? ⟨pb, 6, none⟩ = some (.string (strL p.sp)) ∧ W.cell? ⟨vb, 0, none⟩ = some (.pointer (some ⟨v, 0, none⟩))) [0, 2, 4, 5] [4, 5] [0, 1, 2, 3, 4, 5, 6, 7, 8, 9, 10] (by kernel_rfl) (by kernel_rfl) ⟨hp6, hv0⟩ ?_
    simp only [inOrder, opAt]
    iterate 4
      (refine wpMixS_read (v := ?_) rfl rfl (fun w' hS => ?_) ?_
       rotate_left
       · ((try (obtain ⟨t1, t2⟩ := hS rfl)); go_simp; (try with_reducible rfl))
       try simp only [Act.put, List.setIfInBounds_toArray, List.set_cons_zero, List.set_cons_succ])
    refine wpMixS_eff rfl rfl (fun K hK => ?_)
    go_simp
    refine (hof _).mono ?_
    rintro e w2 ⟨rfl, nb⟩
    have HE2 := Lib.hid ((HE.out.below (Below.refl _ _).drew).below nb)
    have c1 : w2.cell? ⟨pb, 6, none⟩ = some (.string (strL p.sp)) := (nb.cell (p := ⟨pb, 6, none⟩) HPL.out).trans HP.out
    have c2 : w2.cell? ⟨vb, 0, none⟩ = some (.pointer (some ⟨v, 0, none⟩)) := (nb.cell (p := ⟨vb, 0, none⟩) HV.out.lt).trans (HV.out.cell 0)
    have nb0 : Below w.heap.size w w2 := (Below.refl _ _).drew.trans nb
    have HB2 := Lib.hid nb0
    refine hK.out _ _ _ (fun _ h => h) (fun _ => ⟨c1, c2⟩) ?_
    clear hK K nb HE nb0 ho hp6 hv0
    try simp only [Act.put, List.setIfInBounds_toArray, List.set_cons_zero, List.set_cons_succ]
    refine wpMixS_eff rfl rfl (fun K hK => ?_)
    go_simp
    refine (hhit _ HE2.out).mono ?_
    rintro e w3 ⟨rfl, nb⟩
    have d1 : w3.cell? ⟨pb, 6, none⟩ = some (.string (strL p.sp)) := (nb.cell (p := ⟨pb, 6, none⟩) (Nat.lt_of_lt_of_le HPL.out HB2.out.size)).trans c1
    have d2 : w3.cell? ⟨vb, 0, none⟩ = some (.pointer (some ⟨v, 0, none⟩)) := (nb.cell (p := ⟨vb, 0, none⟩) (Nat.lt_of_lt_of_le HV.out.lt HB2.out.size)).trans c2
    have HB3 := Lib.hid (HB2.out.trans (nb.mono HB2.out.size))
    refine hK.out _ _ _ (fun _ h => h) (fun _ => ⟨d1, d2⟩) ?_
    clear hK K nb c1 c2 d1 d2
    try simp only [Act.put, List.setIfInBounds_toArray, List.set_cons_zero, List.set_cons_succ]
    iterate 5
      (refine wpMixS_read (v := ?_) rfl rfl (fun w' hS => ?_) ?_
       rotate_left
       · ((try clear hS); go_simp; (try with_reducible rfl))
       try simp only [Act.put, List.setIfInBounds_toArray, List.set_cons_zero, List.set_cons_succ])
    refine wpMixS_nil ?_
    go_wp2_with fail
    refine bodyPost_ret (results_tmp2 rfl _ _ _) rfl ?_
    exact ⟨by rw [HS.out]; rfl, HB3.out⟩
  · have hS : memS V p k = none := by unfold memS; rw [if_neg hlt]
    rw [hS]
    have i1 : decide ((p.pages : Int) ≤ (k : Int)) = true := decide_eq_true (by omega)
    have i2 : (p.pages : Int) ≤ (k : Int) := by omega
    have i1' : decide (p.pages ≤ k) = true := decide_eq_true (by omega)
    have i3' : p.pages ≤ k := by omega
    have i2' : decide ((k : Int) < 0) = false := decide_eq_false (by omega)
    clear hS hpg h hlt
    go_enter Tryz.func49, Tryz.ntmps49
    go_wp2_with fail
    refine bodyPost_ret (results_tmp2 rfl _ _ _) rfl ?_
    exact ⟨rfl, Below.refl _ _⟩
end
theorem catch_idle (p : Addr) (w : World) :
    CallsD Tryz.prog 37 #[.pointer (some p)] .returning w fun e u' w' => e = .returned (.tuple #[]) ∧ u' = .returning ∧ w' = w := by
  refine callsD_of_wpS Tryz.func37 rfl fun c₀ cs hu => ?_
  apply wpS_seq
  apply wpS_region
  simp [wpOpsS, go_sem, recoverD, hu, Tryz.ntmps37, Exit.thenS]
  refine wpS_cond (t := false) (by simp [Act.eval, Array.replicate]) ?_
  simp only [Bool.false_eq_true, if_false]
  refine wpS_of_wp (wp_skip ?_)
  cases c₀
  simp_all [bodyPostS, results, Tryz.results37]
theorem zero94 (w : World) : (zeroValue 95).run Tryz.prog w = .ok (.pointer none) w := by kernel_rfl
/-- What asking answers. -/
def SrcRet (src : Nat → Option (List UInt8)) (n : Nat) (p : Nat) (e : Ending) (w' : World) : Prop := match src p with
  | none => e = .returned (ptrV none)
  | some b => ∃ h, n ≤ h ∧ e = .returned (ptrV (some h)) ∧ Blk w' h 125 (heldCells (padL b) false)
theorem SrcRet.none_ {src : Nat → Option (List UInt8)} {n p : Nat} {w' : World} (h : src p = none) : SrcRet src n p (.returned (.pointer none)) w' := by
  unfold SrcRet; rw [h]; rfl
theorem SrcRet.some_ {src : Nat → Option (List UInt8)} {n p k : Nat} {b : List UInt8} {w' : World} (h : src p = some b) (hk : n ≤ k) (hb : Blk w' k 125 (heldCells (padL b) false)) : SrcRet src n p (.returned (.pointer (some ⟨k, 0, none⟩))) w' := by
  unfold SrcRet; rw [h]; exact ⟨k, hk, rfl, hb⟩
set_option maxRecDepth 100000 in
set_option maxHeartbeats 4000000 in
theorem fetch36_any (w : World) (B v n box ob vb pb : Nat) (V : Val) (p : Pr) (gv : Value) (k : Nat) (h : MemE w B v n V ob vb pb p gv) (hw : Who p.sp) (hpg : AllPg V p) (hmax : p.pages ≤ 64) (hn : n ≤ 100000) (hb : Blk w box 92 #[mV ob vb pb]) :
    Calls Tryz.prog 36 #[.int .i64 k, .pointer (some ⟨box, 0, none⟩)] w fun e w' => SrcRet (memS V p) w.heap.size k e w' ∧ Below w.heap.size w w' := by
  have hmf : ∀ (fn : Fn) (first cap : Array Value) (w : World), (Instr.makeFunc fn first cap).run Tryz.prog w = .ok (.func fn first cap) w := fun _ _ _ _ => rfl
  have hz := zero94
  have k0 : w.cell? ⟨box, 0, none⟩ = some (mV ob vb pb) := hb.cell 0
  unfold mV at k0
  have zb := hb.lt
  have HN := Lib.hid (Blk.new w 95 #[.pointer none])
  have HB0 := Lib.hid ((Below.refl w.heap.size w).alloc (Nat.le_refl _) (.cells #[.pointer none] 95))
  have HG := Lib.hid (mem1_any (w.alloc (.cells #[.pointer none] 95)) B v n V ob vb pb p gv k (h.below HB0.out) hw hpg hmax hn)
  have hlen : ∀ b, memS V p k = some b → b.length ≤ 64 := fun b hb => by
    unfold memS at hb
    split at hb
    · rename_i hk
      obtain ⟨b', h1, h2⟩ := hpg k hk
      rw [h1] at hb
      cases hb
      exact h2
    · cases hb
  have HL := Lib.hid hlen
  clear h hw hpg hmax hlen
  obtain ⟨S, hS⟩ : ∃ S, S = memS V p := ⟨_, rfl⟩
  rw [← hS] at HG HL ⊢
  clear hS
  go_enter_defers Tryz.func36, Tryz.ntmps36
  go_wp2_with fail
  refine HG.out.mono ?_
  rintro e w1 ⟨rfl, nb1⟩
  dsimp only
  have hn1 := HN.out.below nb1 HN.out.lt
  have c1 : w1.cell? ⟨w.heap.size, 0, none⟩ = some (.pointer none) := hn1.cell 0
  have f1 := hn1.frozen 0
  have z1 := hn1.lt
  have HN1 := Lib.hid hn1
  have HB1 := Lib.hid (HB0.out.trans (nb1.mono HB0.out.size))
  clear hn1 nb1 HG
  cases hs : S k with
  | none =>
    have HS := Lib.hid hs
    have hn2 := Lib.hid (HN1.out.set_ 0 (.pointer none))
    have hfr := Lib.hid (HB1.out.setCell (p := ⟨w.heap.size, 0, none⟩) (Nat.le_refl _) (.pointer none))
    clear hs
    simp only [Option.getD_none, Option.isSome_none]
    go_wp2_with fail
    refine leaves_cons (f := 37) (args := #[.pointer (some ⟨w.heap.size, 0, none⟩)]) (by simp) (by simp [go_sem]) ?_
    refine (catch_idle ⟨w.heap.size, 0, none⟩ _).mono ?_
    rintro e u' w'' ⟨rfl, rfl, rfl⟩
    have c9 := hn2.out.cell 0
    simp at c9
    simp [Leaves, settle, results, Tryz.results36, go_sem, c9]
    exact ⟨SrcRet.none_ HS.out, hfr.out⟩
  | some b =>
    have HS := Lib.hid hs
    have hbl := HL.out b hs
    have HH := Lib.hid (newHeld_any w1 (strL b) (by rw [strL_size]; omega))
    clear hs
    simp only [Option.getD_some, Option.isSome_some]
    go_wp2_with fail
    refine HH.out.mono ?_
    rintro e w2 ⟨rfl, hh2, nb⟩
    have hn2 := HN1.out.below nb HN1.out.lt
    have c2 : w2.cell? ⟨w.heap.size, 0, none⟩ = some (.pointer none) := hn2.cell 0
    have f2 := hn2.frozen 0
    have z2 := hn2.lt
    have hn3 := Lib.hid (hn2.set_ 0 (ptrV (some w1.heap.size)))
    have hfr := Lib.hid ((HB1.out.trans (nb.mono HB1.out.size)).setCell (p := ⟨w.heap.size, 0, none⟩) (Nat.le_refl _) (ptrV (some w1.heap.size)))
    have hh3 := Lib.hid (hh2.far (p := ⟨w.heap.size, 0, none⟩) (by show w1.heap.size ≠ w.heap.size; omega) (ptrV (some w1.heap.size)))
    clear hn2 nb hh2
    unfold ptrV at *
    simp only [Option.map_some] at *
    try dsimp only
    go_wp2_with fail
    refine leaves_cons (f := 37) (args := #[.pointer (some ⟨w.heap.size, 0, none⟩)]) (by simp) (by simp [go_sem]) ?_
    refine (catch_idle ⟨w.heap.size, 0, none⟩ _).mono ?_
    rintro e u' w'' ⟨rfl, rfl, rfl⟩
    have c9 := hn3.out.cell 0
    simp at c9
    simp [Leaves, settle, results, Tryz.results36, go_sem, c9]
    exact ⟨SrcRet.some_ HS.out (by omega) (by have := hh3.out; exact this), hfr.out⟩
/-! ### The source -/
/-- Blocks that a view and what stands for it have. -/
def KM (w : World) (k : Nat) : Prop := ∀ cs t fr, w.heap[k]? = some (.cells cs t fr) → t = 72 ∨ t = 75 ∨ t = 144 ∨ t = 40 ∨ t = 28 ∨ t = 210 ∨ t = 92
theorem km_blk {w : World} {g : Nat} {t : TypeId} {cs : Array Value} (hb : Blk w g t cs) (ht : t = 72 ∨ t = 75 ∨ t = 144 ∨ t = 40 ∨ t = 28 ∨ t = 210 ∨ t = 92) : KM w g := fun cs' t' fr he => by
  unfold Blk at hb
  rw [hb] at he
  injection he with he
  injection he with _ he
  rw [← he]
  exact ht
theorem km_vk {w : World} {k : Nat} (h : VK w k) : KM w k := fun cs t fr he => by
  rcases h cs t fr he with h | h | h
  · exact .inl h
  · exact .inr (.inl h)
  · exact .inr (.inr (.inl h))
theorem Env.keep {w w' : World} {B v n : Nat} {V : Val} (h : Env w B v V n) (hk : ∀ k, k < w.heap.size → KM w k → w'.heap[k]? = w.heap[k]?) (hs : w.heap.size ≤ w'.heap.size) : Env w' B v V n := by
  have h1 : w'.heap[1]? = w.heap[1]? := hk 1 h.us.1 (fun cs t fr he => by
    obtain ⟨cs', fr', g1⟩ := h.g1
    rw [g1] at he
    injection he with he
    injection he with _ he
    rw [← he]
    decide)
  have key : ∀ {o : Nat} {l : List Value}, w.rangeAt 1 o l → w'.rangeAt 1 o l := fun hr j x hx => by rw [← hr j x hx]; exact World.cell?_of_block (w := w) h1
  obtain ⟨u1, u2, ⟨s, u3⟩, ⟨t, m, u4⟩⟩ := h.us
  refine ⟨h.vw.keep fun k hk1 _ hv => hk k hk1 (km_vk hv), ⟨Nat.lt_of_lt_of_le u1 hs, fun k hk => let ⟨s, m, hr⟩ := u2 k hk; ⟨s, m, key hr⟩, ⟨s, key u3⟩, ⟨t, m, key u4⟩⟩, h.b1, by rw [h1]; exact h.g1⟩
theorem MemE.keep {w w' : World} {B v n : Nat} {V : Val} {ob vb pb : Nat} {p : Pr} {gv : Value} (h : MemE w B v n V ob vb pb p gv) (hk : ∀ k, k < w.heap.size → KM w k → w'.heap[k]? = w.heap[k]?) (hs : w.heap.size ≤ w'.heap.size) : MemE w' B v n V ob vb pb p gv :=
  ⟨h.env.keep hk hs, (hk _ h.bo.lt (km_blk h.bo (by decide))).trans h.bo, (hk _ h.bv.lt (km_blk h.bv (by decide))).trans h.bv, (hk _ h.bp.lt (km_blk h.bp (by decide))).trans h.bp⟩
def vSrc (B v n : Nat) (V : Val) (box ob vb pb root : Nat) (p : Pr) (gv : Value) : Source where
  val := fetchV box
  src := memS V p
  E := fun _ w => Blk w box 92 #[mV ob vb pb] ∧ MemE w B v n V ob vb pb p gv
  X := NoX
  root := root
section
variable {B v n : Nat} {V : Val} {box ob vb pb root : Nat} {p : Pr} {gv : Value}
theorem vSrc_keep {a a' : Nat → Bool} {w w' : World} (h : (vSrc B v n V box ob vb pb root p gv).E a w) (hk : ∀ k, k < w.heap.size → KM w k → w'.heap[k]? = w.heap[k]?) (hs : w.heap.size ≤ w'.heap.size) : (vSrc B v n V box ob vb pb root p gv).E a' w' :=
  ⟨(hk _ h.1.lt (km_blk h.1 (by decide))).trans h.1, h.2.keep hk hs⟩
theorem vSrc_fr {a : Nat → Bool} {w w' : World} {b : Nat} {t : TypeId} {cs : Array Value} (h : (vSrc B v n V box ob vb pb root p gv).E a w) (hb : Blk w b t cs) (hf : Fr [b] w w') (ht : ¬ (t = 72 ∨ t = 75 ∨ t = 144 ∨ t = 40 ∨ t = 28 ∨ t = 210 ∨ t = 92)) : (vSrc B v n V box ob vb pb root p gv).E a w' :=
  vSrc_keep h (fun k hk hm => hf.block k hk (fun he => by
    rw [List.mem_singleton.1 he] at hm
    exact ht (hm cs t (0, 0) hb))) hf.size
theorem vSrc_ok (hw : Who p.sp) (hpg : AllPg V p) (hmax : p.pages ≤ 64) (hn : n ≤ 100000) (B' : Nat) : SourceOk (vSrc B v n V box ob vb pb root p gv) B' where
  keeps := fun asked w w' h hm => vSrc_keep h (fun k hk hkm => hm.block k hk (fun ⟨cs, t, fr, he, ht⟩ => by
    rcases hkm cs t fr he with h | h | h | h | h | h | h <;> subst h <;> revert ht <;> decide)) hm.size
  low := fun k hk => hk.elim
  apart := fun w asked k _ hk => hk.elim
  val := ⟨box, rfl⟩
  call := fun box' hbox w asked k hk hB h hask => by
    have hb : box' = box := by
      have : fetchV box = fetchV box' := hbox
      unfold fetchV at this
      simp at this
      exact this.symm
    subst hb
    refine (fetch36_any w B v n box' ob vb pb V p gv k h.2 hw hpg hmax hn h.1).mono ?_
    rintro e w' ⟨g1, g3⟩
    refine ⟨?_, vSrc_keep h (fun k hk _ => g3.block k hk) g3.size, g3.os, g3.tape, g3.output, g3.size, fun k hk hx => g3.block k hk⟩
    unfold FetchRet
    unfold SrcRet at g1
    show (match memS V p k with | none => _ | some b => _)
    cases hs : memS V p k with
    | none => rw [hs] at g1; exact g1
    | some b => rw [hs] at g1; exact g1
theorem vSrc_mach : MachOk (vSrc B v n V box ob vb pb root p gv) := fun a w w' b t cs ht h hb hf =>
  vSrc_fr h hb hf (by rcases ht with rfl | rfl | rfl <;> decide)
theorem vSrc_ty : TyOk (vSrc B v n V box ob vb pb root p gv) 57 := fun a w w' b cs h hb hf => vSrc_fr h hb hf (by decide)
end
theorem mV_neq (W : World) (a b c : Nat) : (binOp BinOp.neq 92 (mV a b c) Value.nilFunc).run Tryz.prog W = .ok (.bool true) W := by kernel_rfl
def spNew (box : Nat) : Sp := ⟨fetchV box, fun _ => false, fun _ => false, fun _ => false, fun _ => none⟩
set_option maxRecDepth 100000 in
set_option maxHeartbeats 4000000 in
theorem new_src (w : World) (a b c : Nat) : Calls Tryz.prog 12 #[mV a b c] w fun e w' => e = .returned (ptrV (some (w.heap.size + 1))) ∧ Blk w' w.heap.size 92 #[mV a b c] ∧ Blk w' (w.heap.size + 1) 98 (spCells (spNew w.heap.size)) ∧ Below w.heap.size w w' := by
  unfold spNew
  have hz := z86
  have hq := mV_neq
  have hmf : ∀ (fn : Fn) (first cap : Array Value) (w : World), (Instr.makeFunc fn first cap).run Tryz.prog w = .ok (.func fn first cap) w := fun _ _ _ _ => rfl
  have h1 : Hid (Blk (w.alloc (.cells #[mV a b c] 92)) w.heap.size 92 #[mV a b c]) := Lib.hid (Blk.new w 92 #[mV a b c])
  have hs : (w.alloc (.cells #[mV a b c] 92)).heap.size = w.heap.size + 1 := by simp
  have h2 := Lib.hid (Blk.new_ (g := w.heap.size + 1) (w.alloc (.cells #[mV a b c] 92)) 98 (spCells ⟨fetchV w.heap.size, fun _ => false, fun _ => false, fun _ => false, fun _ => none⟩) hs)
  have h3 := Lib.hid ((Below.refl w.heap.size w).alloc (Nat.le_refl _) (.cells #[mV a b c] 92))
  unfold mV fetchV at *
  go_enter Tryz.func12, Tryz.ntmps12
  go_wp2_with fail
  go_ret
  exact ⟨rfl, h1.out.alloc _, h2.out, h3.out.alloc (by omega) _⟩
end Go.Proofs.YtkoomlbnfhdhcaaGreatDoor

/-
  Walks: Memory; spaces beside a view.
-/
namespace Go.Proofs.YtkoomlbnfhdhcaaGreatDoor
open Go.RowKit
set_option linter.unusedVariables false
set_option linter.unusedSimpArgs false

section
variable {B B' : Nat} {w w' : World} {sps : Nat → Option Sp} {hm : Pages}
theorem All.vf (h : All C0 B w sps hm) (hf : VF B' w w') : All C0 B w' sps hm :=
  ⟨⟨fun k x hx => ⟨hf.blk (h.blk k x hx).1 (by decide) (by decide), (h.blk k x hx).2⟩,
    fun q b sh hq => ⟨(h.mem q b sh hq).1, hf.blk (h.mem q b sh hq).2.1 (by decide) (by decide), (h.mem q b sh hq).2.2⟩, h.ref, h.own⟩,
    fun x hx => (h.env x hx).imp id fun e => e.2.elim, h.nosrc, h.inv⟩
theorem All.nil0 (h : All C0 B w sps hm) {g : Nat} {s : Sp} (hg : sps g = some s) : s.fetch = .nilFunc := by
  by_cases e : g = 0
  · subst e
    rcases h.env s hg with h | h
    · exact h
    · exact h.2.elim
  · exact h.nosrc g s hg e
theorem All.addroot (h : All C0 B w sps hm) {root box : Nat} (hnew : sps root = none) (hB : B ≤ root) (hb : Blk w root 98 (spCells (spNew box))) {C : Source} (hC : C.root = root) (hv : C.val = fetchV box) (hE : C.E (fun _ => false) w) :
    All C B w (upd sps root (some (spNew box))) hm := by
  refine ⟨⟨fun k x hx => ?_, h.mem, fun k x hx p q hq => ?_, fun k x k' x' p q r b hx hx' hr hr' hh => ?_⟩, fun x hx => ?_, fun k x hx hne => ?_, fun k x hx p hp => ?_⟩
  · rcases upd_some _ _ _ _ _ hx with ⟨rfl, rfl⟩ | ⟨_, hx⟩
    · exact ⟨hb, hB⟩
    · exact h.blk k x hx
  · rcases upd_some _ _ _ _ _ hx with ⟨rfl, rfl⟩ | ⟨_, hx⟩
    · cases hq
    · exact h.ref k x hx p q hq
  · rcases upd_some _ _ _ _ _ hx with ⟨rfl, rfl⟩ | ⟨_, hx⟩
    · cases hr
    · rcases upd_some _ _ _ _ _ hx' with ⟨rfl, rfl⟩ | ⟨_, hx'⟩
      · cases hr'
      · exact h.own k x k' x' p q r b hx hx' hr hr' hh
  · rw [hC] at hx
    rcases upd_some _ _ _ _ _ hx with ⟨_, rfl⟩ | ⟨hne, hx⟩
    · exact .inr ⟨hv.symm, hE⟩
    · exact absurd rfl hne
  · rcases upd_some _ _ _ _ _ hx with ⟨rfl, rfl⟩ | ⟨_, hx⟩
    · exact absurd hC.symm hne
    · exact h.nil0 hx
  · rcases upd_some _ _ _ _ _ hx with ⟨rfl, rfl⟩ | ⟨_, hx⟩
    · exact ⟨rfl, rfl⟩
    · exact h.inv k x hx p hp
theorem All.droproot {C : Source} (h : All C B w sps hm) {root : Nat} (hC : C.root = root) : All C0 B w (upd sps root none) hm := by
  have key : ∀ {k x}, upd sps root none k = some x → k ≠ root ∧ sps k = some x := fun {k x} hx => by
    unfold upd at hx
    split at hx
    · cases hx
    · exact ⟨by assumption, hx⟩
  have nl : ∀ {k x}, upd sps root none k = some x → x.fetch = .nilFunc := fun {k x} hx => h.nosrc k x (key hx).2 (by rw [hC]; exact (key hx).1)
  exact ⟨⟨fun k x hx => h.blk k x (key hx).2, h.mem, fun k x hx => h.ref k x (key hx).2, fun k x k' x' p q r b hx hx' => h.own k x k' x' p q r b (key hx).2 (key hx').2⟩, fun x hx => .inl (nl hx), fun k x hx _ => nl hx, fun k x hx => h.inv k x (key hx).2⟩
theorem upd_back {α : Type} (f : Nat → Option α) (g : Nat) (v : Option α) (h : f g = none) : upd (upd f g v) g none = f := by
  funext k
  unfold upd
  by_cases e : k = g
  · rw [if_pos e, e, h]
  · rw [if_neg e, if_neg e]
theorem All.lt (h : All C0 B w sps hm) {g : Nat} (hg : w.heap.size ≤ g) : sps g = none := by
  cases hs : sps g with
  | none => rfl
  | some s => have := (h.blk g s hs).1.lt; omega
end
set_option maxRecDepth 100000 in
set_option maxHeartbeats 4000000 in
theorem memoryP_any (w : World) (B v n : Nat) (V : Val) (who : List UInt8) (p : Pr) (h : Env w B v V n) (hp : Has V who p) (hs : p.sp = who) (hn : n ≤ 100000) :
    Calls Tryz.prog 17 #[.pointer (some ⟨v, 0, none⟩), .string (strL who)] w fun e w' => ∃ root box ob vb pb gv, e = .returned (.tuple #[.pointer (some ⟨root, 0, none⟩), .int .i64 0]) ∧ w.heap.size ≤ root ∧ Blk w' root 98 (spCells (spNew box)) ∧ (vSrc B v n V box ob vb pb root p gv).E (fun _ => false) w' ∧ VF B w w' := by
  have hmf : ∀ (fn : Fn) (first cap : Array Value) (w : World), (Instr.makeFunc fn first cap).run Tryz.prog w = .ok (.func fn first cap) w := fun _ _ _ _ => rfl
  have hmo := fun W (h : Env W B v V n) => memoryOf_any W B v n V who p h hp hs hn
  have hns := new_src
  have HN := Lib.hid (Blk.new w 28 #[.pointer (some ⟨v, 0, none⟩)])
  have HB0 := Lib.hid ((Below.refl w.heap.size w).alloc (Nat.le_refl _) (.cells #[.pointer (some ⟨v, 0, none⟩)] 28))
  have HE := Lib.hid (h.below HB0.out)
  have HBw := Lib.hid h.leB
  clear h hs
  go_enter Tryz.func17, Tryz.ntmps17
  go_wp2_with fail
  refine (hmo _ HE.out).mono ?_
  rintro e w1 ⟨gv, rfl, hgr, h1, f1⟩
  have HE1 := Lib.hid h1
  have HF1 := Lib.hid ((VF.of_below HB0.out).trans f1)
  have HN1 := Lib.hid (f1.blk HN.out (by decide) (by decide))
  have hone := pr_one p w1 _ gv hgr
  have hsz := pr_size p gv
  clear hgr h1 f1 HN HE HB0 hmo
  unfold prV at *
  obtain ⟨P, hP⟩ : ∃ P, P = prCells p gv := ⟨_, rfl⟩
  rw [← hP] at hone hsz ⊢
  have hi40 : (Tryz.prog.info? 40).map (·.size) = some P.size := by rw [hsz]; exact info40
  have HP := Lib.hid hP
  clear hP
  have HA2 : Hid (Blk ((w1.alloc (.cells zPr 40)).alloc (.cells zPr 40)) w1.heap.size 40 zPr) := Lib.hid ((Blk.new w1 40 zPr).alloc _)
  have HO2 : Hid (Blk ((w1.alloc (.cells zPr 40)).alloc (.cells zPr 40)) (w1.heap.size + 1) 40 zPr) := Lib.hid (Blk.new_ _ _ _ (by simp))
  have HB2 : Hid (Below w1.heap.size w1 ((w1.alloc (.cells zPr 40)).alloc (.cells zPr 40))) := Lib.hid (((Below.refl _ _).alloc (Nat.le_refl _) _).alloc (by simp) _)
  unfold zPr at HA2 HO2 HB2
  go_upto_region 2 with (first | (refine wpList_store_blk rfl 40 (.tmp 6) (.tmp 13) rfl w1.heap.size rfl _ rfl HA2.out hsz hi40 hone ?_; intro w3 hk3 hf3; have HO3 := Lib.hid (HO2.out.fr hf3 (by simp))) | (refine wpList_store_blk rfl 40 (.tmp 7) (.tmp 14) rfl (w1.heap.size + 1) rfl _ rfl HO3.out hsz hi40 hone ?_; intro w4 hk4 hf4))
  have HA4 := Lib.hid (hk3.fr hf4 (by simp))
  have HO4 := Lib.hid hk4
  have hb4 : Below w1.heap.size w1 w4 := belowFr1 (belowFr1 HB2.out hf3 (Nat.le_refl _) (Nat.le_refl _)) hf4 (Nat.le_succ _) (Nat.le_refl _)
  have HE4 := Lib.hid (HE1.out.below hb4)
  have HN4 := Lib.hid (HN1.out.below hb4 HN1.out.lt)
  have HF4 := Lib.hid (HF1.out.trans (VF.of_below hb4))
  clear hk3 hf3 hk4 hf4 hb4 HO3 HA2 HO2 HB2 HE1 HN1
  have hns2 := fun W => hns W (w1.heap.size + 1) w.heap.size w1.heap.size
  unfold mV at hns2
  clear hns
  go_wp2_with fail
  refine (hns2 _).mono ?_
  rintro e w5 ⟨rfl, hbx, hsp, nb⟩
  have HE5 := Lib.hid (HE4.out.below nb)
  have HZ := Lib.hid HF4.out.size
  have HM : Hid (MemE w5 B v n V (w1.heap.size + 1) w.heap.size w1.heap.size p gv) := Lib.hid ⟨HE5.out, by rw [← HP.out]; exact HO4.out.below nb HO4.out.lt, HN4.out.below nb HN4.out.lt, by rw [← HP.out]; exact HA4.out.below nb HA4.out.lt⟩
  have HF5 := Lib.hid (HF4.out.trans (VF.of_below nb))
  unfold ptrV
  simp only [Option.map_some]
  go_wp2_with fail
  refine bodyPost_ret (results_tmp2 rfl _ _ _) rfl ?_
  exact ⟨w4.heap.size + 1, w4.heap.size, _, _, _, gv, rfl, by have := HZ.out; omega, hsp, ⟨hbx, HM.out⟩, HF5.out⟩
end Go.Proofs.YtkoomlbnfhdhcaaGreatDoor
