/-
  Walks: CpuBudgets.
-/
import Derived.Test.YtpadpggdealgkaaDoorRRRTwA
namespace Go.Proofs.YtpadpggdealgkaaDoorRRR
open Go.RowKit
set_option linter.unusedVariables false
set_option linter.unusedSectionVars false
set_option linter.unusedSimpArgs false

theorem T2.ty {B : Nat} {w w' : World} {g1 g2 b : Nat} {a1 a2 : AS} {cs : Array Value} (h : T2 B w g1 g2 a1 a2) (hb : Blk w b 47 cs) (hf : Fr [b] w w') : T2 B w' g1 g2 a1 a2 := by
  obtain ⟨hB, hn, sps, hm, s1, s2, h1, h2, h3, h4, h5⟩ := h
  exact ⟨Nat.le_trans hB hf.size, hn, sps, hm, s1, s2, h1.ty (ty0 47) (by decide) (by decide) hb hf, h2, h3, h4, h5⟩
/-- What CpuBudgets needs of the three runs. -/
def BudQ (k : Nat) (X Y Z : RunR) : Prop :=
  (X.e.why = 1 ∧ Z.g = Y.g ∧ Z.e = Y.e ∧ Z.n = Y.n + X.n) ∨ (X.e.why ≠ 1 ∧ Y.g = X.g ∧ Y.n = 0 ∧ (k = 0 → Y.e = ⟨1, 0, 0⟩) ∧ (k ≠ 0 → Y.e = X.e) ∧ Z.g = X.g ∧ Z.e = X.e ∧ Z.n = X.n)
theorem budQ (i k : Nat) (g : Rg) {a : AS} (h : Unk a) {X Y Z : RunR} (hX : X = runA i g a) (hY : Y = runA k X.g X.a) (hZ : Z = runA (i + k) g a) : BudQ k X Y Z ∧ eqA (needUp 64 Y.a) (needUp 64 Z.a) = true ∧ X.n ≤ i ∧ Y.n ≤ k := by
  have hu := runA_unk i g h
  have hu2 := runA_unk (i + k) g h
  have hu3 := runA_unk k (runA i g a).g hu
  subst hX hY hZ
  refine ⟨?_, ?_, by have := loopA_le i 0 g a; unfold runA; omega, by have := loopA_le k 0 (runA i g a).g (runA i g a).a; unfold runA at this ⊢; omega⟩
  · by_cases hw : (runA i g a).e.why = 1
    · obtain ⟨q1, q2, q3, _⟩ := bud_go i k g h hw
      exact .inl ⟨hw, q1, q2, q3⟩
    · obtain ⟨⟨q1, q2, q3, q4⟩, ⟨q5, q6, q7⟩, _⟩ := bud_end i k g h hw
      exact .inr ⟨hw, q1, q2, q3, q4, q5, q6, q7⟩
  · refine eqA_eff hu3 hu2 ?_
    by_cases hw : (runA i g a).e.why = 1
    · exact (bud_go i k g h hw).2.2.2.symm
    · exact (bud_end i k g h hw).2.2.symm

set_option maxRecDepth 100000 in
set_option maxHeartbeats 8000000 in
theorem cpuBudgets_any (w : World) (p : Pg19) (v : Value) (g : Rg) (a b : Nat) (hl : RdI w v p.l) (hat : p.at_ < 65536) (hpg : p.pages < 256) (hby : p.by_.size ≤ maxLen) (hg : g.Ok) (ha : a < 256) (hb : b < 256) (ho : Ops w) :
    Calls Tryd.prog 6 #[.agg (pcells p v g), .int .u8 a, .int .u8 b] w fun e w' => e = .returned (.bool true) ∧ Below w.heap.size w w' := by
  obtain ⟨pc, hpc⟩ : ∃ pc, pc = pcells p v g := ⟨_, rfl⟩
  have hmem := fun W (h : RdI W v p.l) => memory_any W p v g h hat hpg hby
  rw [← hpc] at hmem ⊢
  have hi41 : (Tryd.prog.info? 41).map (·.size) = some pc.size := by rw [hpc]; exact info41
  obtain ⟨A0, hA0⟩ : ∃ A0, A0 = ownA (memA p) 64 := ⟨_, rfl⟩
  obtain ⟨i, hi⟩ : ∃ i, i = a % 41 := ⟨_, rfl⟩
  obtain ⟨k, hk⟩ : ∃ k, k = b % 41 := ⟨_, rfl⟩
  obtain ⟨X, hX⟩ : ∃ X, X = runA i g A0 := ⟨_, rfl⟩
  obtain ⟨Y, hY⟩ : ∃ Y, Y = runA k X.g X.a := ⟨_, rfl⟩
  obtain ⟨Z, hZ⟩ : ∃ Z, Z = runA (i + k) g A0 := ⟨_, rfl⟩
  obtain ⟨hq, he, hn1, hn2⟩ := budQ i k g (by rw [hA0]; exact ownA_unk _ _) hX hY hZ
  have hXo : X.g.Ok := by rw [hX]; exact runA_ok _ _ hg
  obtain ⟨gx, ax, ⟨wx, nx, dx⟩, cx⟩ := X
  obtain ⟨gy, ay, ⟨wy, ny, dy⟩, cy⟩ := Y
  obtain ⟨gz, az, ⟨wz, nz, dz⟩, cz⟩ := Z
  dsimp only at hY hn1 hn2 hXo he
  have HQ := Lib.hid hq
  have HE := Lib.hid he
  have HX := Lib.hid hX
  have HY := Lib.hid hY
  have HZ := Lib.hid hZ
  have HXO := Lib.hid hXo
  have HGO := Lib.hid hg
  have hbl : Below w.heap.size w (w.alloc (.cells pc 41)) := (Below.refl _ _).alloc (Nat.le_refl _) _
  have HRD := Lib.hid (hl.below hbl)
  have HP0 := Lib.hid (Blk.new w 41 pc)
  have HBL := Lib.hid hbl
  have HMEM := Lib.hid hmem
  have HPC := Lib.hid hpc
  have HI41 := Lib.hid hi41
  have HOP := Lib.hid (ho.belowS hbl)
  have hreg := fun w => registers_any w g
  unfold Rg.vals at hreg
  have HREG := Lib.hid hreg
  have HA0 := Lib.hid hA0
  have hi1 : i ≤ 40 := by omega
  have hk1 : k ≤ 40 := by omega
  have hia : ((a : Int) % 41) = i := by omega
  have hkb : ((b : Int) % 41) = k := by omega
  have HIA := Lib.hid hia
  have HKB := Lib.hid hkb
  have hw0 := ho.1
  have ha0 : (0 : Int) ≤ a := by omega
  have hb0 : (0 : Int) ≤ b := by omega
  have ha1 : (a : Int) < 256 := by omega
  have hb1 : (b : Int) < 256 := by omega
  clear hq he hX hY hZ hXo hg hl hbl hmem hpc hi41 ho hreg hA0 hia hkb hi hk ha hb hat hpg hby
  go_enter Tryd.func6, Tryd.ntmps6
  go_upto_region 1 with (fail)
  have hz0 : (w.alloc (.cells pc 41)).heap.size = w.heap.size + 1 := by simp
  generalize w.alloc (.cells pc 41) = W0 at *
  go_wp2_with (refine wpList_load_blk rfl 41 (.tmp 3) rfl w.heap.size rfl HP0.out _ Tryd.underlying41 rfl HI41.out ?_)
  refine (HMEM.out _ HRD.out).mono ?_
  rintro e w1 ⟨rfl, nb1⟩
  have HB1 := Lib.hid nb1
  clear nb1 HMEM HRD
  have hz := z38
  have HB7 : Hid (MB (w1.alloc (.cells (mmC mm0) 38)) w1.heap.size mm0) := Lib.hid (Blk.new _ _ _)
  dsimp only
  go_upto_region 2 with (refine store_M (m0 := mm0) (m := memA p) (b := w1.heap.size) HB7.out rfl (.tmp 7) (.tmp 21) rfl rfl rfl ?_; intro w2 hb2 hf2)
  have HM2 := Lib.hid hb2
  have HB2 : Hid (Below W0.heap.size W0 w2) := Lib.hid (belowFr (HB1.out.alloc HB1.out.size _) hf2 HB1.out.size (Nat.le_refl _))
  have hz2 := HB2.out.size
  clear hb2 hf2 HB7 HB1 hz
  go_wp2_with (refine load_M HM2.out rfl (.tmp 7) rfl rfl ?_)
  obtain ⟨B, hB⟩ : ∃ B, B = w2.heap.size := ⟨_, rfl⟩
  refine (own_any (ok0 B) (all_none C0 B w2) (Nat.le_of_eq hB) (fun _ h => h.elim) (memA p)).mono ?_
  rintro e w3 ⟨g1, rfl, hg1, s1, hm1, hA1, hv1, ho1, hmv1⟩
  have HB3 : Hid (Below W0.heap.size W0 w3) := Lib.hid (HB2.out.trans ((hmv1.below (Nat.le_of_eq hB)).mono (by rw [hB]; exact HB2.out.size)))
  have HM3 := Lib.hid (hmv1.blk HM2.out (by decide) (by decide) (fun h => h))
  have HA1 := Lib.hid hA1
  have HV1 := Lib.hid hv1
  have hBz : B ≤ w3.heap.size := by rw [hB]; exact hmv1.size
  have hB0 : W0.heap.size ≤ B := by rw [hB]; exact HB2.out.size
  clear hA1 hv1 ho1 hmv1 hg1 HM2 HB2 hB hz2
  dsimp only
  go_upto_region 3 with (fail)
  go_wp2_with (refine load_M HM3.out rfl (.tmp 7) rfl rfl ?_)
  refine (own_any (ok0 B) HA1.out hBz (fun _ h => h.elim) (memA p)).mono ?_
  rintro e w4 ⟨g2, rfl, hg2, s2, hm2, hA2, hv2, ho2, hmv2⟩
  have hne : g1 ≠ g2 := fun e => by
    have := HA1.out.gone hg2
    rw [← e, upd_at] at this
    cases this
  have HT4 : Hid (T2 B w4 g1 g2 A0 A0) := Lib.hid ⟨Nat.le_trans hBz hmv2.size, hne, _, hm2, s1, s2, hA2, by rw [upd_ne _ _ _ _ hne]; exact upd_at _ _ _, upd_at _ _ _, by rw [HA0.out]; exact (ho2 g1 s1 (upd_at _ _ _)).trans HV1.out, by rw [HA0.out]; exact hv2⟩
  have HB4 : Hid (Below W0.heap.size W0 w4) := Lib.hid (HB3.out.trans ((hmv2.below hBz).mono hB0))
  clear hA2 hv2 ho2 hmv2 hg2 HA1 HV1 HM3 HB3 hBz hne
  dsimp only
  go_upto_region 4 with (fail)
  go_wp2_with fail
  refine (known_any w4 (HOP.out.belowS HB4.out)).mono ?_
  rintro e w5 ⟨rfl, nb⟩
  have HT5 := Lib.hid (HT4.out.below nb)
  have HB5 : Hid (Below W0.heap.size W0 w5) := Lib.hid (HB4.out.trans (nb.mono HB4.out.size))
  clear nb HT4 HB4
  obtain ⟨c0, c1, c2, c3, c4, c5, c6, c7, c8⟩ := CG.of (HP0.out.below HB5.out HP0.out.lt) HPC.out
  simp only [Nat.reduceAdd] at c0 c1 c2 c3 c4 c5 c6 c7 c8
  dsimp only
  go_upto_region 7 with (fail)
  go_wp2_with fail
  refine (HREG.out _).mono ?_
  rintro e w6 ⟨rfl, nb⟩
  have HT6 := Lib.hid (HT5.out.below nb)
  have HB6 : Hid (Below W0.heap.size W0 w6) := Lib.hid (HB5.out.trans (nb.mono HB5.out.size))
  clear nb HT5 HB5 c0 c1 c2 c3 c4 c5 c6 c7 c8
  dsimp only
  go_wp2_with fail
  have hrun1 := HT6.out.run1 HGO.out (HOP.out.belowS HB6.out) (by omega) i (by omega) HX.out
  rw [resV_eq] at hrun1
  unfold Rg.vals at hrun1
  rw [HIA.out, HKB.out]
  refine hrun1.mono ?_
  clear hrun1
  rintro e w7 ⟨rfl, hT, hmv⟩
  have HB7 : Hid (Below W0.heap.size W0 w7) := Lib.hid (HB6.out.trans ((hmv.below HT6.out.1).mono hB0))
  have hz7 := HB7.out.size
  obtain ⟨bx, hbx⟩ : ∃ bx, bx = w7.heap.size := ⟨_, rfl⟩
  have HBX := Lib.hid hbx
  obtain ⟨w8, hw8⟩ : ∃ w8, w8 = w7.alloc (.cells (resC gx wx nx dx cx) 47) := ⟨_, rfl⟩
  have hk8 : Blk w8 bx 47 (resC gx wx nx dx cx) := by rw [hw8, hbx]; exact Blk.new _ _ _
  have hl8 : Below w7.heap.size w7 w8 := by rw [hw8]; exact (Below.refl _ _).alloc (Nat.le_refl _) _
  have HT8 := Lib.hid (hT.below hl8)
  have HB8 : Hid (Below W0.heap.size W0 w8) := Lib.hid (HB7.out.trans (hl8.mono hz7))
  have HX8 := Lib.hid hk8
  dsimp only at HT8
  clear hT hmv hk8 hl8 HT6 HB6 HB7
  clear hbx
  unfold resC at hw8
  dsimp only
  go_upto_region 8 with (fail)
  rw [← hw8, ← HBX.out]
  clear hw8
  obtain ⟨c0, c1, c2, c3, c4, c5, c6, c7, c8, _⟩ := CX.of HX8.out
  go_wp2_with fail
  have hrun2 := HT8.out.run1 HXO.out (HOP.out.belowS HB8.out) (by omega) k (by omega) HY.out
  rw [resV_eq] at hrun2
  unfold Rg.vals at hrun2
  refine hrun2.mono ?_
  clear hrun2 c0 c1 c2 c3 c4 c5 c6 c7 c8
  rintro e w9 ⟨rfl, hT, hmv⟩
  have HB9 : Hid (Below W0.heap.size W0 w9) := Lib.hid (HB8.out.trans ((hmv.below HT8.out.1).mono hB0))
  have HX9 := Lib.hid (hmv.blk HX8.out (by decide) (by decide) (fun h => h))
  have hz9 := HB9.out.size
  obtain ⟨bY, hbY⟩ : ∃ bY, bY = w9.heap.size := ⟨_, rfl⟩
  have HBY := Lib.hid hbY
  have hBy0 : W0.heap.size ≤ bY := by rw [hbY]; exact hz9
  have hxy : bx < bY := by have := HX9.out.lt; have := HBY.out; omega
  obtain ⟨wa, hwa⟩ : ∃ wa, wa = w9.alloc (.cells (resC gy wy ny dy cy) 47) := ⟨_, rfl⟩
  have hka : Blk wa bY 47 (resC gy wy ny dy cy) := by rw [hwa, hbY]; exact Blk.new _ _ _
  have hla : Below w9.heap.size w9 wa := by rw [hwa]; exact (Below.refl _ _).alloc (Nat.le_refl _) _
  have HTa := Lib.hid (hT.below hla)
  have HBa : Hid (Below W0.heap.size W0 wa) := Lib.hid (HB9.out.trans (hla.mono hz9))
  have HXa := Lib.hid (HX9.out.below hla HX9.out.lt)
  have HYa := Lib.hid hka
  dsimp only at HTa
  clear hT hmv hka hla HT8 HB8 HB9 HX8 HX9 hz9
  clear hbY
  unfold resC at hwa
  dsimp only
  go_upto_region 9 with (fail)
  rw [← hwa, ← HBY.out]
  clear hwa
  obtain ⟨c0, c1, c2, c3, c4, c5, c6, c7, c8⟩ := CG.of (HP0.out.below HBa.out HP0.out.lt) HPC.out
  simp only [Nat.reduceAdd] at c0 c1 c2 c3 c4 c5 c6 c7 c8
  go_wp2_with fail
  refine (HREG.out _).mono ?_
  rintro e wb ⟨rfl, nb⟩
  have HTb := Lib.hid (HTa.out.below nb)
  have HBb : Hid (Below W0.heap.size W0 wb) := Lib.hid (HBa.out.trans (nb.mono HBa.out.size))
  have HXb := Lib.hid (HXa.out.below nb HXa.out.lt)
  have HYb := Lib.hid (HYa.out.below nb HYa.out.lt)
  clear nb HTa HBa HXa HYa c0 c1 c2 c3 c4 c5 c6 c7 c8
  dsimp only
  go_wp2_with fail
  have hrun3 := HTb.out.run2 HGO.out (HOP.out.belowS HBb.out) (by omega) (i + k) (by omega) HZ.out
  rw [resV_eq] at hrun3
  unfold Rg.vals at hrun3
  rw [show (i : Int) + k = ((i + k : Nat) : Int) by omega]
  refine hrun3.mono ?_
  clear hrun3
  rintro e wc ⟨rfl, hT, hmv⟩
  have HBc : Hid (Below W0.heap.size W0 wc) := Lib.hid (HBb.out.trans ((hmv.below HTb.out.1).mono hB0))
  have HXc := Lib.hid (hmv.blk HXb.out (by decide) (by decide) (fun h => h))
  have HYc := Lib.hid (hmv.blk HYb.out (by decide) (by decide) (fun h => h))
  have hzc := HBc.out.size
  obtain ⟨bZ, hbZ⟩ : ∃ bZ, bZ = wc.heap.size := ⟨_, rfl⟩
  have HBZ := Lib.hid hbZ
  have hyz : bY < bZ := by have := HYc.out.lt; have := HBZ.out; omega
  have hxz : bx < bZ := by have := HXc.out.lt; have := HBZ.out; omega
  obtain ⟨wd, hwd⟩ : ∃ wd, wd = wc.alloc (.cells (resC gz wz nz dz cz) 47) := ⟨_, rfl⟩
  have hkd : Blk wd bZ 47 (resC gz wz nz dz cz) := by rw [hwd, hbZ]; exact Blk.new _ _ _
  have hld : Below wc.heap.size wc wd := by rw [hwd]; exact (Below.refl _ _).alloc (Nat.le_refl _) _
  have HTd := Lib.hid (hT.below hld)
  have HBd : Hid (Below W0.heap.size W0 wd) := Lib.hid (HBc.out.trans (hld.mono hzc))
  have HXd := Lib.hid (HXc.out.below hld HXc.out.lt)
  have HYd := Lib.hid (HYc.out.below hld HYc.out.lt)
  have HZd := Lib.hid hkd
  dsimp only at HTd
  clear hT hmv hkd hld HTb HBb HBc HXb HXc HYb HYc hzc
  clear hbZ
  unfold resC at hwd
  dsimp only
  go_upto_region 10 with (fail)
  rw [← hwd, ← HBZ.out]
  clear hwd
  have e44 := eq44_refl
  have e47 := eq47_refl
  have HBL2 : ∀ x, Below W0.heap.size W0 x → Below w.heap.size w x := fun x h => HBL.out.trans (h.mono HBL.out.size)
  have HQL := Lib.hid HBL2
  clear HBL2
  rcases HQ.out with ⟨q1, q2, q3, q4⟩ | ⟨q1, q2, q3, q4, q5, q6, q7, q8⟩
  · dsimp only at q1 q2 q3 q4
    injection q3 with q5 q6 q7
    subst q1 q2 q4 q5 q6 q7
    clear HQ
    have hcy : (cy : Int) ≤ 40 := by omega
    have hcx : (cx : Int) ≤ 40 := by omega
    have hcy0 : (0 : Int) ≤ cy := by omega
    have hcx0 : (0 : Int) ≤ cx := by omega
    obtain ⟨x0, x1, x2, x3, x4, x5, x6, x7, x8, x9, x10, x11, x12⟩ := CX.of HXd.out
    obtain ⟨y0, y1, y2, y3, y4, y5, y6, y7, y8, y9, y10, y11, y12⟩ := CX.of HYd.out
    obtain ⟨we, hwe⟩ : ∃ we, we = wd.setCell ⟨bY, 12, none⟩ (.int .i64 ((cy : Int) + cx)) := ⟨_, rfl⟩
    have hYe : Blk we bY 47 (resC gz wz nz dz ((cy : Int) + cx)) := by rw [hwe]; exact HYd.out.set_ 12 _
    have hZe : Blk we bZ 47 (resC gz wz nz dz ((cy : Int) + cx)) := by
      have := HZd.out.far (p := ⟨bY, 12, none⟩) (by show bZ ≠ bY; omega) (.int .i64 ((cy : Int) + cx))
      rw [← hwe, show ((cy + cx : Nat) : Int) = (cy : Int) + cx by omega] at this
      exact this
    have hBe : Below W0.heap.size W0 we := by rw [hwe]; exact HBd.out.setCell (by show W0.heap.size ≤ bY; exact hBy0) _
    have fy := HYd.out.frozen 12
    go_upto_region 15 with (fail)
    rw [← hwe]
    have hTe := HTd.out.ty HYd.out (w' := we) (by rw [hwe]; exact (Fr.refl _ _).setCell (.inl (by simp)) _)
    have HTZ := Lib.hid hTe.1
    have heq := hTe.equal
    rw [HE.out] at heq
    have HEQ := Lib.hid heq
    have HBE := Lib.hid hBe
    clear hwe x0 x1 x2 x3 x4 x5 x6 x7 x8 x9 x10 x11 x12 y0 y1 y2 y3 y4 y5 y6 y7 y8 y9 y10 y11 y12 fy heq hTe hBe
    obtain ⟨y0, y1, y2, y3, y4, y5, y6, y7, y8, y9, y10, y11, y12⟩ := CX.of hYe
    obtain ⟨x0, x1, x2, x3, x4, x5, x6, x7, x8, x9, x10, x11, x12⟩ := CX.of hZe
    clear hYe hZe
    go_wp2_with fail
    refine HEQ.out.mono ?_
    rintro e wf ⟨rfl, hmv⟩
    have HF : Hid (Below w.heap.size w wf) := Lib.hid (HQL.out _ (HBE.out.trans ((hmv.below HTZ.out).mono hB0)))
    clear hmv
    dsimp only
    go_wp2_with fail
    go_ret
    exact ⟨rfl, HF.out⟩
  · dsimp only at q1 q2 q3 q4 q5 q6 q7 q8
    injection q7 with q9 q10 q11
    subst q2 q3 q6 q8 q9 q10 q11
    clear HQ
    have qw : (wz != 1) = true := bne_iff_ne.2 q1
    clear q1
    have heq := HTd.out.equal
    rw [HE.out] at heq
    have HEQ := Lib.hid heq
    clear heq
    obtain ⟨x0, x1, x2, x3, x4, x5, x6, x7, x8, x9, x10, x11, x12⟩ := CX.of HXd.out
    obtain ⟨y0, y1, y2, y3, y4, y5, y6, y7, y8, y9, y10, y11, y12⟩ := CX.of HYd.out
    obtain ⟨z0, z1, z2, z3, z4, z5, z6, z7, z8, z9, z10, z11, z12⟩ := CX.of HZd.out
    by_cases hk0 : k = 0
    · subst hk0
      have q4 := q4 rfl
      injection q4 with q4 q12 q13
      subst q4 q12 q13
      clear q5
      go_wp2_with fail
      refine HEQ.out.mono ?_
      rintro e wf ⟨rfl, hmv⟩
      have HF : Hid (Below w.heap.size w wf) := Lib.hid (HQL.out _ (HBd.out.trans ((hmv.below HTd.out.1).mono hB0)))
      clear hmv
      dsimp only
      go_wp2_with fail
      go_ret
      exact ⟨rfl, HF.out⟩
    · have q5 := q5 hk0
      injection q5 with q5 q12 q13
      subst q5 q12 q13
      clear q4
      have k0 : ((k : Int) == 0) = false := beq_eq_false_iff_ne.2 (by omega)
      clear hk0
      go_wp2_with fail
      refine HEQ.out.mono ?_
      rintro e wf ⟨rfl, hmv⟩
      have HF : Hid (Below w.heap.size w wf) := Lib.hid (HQL.out _ (HBd.out.trans ((hmv.below HTd.out.1).mono hB0)))
      clear hmv
      dsimp only
      go_wp2_with fail
      go_ret
      exact ⟨rfl, HF.out⟩
theorem cpuBudgets_row (w : World) (p : Pg19) (v : Value) (g : Rg) (a b : Int) (hp : PgOk w p v) (hg : g.Ok) (ha : (Lit.int .u8 a).wf = true) (hb : (Lit.int .u8 b).wf = true) (ho : Ops w) :
    Calls Tryd.prog 6 #[.agg (pcells p v g), .int .u8 a, .int .u8 b] w fun e w' => e = .returned (.bool true) ∧ Below w.heap.size w w' := by
  obtain ⟨n, hn, rfl⟩ := u8_nat ha
  obtain ⟨m, hm, rfl⟩ := u8_nat hb
  exact cpuBudgets_any w p v g n m hp.l hp.at_ hp.pg hp.by_ hg hn hm ho
end Go.Proofs.YtpadpggdealgkaaDoorRRR
