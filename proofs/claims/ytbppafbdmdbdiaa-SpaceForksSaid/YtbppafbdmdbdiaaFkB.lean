/-
  The law SpaceForks, walked.
-/
import Derived.Test.YtbppafbdmdbdiaaFkA
namespace Go.Proofs.Ytbppafbdmdbdiaa
open Go.RowKit
set_option linter.unusedVariables false

set_option maxRecDepth 100000 in
set_option maxHeartbeats 8000000 in
theorem forks_walk (w : World) (v1 v2 v3 : Value) (l : List Fl) (ops aft : List OpV) (hl : RdF w w.heap.size v1 l) (ho : RdO w w.heap.size v2 ops) (hf : RdO w w.heap.size v3 aft) :
    Calls Try.prog 7 #[v1, v2, v3] w fun e w' => e = .returned (.bool true) ∧ Below w.heap.size w w' := by
  obtain ⟨OP, opc, rfl, hlen, hops⟩ := id ho
  obtain ⟨AP, apc, rfl, hlen2, haft⟩ := id hf
  unfold maxLen at hlen hlen2
  have HFL := Lib.hid hl.sizes
  have HL := Lib.hid hl
  have HO := Lib.hid ho
  have HF := Lib.hid hf
  clear hops haft hl ho hf
  go_enter Try.func7, Try.ntmps7
  go_wp2_with fail
  refine (known_any w).mono ?_
  rintro e w1 ⟨rfl, nb⟩
  have HB1 := Lib.hid nb
  have hs1 := nb.size
  have HL1 := Lib.hid ((HL.out.below nb).more hs1)
  have HO1 := Lib.hid ((HO.out.below nb).more hs1)
  have HF1 := Lib.hid ((HF.out.below nb).more hs1)
  clear nb
  dsimp only
  by_cases h30 : 15 < ops.length ∨ 30 < aft.length
  · have e1 : decide ((15 : Int) < (ops.length : Int)) = true ∨ (decide ((15 : Int) < (ops.length : Int)) = false ∧ decide ((30 : Int) < (aft.length : Int)) = true) := by
      by_cases h15 : 15 < ops.length
      · exact .inl (decide_eq_true (by omega))
      · exact .inr ⟨decide_eq_false (by omega), decide_eq_true (by omega)⟩
    clear h30
    rcases e1 with e1 | ⟨e1, e2⟩
    · go_wp2_with fail
      refine (known_any w1).mono ?_
      rintro e w2 ⟨rfl, nb⟩
      have HB2 := Lib.hid (HB1.out.trans (nb.mono hs1))
      clear nb
      dsimp only
      go_wp2_with fail
      go_ret
      exact ⟨rfl, HB2.out⟩
    · go_wp2_with fail
      refine (known_any w1).mono ?_
      rintro e w2 ⟨rfl, nb⟩
      have HB2 := Lib.hid (HB1.out.trans (nb.mono hs1))
      clear nb
      dsimp only
      go_wp2_with fail
      go_ret
      exact ⟨rfl, HB2.out⟩
  · have e1 : decide ((15 : Int) < (ops.length : Int)) = false := decide_eq_false (by omega)
    have e2 : decide ((30 : Int) < (aft.length : Int)) = false := decide_eq_false (by omega)
    clear h30
    go_wp2_with fail
    refine (play_any w1 v1 _ l ops HL1.out HO1.out HFL.out).mono ?_
    rintro e w2 ⟨box, ab, cm, root, base, b0, OA, oc, sps, hm, L, rfl, hok, hcm, hpl⟩
    have hrow := RowAt.of_own hpl.own
    have hhead : L[0]? = some ⟨b0, root, .map (some w1.heap.size)⟩ := by rw [← List.head?_eq_getElem?]; exact hpl.head
    have hroot : (askedSrc box ab w1.heap.size cm root (srcL l)).root = root := rfl
    have hpk := pair_ok box ab w1.heap.size cm root (srcL l)
    generalize askedSrc box ab w1.heap.size cm root (srcL l) = C at *
    obtain ⟨rg, hOA, hcell⟩ := hrow.cell 0 (.pointer (some ⟨b0, 0, none⟩)) (by unfold prPs; rw [List.getElem?_map, hhead]; rfl)
    subst hOA
    have hLp := hpl.pos
    have hL4 := hpl.four
    obtain ⟨q0, hq0⟩ : ∃ q0 : Pr, q0 = ⟨b0, root, .map (some w1.heap.size)⟩ := ⟨_, rfl⟩
    rw [← hq0] at hhead
    have hb0 : b0 = q0.b := by rw [hq0]
    have hg0 : root = q0.g := by rw [hq0]
    have hqm : q0 ∈ L := List.mem_of_getElem? hhead
    rw [hb0] at hcell
    have HC0 : Hid ((prPs L)[0]? = some (.pointer (some ⟨q0.b, 0, none⟩))) := Lib.hid (by unfold prPs; rw [List.getElem?_map, hhead]; rfl)
    clear hhead hrow
    obtain ⟨s, hdp⟩ := hpl.play.dop hqm
    have HOK := Lib.hid hok
    have HPK := Lib.hid hpk
    have HPL := Lib.hid hpl
    have HRT := Lib.hid hpl.root
    have HDP := Lib.hid hdp
    have HQM := Lib.hid hqm
    have HB2 := Lib.hid (HB1.out.trans (hpl.bel.mono hs1))
    have hs2 := hpl.bel.size
    have HDO := Lib.hid (do10 (C := C) hok hpk hdp 10 0 0 0 ⟨#[]⟩ (by decide) (by decide) (by decide) (by decide))
    have HLB := Lib.hid hpl.bel
    clear hok hpk hpl hdp hqm hroot hq0 hb0 hg0
    have e2 : (0 : Int) < (L.length : Int) := by omega
    dsimp only
    go_wp2_with fail
    refine HDO.out.mono ?_
    rintro e w9 ⟨f, b2, rfl, hdf⟩
    obtain ⟨s', c', hm', hpl9, hvs, hvc, hmv9, hlb2, hlf⟩ := HPL.out.play.forked HOK.out HQM.out HDP.out.sp HPL.out.root hdf
    have hown9 := own_mvD HPL.out.own hmv9 HPL.out.xb HDP.out.pair
    obtain ⟨rg2, hOA2, hcell9⟩ := (RowAt.of_own hown9).cell 0 _ HC0.out
    injection hOA2 with hOA2
    injection hOA2 with hOA2
    subst hOA2
    have hpl2 : PlayI C w1.heap.size (upd (upd sps f (some c')) q0.g (some s')) hm' w9 [q0, ⟨b2, f, .map none⟩] := hpl9.sub fun q hq => by
      rcases List.mem_cons.1 hq with hq | hq
      · rw [hq]
        exact List.mem_append.2 (.inl HQM.out)
      · exact List.mem_append.2 (.inr hq)
    have hgq : q0.g < w2.heap.size := (HDP.out.all.blk _ _ HDP.out.sp).1.lt
    have HPL2 := Lib.hid hpl2
    have HB9 := Lib.hid (HB2.out.trans ((hmv9.below (HPL.out.bel.size)).mono hs1))
    have HB91 := Lib.hid (HPL.out.bel.trans (hmv9.below (HPL.out.bel.size)))
    have HVS := Lib.hid hvs
    have HVC := Lib.hid hvc
    have HFG := Lib.hid (show q0.g ≠ f by omega)
    clear hdf hpl9 hvs hvc hmv9 hlb2 hlf hown9 hpl2 hgq hcell
    dsimp only
    go_upto_region 10 with (fail)
    obtain ⟨q1, hq1⟩ : ∃ q1 : Pr, q1 = ⟨b2, f, .map none⟩ := ⟨_, rfl⟩
    have hTW : TwS C w1.heap.size w9.heap.size w1 (w9.alloc (.cells #[.pointer (some ⟨q0.b, 0, none⟩), .pointer (some ⟨b2, 0, none⟩)] 64)) q0 q1 (upd (upd sps f (some c')) q0.g (some s')) hm' := by
      have hbel : Below w9.heap.size w9 (w9.alloc (.cells #[.pointer (some ⟨q0.b, 0, none⟩), .pointer (some ⟨b2, 0, none⟩)] 64)) := (Below.refl _ _).alloc (Nat.le_refl _) _
      refine ⟨by rw [hq1]; exact HPL2.out.below HOK.out hbel, by rw [hq1]; exact Blk.new w9 64 _, HB91.out.trans (hbel.mono HB91.out.size), fun q hq x hx => ?_, fun hx => ?_, by rw [hq1]; exact HFG.out⟩
      · rcases upd_some _ _ _ _ _ hx with ⟨_, rfl⟩ | ⟨_, hx⟩
        · rw [HVS.out]
          exact needUp_knows _
        · rcases List.mem_cons.1 hq with hq | hq
          · rename_i hne
            exact absurd (by rw [hq]) hne
          · rw [List.mem_singleton.1 hq, hq1] at hx
            rcases upd_some _ _ _ _ _ hx with ⟨_, rfl⟩ | ⟨hne, _⟩
            · rw [HVC.out]
              exact child_knows _
            · exact absurd rfl hne
      · have := HPL2.out.xw _ hx
        omega
    have hs0 : upd (upd sps f (some c')) q0.g (some s') q0.g = some s' := upd_at _ _ _
    have hs1 : upd (upd sps f (some c')) q0.g (some s') q1.g = some c' := by
      rw [hq1]
      show upd _ _ _ f = _
      rw [upd_ne _ _ _ _ (fun e => HFG.out e.symm), upd_at]
    have hqb : b2 = q1.b := by rw [hq1]
    have hgq : f = q1.g := by rw [hq1]
    rw [hqb] at hTW ⊢
    generalize hW10 : w9.alloc (.cells #[.pointer (some ⟨q0.b, 0, none⟩), .pointer (some ⟨q1.b, 0, none⟩)] 64) = W10 at *
    have hTd : TwS C w1.heap.size w9.heap.size w1 W10.drew q0 q1 (upd (upd sps f (some c')) q0.g (some s')) hm' := hTW.below HOK.out (Below.refl _ _).drew
    obtain ⟨t0, t1, g1, g2, g3, g4, hEQ⟩ := hTd.equal HOK.out
    rw [hs0] at g1
    rw [hs1] at g2
    injection g1 with g1
    injection g2 with g2
    subst g1 g2
    rw [HVS.out, HVC.out, eqA_child] at hEQ
    have HEQ := Lib.hid hEQ
    have HTD := Lib.hid hTd
    have HRD : Hid (∀ W, Mv w1.heap.size C.X W10.drew W → W.cell? ⟨w9.heap.size, 0, none⟩ = some (.pointer (some ⟨q0.b, 0, none⟩)) ∧ W.cell? ⟨w9.heap.size, 1, none⟩ = some (.pointer (some ⟨q1.b, 0, none⟩)) ∧
        W.cell? ⟨q0.b, 0, none⟩ = some (.pointer (some ⟨q0.g, 0, none⟩)) ∧ W.cell? ⟨q1.b, 0, none⟩ = some (.pointer (some ⟨q1.g, 0, none⟩))) := Lib.hid fun W hm => by
      have r1 : Blk W w9.heap.size 64 _ := hm.blk hTd.row (by decide) (by decide) hTd.xt
      exact ⟨r1.cell 0, r1.cell 1, PB.ptr (hm.blk g3 (by decide) (by decide) (hTd.play.prs q0 (by simp)).xb), PB.ptr (hm.blk g4 (by decide) (by decide) (hTd.play.prs q1 (by simp)).xb)⟩
    clear hTW hs0 hs1 hqb hgq hW10 hTd g3 g4 hEQ HPL2 HVS HVC hq1 hcell9
    refine wp_region_mixL (fun W => Mv w1.heap.size C.X W10.drew W) [2, 5, 8, 11, 12] [12] [0, 1, 2, 3, 4, 5, 6, 7, 8, 9, 10, 11, 12, 13] (by kernel_rfl) (by kernel_rfl) (Mv.refl _ _ _) ?_
    simp only [inOrder, opAt]
    generalize W10.drew = Wd at *
    iterate 12
      (refine wpMixS_read (v := ?_) rfl rfl (fun w' hS => ?_) ?_
       rotate_left
       · ((try (obtain ⟨s0, s1, s2, s3⟩ := HRD.out w' (hS rfl))); (try clear hS); go_simp; (try with_reducible rfl))
       try simp only [Act.put, List.setIfInBounds_toArray, List.set_cons_zero, List.set_cons_succ])
    refine wpMixS_eff rfl rfl (fun K hK => ?_)
    go_simp
    refine HEQ.out.mono ?_
    rintro e w11 ⟨rfl, ⟨sps2, hm2, htw2⟩, hmv2⟩
    have HTW := Lib.hid htw2
    have HM2 := Lib.hid hmv2
    clear htw2 hmv2
    dsimp only
    refine hK.out _ _ _ (fun _ h => h) (fun _ => HM2.out) ?_
    clear hK K
    try simp only [Act.put, List.setIfInBounds_toArray, List.set_cons_zero, List.set_cons_succ]
    iterate 1
      (refine wpMixS_read (v := ?_) rfl rfl (fun w' hS => ?_) ?_
       rotate_left
       · ((try clear hS); go_simp; (try with_reducible rfl))
       try simp only [Act.put, List.setIfInBounds_toArray, List.set_cons_zero, List.set_cons_succ])
    refine wpMixS_nil ?_
    clear HRD HEQ HTD
    go_wp2_with fail
    obtain ⟨gt, hgt⟩ : ∃ gt, gt = w9.heap.size := ⟨_, rfl⟩
    rw [← hgt] at HTW ⊢
    clear hgt
    go_loopg [13] aft.length (fun q iv wr => ∃ (i : Nat) (sps : Nat → Option Sp) (hm : Pages), q = aft.length - i ∧ i ≤ aft.length ∧ iv = .int .i64 i ∧ TwS C w1.heap.size gt w1 wr q0 q1 sps hm)
    case atStart => exact ⟨0, _, _, rfl, Nat.zero_le _, rfl, HTW.out⟩
    case round =>
      obtain ⟨i, sps, hm, rfl, hi, rfl, htw⟩ := hrel
      have HT := Lib.hid htw
      clear htw
      by_cases hlt : i < aft.length
      · have i2 : (i : Int) < (aft.length : Int) := by omega
        have hrng := (HF1.out.below HT.out.bel)
        obtain ⟨AP', apc', hopv, _, hops2⟩ := hrng
        injection hopv with hopv1 _ hopv3
        subst hopv1 hopv3
        obtain ⟨hok, bo, off, rfl, hbo, hbw, hrange⟩ := hops2 i hlt
        clear hops2
        generalize aft[i] = o at *
        have c0 : wr.cell? ⟨bo, off + i * 5, none⟩ = some (.int .u8 o.kd) := hrange 0 _ rfl
        have HOKO := Lib.hid hok
        have HRNG := Lib.hid hrange
        have HBO := Lib.hid hbo
        clear hok hrange hlt hbo
        by_cases hc : o.kd % 11 = 10
        · have e7 : o.kd.tmod 11 = 10 := by rw [Int.tmod_eq_emod_of_nonneg HOKO.out.k1]; exact hc
          have HC10 := Lib.hid hc
          clear hc
          go_wp2_with fail
          go_roundg (aft.length - (i + 1))
          case measure => omega
          case rel => exact ⟨i + 1, sps, hm, rfl, by omega, by go_num, HT.out⟩
        · have hk10 : o.k < 10 := by have h1 := HOKO.out.k1; unfold OpV.k; omega
          have hkk : o.kd % 11 = (o.k : Int) := by have h1 := HOKO.out.k1; unfold OpV.k; omega
          have e6 : (o.kd % 11 == 10) = false := beq_eq_false_iff_ne.2 hc
          have e7 : ¬ o.kd.tmod 11 = 10 := by rw [Int.tmod_eq_emod_of_nonneg HOKO.out.k1]; exact hc
          have e8 : (o.kd.tmod 11 == 10) = false := beq_eq_false_iff_ne.2 e7
          obtain ⟨j, hj⟩ : ∃ j : Nat, j = o.wh.toNat % 2 := ⟨_, rfl⟩
          have hjl : j < 2 := by omega
          have e1 : o.wh.tmod 2 = (j : Int) := by
            rw [Int.tmod_eq_emod_of_nonneg HOKO.out.w1, hj]
            have : (o.wh.toNat : Int) = o.wh := Int.toNat_of_nonneg HOKO.out.w1
            rw [Int.natCast_emod, this]
            rfl
          obtain ⟨pr, hpr⟩ : ∃ pr, pr = if j = 0 then q0 else q1 := ⟨_, rfl⟩
          have hpm : pr ∈ [q0, q1] := by rw [hpr]; split <;> simp
          have hTd := HT.out.below HOK.out (Below.refl _ wr).drew
          obtain ⟨s, hdp⟩ := hTd.play.dop hpm
          have HDO := Lib.hid (do_any HOK.out HPK.out hdp o.k hk10 o.kd o.wh o.x o.n o.t HOKO.out.k1 HOKO.out.k2 hkk HOKO.out.x1 HOKO.out.x2 HOKO.out.n1 HOKO.out.n2 HOKO.out.t rfl)
          have HRD : Hid (∀ W, Mv w1.heap.size (fun k => C.X k ∨ k = pr.b) wr.drew W → W.cell? ⟨gt, j, none⟩ = some (.pointer (some ⟨pr.b, 0, none⟩)) ∧ W.rangeAt bo (off + i * 5) o.cells) := Lib.hid fun W hmv => by
            have r1 : Blk W gt 64 _ := hmv.blk hTd.row (by decide) (by decide) (fun hx => hx.elim hTd.xt (hTd.row.ne_ hdp.pair (by decide)))
            refine ⟨?_, fun jj u hu => ?_⟩
            · rw [r1.cell, hpr]
              rcases (show j = 0 ∨ j = 1 by omega) with rfl | rfl <;> rfl
            · rw [← HRNG.out jj u hu]
              exact (hmv.below hTd.bel.size).cell (show bo < w1.heap.size from HBO.out)
          have HTD := Lib.hid hTd
          have HDP := Lib.hid hdp
          have HPM := Lib.hid hpm
          have HC := Lib.hid hc
          have e3 : (0 : Int) ≤ (j : Int) := by omega
          have e4 : (j : Int) < 2 := by omega
          have hw1 := HOKO.out.w1
          have hw2 := HOKO.out.w2
          clear hTd hdp hpm hc hk10 hkk hj hpr
          go_upto_region 16 with (fail)
          refine wp_region_mixL (fun W => Mv w1.heap.size (fun k => C.X k ∨ k = pr.b) wr.drew W) [5, 8, 12, 13] [13] [0, 1, 2, 3, 4, 5, 6, 7, 8, 9, 10, 11, 12, 13, 14, 15, 16, 17, 18] (by kernel_rfl) (by kernel_rfl) (Mv.refl _ _ _) ?_
          simp only [inOrder, opAt]
          generalize wr.drew = Wd at *
          iterate 12
            (refine wpMixS_read (v := ?_) rfl rfl (fun w' hS => ?_) ?_
             rotate_left
             · ((try (obtain ⟨s0, s1⟩ := HRD.out w' (hS rfl); have s2 := s1 1 _ rfl; unfold OpV.cells at s1)); (try clear hS); go_simp; (try with_reducible rfl))
             try simp only [Act.put, List.setIfInBounds_toArray, List.set_cons_zero, List.set_cons_succ])
          refine wpMixS_row rfl rfl 45 (.tmp 97) rfl bo (off + i * 5) rfl o.cells _ (fun w' hw' => (HRD.out w' (hw' rfl)).2) Try.underlying45 rfl (by exact info45) ?_
          try simp only [Act.put, List.setIfInBounds_toArray, List.set_cons_zero, List.set_cons_succ]
          refine wpMixS_eff rfl rfl (fun K hK => ?_)
          go_simp
          refine HDO.out.mono ?_
          rintro e w5 ⟨rfl, hdr⟩
          obtain ⟨sps5, hm5, htw5⟩ := HTD.out.step HPM.out HDP.out.sp hdr
          have HM5 := Lib.hid hdr.2.2.2
          have HT5 := Lib.hid htw5
          clear hdr htw5
          dsimp only
          refine hK.out _ _ _ (fun _ h => h) (fun _ => HM5.out) ?_
          clear hK K
          try simp only [Act.put, List.setIfInBounds_toArray, List.set_cons_zero, List.set_cons_succ]
          iterate 5
            (refine wpMixS_read (v := ?_) rfl rfl (fun w' hS => ?_) ?_
             rotate_left
             · ((try clear hS); go_simp; (try with_reducible rfl))
             try simp only [Act.put, List.setIfInBounds_toArray, List.set_cons_zero, List.set_cons_succ])
          refine wpMixS_nil ?_
          clear HRD HDO HTD
          go_wp2_with fail
          go_roundg (aft.length - (i + 1))
          case measure => omega
          case rel => exact ⟨i + 1, sps5, hm5, rfl, by omega, by go_num, HT5.out⟩
      · obtain rfl : i = aft.length := by omega
        clear hi hlt
        go_wp2_with fail
        go_loopg [16] 2 (fun q iv wr => ∃ (k : Nat) (sps : Nat → Option Sp) (hm : Pages), q = 2 - k ∧ k ≤ 2 ∧ iv = .int .i64 k ∧ TwS C w1.heap.size gt w1 wr q0 q1 sps hm)
        case atStart => exact ⟨0, _, _, rfl, Nat.zero_le _, rfl, HT.out⟩
        case round =>
          obtain ⟨k, sps, hm, rfl, hk, rfl, htw⟩ := hrel
          have HT := Lib.hid htw
          clear htw
          by_cases hlt : k < 2
          · have i2 : (k : Int) < 2 := by omega
            have i3 : (0 : Int) ≤ (k : Int) := by omega
            obtain ⟨pr, hpr⟩ : ∃ pr, pr = if k = 0 then q0 else q1 := ⟨_, rfl⟩
            have HPM := Lib.hid (show pr ∈ [q0, q1] by rw [hpr]; split <;> simp)
            have HRW : Hid (∀ W, Blk W gt 64 #[.pointer (some ⟨q0.b, 0, none⟩), .pointer (some ⟨q1.b, 0, none⟩)] → W.cell? ⟨gt, k, none⟩ = some (.pointer (some ⟨pr.b, 0, none⟩))) := Lib.hid fun W hr => by
              rw [hr.cell, hpr]
              rcases (show k = 0 ∨ k = 1 by omega) with rfl | rfl <;> rfl
            have HK2 := Lib.hid hlt
            clear hpr hlt hk
            go_wp2_with fail
            go_loopg [17] 64 (fun q iv wr => ∃ (p : Nat) (sps : Nat → Option Sp) (hm : Pages), q = 64 - p ∧ p ≤ 64 ∧ iv = .int .i64 p ∧ TwS C w1.heap.size gt w1 wr q0 q1 sps hm)
            case atStart => exact ⟨0, _, _, rfl, Nat.zero_le _, rfl, HT.out⟩
            case round =>
              obtain ⟨p, sps, hm, rfl, hp, rfl, htw⟩ := hrel
              have HT := Lib.hid htw
              clear htw
              by_cases hlt : p < 64
              · have i4 : (p : Int) < 64 := by omega
                have i5 : (0 : Int) ≤ (p : Int) := by omega
                obtain ⟨s, hs, hpb, hpg⟩ := HT.out.page HOK.out HPM.out p hlt
                have c0 := HRW.out _ HT.out.row
                have c1 := hpb.ptr
                have HPB := Lib.hid hpb
                have HPG := Lib.hid hpg
                obtain ⟨a, ha⟩ : ∃ a, a = view C hm s := ⟨_, rfl⟩
                rw [← ha] at HPB HPG
                clear hs hpb hpg ha
                go_wp2_with fail
                refine HPG.out.mono ?_
                rintro e w5 ⟨rfl, ⟨sps5, hm5, htw5⟩, hmv5⟩
                have HT5 := Lib.hid htw5
                have hpb5 : PB w5 pr.b pr.g (rsOf pr.m a) := hmv5.blk HPB.out (by decide) (by decide) (HT.out.play.prs pr HPM.out).xb
                have c0 := HRW.out _ htw5.row
                have hcell : ∀ j v, j < 5 → (pg5 (rsOf pr.m a) p)[j]? = some v → w5.cell? ⟨pr.b, 2 + p * 5 + j, none⟩ = some v := fun j v hj hv => by
                  have h0 := rs_get (rsOf pr.m a) p j hlt hj
                  unfold rsCells at h0
                  rw [List.getElem?_toArray, hv] at h0
                  have := PB.one hpb5 (1 + p * 5 + j) v h0
                  rw [show 2 + p * 5 + j = 1 + (1 + p * 5 + j) by omega]
                  exact this
                have k0 : w5.cell? ⟨pr.b, 2 + p * 5, none⟩ = some (.bool (a.known p)) := hcell 0 _ (by omega) rfl
                have k1 : w5.cell? ⟨pr.b, 2 + p * 5 + 1, none⟩ = some (.bool (a.page p).isSome) := hcell 1 _ (by omega) rfl
                have k2 : w5.cell? ⟨pr.b, 2 + p * 5 + 2, none⟩ = some (.bool (a.asked p)) := hcell 2 _ (by omega) rfl
                have k3 : w5.cell? ⟨pr.b, 2 + p * 5 + 3, none⟩ = some (.bool (a.changed p)) := hcell 3 _ (by omega) rfl
                have k4 : w5.cell? ⟨pr.b, 2 + p * 5 + 4, none⟩ = some (.string ⟨((a.page p).getD []).toArray⟩) := hcell 4 _ (by omega) rfl
                clear htw5 hmv5 hpb5 hcell
                dsimp only
                go_upto_region 27 with (fail)
                have hT6 := HT5.out.below HOK.out ((Below.refl w5.heap.size w5).alloc (Nat.le_refl _) (.cells #[.bool (a.known p), .bool (a.page p).isSome, .bool (a.asked p), .bool (a.changed p), .string ⟨((a.page p).getD []).toArray⟩] 58))
                have HT6 := Lib.hid hT6
                have hk6 := Blk.new w5 58 #[.bool (a.known p), .bool (a.page p).isSome, .bool (a.asked p), .bool (a.changed p), .string ⟨((a.page p).getD []).toArray⟩]
                clear hT6 k0 k1 k2 k3 k4
                generalize w5.alloc (.cells #[.bool (a.known p), .bool (a.page p).isSome, .bool (a.asked p), .bool (a.changed p), .string ⟨((a.page p).getD []).toArray⟩] 58) = W6 at *
                have f1 : W6.cell? ⟨w5.heap.size, 1, none⟩ = some (.bool (a.page p).isSome) := hk6.cell 1
                have f4 : W6.cell? ⟨w5.heap.size, 4, none⟩ = some (.string ⟨((a.page p).getD []).toArray⟩) := hk6.cell 4
                clear hk6
                generalize ((a.page p).getD []).toArray = bts at *
                clear HPG HPB
                generalize (a.page p).isSome = th at *
                cases th with
                | true =>
                  simp only [if_true] at *
                  go_wp2_with fail
                  go_roundg (64 - (p + 1))
                  case measure => omega
                  case rel => exact ⟨p + 1, sps5, hm5, rfl, by omega, by go_num, HT6.out⟩
                | false =>
                  simp only [Bool.false_eq_true, if_false] at *
                  go_wp2_with fail
                  go_roundg (64 - (p + 1))
                  case measure => omega
                  case rel => exact ⟨p + 1, sps5, hm5, rfl, by omega, by go_num, HT6.out⟩
              · obtain rfl : p = 64 := by omega
                clear hp hlt
                have hk2 := HK2.out
                go_wp2_with fail
                go_roundg (2 - (k + 1))
                case measure => omega
                case rel => exact ⟨k + 1, sps, hm, rfl, by omega, by go_num, HT.out⟩
          · obtain rfl : k = 2 := by omega
            clear hk hlt
            have hTd := HT.out.below HOK.out (Below.refl _ wr).drew
            obtain ⟨t0, t1, g1, g2, g3, g4, hEQ⟩ := hTd.equal HOK.out
            have ha := view_ok hTd.play.all g1
            have hb := view_ok hTd.play.all g2
            have HEQ := Lib.hid hEQ
            have HSM := Lib.hid (fun W => refSame_any W q0.m q1.m _ _ ha hb)
            have HTD := Lib.hid hTd
            have HP0 : Hid (∀ W, Mv w1.heap.size C.X wr.drew W → PB W q0.b q0.g (rsOf q0.m (view C hm t0))) := Lib.hid fun W hmv => hmv.blk g3 (by decide) (by decide) (hTd.play.prs q0 (by simp)).xb
            have HP1 : Hid (∀ W, Mv w1.heap.size C.X wr.drew W → PB W q1.b q1.g (rsOf q1.m (view C hm t1))) := Lib.hid fun W hmv => hmv.blk g4 (by decide) (by decide) (hTd.play.prs q1 (by simp)).xb
            have HRD : Hid (∀ W, Mv w1.heap.size C.X wr.drew W → W.cell? ⟨gt, 0, none⟩ = some (.pointer (some ⟨q0.b, 0, none⟩)) ∧ W.cell? ⟨gt, 1, none⟩ = some (.pointer (some ⟨q1.b, 0, none⟩)) ∧
                W.cell? ⟨q0.b, 0, none⟩ = some (.pointer (some ⟨q0.g, 0, none⟩)) ∧ W.cell? ⟨q1.b, 0, none⟩ = some (.pointer (some ⟨q1.g, 0, none⟩))) := Lib.hid fun W hmv => by
              have r1 : Blk W gt 64 _ := hmv.blk hTd.row (by decide) (by decide) hTd.xt
              exact ⟨r1.cell 0, r1.cell 1, (HP0.out W hmv).ptr, (HP1.out W hmv).ptr⟩
            obtain ⟨a0, ha0⟩ : ∃ a0, a0 = view C hm t0 := ⟨_, rfl⟩
            obtain ⟨a1, ha1⟩ : ∃ a1, a1 = view C hm t1 := ⟨_, rfl⟩
            rw [← ha0] at HP0 HEQ HSM
            rw [← ha1] at HP1 HEQ HSM
            clear hTd g1 g2 g3 g4 hEQ ha hb ha0 ha1
            go_upto_region 29 with (fail)
            refine wp_region_mixL (fun W => Mv w1.heap.size C.X wr.drew W) [2, 5, 8, 11, 12, 15, 18, 21, 24, 25] [12, 25] [0, 1, 2, 3, 4, 5, 6, 7, 8, 9, 10, 11, 13, 14, 15, 16, 17, 18, 19, 20, 21, 22, 23, 24, 12, 25, 26, 27] (by kernel_rfl) (by kernel_rfl) (Mv.refl _ _ _) ?_
            simp only [inOrder, opAt]
            generalize wr.drew = Wd at *
            iterate 17
              (refine wpMixS_read (v := ?_) rfl rfl (fun w' hS => ?_) ?_
               rotate_left
               · ((try (obtain ⟨s0, s1, s2, s3⟩ := HRD.out w' (hS rfl))); (try clear hS); go_simp; (try with_reducible rfl))
               try simp only [Act.put, List.setIfInBounds_toArray, List.set_cons_zero, List.set_cons_succ])
            refine mix_load_P rfl rfl (.tmp 162) rfl rfl (fun w' hw' => HP0.out w' (hw' rfl)) ?_
            try simp only [Act.put, List.setIfInBounds_toArray, List.set_cons_zero, List.set_cons_succ]
            iterate 5
              (refine wpMixS_read (v := ?_) rfl rfl (fun w' hS => ?_) ?_
               rotate_left
               · ((try (obtain ⟨s0, s1, s2, s3⟩ := HRD.out w' (hS rfl))); (try clear hS); go_simp; (try with_reducible rfl))
               try simp only [Act.put, List.setIfInBounds_toArray, List.set_cons_zero, List.set_cons_succ])
            refine mix_load_P rfl rfl (.tmp 168) rfl rfl (fun w' hw' => HP1.out w' (hw' rfl)) ?_
            try simp only [Act.put, List.setIfInBounds_toArray, List.set_cons_zero, List.set_cons_succ]
            refine wpMixS_eff rfl rfl (fun K hK => ?_)
            go_simp
            refine HEQ.out.mono ?_
            rintro e w5 ⟨rfl, ⟨sps5, hm5, htw5⟩, hmv5⟩
            have HT5 := Lib.hid htw5
            have HM5 := Lib.hid hmv5
            clear htw5 hmv5
            dsimp only
            refine hK.out _ _ _ (fun _ h => h) (fun _ => HM5.out) ?_
            clear hK K
            try simp only [Act.put, List.setIfInBounds_toArray, List.set_cons_zero, List.set_cons_succ]
            refine wpMixS_eff rfl rfl (fun K hK => ?_)
            go_simp
            refine (HSM.out w5).mono ?_
            rintro e w6 ⟨rfl, nb⟩
            have HB6 := Lib.hid (HT5.out.bel.trans (nb.mono HT5.out.bel.size))
            have HM6 := Lib.hid (HM5.out.trans (Mv.of_below nb))
            clear nb
            dsimp only
            refine hK.out _ _ _ (fun _ h => h) (fun _ => HM6.out) ?_
            clear hK K
            try simp only [Act.put, List.setIfInBounds_toArray, List.set_cons_zero, List.set_cons_succ]
            iterate 2
              (refine wpMixS_read (v := ?_) rfl rfl (fun w' hS => ?_) ?_
               rotate_left
               · ((try clear hS); go_simp; (try with_reducible rfl))
               try simp only [Act.put, List.setIfInBounds_toArray, List.set_cons_zero, List.set_cons_succ])
            refine wpMixS_nil ?_
            clear HRD HEQ HSM HP0 HP1
            go_wp2_with fail
            go_ret
            exact ⟨by simp, HB1.out.trans (HB6.out.mono hs1)⟩
end Go.Proofs.Ytbppafbdmdbdiaa
