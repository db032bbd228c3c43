/-
  The law SpaceLocal, walked.
-/
import Derived.Test.YtbppafbdmdbdiaaLcB
import Derived.Test.YtbppafbdmdbdiaaVwB
namespace Go.Proofs.Ytbppafbdmdbdiaa
open Go.RowKit
set_option linter.unusedVariables false

theorem encI_inj (x y : Int) (hx : Pg x) (hy : Pg y) (h : encI x = encI y) : x = y := by
  unfold encI at h
  injection h

set_option maxRecDepth 100000 in
set_option maxHeartbeats 8000000 in
theorem local_walk (w : World) (v1 v2 v3 : Value) (l m : List Fl) (ops : List OpV) (hl : RdF w w.heap.size v1 l) (hm : RdF w w.heap.size v2 m) (ho : RdO w w.heap.size v3 ops) :
    Calls Try.prog 9 #[v1, v2, v3] w fun e w' => e = .returned (.bool true) ∧ Below w.heap.size w w' := by
  obtain ⟨OP, opc, rfl, hlen, hops⟩ := id ho
  unfold maxLen at hlen
  have HFL := Lib.hid hl.sizes
  have HFM := Lib.hid hm.sizes
  have HL := Lib.hid hl
  have HM := Lib.hid hm
  have HO := Lib.hid ho
  have hmm := @run_makeMap Try.prog
  have hmf : ∀ (fn : Fn) (first cap : Array Value) (w : World), (Instr.makeFunc fn first cap).run Try.prog w = .ok (.func fn first cap) w := fun _ _ _ _ => rfl
  clear hops hl hm ho
  go_enter Try.func9, Try.ntmps9
  go_wp2_with fail
  refine (known_any w).mono ?_
  rintro e w1 ⟨rfl, nb⟩
  have HB1 := Lib.hid nb
  have hs1 := nb.size
  have HL1 := Lib.hid ((HL.out.below nb).more hs1)
  have HM1 := Lib.hid ((HM.out.below nb).more hs1)
  have HO1 := Lib.hid ((HO.out.below nb).more hs1)
  clear nb
  dsimp only
  by_cases h30 : 30 < ops.length
  · have e1 : decide ((30 : Int) < (ops.length : Int)) = true := decide_eq_true (by omega)
    clear h30
    go_wp2_with fail
    refine (known_any w1).mono ?_
    rintro e w2 ⟨rfl, nb⟩
    have HB2 := Lib.hid (HB1.out.trans (nb.mono hs1))
    clear nb
    dsimp only
    go_wp2_with fail
    go_ret
    exact ⟨rfl, HB2.out⟩
  have e1 : decide ((30 : Int) < (ops.length : Int)) = false := decide_eq_false (by omega)
  clear h30
  go_wp2_with fail
  refine (source_any w1 v1 l w1.heap.size HL1.out (Nat.le_refl _)).mono ?_
  rintro e w2 ⟨rfl, hmi, nb⟩
  obtain ⟨M1, hM1⟩ : ∃ M, M = srcL l := ⟨_, rfl⟩
  have HS1 := Lib.hid (strs_srcL l HFL.out)
  rw [← hM1] at hmi HS1
  clear hM1
  have hsz2 := nb.size
  have hlt2 := hmi.lt
  have B2 := Lib.hid nb
  have HMI := Lib.hid hmi
  clear nb hmi
  obtain ⟨pm, hpm⟩ : ∃ B, B = w1.heap.size := ⟨_, rfl⟩
  have HPM := Lib.hid hpm
  rw [← hpm] at HMI hlt2 ⊢
  clear hpm
  have hk3 := Blk.new_ (w2.alloc (.map #[] 0)) 37 #[.map (some pm), .map (some w2.heap.size)] (g := w2.heap.size + 1) (by simp)
  have HK := Lib.hid hk3
  clear hk3
  dsimp only
  go_wp2_with fail
  obtain ⟨W3, hW3⟩ : ∃ W3, W3 = (w2.alloc (.map #[] 0)).alloc (.cells #[.map (some pm), .map (some w2.heap.size)] 37) := ⟨_, rfl⟩
  have HW3 := Lib.hid hW3
  rw [← hW3] at HK ⊢
  clear hW3
  obtain ⟨ab, hab⟩ : ∃ ab, ab = w2.heap.size + 1 := ⟨_, rfl⟩
  have HAB := Lib.hid hab
  rw [← hab] at HK ⊢
  clear hab
  obtain ⟨cm, hcm⟩ : ∃ ab, ab = w2.heap.size := ⟨_, rfl⟩
  have HCM := Lib.hid hcm
  rw [← hcm] at HK
  clear hcm
  have HRD : Hid (∀ W, Below W3.drew.heap.size W3.drew W → W.cell? ⟨ab, 0, none⟩ = some (.map (some pm))) := Lib.hid fun W hb => (Blk.below HK.out.drew hb HK.out.lt).cell 0
  have HNW := Lib.hid (new_src W3.drew ab)
  unfold getV at HNW
  refine wp_region_mixL (fun W => Below W3.drew.heap.size W3.drew W) [2, 6, 7, 9] [2, 7, 9] [0, 1, 3, 4, 5, 6, 2, 7, 8, 9, 10] (by kernel_rfl) (by kernel_rfl) (Below.refl _ _) ?_
  simp only [inOrder, opAt]
  obtain ⟨Wk, hWk⟩ : ∃ Wk, Wk = W3.drew := ⟨_, rfl⟩
  have HWK := Lib.hid hWk
  rw [← hWk] at HNW HRD ⊢
  clear hWk
  iterate 6
    (refine wpMixS_read (v := ?_) rfl rfl (fun w' hS => ?_) ?_
     rotate_left
     · ((try (have s0 := HRD.out w' (hS rfl))); (try clear hS); go_simp; (try with_reducible rfl))
     try simp only [Act.put, List.setIfInBounds_toArray, List.set_cons_zero, List.set_cons_succ])
  refine wpMixS_eff rfl rfl (fun K hK => ?_)
  go_simp
  refine HNW.out.mono ?_
  rintro e w5 ⟨rfl, n1, n2, n3⟩
  have HN1 := Lib.hid n1
  have HN2 := Lib.hid n2
  have HN3 := Lib.hid n3
  clear n1 n2 n3
  obtain ⟨box, hbox⟩ : ∃ b, b = Wk.heap.size := ⟨_, rfl⟩
  have HBX := Lib.hid hbox
  obtain ⟨rt, hrt⟩ : ∃ b, b = Wk.heap.size + 1 := ⟨_, rfl⟩
  have HRT := Lib.hid hrt
  unfold ptrV
  simp only [Option.map_some]
  rw [← hrt] at HN2 ⊢
  rw [← hbox] at HN1 HN2
  clear hbox hrt
  refine hK.out _ _ _ (fun _ h => h) (fun _ => HN3.out) ?_
  clear hK K
  try simp only [Act.put, List.setIfInBounds_toArray, List.set_cons_zero, List.set_cons_succ]
  refine wpMixS_eff rfl rfl (fun K hK => ?_)
  go_simp
  refine (refNew_any w5 (some pm)).mono ?_
  rintro e w6 ⟨rfl, nb⟩
  have HN6 := Lib.hid (HN3.out.trans (nb.mono HN3.out.size))
  have HNB := Lib.hid nb
  clear nb
  dsimp only
  refine hK.out _ _ _ (fun _ h => h) (fun _ => HN6.out) ?_
  clear hK K
  try simp only [Act.put, List.setIfInBounds_toArray, List.set_cons_zero, List.set_cons_succ]
  refine wpMixS_build rfl rfl 63 _ rfl (.agg (prL rt { rs0 with src := .map (some pm) }).toArray) #[(0, .pointer (some ⟨rt, 0, none⟩)), (1, .agg (rsCells { rs0 with src := .map (some pm) }))] (by simp only [List.map_toArray, List.map_cons, List.map_nil]; rfl) (fun W => build63 _ _ W) ?_
  try simp only [Act.put, List.setIfInBounds_toArray, List.set_cons_zero, List.set_cons_succ]
  refine wpMixS_eff rfl rfl (fun K hK => ?_)
  go_simp
  refine hK.out _ _ _ (fun _ h => h) (fun _ => HN6.out.alloc HN6.out.size _) ?_
  clear hK K
  try simp only [Act.put, List.setIfInBounds_toArray, List.set_cons_zero, List.set_cons_succ]
  iterate 1
    (refine wpMixS_read (v := ?_) rfl rfl (fun w' hS => ?_) ?_
     rotate_left
     · ((try clear hS); go_simp; (try with_reducible rfl))
     try simp only [Act.put, List.setIfInBounds_toArray, List.set_cons_zero, List.set_cons_succ])
  refine wpMixS_nil ?_
  have HIN := by
    have z3 : Wk.heap.size = w2.heap.size + 2 := by rw [HWK.out, HW3.out]; simp
    have b3 : Below w2.heap.size w2 Wk := by rw [HWK.out, HW3.out]; exact (((Below.refl _ _).alloc (Nat.le_refl _) _).alloc (by simp) _).drew
    have m3 : MI Wk cm [] := by rw [HWK.out, HW3.out, HCM.out]; exact (((MapIs.new w2).alloc _).drew : MI _ _ _)
    have k3 : Blk Wk ab 37 #[.map (some pm), .map (some cm)] := by rw [HWK.out]; exact HK.out.drew
    have b7 : Below w5.heap.size w5 (w6.alloc (.cells (prL rt { rs0 with src := .map (some pm) }).toArray 63)) := HNB.out.alloc HNB.out.size _
    have b37 := HN3.out.trans (b7.mono HN3.out.size)
    have hk := HPM.out
    have hb0 := HBX.out
    have hr0 := HRT.out
    have hc0 := HCM.out
    have h56 := HNB.out.size
    have h35 := HN3.out.size
    have b17 : Below w1.heap.size w1 (w6.alloc (.cells (prL rt { rs0 with src := .map (some pm) }).toArray 63)) := B2.out.trans ((b3.trans (b37.mono (by omega))).mono hsz2)
    exact LcS.init (w := w1) (B := w1.heap.size) (cm := cm) (pm := pm) (root := rt) (by omega) (by omega) (show w1.heap.size ≤ w6.heap.size by omega) (Nat.le_refl _) (by omega) (by omega) HS1.out HS1.out (HN1.out.below b7 HN1.out.lt) (k3.below b37 k3.lt) (HMI.out.keep ((b37.block pm (by omega)).trans (b3.block pm hlt2))) (m3.keep (b37.block cm m3.lt)) (HN2.out.below b7 HN2.out.lt) (Blk.new w6 63 _) (HMI.out.keep ((b37.block pm (by omega)).trans (b3.block pm hlt2))) b17
  obtain ⟨hok, s0, sps0, hm0, hini⟩ := HIN
  have hpk := pair_ok box ab pm cm rt M1
  have hvw := (fun W s sps hm i => LcS.counts (W := W) (box := box) (a := ab) (pm := pm) (cm := cm) (root := rt) (B := w1.heap.size) (M := M1) (pm0 := pm) (b := w6.heap.size) (w := w1) (s := s) (sps := sps) (hm := hm) (v := runA ops (newS (srcM M1)) i) (r := runA ops (newS (srcM M1)) i))
  generalize askedSrc box ab pm cm rt M1 = C at *
  obtain ⟨b0, hb0⟩ : ∃ b, b = w6.heap.size := ⟨_, rfl⟩
  rw [← hb0] at hini hvw
  have HCN := Lib.hid hvw
  have HOK := Lib.hid hok
  have HPK := Lib.hid hpk
  have HI := Lib.hid hini
  have HB0 := Lib.hid hb0
  rw [← hb0]
  clear hok hpk hini hvw
  generalize (w6.alloc (.cells (prL rt { rs0 with src := .map (some pm) }).toArray 63)) = W7 at *
  clear hb0 HRD HNW
  go_wp2_with fail
  go_loopg [9] ops.length (fun q iv wr => ∃ (i : Nat) (s : Sp) (sps : Nat → Option Sp) (hm : Pages), q = ops.length - i ∧ i ≤ ops.length ∧ iv = .int .i64 i ∧ LcS C w1.heap.size rt b0 pm cm (runA ops (newS (srcM M1)) i) (runA ops (newS (srcM M1)) i) w1 wr s sps hm)
  case atStart => exact ⟨0, _, _, _, rfl, Nat.zero_le _, rfl, HI.out⟩
  case round =>
    obtain ⟨i, s, sps, hm, rfl, hi, rfl, hlc⟩ := hrel
    have HT := Lib.hid hlc
    clear hlc
    by_cases hlt : i < ops.length
    · have i2 : (i : Int) < (ops.length : Int) := by omega
      have hrng := (HO1.out.below HT.out.bel)
      obtain ⟨OP', opc', hopv, _, hops2⟩ := hrng
      injection hopv with hopv1 _ hopv3
      subst hopv1 hopv3
      obtain ⟨hok, bo, off, rfl, hbo, hbw, hrange⟩ := hops2 i hlt
      clear hops2
      have hsk := runA_succ ops (newS (srcM M1)) i hlt
      have HLT := Lib.hid hlt
      generalize hoi : ops[i] = o at hok hrange hsk
      have HSK := Lib.hid hsk
      have HOI := Lib.hid hoi
      clear hoi hlt hsk
      have c0 : wr.cell? ⟨bo, off + i * 5, none⟩ = some (.int .u8 o.kd) := hrange 0 _ rfl
      have HOKO := Lib.hid hok
      have HRNG := Lib.hid hrange
      clear hok hrange hbo hbw
      by_cases hc : 9 ≤ o.kd % 11
      · have e5 : decide ((9 : Int) ≤ o.kd.tmod 11) = true := by rw [Int.tmod_eq_emod_of_nonneg HOKO.out.k1]; exact decide_eq_true hc
        have e7 : (9 : Int) ≤ o.kd.tmod 11 := by rw [Int.tmod_eq_emod_of_nonneg HOKO.out.k1]; exact hc
        have hk9 : 9 ≤ o.k := by unfold OpV.k; omega
        have HNX := Lib.hid (HSK.out.trans (stepA_skip _ _ hk9))
        clear hc hk9 HSK
        go_wp2_with fail
        go_roundg (ops.length - (i + 1))
        case measure => omega
        case rel => exact ⟨i + 1, s, sps, hm, rfl, by omega, by go_num, by rw [HNX.out]; exact HT.out⟩
      · have hk9 : ¬ 9 ≤ o.k := by have h1 := HOKO.out.k1; unfold OpV.k; omega
        have hkk : o.kd % 11 = (o.k : Int) := by have h1 := HOKO.out.k1; unfold OpV.k; omega
        have e5 : decide ((9 : Int) ≤ o.kd.tmod 11) = false := by rw [Int.tmod_eq_emod_of_nonneg HOKO.out.k1]; exact decide_eq_false hc
        have e7 : ¬ (9 : Int) ≤ o.kd.tmod 11 := by rw [Int.tmod_eq_emod_of_nonneg HOKO.out.k1]; exact hc
        have HNX := Lib.hid (HSK.out.trans (stepA_do _ _ hk9))
        have HDO := Lib.hid (do_any HOK.out HPK.out HT.out.dop o.k (by omega) o.kd o.wh o.x o.n o.t HOKO.out.k1 HOKO.out.k2 hkk HOKO.out.x1 HOKO.out.x2 HOKO.out.n1 HOKO.out.n2 HOKO.out.t (by rw [HT.out.vw]))
        have HVW := Lib.hid HT.out.vw
        clear hc hkk HSK
        go_wp2_with (refine wpList_load_mid rfl 45 (.tmp 60) rfl bo (off + i * 5) rfl o.cells _ HRNG.out Try.underlying45 rfl info45 ?_)
        refine HDO.out.mono ?_
        rintro e w9 ⟨rfl, hdr⟩
        rw [HVW.out] at hdr
        obtain ⟨s', sps', hm', h9⟩ := HT.out.step (r' := runA ops (newS (srcM M1)) (i + 1)) (v' := runA ops (newS (srcM M1)) (i + 1)) id (by rw [HNX.out, doA_src]) (by rw [HNX.out]; exact hdr)
        have H9 := Lib.hid h9
        clear h9
        clear hdr
        dsimp only
        go_wp2_with fail
        go_roundg (ops.length - (i + 1))
        case measure => omega
        case rel => exact ⟨i + 1, s', sps', hm', rfl, by omega, by go_num, H9.out⟩
    · obtain rfl : i = ops.length := by omega
      clear hlt hi
      obtain ⟨wA, rfl⟩ : ∃ wA, wA = wr := ⟨_, rfl⟩
      have HA := Lib.hid HT.out
      obtain ⟨aE, haE⟩ : ∃ a, a = runA ops (newS (srcM M1)) ops.length := ⟨_, rfl⟩
      have HAE := Lib.hid haE
      rw [← haE] at HA
      clear HT haE
      have hsa := HA.out.bel.size
      go_wp2_with fail
      refine (source_any wA v2 m w1.heap.size (HM1.out.below HA.out.bel) hsa).mono ?_
      rintro e w3 ⟨rfl, hmi, nb⟩
      obtain ⟨M2, hM2⟩ : ∃ M, M = srcL m := ⟨_, rfl⟩
      have HS2 := Lib.hid (strs_srcL m HFM.out)
      rw [← hM2] at hmi HS2
      clear hM2
      have hsz3 := nb.size
      have hlt3 := hmi.lt
      have B3 := Lib.hid nb
      have HMI2 := Lib.hid hmi
      clear nb hmi
      obtain ⟨pn, hpn⟩ : ∃ B, B = wA.heap.size := ⟨_, rfl⟩
      have HPN := Lib.hid hpn
      rw [← hpn] at HMI2 hlt3 ⊢
      clear hpn
      obtain ⟨qb1, qm1, cl, qc1, qcnt⟩ := HCN.out wA _ _ _ ops.length (by rw [← HAE.out]; exact HA.out) (by rw [runA_src _ _ _ (Nat.le_refl _)]; exact fun h => by cases h)
      rw [← HAE.out] at qcnt
      obtain ⟨W4, hW4⟩ : ∃ W4, W4 = (w3.alloc (.map #[] 0)).alloc (.cells #[.map (some pn), .map (some w3.heap.size)] 37) := ⟨_, rfl⟩
      have HW4 := Lib.hid hW4
      obtain ⟨abn, habn⟩ : ∃ ab, ab = w3.heap.size + 1 := ⟨_, rfl⟩
      have HABN := Lib.hid habn
      obtain ⟨cn, hcn⟩ : ∃ ab, ab = w3.heap.size := ⟨_, rfl⟩
      have HCNN := Lib.hid hcn
      have HK4 : Hid (Blk W4 abn 37 #[.map (some pn), .map (some cn)]) := Lib.hid (by rw [HW4.out, HABN.out, HCNN.out]; exact Blk.new_ _ _ _ (by simp))
      have HB4 : Hid (Below wA.heap.size wA W4) := Lib.hid (by rw [HW4.out]; exact (B3.out.alloc hsz3 _).alloc (by simp; omega) _)
      have HP4 : Hid (MI W4 pn M2) := Lib.hid (by rw [HW4.out]; exact (HMI2.out.alloc _).alloc _)
      have HC4 : Hid (MI W4 cn []) := Lib.hid (by rw [HW4.out, HCNN.out]; exact (MapIs.new w3).alloc _)
      have hz4 : W4.heap.size = w3.heap.size + 2 := by rw [HW4.out]; simp
      have HQ1 := Lib.hid qb1
      have HQM := Lib.hid qm1
      have HQC := Lib.hid qc1
      have HQN := Lib.hid qcnt
      have hqb := qb1.lt
      have hqm := qm1.lt
      have hqc := qc1.lt
      clear qb1 qm1 qc1 qcnt
      clear hW4 habn hcn
      dsimp only
      go_upto_region 13 with (fail)
      rw [← HW4.out, ← HABN.out]
      have s1 : W4.cell? ⟨ab, 1, none⟩ = some (.map (some cm)) := (HQ1.out.below HB4.out hqb).cell 1
      go_wp2_with (first
        | (at_range; refine wpList_range_mi _ rfl (.tmp 75) 35 rfl 3 3 Try.underlying35 rfl (HQC.out.keep (HB4.out.block cm hqc)) ?_; intro W5 left0 hrg0 hl0 nb0 hs0)
        | go_in)
      go_frame
      have HST : Hid (CpS wA W5 W4.heap.size cm abn pn cn M1 cl M2 left0 cl.length) := Lib.hid ⟨HB4.out.trans (nb0.mono HB4.out.size), hrg0, HP4.out.keep (nb0.block pn HP4.out.lt), ⟨HS2.out, fun p hp h => by rw [hl0 p hp] at h; cases h⟩, HK4.out.below nb0 HK4.out.lt, HC4.out.keep (nb0.block cn HC4.out.lt)⟩
      obtain ⟨it, hit⟩ : ∃ it, it = W4.heap.size := ⟨_, rfl⟩
      rw [← hit] at HST ⊢
      have hit2 : wA.heap.size ≤ it := by rw [hit]; exact HB4.out.size
      clear hrg0 hl0 nb0 hs0 hit s1
      go_loopg [13] cl.length (fun q pv wr => ∃ (left : Int → Bool) (N : List (Int × Value)), CpS wA wr it cm abn pn cn M1 cl N left q)
      case atStart => exact ⟨left0, M2, HST.out⟩
      case round =>
        obtain ⟨left, N, hcp⟩ := hrel
        have HCP := Lib.hid hcp
        have hrg := hcp.rng
        clear hcp
        go_wp2_with (first
          | (at_next; refine wpList_next_mi _ encI_inj rfl (.tmp 76) rfl rfl hrg ?_ ?_)
          | go_in)
        · intro _ hl0
          have HL0 := Lib.hid hl0
          obtain ⟨wB, rfl⟩ : ∃ wB, wB = wr := ⟨_, rfl⟩
          clear hl0 hrg
          go_wp2_with fail
          have HK2 : Hid (Blk wB ab 37 #[.map (some pm), .map (some cm)]) := Lib.hid (HQ1.out.below HCP.out.bel hqb)
          have HD : Hid (∀ p, (runA ops (newS (srcM M1)) ops.length).asked p = true → srcM M1 p = srcM N p) := Lib.hid (by rw [← HAE.out]; exact HCP.out.cp.src HQN.out (fun p hp => HL0.out p.1 p.2 hp) HQM.out.1.1 HCP.out.mi.1.1)
          have HRD2 : Hid (∀ W, Below wB.drew.heap.size wB.drew W → W.cell? ⟨ab, 0, none⟩ = some (.map (some pm))) := Lib.hid fun W hb => (Blk.below HK2.out.drew hb HK2.out.lt).cell 0
          have HNW2 := Lib.hid (new_src wB.drew abn)
          unfold getV at HNW2
          refine wp_region_mixL (fun W => Below wB.drew.heap.size wB.drew W) [2, 6, 7, 9] [2, 7, 9] [0, 1, 3, 4, 5, 6, 2, 7, 8, 9, 10] (by kernel_rfl) (by kernel_rfl) (Below.refl _ _) ?_
          simp only [inOrder, opAt]
          obtain ⟨Wk2, hWk⟩ : ∃ Wk, Wk = wB.drew := ⟨_, rfl⟩
          have HWK2 := Lib.hid hWk
          rw [← hWk] at HNW2 HRD2 ⊢
          clear hWk
          iterate 6
            (refine wpMixS_read (v := ?_) rfl rfl (fun w' hS => ?_) ?_
             rotate_left
             · ((try (have s0 := HRD2.out w' (hS rfl))); (try clear hS); go_simp; (try with_reducible rfl))
             try simp only [Act.put, List.setIfInBounds_toArray, List.set_cons_zero, List.set_cons_succ])
          refine wpMixS_eff rfl rfl (fun K hK => ?_)
          go_simp
          refine HNW2.out.mono ?_
          rintro e w52 ⟨rfl, n1, n2, n3⟩
          have HN12 := Lib.hid n1
          have HN22 := Lib.hid n2
          have HN32 := Lib.hid n3
          clear n1 n2 n3
          obtain ⟨box2, hbox⟩ : ∃ b, b = Wk2.heap.size := ⟨_, rfl⟩
          have HBX2 := Lib.hid hbox
          obtain ⟨rt2, hrt⟩ : ∃ b, b = Wk2.heap.size + 1 := ⟨_, rfl⟩
          have HRT2 := Lib.hid hrt
          unfold ptrV
          simp only [Option.map_some]
          rw [← hrt] at HN22 ⊢
          rw [← hbox] at HN12 HN22
          clear hbox hrt
          refine hK.out _ _ _ (fun _ h => h) (fun _ => HN32.out) ?_
          clear hK K
          try simp only [Act.put, List.setIfInBounds_toArray, List.set_cons_zero, List.set_cons_succ]
          refine wpMixS_eff rfl rfl (fun K hK => ?_)
          go_simp
          refine (refNew_any w52 (some pm)).mono ?_
          rintro e w62 ⟨rfl, nb⟩
          have HN62 := Lib.hid (HN32.out.trans (nb.mono HN32.out.size))
          have HNB2 := Lib.hid nb
          clear nb
          dsimp only
          refine hK.out _ _ _ (fun _ h => h) (fun _ => HN62.out) ?_
          clear hK K
          try simp only [Act.put, List.setIfInBounds_toArray, List.set_cons_zero, List.set_cons_succ]
          refine wpMixS_build rfl rfl 63 _ rfl (.agg (prL rt2 { rs0 with src := .map (some pm) }).toArray) #[(0, .pointer (some ⟨rt2, 0, none⟩)), (1, .agg (rsCells { rs0 with src := .map (some pm) }))] (by simp only [List.map_toArray, List.map_cons, List.map_nil]; rfl) (fun W => build63 _ _ W) ?_
          try simp only [Act.put, List.setIfInBounds_toArray, List.set_cons_zero, List.set_cons_succ]
          refine wpMixS_eff rfl rfl (fun K hK => ?_)
          go_simp
          refine hK.out _ _ _ (fun _ h => h) (fun _ => HN62.out.alloc HN62.out.size _) ?_
          clear hK K
          try simp only [Act.put, List.setIfInBounds_toArray, List.set_cons_zero, List.set_cons_succ]
          iterate 1
            (refine wpMixS_read (v := ?_) rfl rfl (fun w' hS => ?_) ?_
             rotate_left
             · ((try clear hS); go_simp; (try with_reducible rfl))
             try simp only [Act.put, List.setIfInBounds_toArray, List.set_cons_zero, List.set_cons_succ])
          refine wpMixS_nil ?_
          have HIN := by
            have z3 : Wk2.heap.size = wB.heap.size := by rw [HWK2.out]; rfl
            have b3 : Below wB.heap.size wB Wk2 := by rw [HWK2.out]; exact (Below.refl _ _).drew
            have k3 : Blk Wk2 abn 37 #[.map (some pn), .map (some cn)] := HCP.out.blk.below b3 HCP.out.blk.lt
            have m3 : MI Wk2 cn [] := HCP.out.cn_.keep (b3.block cn HCP.out.cn_.lt)
            have p3 : MI Wk2 pn N := HCP.out.mi.keep (b3.block pn HCP.out.mi.lt)
            have ba3 := HCP.out.bel.trans (b3.mono HCP.out.bel.size)
            have b7 : Below w52.heap.size w52 (w62.alloc (.cells (prL rt2 { rs0 with src := .map (some pm) }).toArray 63)) := HNB2.out.alloc HNB2.out.size _
            have b37 := HN32.out.trans (b7.mono HN32.out.size)
            have hk := HPN.out
            have hb0 := HBX2.out
            have hr0 := HRT2.out
            have hc0 := HCNN.out
            have h56 := HNB2.out.size
            have h35 := HN32.out.size
            have hzB := HCP.out.bel.size
            have b17 : Below wA.heap.size wA (w62.alloc (.cells (prL rt2 { rs0 with src := .map (some pm) }).toArray 63)) := ba3.trans (b37.mono (by omega))
            exact LcS.init (w := wA) (B := wA.heap.size) (cm := cn) (pm := pn) (pm0 := pm) (root := rt2) (by omega) (by omega) (show wA.heap.size ≤ w62.heap.size by omega) (Nat.le_refl _) (by omega) (by omega) HCP.out.cp.str HS1.out (HN12.out.below b7 HN12.out.lt) (k3.below b37 k3.lt) (p3.keep (b37.block pn p3.lt)) (m3.keep (b37.block cn m3.lt)) (HN22.out.below b7 HN22.out.lt) (Blk.new w62 63 _) (HQM.out.keep (b17.block pm hqm)) b17
          obtain ⟨hok, s0, sps0, hm0, hini⟩ := HIN
          have hpk := pair_ok box2 abn pn cn rt2 N
          generalize askedSrc box2 abn pn cn rt2 N = C2 at *
          obtain ⟨b2, hb0⟩ : ∃ b, b = w62.heap.size := ⟨_, rfl⟩
          rw [← hb0] at hini
          have HOK2 := Lib.hid hok
          have HPK2 := Lib.hid hpk
          rw [← reSrc_new (srcM M1) (srcM N)] at hini
          have HI2 := Lib.hid hini
          rw [← hb0]
          clear hok hpk hini
          generalize (w62.alloc (.cells (prL rt2 { rs0 with src := .map (some pm) }).toArray 63)) = W72 at *
          clear hb0 HRD2 HNW2
          go_wp2_with fail
          go_loopg [17] ops.length (fun q iv wr => ∃ (i : Nat) (s : Sp) (sps : Nat → Option Sp) (hm : Pages), q = ops.length - i ∧ i ≤ ops.length ∧ iv = .int .i64 i ∧ LcS C2 wA.heap.size rt2 b2 pm cn (reSrc (srcM N) (runA ops (newS (srcM M1)) i)) (runA ops (newS (srcM M1)) i) wA wr s sps hm)
          case atStart => exact ⟨0, _, _, _, rfl, Nat.zero_le _, rfl, HI2.out⟩
          case round =>
            obtain ⟨i, s, sps, hm, rfl, hi, rfl, hlc⟩ := hrel
            have HT := Lib.hid hlc
            clear hlc
            by_cases hlt : i < ops.length
            · have i2 : (i : Int) < (ops.length : Int) := by omega
              have hrng := (HO1.out.below (HA.out.bel.trans (HT.out.bel.mono hsa)))
              obtain ⟨OP', opc', hopv, _, hops2⟩ := hrng
              injection hopv with hopv1 _ hopv3
              subst hopv1 hopv3
              obtain ⟨hok, bo, off, rfl, hbo, hbw, hrange⟩ := hops2 i hlt
              clear hops2
              have hsk := runA_succ ops (newS (srcM M1)) i hlt
              have HLT := Lib.hid hlt
              generalize hoi : ops[i] = o at hok hrange hsk
              have HSK := Lib.hid hsk
              have HOI := Lib.hid hoi
              clear hoi hlt hsk
              have c0 : wr.cell? ⟨bo, off + i * 5, none⟩ = some (.int .u8 o.kd) := hrange 0 _ rfl
              have HOKO := Lib.hid hok
              have HRNG := Lib.hid hrange
              clear hok hrange hbo hbw
              by_cases hc : 9 ≤ o.kd % 11
              · have e5 : decide ((9 : Int) ≤ o.kd.tmod 11) = true := by rw [Int.tmod_eq_emod_of_nonneg HOKO.out.k1]; exact decide_eq_true hc
                have e7 : (9 : Int) ≤ o.kd.tmod 11 := by rw [Int.tmod_eq_emod_of_nonneg HOKO.out.k1]; exact hc
                have hk9 : 9 ≤ o.k := by unfold OpV.k; omega
                have HNX := Lib.hid (HSK.out.trans (stepA_skip _ _ hk9))
                clear hc hk9 HSK
                go_wp2_with fail
                go_roundg (ops.length - (i + 1))
                case measure => omega
                case rel => exact ⟨i + 1, s, sps, hm, rfl, by omega, by go_num, by rw [HNX.out]; exact HT.out⟩
              · have hk9 : ¬ 9 ≤ o.k := by have h1 := HOKO.out.k1; unfold OpV.k; omega
                have hkk : o.kd % 11 = (o.k : Int) := by have h1 := HOKO.out.k1; unfold OpV.k; omega
                have e5 : decide ((9 : Int) ≤ o.kd.tmod 11) = false := by rw [Int.tmod_eq_emod_of_nonneg HOKO.out.k1]; exact decide_eq_false hc
                have e7 : ¬ (9 : Int) ≤ o.kd.tmod 11 := by rw [Int.tmod_eq_emod_of_nonneg HOKO.out.k1]; exact hc
                have HNX := Lib.hid (HSK.out.trans (stepA_do _ _ hk9))
                have HRR : Hid (doA o.k o.x o.n o.t (reSrc (srcM N) (runA ops (newS (srcM M1)) i)) = (reSrc (srcM N) (runA ops (newS (srcM M1)) (i + 1)), (doA o.k o.x o.n o.t (runA ops (newS (srcM M1)) i)).2)) := Lib.hid (by
                  have hk9' := hk9
                  rw [← HOI.out] at hk9' ⊢
                  exact run_re rfl HD.out HLT.out hk9')
                have HDO := Lib.hid (do_any HOK2.out HPK2.out HT.out.dop o.k (by omega) o.kd o.wh o.x o.n o.t HOKO.out.k1 HOKO.out.k2 hkk HOKO.out.x1 HOKO.out.x2 HOKO.out.n1 HOKO.out.n2 HOKO.out.t (by rw [HT.out.vw, HRR.out]))
                have HVW := Lib.hid HT.out.vw
                clear hc hkk HSK
                go_wp2_with (refine wpList_load_mid rfl 45 (.tmp 129) rfl bo (off + i * 5) rfl o.cells _ HRNG.out Try.underlying45 rfl info45 ?_)
                refine HDO.out.mono ?_
                rintro e w9 ⟨rfl, hdr⟩
                rw [HVW.out] at hdr
                rw [HRR.out] at hdr
                dsimp only at hdr
                obtain ⟨s', sps', hm', h9⟩ := HT.out.step (r' := runA ops (newS (srcM M1)) (i + 1)) (v' := reSrc (srcM N) (runA ops (newS (srcM M1)) (i + 1))) reSrc_ok (by rw [HNX.out, doA_src]) (by rw [← HNX.out] at hdr; exact hdr)
                have H9 := Lib.hid h9
                clear h9
                clear hdr
                dsimp only
                go_wp2_with fail
                go_roundg (ops.length - (i + 1))
                case measure => omega
                case rel => exact ⟨i + 1, s', sps', hm', rfl, by omega, by go_num, H9.out⟩
            · obtain rfl : i = ops.length := by omega
              clear hlt hi
              have HAX := Lib.hid (HA.out.below HOK.out HT.out.bel)
              go_wp2_with fail
              refine (views_any HOK.out HAX.out.dop.all HAX.out.dop.sp HAX.out.dop.pair (by rw [HAX.out.vw]) (by rw [HAX.out.vw])).mono ?_
              rintro e w8 ⟨rfl, nb⟩
              have HB8 := Lib.hid nb
              have HTX := Lib.hid (HT.out.below HOK2.out nb)
              clear nb
              dsimp only
              go_wp2_with fail
              refine (views_any HOK2.out HTX.out.dop.all HTX.out.dop.sp HTX.out.dop.pair (by rw [HTX.out.vw]; rfl) (by rw [HTX.out.vw]; rfl)).mono ?_
              rintro e w9 ⟨rfl, nb⟩
              have HB9 := Lib.hid nb
              clear nb
              dsimp only
              go_wp2_with fail
              go_ret
              refine ⟨rfl, ?_⟩
              have r1 := HB1.out.trans (HA.out.bel.mono hs1)
              have r2 := r1.trans (HT.out.bel.mono r1.size)
              have r3 := r2.trans (HB8.out.mono r2.size)
              exact r3.trans (HB9.out.mono r3.size)
        · intro x v w' cnt' hmem hleft hrg1 hlt1 hfr1 hen
          have e1 := HCP.out.rng.ne_blk HCP.out.blk
          have e3 := HCP.out.rng.ne_mi HCP.out.mi
          have hpg : Pg x := hrg.1.1 _ hmem
          have hcmn : cm ≠ pn := by rw [HPN.out]; omega
          have hpmn : pm ≠ pn := by rw [HPN.out]; omega
          have hcnn : cn ≠ pn := by have := HCNN.out; omega
          have habnn : abn ≠ pn := by have := HABN.out; omega
          have habpn : ab ≠ pn := by rw [HPN.out]; omega
          have hk2 := HCP.out.blk.fr hfr1 (by simpa using e1)
          have HKX := Lib.hid hk2
          have s2 : w'.cell? ⟨abn, 0, none⟩ = some (.map (some pn)) := hk2.cell 0
          have HMX := Lib.hid (HCP.out.mi.fr hfr1 (by simpa using e3))
          have HFX := Lib.hid hfr1
          have HRX := Lib.hid hrg1
          have HLX := Lib.hid hlt1
          have hb1 : Below wA.heap.size wA w' := HCP.out.bel.trans (hfr1.below HCP.out.bel.size (by simp; omega))
          have HBX1 := Lib.hid hb1
          have HZ9 := Lib.hid zero9
          have HEX : Hid (∀ W2 N2, MI W2 pn N2 → Fr [pn] w' W2 → W2.cell? ⟨abn, 0, none⟩ = some (.map (some pn)) ∧ W2.cell? ⟨ab, 0, none⟩ = some (.map (some pm)) ∧
              (Instr.lookup 32 (.map (some pm)) (.int .i64 x) true).run Try.prog W2 = .ok (.tuple #[(mget M1 x).getD (.string ⟨#[]⟩), .bool (mget M1 x).isSome]) W2 ∧
              ∀ u, ∃ w4, (Instr.mapUpdate 32 (.map (some pn)) (.int .i64 x) u).run Try.prog W2 = .ok () w4 ∧ MI w4 pn (mput x u N2) ∧ Fr [pn] W2 w4) := Lib.hid fun W2 N2 hm2 hf2 => by
            have hb2 : Below wA.heap.size wA W2 := HBX1.out.trans (hf2.below HBX1.out.size (by intro x hx; exact Nat.le_of_eq (by rw [List.mem_singleton.1 hx, HPN.out])))
            refine ⟨(HKX.out.fr hf2 (by simpa using habnn)).cell 0, (HQ1.out.below hb2 hqb).cell 0, ?_, fun u => run_update_map keyI Try.underlying32 hm2 x hpg u⟩
            have h3 := run_lookup_map (P := Try.prog) keyI Try.underlying32 HZ9.out (HQM.out.keep (hb2.block pm hqm)) x hpg true
            simp only [if_true] at h3
            exact h3
          have hleft' := hleft
          have HPGX := Lib.hid hpg
          clear hmem hleft hrg hrg1 hlt1 hfr1 hk2 hb1 e1 e3 hpg hleft'
          unfold encI at *
          cases hmx : mget M1 x with
          | none =>
            have HMN := Lib.hid hmx
            clear hmx
            go_wp2_with (first
              | (at_delete; refine wpList_delete_mi _ keyI rfl (.tmp 84) (.tmp 85) 32 rfl 9 Try.underlying32 rfl HMX.out x rfl HPGX.out ?_; intro w2 hm2 hf2; obtain ⟨t1, t2, t3, t4⟩ := HEX.out w2 _ hm2 hf2; rw [HMN.out] at t3; simp only [Option.getD_none, Option.isSome_none] at t3; have HM2 := Lib.hid hm2; have HF2 := Lib.hid hf2; clear t4 hm2 hf2)
              | go_in)
            go_roundg cnt'
            case measure => exact HLX.out
            case rel => exact ⟨_, _, HCP.out.next HS1.out x HRX.out HFX.out HF2.out HM2.out (by unfold copyM; rw [HMN.out]) hit2 (Nat.le_of_eq HPN.out.symm) hcmn hcnn habnn⟩
          | some v1 =>
            have HMN := Lib.hid hmx
            clear hmx
            go_wp2_with (first
              | (at_delete; refine wpList_delete_mi _ keyI rfl (.tmp 84) (.tmp 85) 32 rfl 9 Try.underlying32 rfl HMX.out x rfl HPGX.out ?_; intro w2 hm2 hf2; obtain ⟨t1, t2, t3, t4⟩ := HEX.out w2 _ hm2 hf2; rw [HMN.out] at t3; simp only [Option.getD_some, Option.isSome_some] at t3; obtain ⟨w4, t5, hm4, hf4⟩ := t4 v1; have HM2 := Lib.hid hm4; have HF2 := Lib.hid (hf2.trans hf4 (by simp)); clear t4 hm2 hf2 hm4 hf4)
              | go_in)
            go_roundg cnt'
            case measure => exact HLX.out
            case rel => exact ⟨_, _, HCP.out.next HS1.out x HRX.out HFX.out HF2.out HM2.out (by unfold copyM; rw [HMN.out]) hit2 (Nat.le_of_eq HPN.out.symm) hcmn hcnn habnn⟩
end Go.Proofs.Ytbppafbdmdbdiaa
