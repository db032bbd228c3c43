/-
  The law SpaceFaults, walked.
-/
import Derived.Test.YtbppafbdmdbdiaaSetup
namespace Go.Proofs.Ytbppafbdmdbdiaa
open Go.RowKit
set_option linter.unusedVariables false
theorem u8_int' {a : Int} (h : (Lit.int .u8 a).wf = true) : 0 ≤ a ∧ a < 256 := by
  simp [Lit.wf, IntKind.min, IntKind.max, IntKind.bits, IntKind.signed] at h
  omega
theorem i64_int {a : Int} (h : (Lit.int .i64 a).wf = true) : -9223372036854775808 ≤ a ∧ a ≤ 9223372036854775807 := by
  simp [Lit.wf, IntKind.min, IntKind.max, IntKind.bits, IntKind.signed] at h
  omega

set_option maxRecDepth 100000 in
set_option maxHeartbeats 8000000 in
theorem faults_walk (w : World) (v : Value) (k h x n : Int) (t : ByteArray) (l : List Fl) (hl : RdF w w.heap.size v l) (hwf : (Lit.int .u8 k).wf = true ∧ (Lit.int .u8 h).wf = true ∧ (Lit.int .i64 x).wf = true ∧ (Lit.int .i64 n).wf = true ∧ t.size ≤ maxLen) :
    Calls Try.prog 5 #[v, .agg #[.int .u8 k, .int .u8 h, .int .i64 x, .int .i64 n, .string t]] w fun e w' => e = .returned (.bool true) ∧ Below w.heap.size w w' := by
  obtain ⟨hk1, hk2⟩ := u8_int' hwf.1
  obtain ⟨hx1, hx2⟩ := i64_int hwf.2.2.1
  obtain ⟨hn1, hn2⟩ := i64_int hwf.2.2.2.1
  have ht := hwf.2.2.2.2
  unfold maxLen at ht
  obtain ⟨z, hz⟩ : ∃ z : Nat, z = k.toNat % 4 := ⟨_, rfl⟩
  have ez : k % 4 = (z : Int) := by omega
  have hz4 : z < 4 := by omega
  obtain ⟨u, hu⟩ : ∃ u : Nat, u = min t.size 200 := ⟨_, rfl⟩
  have eu : (if (200 : Int) < (t.size : Int) then (200 : Int) else (t.size : Int)) = (u : Int) := by split <;> omega
  have eu2 : (u : Int) ≤ (t.size : Int) := by omega
  have eu3 : u ≤ t.size := by omega
  have eu4 : u ≤ 200 := by omega
  obtain ⟨nn, hnn⟩ : ∃ nn : Nat, nn = (n % 4294967296).toNat := ⟨_, rfl⟩
  have en : n % 4294967296 = (nn : Int) := by omega
  have en2 : nn < 4294967296 := by omega
  have hmm := @run_makeMap Try.prog
  have hmf : ∀ (fn : Fn) (first cap : Array Value) (w : World), (Instr.makeFunc fn first cap).run Try.prog w = .ok (.func fn first cap) w := fun _ _ _ _ => rfl
  have hfl : ∀ y ∈ l, y.2.size ≤ maxLen := fun y hy => by
    obtain ⟨i, hi, rfl⟩ := List.mem_iff_getElem.1 hy
    obtain ⟨A, cap, _, _, hc⟩ := hl
    obtain ⟨_, _, _, _, _, _, h5⟩ := hc i hi
    exact h5
  have HS := Lib.hid (strs_srcL l hfl)
  have HB0 := Lib.hid ((Below.refl w.heap.size w).alloc (Nat.le_refl _) (.cells #[.int .u8 k, .int .u8 h, .int .i64 x, .int .i64 n, .string t] 45))
  have HK0 := Lib.hid (Blk.new w 45 #[.int .u8 k, .int .u8 h, .int .i64 x, .int .i64 n, .string t])
  have HL := Lib.hid hl
  have hs0 : (w.alloc (.cells #[.int .u8 k, .int .u8 h, .int .i64 x, .int .i64 n, .string t] 45)).heap.size = w.heap.size + 1 := by simp
  have HS0 := Lib.hid hs0
  clear hwf hz hu hnn hl hfl hs0
  obtain ⟨M, hM⟩ : ∃ M, M = srcL l := ⟨_, rfl⟩
  rw [← hM] at HS
  have HMM := Lib.hid hM
  clear hM
  go_enter Try.func5, Try.ntmps5
  go_wp2_with fail
  generalize hWd : w.alloc (.cells #[.int .u8 k, .int .u8 h, .int .i64 x, .int .i64 n, .string t] 45) = W0 at *
  refine (known_any W0).mono ?_
  rintro e w1 ⟨rfl, nb⟩
  have hsz1 := nb.size
  rw [HS0.out] at nb hsz1
  have B1 := Lib.hid (HB0.out.trans (nb.mono (by omega)))
  have K1 := Lib.hid (HK0.out.below nb (by omega))
  clear nb hWd
  dsimp only
  go_wp2_with fail
  refine (source_any w1 v l w.heap.size (HL.out.below B1.out) B1.out.size).mono ?_
  rintro e w2 ⟨rfl, hmi, nb⟩
  rw [← HMM.out] at hmi
  have hsz2 := nb.size
  have B2 := Lib.hid (B1.out.trans (nb.mono (by omega)))
  have K2 := Lib.hid (K1.out.below nb (by omega))
  have HMI := Lib.hid hmi
  clear nb hmi HL B1 K1 HB0 HK0
  obtain ⟨B, hB⟩ : ∃ B, B = w1.heap.size := ⟨_, rfl⟩
  rw [← hB] at HMI hsz1 hsz2 ⊢
  clear hB
  have hs4 : ((w2.alloc (.map #[] 0)).alloc (.cells #[.map (some B), .map (some w2.heap.size)] 37)).heap.size = w2.heap.size + 2 := by simp
  have HN := Lib.hid (new_src ((w2.alloc (.map #[] 0)).alloc (.cells #[.map (some B), .map (some w2.heap.size)] 37)) (w2.heap.size + 1))
  rw [hs4] at HN
  unfold getV at HN
  clear hs4
  dsimp only
  go_wp2_with fail
  refine HN.out.mono ?_
  rintro e w5 ⟨rfl, n1, n2, n3⟩
  obtain ⟨hok, hall, nb⟩ := setup (Nat.le_refl B) HMI.out HS.out n1 n2 n3
  have hvw := view_new_src (w2.heap.size + 2) (w2.heap.size + 1) B w2.heap.size (w2.heap.size + 3) M
  have hXb : (askedSrc (w2.heap.size + 2) (w2.heap.size + 1) B w2.heap.size (w2.heap.size + 3) M).X = fun k => k = w2.heap.size := rfl
  have B5 := Lib.hid (B2.out.trans (nb.mono (by omega)))
  have K5 := Lib.hid (K2.out.below nb (by omega))
  have hsz5 := nb.size
  have hB5 : w2.heap.size < w5.heap.size := by have := n2.lt; omega
  clear n1 n2 n3 nb HN HMI HS B2 K2
  generalize (⟨fetchV (w2.heap.size + 2), fun _ => false, fun _ => false, fun _ => false, fun _ => none⟩ : Sp) = s0 at *
  generalize askedSrc (w2.heap.size + 2) (w2.heap.size + 1) B w2.heap.size (w2.heap.size + 3) M = C at *
  obtain ⟨g, hg⟩ : ∃ g, g = w2.heap.size + 3 := ⟨_, rfl⟩
  rw [← hg] at hall ⊢
  clear hg
  have HOK := Lib.hid hok
  have HALL := Lib.hid hall
  have HVW := Lib.hid hvw
  have HX := Lib.hid hXb
  clear hok hall hvw hXb
  dsimp only
  unfold ptrV
  simp only [Option.map_some]
  go_wp2_with fail
  refine (fork_all HOK.out HALL.out (upd_at _ _ _) (by omega)).mono ?_
  rintro e w6 ⟨rfl, s1, c1, hm1, hA1, hs1, hc1, _, hmv1⟩
  rw [HVW.out] at hs1 hc1
  have hgf : g ≠ w5.heap.size := by
    have := (HALL.out.blk g s0 (upd_at _ _ _)).1.lt
    omega
  obtain ⟨f, hf⟩ : ∃ f, f = w5.heap.size := ⟨_, rfl⟩
  have hb6 := hmv1.below (by omega)
  have B6 := Lib.hid (B5.out.trans (hb6.mono (by omega)))
  have K6 := Lib.hid (K5.out.below hb6 (by omega))
  have hsz6 := hb6.size
  rw [← hf] at hA1 hgf ⊢
  clear hf hb6 hmv1 B5 K5
  obtain ⟨a1, ha1⟩ : ∃ a1, a1 = needUp 64 (newS (srcM M)) := ⟨_, rfl⟩
  rw [← ha1] at hs1 hc1
  have hkn : Knows a1 := by rw [ha1]; exact needUp_knows _
  have hch : a1.changed = fun _ => false := by rw [ha1, needUp_changed]; rfl
  have HS1 := Lib.hid hs1
  have HC1 := Lib.hid hc1
  have HA1 := Lib.hid hA1
  have HKN := Lib.hid hkn
  have HCH := Lib.hid hch
  have hg1 : upd (upd (one g s0) g (some s1)) f (some c1) g = some s1 := by rw [upd_ne _ _ _ _ hgf, upd_at]
  have hXs : ∀ k, C.X k → k < w6.heap.size := fun k hk => by rw [HX.out] at hk; have : k = w2.heap.size := hk; omega
  have HG1 := Lib.hid hg1
  have HXS := Lib.hid hXs
  clear hs1 hc1 hA1 hkn hch hg1 hXs ha1 HALL HVW
  have c0 : w6.cell? ⟨w.heap.size, 0, none⟩ = some (.int .u8 k) := K6.out.cell 0
  have c2 : w6.cell? ⟨w.heap.size, 2, none⟩ = some (.int .i64 x) := K6.out.cell 2
  have c3 : w6.cell? ⟨w.heap.size, 3, none⟩ = some (.int .i64 n) := K6.out.cell 3
  have c4 : w6.cell? ⟨w.heap.size, 4, none⟩ = some (.string t) := K6.out.cell 4
  dsimp only
  unfold ptrV
  simp only [Option.map_some]
  match z, hz4, ez with
  | 0, _, ez =>
    go_wp2_with fail
    refine (store_all HOK.out HA1.out HG1.out x _ (by rw [ByteArray.size_extract]; omega) hx1 hx2 (by omega)).mono ?_
    rintro e w7 ⟨s2, hm2, hA2, hv2, ho2, hmv2, rfl⟩
    rw [HS1.out] at hv2 ⊢
    have hf2 : upd (upd (upd (one g s0) g (some s1)) f (some c1)) g (some s2) f = some c1 := by rw [upd_ne _ _ _ _ (fun e => hgf e.symm), upd_at]
    have hcv : view C hm2 c1 = childA a1 64 := (ho2 f c1 (fun e => hgf e.symm) (upd_at _ _ _)).trans HC1.out
    have hb7 := hmv2.below (by omega)
    have B7 := Lib.hid (B6.out.trans (hb7.mono (by omega)))
    have hsz7 := hmv2.size
    have herr : (storeA a1 x (t.extract 0 u).data.toList).2 ≠ 0 → (storeA a1 x (t.extract 0 u).data.toList).1 = a1 := storeA_err a1 HKN.out x _
    generalize (storeA a1 x (t.extract 0 u).data.toList) = R at *
    obtain ⟨a2, r⟩ := R
    dsimp only at hv2 herr ⊢
    have HA2 := Lib.hid hA2
    have HV2 := Lib.hid hv2
    have HF2 := Lib.hid hf2
    have HCV := Lib.hid hcv
    have HE := Lib.hid herr
    clear hA2 hv2 hf2 hcv herr ho2 hmv2 hb7
    by_cases hr : r = 0
    · have e1 : ((r : Int) == 0) = true := beq_iff_eq.2 (by omega)
      clear hr
      go_wp2_with fail
      go_ret
      exact ⟨by first | rfl | simp, B7.out⟩
    · have e1 : ((r : Int) == 0) = false := beq_eq_false_iff_ne.2 (by omega)
      have ha2 := HE.out hr
      subst ha2
      clear hr
      go_wp2_with fail
      refine (equal_all HOK.out HA2.out (upd_at _ _ _) HF2.out hgf (by omega) (fun k hk => Nat.lt_of_lt_of_le (HXS.out k hk) hsz7)).mono ?_
      rintro e w8 ⟨rfl, s3, c3', hm3, hA3, hv3, hcv3, _, hmv3⟩
      rw [HV2.out, HCV.out, needUp_id _ HKN.out 64 (Nat.le_refl _), needUp_id _ (child_knows _) 64 (Nat.le_refl _), eqA_child]
      rw [HV2.out, needUp_id _ HKN.out 64 (Nat.le_refl _)] at hv3
      have hb8 := hmv3.below (by omega)
      have hsz8 := hmv3.size
      have B8 := Lib.hid (B7.out.trans (hb8.mono (by omega)))
      have hgs3 : ∃ sps', All C B w8 sps' hm3 ∧ sps' g = some s3 := ⟨_, hA3, by rw [upd_ne _ _ _ _ hgf, upd_at]⟩
      obtain ⟨sps', hA4, hg4⟩ := hgs3
      have HA4 := Lib.hid hA4
      have HG4 := Lib.hid hg4
      have HV3 := Lib.hid hv3
      clear hA3 hv3 hcv3 hmv3 hb8 hA4 hg4
      dsimp only
      go_wp2_with fail
      refine (changes_all HOK.out HA4.out HG4.out).mono ?_
      rintro e w9 ⟨⟨OA, oc, rfl, _⟩, _, hb9⟩
      rw [HV3.out, chL_nil _ (fun p _ => by rw [HCH.out])]
      have B9 := Lib.hid (B8.out.trans (hb9.mono (by omega)))
      clear hb9
      dsimp only
      go_wp2_with fail
      go_ret
      exact ⟨by first | rfl | simp, B9.out⟩
  | 1, _, ez =>
    go_wp2_with fail
    refine (setWord_all HOK.out HA1.out HG1.out x nn en2 hx1 hx2 (by omega)).mono ?_
    rintro e w7 ⟨s2, hm2, hA2, hv2, ho2, hmv2, rfl⟩
    rw [HS1.out] at hv2 ⊢
    have hf2 : upd (upd (upd (one g s0) g (some s1)) f (some c1)) g (some s2) f = some c1 := by rw [upd_ne _ _ _ _ (fun e => hgf e.symm), upd_at]
    have hcv : view C hm2 c1 = childA a1 64 := (ho2 f c1 (fun e => hgf e.symm) (upd_at _ _ _)).trans HC1.out
    have hb7 := hmv2.below (by omega)
    have B7 := Lib.hid (B6.out.trans (hb7.mono (by omega)))
    have hsz7 := hmv2.size
    have herr : (storeA a1 x (le4 nn)).2 ≠ 0 → (storeA a1 x (le4 nn)).1 = a1 := storeA_err a1 HKN.out x _
    generalize (storeA a1 x (le4 nn)) = R at *
    obtain ⟨a2, r⟩ := R
    dsimp only at hv2 herr ⊢
    have HA2 := Lib.hid hA2
    have HV2 := Lib.hid hv2
    have HF2 := Lib.hid hf2
    have HCV := Lib.hid hcv
    have HE := Lib.hid herr
    clear hA2 hv2 hf2 hcv herr ho2 hmv2 hb7
    by_cases hr : r = 0
    · have e1 : ((r : Int) == 0) = true := beq_iff_eq.2 (by omega)
      clear hr
      go_wp2_with fail
      go_ret
      exact ⟨by first | rfl | simp, B7.out⟩
    · have e1 : ((r : Int) == 0) = false := beq_eq_false_iff_ne.2 (by omega)
      have ha2 := HE.out hr
      subst ha2
      clear hr
      go_wp2_with fail
      refine (equal_all HOK.out HA2.out (upd_at _ _ _) HF2.out hgf (by omega) (fun k hk => Nat.lt_of_lt_of_le (HXS.out k hk) hsz7)).mono ?_
      rintro e w8 ⟨rfl, s3, c3', hm3, hA3, hv3, hcv3, _, hmv3⟩
      rw [HV2.out, HCV.out, needUp_id _ HKN.out 64 (Nat.le_refl _), needUp_id _ (child_knows _) 64 (Nat.le_refl _), eqA_child]
      rw [HV2.out, needUp_id _ HKN.out 64 (Nat.le_refl _)] at hv3
      have hb8 := hmv3.below (by omega)
      have hsz8 := hmv3.size
      have B8 := Lib.hid (B7.out.trans (hb8.mono (by omega)))
      have hgs3 : ∃ sps', All C B w8 sps' hm3 ∧ sps' g = some s3 := ⟨_, hA3, by rw [upd_ne _ _ _ _ hgf, upd_at]⟩
      obtain ⟨sps', hA4, hg4⟩ := hgs3
      have HA4 := Lib.hid hA4
      have HG4 := Lib.hid hg4
      have HV3 := Lib.hid hv3
      clear hA3 hv3 hcv3 hmv3 hb8 hA4 hg4
      dsimp only
      go_wp2_with fail
      refine (changes_all HOK.out HA4.out HG4.out).mono ?_
      rintro e w9 ⟨⟨OA, oc, rfl, _⟩, _, hb9⟩
      rw [HV3.out, chL_nil _ (fun p _ => by rw [HCH.out])]
      have B9 := Lib.hid (B8.out.trans (hb9.mono (by omega)))
      clear hb9
      dsimp only
      go_wp2_with fail
      go_ret
      exact ⟨by first | rfl | simp, B9.out⟩
  | 2, _, ez =>
    go_wp2_with fail
    refine (map_all HOK.out HA1.out HG1.out x _ (by rw [ByteArray.size_extract]; omega) (by omega)).mono ?_
    rintro e w7 ⟨s2, hm2, hA2, hv2, ho2, hmv2, rfl⟩
    rw [HS1.out] at hv2 ⊢
    have hf2 : upd (upd (upd (one g s0) g (some s1)) f (some c1)) g (some s2) f = some c1 := by rw [upd_ne _ _ _ _ (fun e => hgf e.symm), upd_at]
    have hcv : view C hm2 c1 = childA a1 64 := (ho2 f c1 (fun e => hgf e.symm) (upd_at _ _ _)).trans HC1.out
    have hb7 := hmv2.below (by omega)
    have B7 := Lib.hid (B6.out.trans (hb7.mono (by omega)))
    have hsz7 := hmv2.size
    have herr : (mapA a1 x (t.extract 0 u).data.toList).2 ≠ 0 → (mapA a1 x (t.extract 0 u).data.toList).1 = a1 := mapA_err a1 HKN.out x _
    generalize (mapA a1 x (t.extract 0 u).data.toList) = R at *
    obtain ⟨a2, r⟩ := R
    dsimp only at hv2 herr ⊢
    have HA2 := Lib.hid hA2
    have HV2 := Lib.hid hv2
    have HF2 := Lib.hid hf2
    have HCV := Lib.hid hcv
    have HE := Lib.hid herr
    clear hA2 hv2 hf2 hcv herr ho2 hmv2 hb7
    by_cases hr : r = 0
    · have e1 : ((r : Int) == 0) = true := beq_iff_eq.2 (by omega)
      clear hr
      go_wp2_with fail
      go_ret
      exact ⟨by first | rfl | simp, B7.out⟩
    · have e1 : ((r : Int) == 0) = false := beq_eq_false_iff_ne.2 (by omega)
      have ha2 := HE.out hr
      subst ha2
      clear hr
      go_wp2_with fail
      refine (equal_all HOK.out HA2.out (upd_at _ _ _) HF2.out hgf (by omega) (fun k hk => Nat.lt_of_lt_of_le (HXS.out k hk) hsz7)).mono ?_
      rintro e w8 ⟨rfl, s3, c3', hm3, hA3, hv3, hcv3, _, hmv3⟩
      rw [HV2.out, HCV.out, needUp_id _ HKN.out 64 (Nat.le_refl _), needUp_id _ (child_knows _) 64 (Nat.le_refl _), eqA_child]
      rw [HV2.out, needUp_id _ HKN.out 64 (Nat.le_refl _)] at hv3
      have hb8 := hmv3.below (by omega)
      have hsz8 := hmv3.size
      have B8 := Lib.hid (B7.out.trans (hb8.mono (by omega)))
      have hgs3 : ∃ sps', All C B w8 sps' hm3 ∧ sps' g = some s3 := ⟨_, hA3, by rw [upd_ne _ _ _ _ hgf, upd_at]⟩
      obtain ⟨sps', hA4, hg4⟩ := hgs3
      have HA4 := Lib.hid hA4
      have HG4 := Lib.hid hg4
      have HV3 := Lib.hid hv3
      clear hA3 hv3 hcv3 hmv3 hb8 hA4 hg4
      dsimp only
      go_wp2_with fail
      refine (changes_all HOK.out HA4.out HG4.out).mono ?_
      rintro e w9 ⟨⟨OA, oc, rfl, _⟩, _, hb9⟩
      rw [HV3.out, chL_nil _ (fun p _ => by rw [HCH.out])]
      have B9 := Lib.hid (B8.out.trans (hb9.mono (by omega)))
      clear hb9
      dsimp only
      go_wp2_with fail
      go_ret
      exact ⟨by first | rfl | simp, B9.out⟩
  | 3, _, ez =>
    go_wp2_with fail
    refine (unmap_all HOK.out HA1.out HG1.out x (by omega)).mono ?_
    rintro e w7 ⟨s2, hm2, hA2, hv2, ho2, hmv2, rfl⟩
    rw [HS1.out] at hv2 ⊢
    have hf2 : upd (upd (upd (one g s0) g (some s1)) f (some c1)) g (some s2) f = some c1 := by rw [upd_ne _ _ _ _ (fun e => hgf e.symm), upd_at]
    have hcv : view C hm2 c1 = childA a1 64 := (ho2 f c1 (fun e => hgf e.symm) (upd_at _ _ _)).trans HC1.out
    have hb7 := hmv2.below (by omega)
    have B7 := Lib.hid (B6.out.trans (hb7.mono (by omega)))
    have hsz7 := hmv2.size
    have herr : (unmapA a1 x).2 ≠ 0 → (unmapA a1 x).1 = a1 := unmapA_err a1 HKN.out x
    generalize (unmapA a1 x) = R at *
    obtain ⟨a2, r⟩ := R
    dsimp only at hv2 herr ⊢
    have HA2 := Lib.hid hA2
    have HV2 := Lib.hid hv2
    have HF2 := Lib.hid hf2
    have HCV := Lib.hid hcv
    have HE := Lib.hid herr
    clear hA2 hv2 hf2 hcv herr ho2 hmv2 hb7
    by_cases hr : r = 0
    · have e1 : ((r : Int) == 0) = true := beq_iff_eq.2 (by omega)
      clear hr
      go_wp2_with fail
      go_ret
      exact ⟨by first | rfl | simp, B7.out⟩
    · have e1 : ((r : Int) == 0) = false := beq_eq_false_iff_ne.2 (by omega)
      have ha2 := HE.out hr
      subst ha2
      clear hr
      go_wp2_with fail
      refine (equal_all HOK.out HA2.out (upd_at _ _ _) HF2.out hgf (by omega) (fun k hk => Nat.lt_of_lt_of_le (HXS.out k hk) hsz7)).mono ?_
      rintro e w8 ⟨rfl, s3, c3', hm3, hA3, hv3, hcv3, _, hmv3⟩
      rw [HV2.out, HCV.out, needUp_id _ HKN.out 64 (Nat.le_refl _), needUp_id _ (child_knows _) 64 (Nat.le_refl _), eqA_child]
      rw [HV2.out, needUp_id _ HKN.out 64 (Nat.le_refl _)] at hv3
      have hb8 := hmv3.below (by omega)
      have hsz8 := hmv3.size
      have B8 := Lib.hid (B7.out.trans (hb8.mono (by omega)))
      have hgs3 : ∃ sps', All C B w8 sps' hm3 ∧ sps' g = some s3 := ⟨_, hA3, by rw [upd_ne _ _ _ _ hgf, upd_at]⟩
      obtain ⟨sps', hA4, hg4⟩ := hgs3
      have HA4 := Lib.hid hA4
      have HG4 := Lib.hid hg4
      have HV3 := Lib.hid hv3
      clear hA3 hv3 hcv3 hmv3 hb8 hA4 hg4
      dsimp only
      go_wp2_with fail
      refine (changes_all HOK.out HA4.out HG4.out).mono ?_
      rintro e w9 ⟨⟨OA, oc, rfl, _⟩, _, hb9⟩
      rw [HV3.out, chL_nil _ (fun p _ => by rw [HCH.out])]
      have B9 := Lib.hid (B8.out.trans (hb9.mono (by omega)))
      clear hb9
      dsimp only
      go_wp2_with fail
      go_ret
      exact ⟨by first | rfl | simp, B9.out⟩
end Go.Proofs.Ytbppafbdmdbdiaa
