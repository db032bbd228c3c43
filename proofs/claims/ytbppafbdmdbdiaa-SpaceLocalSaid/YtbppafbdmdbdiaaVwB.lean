/-
  Walks: views.
-/
import Derived.Test.YtbppafbdmdbdiaaVwA
namespace Go.Proofs.Ytbppafbdmdbdiaa
open Go.RowKit
set_option linter.unusedVariables false

section
variable {C : Source} {B : Nat} {w : World} {sps : Nat → Option Sp} {hm : Pages} {g b : Nat} {s : Sp} {m : Value} {r : AS}
set_option maxRecDepth 100000 in
set_option maxHeartbeats 8000000 in
theorem views_any (ok : SourceOk C B) (h : All C B w sps hm) (hg : sps g = some s) (hb : PB w b g (rsOf m r)) (h1 : askL (view C hm s) 64 = askL r 64) (h2 : chL (view C hm s) 64 = chL r 64) :
    Calls Try.prog 30 #[.pointer (some ⟨b, 0, none⟩)] w fun e w' => e = .returned (.bool true) ∧ Below w.heap.size w w' := by
  have HAS := Lib.hid (asked_all ok (h.below ok.keeps (Below.refl _ _).drew) hg)
  have HCH := Lib.hid (fun W (hb : Below w.drew.heap.size w.drew W) => changes_all ok ((h.below ok.keeps (Below.refl _ _).drew).below ok.keeps hb) hg)
  rw [h1] at HAS
  rw [h2] at HCH
  have HPB := Lib.hid (show PB w.drew b g (rsOf m r) from hb)
  have HRD : Hid (∀ W, Below w.drew.heap.size w.drew W → W.cell? ⟨b, 0, none⟩ = some (.pointer (some ⟨g, 0, none⟩))) := Lib.hid fun W hbw => PB.ptr (Blk.below HPB.out hbw HPB.out.lt)
  have hz := z58
  clear h1 h2 h hg hb
  go_enter Try.func30, Try.ntmps30
  go_upto_region 1 with (fail)
  refine wp_region_mixL (fun W => Below w.drew.heap.size w.drew W) [3, 4, 8, 9] [4, 9] [0, 1, 2, 3, 5, 6, 7, 8, 4, 9, 10, 11] (by kernel_rfl) (by kernel_rfl) (Below.refl _ _) ?_
  simp only [inOrder, opAt]
  have HWS : Hid (Below w.heap.size w w.drew) := Lib.hid (Below.refl _ _).drew
  generalize w.drew = Wk at *
  iterate 8
    (refine wpMixS_read (v := ?_) rfl rfl (fun w' hS => ?_) ?_
     rotate_left
     · ((try (have s0 := HRD.out w' (hS rfl))); (try clear hS); go_simp; (try with_reducible rfl))
     try simp only [Act.put, List.setIfInBounds_toArray, List.set_cons_zero, List.set_cons_succ])
  refine wpMixS_eff rfl rfl (fun K hK => ?_)
  go_simp
  refine HAS.out.mono ?_
  rintro e w2 ⟨⟨OA, oc, rfl, hown⟩, _, nb⟩
  have HB2 := Lib.hid nb
  have hra := RowAt.of_own hown
  have HRA := Lib.hid hra
  clear hown nb hra
  dsimp only
  refine hK.out _ _ _ (fun _ h => h) (fun _ => HB2.out) ?_
  clear hK K
  try simp only [Act.put, List.setIfInBounds_toArray, List.set_cons_zero, List.set_cons_succ]
  refine wpMixS_eff rfl rfl (fun K hK => ?_)
  go_simp
  refine (HCH.out w2 HB2.out).mono ?_
  rintro e w3 ⟨⟨OB, bc, rfl, hown⟩, _, nb⟩
  have HB3 := Lib.hid (HB2.out.trans (nb.mono HB2.out.size))
  have HRA3 := Lib.hid (HRA.out.below nb)
  have hrb := RowAt.of_own hown
  have HRB3 := Lib.hid hrb
  clear hown nb hrb
  dsimp only
  refine hK.out _ _ _ (fun _ h => h) (fun _ => HB3.out) ?_
  clear hK K
  try simp only [Act.put, List.setIfInBounds_toArray, List.set_cons_zero, List.set_cons_succ]
  iterate 2
    (refine wpMixS_read (v := ?_) rfl rfl (fun w' hS => ?_) ?_
     rotate_left
     · ((try clear hS); go_simp; (try with_reducible rfl))
     try simp only [Act.put, List.setIfInBounds_toArray, List.set_cons_zero, List.set_cons_succ])
  refine wpMixS_nil ?_
  have HPB3 := Lib.hid (HPB.out.below HB3.out HPB.out.lt)
  obtain ⟨NA, hNA⟩ : ∃ NA, NA = (askL r 64).length := ⟨_, rfl⟩
  obtain ⟨NC, hNC⟩ : ∃ NC, NC = (chL r 64).length := ⟨_, rfl⟩
  rw [← hNA, ← hNC]
  have hn1 := askL_le r 64
  have hn2 := chL_le r 64
  rw [← hNA] at hn1
  rw [← hNC] at hn2
  have HNA := Lib.hid hNA
  have HNC := Lib.hid hNC
  clear hNA hNC
  go_wp2_with fail
  go_loopg [5, 6, 7] 64 (fun z iv kv pv wr => ∃ p : Nat, z = 64 - p ∧ p ≤ 64 ∧ pv = .int .i64 p ∧ iv = .int .i64 ((askL r p).length : Nat) ∧ kv = .int .i64 ((chL r p).length : Nat) ∧ Below w3.heap.size w3 wr)
  case atStart => exact ⟨0, rfl, by omega, rfl, rfl, rfl, Below.refl _ _⟩
  case round =>
    obtain ⟨p, rfl, hp, rfl, rfl, rfl, hb⟩ := hrel
    by_cases hlt : p < 64
    · have i1 : (p : Int) < 64 := by omega
      have i0 : (0 : Int) ≤ (p : Int) := by omega
      have hpb := HPB3.out.below hb HPB3.out.lt
      have hcell : ∀ j v, j < 5 → (pg5 (rsOf m r) p)[j]? = some v → wr.cell? ⟨b, 2 + p * 5 + j, none⟩ = some v := fun j v hj hv => by
        have h0 := rs_get (rsOf m r) p j hlt hj
        unfold rsCells at h0
        rw [List.getElem?_toArray, hv] at h0
        have := PB.one (g := g) (r := rsOf m r) hpb (1 + p * 5 + j) v h0
        rw [show 2 + p * 5 + j = 1 + (1 + p * 5 + j) by omega]
        exact this
      have k0 : wr.cell? ⟨b, 2 + p * 5, none⟩ = some (.bool (r.known p)) := hcell 0 _ (by omega) rfl
      have k1 : wr.cell? ⟨b, 2 + p * 5 + 1, none⟩ = some (.bool (r.page p).isSome) := hcell 1 _ (by omega) rfl
      have k2 : wr.cell? ⟨b, 2 + p * 5 + 2, none⟩ = some (.bool (r.asked p)) := hcell 2 _ (by omega) rfl
      have k3 : wr.cell? ⟨b, 2 + p * 5 + 3, none⟩ = some (.bool (r.changed p)) := hcell 3 _ (by omega) rfl
      have k4 : wr.cell? ⟨b, 2 + p * 5 + 4, none⟩ = some (.string ⟨((r.page p).getD []).toArray⟩) := hcell 4 _ (by omega) rfl
      have HHB := Lib.hid hb
      clear hcell hpb hb
      go_upto_region 7 with (fail)
      have hal : Below wr.heap.size wr (wr.alloc (.cells #[.bool (r.known p), .bool (r.page p).isSome, .bool (r.asked p), .bool (r.changed p), .string ⟨((r.page p).getD []).toArray⟩] 58)) := (Below.refl _ _).alloc (Nat.le_refl _) _
      have HK5 := Lib.hid (Blk.new wr 58 #[.bool (r.known p), .bool (r.page p).isSome, .bool (r.asked p), .bool (r.changed p), .string ⟨((r.page p).getD []).toArray⟩])
      have HB5 := Lib.hid (HHB.out.trans (hal.mono HHB.out.size))
      clear hal k0 k1 k2 k3 k4
      generalize wr.alloc (.cells #[.bool (r.known p), .bool (r.page p).isSome, .bool (r.asked p), .bool (r.changed p), .string ⟨((r.page p).getD []).toArray⟩] 58) = W5 at *
      have f2 : W5.cell? ⟨wr.heap.size, 2, none⟩ = some (.bool (r.asked p)) := HK5.out.cell 2
      cases hak : r.asked p with
      | true =>
        rw [hak] at f2
        obtain ⟨h1, h2, h3⟩ := askL_at r p 64 hlt hak
        obtain ⟨ga, hOA, hcell⟩ := (HRA3.out.below HB5.out).cell (askL r p).length (.int .i64 (p : Nat)) (by unfold nums; rw [List.getElem?_map, h1]; rfl)
        obtain ⟨ka, hka⟩ : ∃ ka, ka = (askL r p).length := ⟨_, rfl⟩
        have hle := askL_le r p
        rw [← hka] at h2 h3 hcell hle ⊢
        rw [← HNA.out] at h2
        have i2 : decide ((NA : Int) ≤ (ka : Int)) = false := decide_eq_false (by omega)
        have i3 : (ka : Int) < (NA : Int) := by omega
        have i4 : (0 : Int) ≤ (ka : Int) := by omega
        have i5 : ka < NA := h2
        have HLA := Lib.hid h3
        have HKA := Lib.hid hka
        clear hak h1 h2 h3 hka
        subst hOA
        go_upto_region 11 with (fail)
        have f3 : W5.cell? ⟨wr.heap.size, 3, none⟩ = some (.bool (r.changed p)) := HK5.out.cell 3
        cases hch : r.changed p with
        | true =>
          rw [hch] at f3
          obtain ⟨h1, h2, h3⟩ := chL_at r p 64 hlt hch
          have hrow := HRB3.out.below HB5.out
          obtain ⟨gc, hOB, hc0⟩ := hrow.cell ((chL r p).length * 3 + 0) _ (chVals_at _ _ _ h1 0 _ (chCells_at0 p (r.page p)))
          obtain ⟨_, hOB1, hc1⟩ := hrow.cell ((chL r p).length * 3 + 1) _ (chVals_at _ _ _ h1 1 _ (chCells_at1 p (r.page p)))
          obtain ⟨_, hOB2, hc2⟩ := hrow.cell ((chL r p).length * 3 + 2) _ (chVals_at _ _ _ h1 2 _ (chCells_at2 p (r.page p)))
          have e1 := hOB.symm.trans hOB1
          have e2 := hOB.symm.trans hOB2
          injection e1 with e1
          injection e2 with e2
          injection e1 with e1
          injection e2 with e2
          subst e1 e2
          clear hOB1 hOB2 hrow h1
          have f1 : W5.cell? ⟨wr.heap.size, 1, none⟩ = some (.bool (r.page p).isSome) := HK5.out.cell 1
          have f4 : W5.cell? ⟨wr.heap.size, 4, none⟩ = some (.string ⟨((r.page p).getD []).toArray⟩) := HK5.out.cell 4
          obtain ⟨kc, hkc⟩ : ∃ kc, kc = (chL r p).length := ⟨_, rfl⟩
          have hle2 := chL_le r p
          rw [← hkc] at h2 h3 hc0 hc1 hc2 hle2 ⊢
          rw [← HNC.out] at h2
          have j2 : decide ((NC : Int) ≤ (kc : Int)) = false := decide_eq_false (by omega)
          have j3 : (kc : Int) < (NC : Int) := by omega
          have j4 : (0 : Int) ≤ (kc : Int) := by omega
          have j5 : kc < NC := h2
          have j6 : decide (NC ≤ kc) = false := decide_eq_false (by omega)
          have HLC := Lib.hid h3
          have HKC := Lib.hid hkc
          clear hch h2 h3 hkc
          subst hOB
          have hnq := fun W => ch_neq W (p : Int) ⟨((r.page p).getD []).toArray⟩ (!(r.page p).isSome)
          go_upto_region 12 with (fail)
          have e0 : W5.drew.cell? ⟨gc, kc * 3, none⟩ = some (.int .i64 (p : Nat)) := hc0
          have e1 : W5.drew.cell? ⟨gc, kc * 3 + 1, none⟩ = some (.string ⟨((r.page p).getD []).toArray⟩) := hc1
          have e2 : W5.drew.cell? ⟨gc, kc * 3 + 2, none⟩ = some (.bool (!(r.page p).isSome)) := hc2
          have q1 : W5.drew.cell? ⟨wr.heap.size, 1, none⟩ = some (.bool (r.page p).isSome) := f1
          have q4 : W5.drew.cell? ⟨wr.heap.size, 4, none⟩ = some (.string ⟨((r.page p).getD []).toArray⟩) := f4
          have HB6 := Lib.hid (HB5.out.drew)
          clear hc0 hc1 hc2 f1 f3 f4
          refine wp_region_mixL (fun W => W = W5.drew) [2, 8, 11, 13] [] [0, 1, 2, 3, 4, 5, 6, 7, 8, 9, 10, 11, 12, 13, 14, 15, 16, 17] (by kernel_rfl) (by kernel_rfl) rfl ?_
          simp only [inOrder, opAt]
          generalize W5.drew = Wz at *
          iterate 18
            (refine wpMixS_read (v := ?_) rfl rfl (fun w' hS => ?_) ?_
             rotate_left
             · ((try (have hE : w' = Wz := hS rfl; rw [hE])); (try clear hS); go_simp; (try with_reducible rfl))
             try simp only [Act.put, List.setIfInBounds_toArray, List.set_cons_zero, List.set_cons_succ])
          refine wpMixS_nil ?_
          go_wp2_with fail
          go_roundg (64 - (p + 1))
          case measure => omega
          case rel => exact ⟨p + 1, rfl, by omega, by go_num, by rw [HLA.out]; go_num, by rw [HLC.out]; go_num, HB6.out⟩
        | false =>
          rw [hch] at f3
          have HLC := Lib.hid (chL_no r p hch)
          clear hch
          go_wp2_with fail
          go_roundg (64 - (p + 1))
          case measure => omega
          case rel => exact ⟨p + 1, rfl, by omega, by go_num, by rw [HLA.out]; go_num, by rw [HLC.out], HB5.out⟩
      | false =>
        rw [hak] at f2
        have HLA := Lib.hid (askL_no r p hak)
        clear hak
        go_upto_region 11 with (fail)
        have f3 : W5.cell? ⟨wr.heap.size, 3, none⟩ = some (.bool (r.changed p)) := HK5.out.cell 3
        cases hch : r.changed p with
        | true =>
          rw [hch] at f3
          obtain ⟨h1, h2, h3⟩ := chL_at r p 64 hlt hch
          have hrow := HRB3.out.below HB5.out
          obtain ⟨gc, hOB, hc0⟩ := hrow.cell ((chL r p).length * 3 + 0) _ (chVals_at _ _ _ h1 0 _ (chCells_at0 p (r.page p)))
          obtain ⟨_, hOB1, hc1⟩ := hrow.cell ((chL r p).length * 3 + 1) _ (chVals_at _ _ _ h1 1 _ (chCells_at1 p (r.page p)))
          obtain ⟨_, hOB2, hc2⟩ := hrow.cell ((chL r p).length * 3 + 2) _ (chVals_at _ _ _ h1 2 _ (chCells_at2 p (r.page p)))
          have e1 := hOB.symm.trans hOB1
          have e2 := hOB.symm.trans hOB2
          injection e1 with e1
          injection e2 with e2
          injection e1 with e1
          injection e2 with e2
          subst e1 e2
          clear hOB1 hOB2 hrow h1
          have f1 : W5.cell? ⟨wr.heap.size, 1, none⟩ = some (.bool (r.page p).isSome) := HK5.out.cell 1
          have f4 : W5.cell? ⟨wr.heap.size, 4, none⟩ = some (.string ⟨((r.page p).getD []).toArray⟩) := HK5.out.cell 4
          obtain ⟨kc, hkc⟩ : ∃ kc, kc = (chL r p).length := ⟨_, rfl⟩
          have hle2 := chL_le r p
          rw [← hkc] at h2 h3 hc0 hc1 hc2 hle2 ⊢
          rw [← HNC.out] at h2
          have j2 : decide ((NC : Int) ≤ (kc : Int)) = false := decide_eq_false (by omega)
          have j3 : (kc : Int) < (NC : Int) := by omega
          have j4 : (0 : Int) ≤ (kc : Int) := by omega
          have j5 : kc < NC := h2
          have j6 : decide (NC ≤ kc) = false := decide_eq_false (by omega)
          have HLC := Lib.hid h3
          have HKC := Lib.hid hkc
          clear hch h2 h3 hkc
          subst hOB
          have hnq := fun W => ch_neq W (p : Int) ⟨((r.page p).getD []).toArray⟩ (!(r.page p).isSome)
          go_upto_region 12 with (fail)
          have e0 : W5.drew.cell? ⟨gc, kc * 3, none⟩ = some (.int .i64 (p : Nat)) := hc0
          have e1 : W5.drew.cell? ⟨gc, kc * 3 + 1, none⟩ = some (.string ⟨((r.page p).getD []).toArray⟩) := hc1
          have e2 : W5.drew.cell? ⟨gc, kc * 3 + 2, none⟩ = some (.bool (!(r.page p).isSome)) := hc2
          have q1 : W5.drew.cell? ⟨wr.heap.size, 1, none⟩ = some (.bool (r.page p).isSome) := f1
          have q4 : W5.drew.cell? ⟨wr.heap.size, 4, none⟩ = some (.string ⟨((r.page p).getD []).toArray⟩) := f4
          have HB6 := Lib.hid (HB5.out.drew)
          clear hc0 hc1 hc2 f1 f3 f4
          refine wp_region_mixL (fun W => W = W5.drew) [2, 8, 11, 13] [] [0, 1, 2, 3, 4, 5, 6, 7, 8, 9, 10, 11, 12, 13, 14, 15, 16, 17] (by kernel_rfl) (by kernel_rfl) rfl ?_
          simp only [inOrder, opAt]
          generalize W5.drew = Wz at *
          iterate 18
            (refine wpMixS_read (v := ?_) rfl rfl (fun w' hS => ?_) ?_
             rotate_left
             · ((try (have hE : w' = Wz := hS rfl; rw [hE])); (try clear hS); go_simp; (try with_reducible rfl))
             try simp only [Act.put, List.setIfInBounds_toArray, List.set_cons_zero, List.set_cons_succ])
          refine wpMixS_nil ?_
          go_wp2_with fail
          go_roundg (64 - (p + 1))
          case measure => omega
          case rel => exact ⟨p + 1, rfl, by omega, by go_num, by rw [HLA.out], by rw [HLC.out]; go_num, HB6.out⟩
        | false =>
          rw [hch] at f3
          have HLC := Lib.hid (chL_no r p hch)
          clear hch
          go_wp2_with fail
          go_roundg (64 - (p + 1))
          case measure => omega
          case rel => exact ⟨p + 1, rfl, by omega, by go_num, by rw [HLA.out], by rw [HLC.out], HB5.out⟩
    · obtain rfl : p = 64 := by omega
      have HBF := Lib.hid ((HWS.out.trans (HB3.out.mono HWS.out.size)).trans (hb.mono (Nat.le_trans HWS.out.size HB3.out.size)))
      clear hp hlt hb
      rw [← HNA.out, ← HNC.out]
      go_wp2_with fail
      go_ret
      exact ⟨by simp, HBF.out⟩
end
end Go.Proofs.Ytbppafbdmdbdiaa
