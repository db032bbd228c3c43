/-
  The law's operation: Load.
-/
import Derived.Test.YtbppafbdmdbdiaaMDa
namespace Go.Proofs.Ytbppafbdmdbdiaa
open Go.RowKit
set_option linter.unusedVariables false
section
variable {C : Source} {B : Nat} {w : World} {sps : Nat → Option Sp} {hm : Pages} {g b : Nat} {s : Sp} {m : Value} {r : AS}
def cutN (n : Int) : Int := if 300 < n then 300 + n % 7 else n
theorem cutN_le (n : Int) : cutN n ≤ 306 := by unfold cutN; split <;> omega
theorem cutN_ge (n : Int) (h : -9223372036854775808 ≤ n) : -9223372036854775808 ≤ cutN n := by unfold cutN; split <;> omega
theorem cutN_hi (n : Int) (h : n ≤ 9223372036854775807) : cutN n ≤ 9223372036854775807 := by unfold cutN; split <;> omega
set_option maxRecDepth 100000 in
set_option maxHeartbeats 8000000 in
theorem do0 (ok : SourceOk C B) (hp : PairOk C) (P : DoP C B sps hm g b m r s w) (kd wh x n : Int) (t : ByteArray) (hk1 : 0 ≤ kd) (hk2 : kd < 256) (hkd : kd % 11 = 0) (hx1 : -9223372036854775808 ≤ x) (hx2 : x ≤ 9223372036854775807) (hn1 : -9223372036854775808 ≤ n) (hn2 : n ≤ 9223372036854775807) (ht : t.size ≤ maxLen)
    (hag : (loadA (view C hm s) x (cutN n)).2 = (loadA r x (cutN n)).2) :
    Calls Try.prog 27 #[.pointer (some ⟨b, 0, none⟩), .agg #[.int .u8 kd, .int .u8 wh, .int .i64 x, .int .i64 n, .string t]] w fun e w' => e = .returned (.tuple #[.pointer none, .bool true]) ∧ DoR C B sps hm g b m r.src (loadA (view C hm s) x (cutN n)).1 (rsOf m (loadA r x (cutN n)).1) w w' := by
  unfold maxLen at ht
  have hcb := cutN_le n
  have hca := cutN_ge n hn1
  have hci := cutN_hi n hn2
  obtain ⟨n', hn'⟩ : ∃ n', n' = cutN n := ⟨_, rfl⟩
  rw [← hn'] at hag hcb hca hci ⊢
  have HNN := Lib.hid hn'
  clear hn'
  have HREF := Lib.hid (fun W (hs : SrcIs W m r.src) => refLoad_any W m r x n' (by omega) hx1 hx2 hs P.rok)
  obtain ⟨a', ha'⟩ : ∃ a', a' = (loadA (view C hm s) x n').1 := ⟨_, rfl⟩
  obtain ⟨L, hL⟩ : ∃ L, L = (loadA (view C hm s) x n').2 := ⟨_, rfl⟩
  rw [← hag, ← hL] at HREF
  rw [← ha']
  have HA := Lib.hid ha'
  have HL := Lib.hid hL
  clear ha' hL hag
  obtain ⟨l, e⟩ := L
  have HCB := Lib.hid hcb
  clear hcb
  have hz := z61
  have HI := Lib.hid (P.init ok #[.int .u8 kd, .int .u8 wh, .int .i64 x, .int .i64 n', .string t])
  have HC := Lib.hid P
  clear P
  obtain ⟨u, hu⟩ : ∃ u : Nat, u = min t.size 200 := ⟨_, rfl⟩
  have eu : (if (200 : Int) < (t.size : Int) then (200 : Int) else (t.size : Int)) = (u : Int) := by split <;> omega
  have eu2 : (u : Int) ≤ (t.size : Int) := by omega
  have eu3 : u ≤ t.size := by omega
  clear hu
  by_cases hc : 300 < n
  all_goals
    have HCC := Lib.hid hc
    first
      | (have dc : decide (300 < n) = true := decide_eq_true hc
         have en : wrap64 (300 + n.tmod 7) = n' := by rw [HNN.out]; unfold cutN; rw [if_pos hc]; rw [Int.tmod_eq_emod_of_nonneg (by omega), IntWalk.wrap64_in _ (by omega)])
      | (have dc : decide (300 < n) = false := decide_eq_false hc
         have en : n = n' := by rw [HNN.out]; unfold cutN; rw [if_neg hc])
    have EN := Lib.hid en
    clear hc en
    go_enter Try.func27, Try.ntmps27
    go_upto_region 7 with (fail)
    have e45 := congrArg (fun v => w.alloc (.cells #[.int .u8 kd, .int .u8 wh, .int .i64 x, .int .i64 v, .string t] 45)) EN.out
    rw [e45]
    clear e45
    generalize w.alloc (.cells #[.int .u8 kd, .int .u8 wh, .int .i64 x, .int .i64 n', .string t] 45) = W0 at *
    have HI1 := Lib.hid (HI.out.drew ok)
    have c0 : W0.drew.cell? ⟨b, 0, none⟩ = some (.pointer (some ⟨g, 0, none⟩)) := HI1.out.pair.ptr
    have c2 : W0.drew.cell? ⟨w.heap.size, 2, none⟩ = some (.int .i64 x) := HI1.out.op.cell 2
    have c3 : W0.drew.cell? ⟨w.heap.size, 3, none⟩ = some (.int .i64 n') := HI1.out.op.cell 3
    refine wp_region_mixL (fun W => W = W0.drew) [3, 5, 7] [8] [0, 1, 2, 3, 4, 5, 6, 7, 8, 9, 10, 11, 12, 13] (by kernel_rfl) (by kernel_rfl) rfl ?_
    simp only [inOrder, opAt]
    generalize W0.drew = Wk at *
    iterate 8
      (refine wpMixS_read (v := ?_) rfl rfl (fun w' hS => ?_) ?_
       rotate_left
       · ((try (have hE : w' = Wk := hS rfl; rw [hE])); (try clear hS); go_simp; (try with_reducible rfl))
       try simp only [Act.put, List.setIfInBounds_toArray, List.set_cons_zero, List.set_cons_succ])
    refine wpMixS_eff rfl rfl (fun K hK => ?_)
    go_simp
    refine (HI1.out.call (a' := a') (Ke := fun e' => e' = .returned (.tuple #[.string ⟨l.toArray⟩, .int .i64 e])) (fun s1 hm1 h1 hv => (by
      have hq := load_all ok h1 (upd_at _ _ _) x n' (by have := HCB.out; omega) hx1 hx2 HI1.out.leWW
      rw [hv, ← HL.out, ← HA.out] at hq
      exact hq))).mono ?_
    rintro e5 w5 ⟨rfl, hi5⟩
    have HI4 := Lib.hid hi5
    clear hi5
    dsimp only
    refine hK.out _ _ _ (fun _ h => h) (fun h => by cases h) ?_
    clear hK K
    try simp only [Act.put, List.setIfInBounds_toArray, List.set_cons_zero, List.set_cons_succ]
    iterate 5
      (refine wpMixS_read (v := ?_) rfl rfl (fun w' hS => ?_) ?_
       rotate_left
       · ((try (have hE : w' = Wk := hS rfl; rw [hE])); (try clear hS); go_simp; (try with_reducible rfl))
       try simp only [Act.put, List.setIfInBounds_toArray, List.set_cons_zero, List.set_cons_succ])
    refine wpMixS_nil ?_
    clear c0 c2 c3 HI1
    go_wp2_with fail
    have HI5 := Lib.hid (HI4.out.drew ok)
    have HRD : Hid (∀ W, Below w5.drew.heap.size w5.drew W → W.cell? ⟨b, 0, none⟩ = some (.pointer (some ⟨g, 0, none⟩)) ∧ W.cell? ⟨w.heap.size, 2, none⟩ = some (.int .i64 x) ∧ W.cell? ⟨w.heap.size, 3, none⟩ = some (.int .i64 n')) := Lib.hid fun W hb =>
      ⟨PB.ptr (Blk.below HI5.out.pair hb HI5.out.pair.lt), (HI5.out.op.below hb HI5.out.op.lt).cell 2, (HI5.out.op.below hb HI5.out.op.lt).cell 3⟩
    clear HI4
    refine wp_region_mixE (fun W => Below w5.drew.heap.size w5.drew W) [0, 1, 2, 3, 4, 5, 6, 7, 8, 9, 10, 11, 12, 13, 14, 15] [8, 13, 14] [0, 1, 2, 3, 4, 5, 6, 7] 8 13 [9, 10, 11, 12, 13, 14, 15, 16] [8, 9, 10, 11, 12, 14, 15, 16] (by kernel_rfl) (by kernel_rfl) (Below.refl _ _) ?_
    simp only [inOrder, opAt]
    generalize w5.drew = W5 at *
    iterate 3
      (refine wpMixE_read (v := ?_) rfl rfl (fun w' hS => ?_) ?_
       rotate_left
       · ((try (obtain ⟨s0, s2, s3⟩ := HRD.out w' (hS rfl))); (try clear hS); go_simp; (try with_reducible rfl))
       try simp only [Act.put, List.setIfInBounds_toArray, List.set_cons_zero, List.set_cons_succ])
    refine mixE_load_P rfl rfl (.tmp 73) rfl rfl (fun w' hS => HI5.out.pair.below (hS rfl) HI5.out.pair.lt) ?_
    try simp only [Act.put, List.setIfInBounds_toArray, List.set_cons_zero, List.set_cons_succ]
    iterate 4
      (refine wpMixE_read (v := ?_) rfl rfl (fun w' hS => ?_) ?_
       rotate_left
       · ((try (obtain ⟨s0, s2, s3⟩ := HRD.out w' (hS rfl))); (try clear hS); go_simp; (try with_reducible rfl))
       try simp only [Act.put, List.setIfInBounds_toArray, List.set_cons_zero, List.set_cons_succ])
    refine wpMixE_nil ⟨?_, ?_⟩
    · refine wpMixS_eff rfl rfl (fun K hK => ?_)
      go_simp
      refine (HREF.out W5 HI5.out.src).mono ?_
      rintro e w6 ⟨rfl, nb⟩
      have HI6 := Lib.hid (HI5.out.below ok nb)
      have HB6 := Lib.hid nb
      clear nb
      dsimp only
      refine hK.out _ _ _ (fun _ h => h) (fun _ => HB6.out) ?_
      clear hK K
      try simp only [Act.put, List.setIfInBounds_toArray, List.set_cons_zero, List.set_cons_succ]
      iterate 4
        (refine wpMixS_read (v := ?_) rfl rfl (fun w' hS => ?_) ?_
         rotate_left
         · ((try clear hS); go_simp; (try with_reducible rfl))
         try simp only [Act.put, List.setIfInBounds_toArray, List.set_cons_zero, List.set_cons_succ])
      refine wpMixS_eff rfl rfl (fun K hK => ?_)
      go_simp
      refine hK.out _ _ _ (fun _ h => h) (fun _ => HB6.out.alloc HB6.out.size _) ?_
      clear hK K
      try simp only [Act.put, List.setIfInBounds_toArray, List.set_cons_zero, List.set_cons_succ]
      have HZ := Lib.hid (Blk.new w6 61 (rsCells rs0))
      obtain ⟨z, hz6⟩ : ∃ z, z = w6.heap.size := ⟨_, rfl⟩
      rw [← hz6] at HZ ⊢
      have HB7 := Lib.hid (HB6.out.alloc HB6.out.size (.cells (rsCells rs0) 61))
      have hzl : W5.heap.size ≤ z := by rw [hz6]; exact HB6.out.size
      clear hz6
      have HZE : Hid True := Lib.hid trivial
      generalize w6.alloc (.cells (rsCells rs0) 61) = w7 at *
      refine wpMixS_eff rfl rfl (fun K hK => ?_)
      refine wp_store_S HZ.out (rsOf_map _ HC.out.src.map) (.tmp 10) (.tmp 80) rfl rfl rfl ?_
      intro w8 hw8 hf8
      have hb8 : Below W5.heap.size W5 w8 := HB7.out.trans (hf8.below HB7.out.size (by simpa using hzl))
      have HI8 := Lib.hid (HI5.out.below ok hb8)
      have HZ8 := Lib.hid hw8
      refine hK.out _ _ _ (fun _ h => h) (fun _ => (by first | exact hb8 | (show Below z _ _; rw [HZE.out]; exact hb8))) ?_
      clear hK K HZ HB7 hw8 hf8 hb8
      try simp only [Act.put]
      iterate 2
        (refine wpMixS_read (v := ?_) rfl rfl (fun w' hS => ?_) ?_
         rotate_left
         · ((try clear hS); go_simp; (try with_reducible rfl))
         try simp only [Act.put, List.setIfInBounds_toArray, List.set_cons_zero, List.set_cons_succ])
      refine wpMixS_nil ?_
      go_wp2_with (first
        | (with_reducible refine load_S HZ8.out rfl (.tmp 10) rfl rfl ?_)
        | (refine store_P HI8.out.pair (rsOf_map _ HC.out.src.map) rfl (.tmp 86) (.tmp 84) rfl rfl rfl ?_; intro w9 hw9 hf9))
      go_ret2
      exact ⟨by simp, (HI8.out.put hp hw9 hf9).ret⟩
    · refine wpMixS_eff rfl rfl (fun K hK => ?_)
      go_simp
      refine hK.out _ _ _ (fun _ h => h) (fun _ => (Below.refl _ _).alloc (Nat.le_refl _) _) ?_
      clear hK K
      try simp only [Act.put, List.setIfInBounds_toArray, List.set_cons_zero, List.set_cons_succ]
      have HZ := Lib.hid (Blk.new W5 61 (rsCells rs0))
      obtain ⟨z, hz6⟩ : ∃ z, z = W5.heap.size := ⟨_, rfl⟩
      rw [← hz6] at HZ ⊢
      have HB6 := Lib.hid ((Below.refl W5.heap.size W5).alloc (Nat.le_refl _) (.cells (rsCells rs0) 61))
      have hzl : W5.heap.size ≤ z := by rw [hz6]; exact Nat.le_refl _
      have HI6 := Lib.hid (HI5.out.below ok HB6.out)
      have HZE := Lib.hid hz6
      clear hz6
      generalize W5.alloc (.cells (rsCells rs0) 61) = w6 at *
      refine wpMixS_eff rfl rfl (fun K hK => ?_)
      go_simp
      refine (HREF.out w6 HI6.out.src).mono ?_
      rintro e w7 ⟨rfl, nb⟩
      have HZ7 := Lib.hid (HZ.out.below nb HZ.out.lt)
      have HB7 := Lib.hid (HB6.out.trans (nb.mono HB6.out.size))
      clear nb HZ
      have HZ := HZ7
      clear HZ7
      dsimp only
      refine hK.out _ _ _ (fun _ h => h) (fun _ => (by first | exact HB7.out | (show Below z _ _; rw [HZE.out]; exact HB7.out))) ?_
      clear hK K
      try simp only [Act.put, List.setIfInBounds_toArray, List.set_cons_zero, List.set_cons_succ]
      iterate 4
        (refine wpMixS_read (v := ?_) rfl rfl (fun w' hS => ?_) ?_
         rotate_left
         · ((try clear hS); go_simp; (try with_reducible rfl))
         try simp only [Act.put, List.setIfInBounds_toArray, List.set_cons_zero, List.set_cons_succ])
      refine wpMixS_eff rfl rfl (fun K hK => ?_)
      refine wp_store_S HZ.out (rsOf_map _ HC.out.src.map) (.tmp 10) (.tmp 80) rfl rfl rfl ?_
      intro w8 hw8 hf8
      have hb8 : Below W5.heap.size W5 w8 := HB7.out.trans (hf8.below HB7.out.size (by simpa using hzl))
      have HI8 := Lib.hid (HI5.out.below ok hb8)
      have HZ8 := Lib.hid hw8
      refine hK.out _ _ _ (fun _ h => h) (fun _ => (by first | exact hb8 | (show Below z _ _; rw [HZE.out]; exact hb8))) ?_
      clear hK K HZ HB7 hw8 hf8 hb8
      try simp only [Act.put]
      iterate 2
        (refine wpMixS_read (v := ?_) rfl rfl (fun w' hS => ?_) ?_
         rotate_left
         · ((try clear hS); go_simp; (try with_reducible rfl))
         try simp only [Act.put, List.setIfInBounds_toArray, List.set_cons_zero, List.set_cons_succ])
      refine wpMixS_nil ?_
      go_wp2_with (first
        | (with_reducible refine load_S HZ8.out rfl (.tmp 10) rfl rfl ?_)
        | (refine store_P HI8.out.pair (rsOf_map _ HC.out.src.map) rfl (.tmp 86) (.tmp 84) rfl rfl rfl ?_; intro w9 hw9 hf9))
      go_ret2
      exact ⟨by simp, (HI8.out.put hp hw9 hf9).ret⟩
end
end Go.Proofs.Ytbppafbdmdbdiaa
