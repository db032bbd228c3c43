/-
  The law's operation: Has.
-/
import Derived.Test.YtbppafbdmdbdiaaMDa
namespace Go.Proofs.Ytbppafbdmdbdiaa
open Go.RowKit
set_option linter.unusedVariables false
section
variable {C : Source} {B : Nat} {w : World} {sps : Nat → Option Sp} {hm : Pages} {g b : Nat} {s : Sp} {m : Value} {r : AS}
set_option maxRecDepth 100000 in
set_option maxHeartbeats 8000000 in
theorem do7 (ok : SourceOk C B) (hp : PairOk C) (P : DoP C B sps hm g b m r s w) (kd wh x n : Int) (t : ByteArray) (hk1 : 0 ≤ kd) (hk2 : kd < 256) (hkd : kd % 11 = 7) (hx1 : -9223372036854775808 ≤ x) (hx2 : x ≤ 9223372036854775807) (hn1 : -9223372036854775808 ≤ n) (hn2 : n ≤ 9223372036854775807) (ht : t.size ≤ maxLen)
    (hag : (hasA (view C hm s) x).2 = (hasA r x).2) :
    Calls Try.prog 27 #[.pointer (some ⟨b, 0, none⟩), .agg #[.int .u8 kd, .int .u8 wh, .int .i64 x, .int .i64 n, .string t]] w fun e w' => e = .returned (.tuple #[.pointer none, .bool true]) ∧ DoR C B sps hm g b m r.src (hasA (view C hm s) x).1 (rsOf m (hasA r x).1) w w' := by
  unfold maxLen at ht
  have HREF := Lib.hid (fun W (hs : SrcIs W m r.src) => refHas_any W m r x hs P.rok)
  have HAG := Lib.hid hag
  clear hag
  have hz := z61
  have HI := Lib.hid (P.init ok #[.int .u8 kd, .int .u8 wh, .int .i64 x, .int .i64 n, .string t])
  have HC := Lib.hid P
  clear P
  obtain ⟨u, hu⟩ : ∃ u : Nat, u = min t.size 200 := ⟨_, rfl⟩
  have eu : (if (200 : Int) < (t.size : Int) then (200 : Int) else (t.size : Int)) = (u : Int) := by split <;> omega
  have eu2 : (u : Int) ≤ (t.size : Int) := by omega
  have eu3 : u ≤ t.size := by omega
  have HU := Lib.hid hu
  clear hu
  go_enter Try.func27, Try.ntmps27
  go_upto_region 42 with (fail)
  generalize w.alloc (.cells #[.int .u8 kd, .int .u8 wh, .int .i64 x, .int .i64 n, .string t] 45) = W0 at *
  have HI5 := Lib.hid (HI.out.drew ok)
  have HRD : Hid (∀ W, Below W0.drew.heap.size W0.drew W → W.cell? ⟨b, 0, none⟩ = some (.pointer (some ⟨g, 0, none⟩)) ∧ W.cell? ⟨w.heap.size, 2, none⟩ = some (.int .i64 x) ∧ W.cell? ⟨w.heap.size, 3, none⟩ = some (.int .i64 n)) := Lib.hid fun W hb =>
    ⟨PB.ptr (Blk.below HI5.out.pair hb HI5.out.pair.lt), (HI5.out.op.below hb HI5.out.op.lt).cell 2, (HI5.out.op.below hb HI5.out.op.lt).cell 3⟩
  refine wp_region_mixE (fun W => Below W0.drew.heap.size W0.drew W) [0, 1, 2, 3, 4, 5, 6, 7, 8, 9, 10, 11] [6, 10, 11] [0, 1, 2, 3, 4, 5] 6 10 [7, 8, 9, 10, 11, 12] [6, 7, 8, 9, 11, 12] (by kernel_rfl) (by kernel_rfl) (Below.refl _ _) ?_
  simp only [inOrder, opAt]
  generalize W0.drew = W5 at *
  iterate 3
    (refine wpMixE_read (v := ?_) rfl rfl (fun w' hS => ?_) ?_
     rotate_left
     · ((try (obtain ⟨s0, s2, s3⟩ := HRD.out w' (hS rfl))); (try clear hS); go_simp; (try with_reducible rfl))
     try simp only [Act.put, List.setIfInBounds_toArray, List.set_cons_zero, List.set_cons_succ])
  refine mixE_load_P rfl rfl (.tmp 309) rfl rfl (fun w' hS => HI5.out.pair.below (hS rfl) HI5.out.pair.lt) ?_
  try simp only [Act.put, List.setIfInBounds_toArray, List.set_cons_zero, List.set_cons_succ]
  iterate 2
    (refine wpMixE_read (v := ?_) rfl rfl (fun w' hS => ?_) ?_
     rotate_left
     · ((try (obtain ⟨s0, s2, s3⟩ := HRD.out w' (hS rfl))); (try clear hS); go_simp; (try with_reducible rfl))
     try simp only [Act.put, List.setIfInBounds_toArray, List.set_cons_zero, List.set_cons_succ])
  refine wpMixE_nil ⟨?_, ?_⟩
  · refine wpMixS_eff rfl rfl (fun K hK => ?_)
    go_simp
    refine (HREF.out W5 HI5.out.src).mono ?_
    rintro e w6 ⟨rfl, nb⟩
    have HI6 := Lib.hid (HI5.out.below ok nb)
    have HB6 := Lib.hid nb
    clear nb
    dsimp only
    refine hK.out _ _ _ (fun _ h => h) (fun _ => HB6.out) ?_
    clear hK K
    try simp only [Act.put, List.setIfInBounds_toArray, List.set_cons_zero, List.set_cons_succ]
    iterate 3
      (refine wpMixS_read (v := ?_) rfl rfl (fun w' hS => ?_) ?_
       rotate_left
       · ((try clear hS); go_simp; (try with_reducible rfl))
       try simp only [Act.put, List.setIfInBounds_toArray, List.set_cons_zero, List.set_cons_succ])
    refine wpMixS_eff rfl rfl (fun K hK => ?_)
    go_simp
    refine hK.out _ _ _ (fun _ h => h) (fun _ => HB6.out.alloc HB6.out.size _) ?_
    clear hK K
    try simp only [Act.put, List.setIfInBounds_toArray, List.set_cons_zero, List.set_cons_succ]
    have HZ := Lib.hid (Blk.new w6 61 (rsCells rs0))
    obtain ⟨z, hz6⟩ : ∃ z, z = w6.heap.size := ⟨_, rfl⟩
    rw [← hz6] at HZ ⊢
    have HB7 := Lib.hid (HB6.out.alloc HB6.out.size (.cells (rsCells rs0) 61))
    have hzl : W5.heap.size ≤ z := by rw [hz6]; exact HB6.out.size
    clear hz6
    have HZE : Hid True := Lib.hid trivial
    generalize w6.alloc (.cells (rsCells rs0) 61) = w7 at *
    refine wpMixS_eff rfl rfl (fun K hK => ?_)
    refine wp_store_S HZ.out (rsOf_map _ HC.out.src.map) (.tmp 26) (.tmp 314) rfl rfl rfl ?_
    intro w8 hw8 hf8
    have hb8 : Below W5.heap.size W5 w8 := HB7.out.trans (hf8.below HB7.out.size (by simpa using hzl))
    have HI8 := Lib.hid (HI5.out.below ok hb8)
    have HZ8 := Lib.hid hw8
    refine hK.out _ _ _ (fun _ h => h) (fun _ => (by first | exact hb8 | (show Below z _ _; rw [HZE.out]; exact hb8))) ?_
    clear hK K HZ HB7 hw8 hf8 hb8
    try simp only [Act.put]
    iterate 1
      (refine wpMixS_read (v := ?_) rfl rfl (fun w' hS => ?_) ?_
       rotate_left
       · ((try clear hS); go_simp; (try with_reducible rfl))
       try simp only [Act.put, List.setIfInBounds_toArray, List.set_cons_zero, List.set_cons_succ])
    refine wpMixS_nil ?_
    go_wp2_with (first
      | (with_reducible refine load_S HZ8.out rfl (.tmp 26) rfl rfl ?_)
      | (refine store_P HI8.out.pair (rsOf_map _ HC.out.src.map) rfl (.tmp 319) (.tmp 317) rfl rfl rfl ?_; intro w9 hw9 hf9))
    have HI9 := Lib.hid (HI8.out.put hp hw9 hf9)
    have HI4 := Lib.hid (HI9.out.drew ok)
    clear hw9 hf9
    have c0 : w9.drew.cell? ⟨b, 0, none⟩ = some (.pointer (some ⟨g, 0, none⟩)) := HI4.out.pair.ptr
    have c2 : w9.drew.cell? ⟨w.heap.size, 2, none⟩ = some (.int .i64 x) := HI4.out.op.cell 2
    have c3 : w9.drew.cell? ⟨w.heap.size, 3, none⟩ = some (.int .i64 n) := HI4.out.op.cell 3
    refine wp_region_mixL (fun W => W = w9.drew) [3, 5] [6] [0, 1, 2, 3, 4, 5, 7, 6, 8, 9, 10] (by kernel_rfl) (by kernel_rfl) rfl ?_
    simp only [inOrder, opAt]
    generalize w9.drew = Wk at *
    iterate 7
      (refine wpMixS_read (v := ?_) rfl rfl (fun w' hS => ?_) ?_
       rotate_left
       · ((try (have hE : w' = Wk := hS rfl; rw [hE])); (try clear hS); go_simp; (try with_reducible rfl))
       try simp only [Act.put, List.setIfInBounds_toArray, List.set_cons_zero, List.set_cons_succ])
    refine wpMixS_eff rfl rfl (fun K hK => ?_)
    go_simp
    refine (HI4.out.call (a' := (hasA (view C hm s) x).1) (Ke := fun e => e = .returned (.bool (hasA (view C hm s) x).2)) (fun s1 hm1 h1 hv => (by rw [← hv]; exact has_all ok h1 (upd_at _ _ _) x HI4.out.leWW))).mono ?_
    rintro e w5 ⟨rfl, hi5⟩
    have HIF := Lib.hid hi5
    clear hi5
    dsimp only
    refine hK.out _ _ _ (fun _ h => h) (fun h => by cases h) ?_
    clear hK K
    try simp only [Act.put, List.setIfInBounds_toArray, List.set_cons_zero, List.set_cons_succ]
    iterate 3
      (refine wpMixS_read (v := ?_) rfl rfl (fun w' hS => ?_) ?_
       rotate_left
       · ((try (have hE : w' = Wk := hS rfl; rw [hE])); (try clear hS); go_simp; (try with_reducible rfl))
       try simp only [Act.put, List.setIfInBounds_toArray, List.set_cons_zero, List.set_cons_succ])
    refine wpMixS_nil ?_
    go_wp2_with fail
    go_ret2
    exact ⟨by rw [HAG.out]; simp, HIF.out.ret⟩
  · refine wpMixS_eff rfl rfl (fun K hK => ?_)
    go_simp
    refine hK.out _ _ _ (fun _ h => h) (fun _ => (Below.refl _ _).alloc (Nat.le_refl _) _) ?_
    clear hK K
    try simp only [Act.put, List.setIfInBounds_toArray, List.set_cons_zero, List.set_cons_succ]
    have HZ := Lib.hid (Blk.new W5 61 (rsCells rs0))
    obtain ⟨z, hz6⟩ : ∃ z, z = W5.heap.size := ⟨_, rfl⟩
    rw [← hz6] at HZ ⊢
    have HB6 := Lib.hid ((Below.refl W5.heap.size W5).alloc (Nat.le_refl _) (.cells (rsCells rs0) 61))
    have hzl : W5.heap.size ≤ z := by rw [hz6]; exact Nat.le_refl _
    have HI6 := Lib.hid (HI5.out.below ok HB6.out)
    have HZE := Lib.hid hz6
    clear hz6
    generalize W5.alloc (.cells (rsCells rs0) 61) = w6 at *
    refine wpMixS_eff rfl rfl (fun K hK => ?_)
    go_simp
    refine (HREF.out w6 HI6.out.src).mono ?_
    rintro e w7 ⟨rfl, nb⟩
    have HZ7 := Lib.hid (HZ.out.below nb HZ.out.lt)
    have HB7 := Lib.hid (HB6.out.trans (nb.mono HB6.out.size))
    clear nb HZ
    have HZ := HZ7
    clear HZ7
    dsimp only
    refine hK.out _ _ _ (fun _ h => h) (fun _ => (by first | exact HB7.out | (show Below z _ _; rw [HZE.out]; exact HB7.out))) ?_
    clear hK K
    try simp only [Act.put, List.setIfInBounds_toArray, List.set_cons_zero, List.set_cons_succ]
    iterate 3
      (refine wpMixS_read (v := ?_) rfl rfl (fun w' hS => ?_) ?_
       rotate_left
       · ((try clear hS); go_simp; (try with_reducible rfl))
       try simp only [Act.put, List.setIfInBounds_toArray, List.set_cons_zero, List.set_cons_succ])
    refine wpMixS_eff rfl rfl (fun K hK => ?_)
    refine wp_store_S HZ.out (rsOf_map _ HC.out.src.map) (.tmp 26) (.tmp 314) rfl rfl rfl ?_
    intro w8 hw8 hf8
    have hb8 : Below W5.heap.size W5 w8 := HB7.out.trans (hf8.below HB7.out.size (by simpa using hzl))
    have HI8 := Lib.hid (HI5.out.below ok hb8)
    have HZ8 := Lib.hid hw8
    refine hK.out _ _ _ (fun _ h => h) (fun _ => (by first | exact hb8 | (show Below z _ _; rw [HZE.out]; exact hb8))) ?_
    clear hK K HZ HB7 hw8 hf8 hb8
    try simp only [Act.put]
    iterate 1
      (refine wpMixS_read (v := ?_) rfl rfl (fun w' hS => ?_) ?_
       rotate_left
       · ((try clear hS); go_simp; (try with_reducible rfl))
       try simp only [Act.put, List.setIfInBounds_toArray, List.set_cons_zero, List.set_cons_succ])
    refine wpMixS_nil ?_
    go_wp2_with (first
      | (with_reducible refine load_S HZ8.out rfl (.tmp 26) rfl rfl ?_)
      | (refine store_P HI8.out.pair (rsOf_map _ HC.out.src.map) rfl (.tmp 319) (.tmp 317) rfl rfl rfl ?_; intro w9 hw9 hf9))
    have HI9 := Lib.hid (HI8.out.put hp hw9 hf9)
    have HI4 := Lib.hid (HI9.out.drew ok)
    clear hw9 hf9
    have c0 : w9.drew.cell? ⟨b, 0, none⟩ = some (.pointer (some ⟨g, 0, none⟩)) := HI4.out.pair.ptr
    have c2 : w9.drew.cell? ⟨w.heap.size, 2, none⟩ = some (.int .i64 x) := HI4.out.op.cell 2
    have c3 : w9.drew.cell? ⟨w.heap.size, 3, none⟩ = some (.int .i64 n) := HI4.out.op.cell 3
    refine wp_region_mixL (fun W => W = w9.drew) [3, 5] [6] [0, 1, 2, 3, 4, 5, 7, 6, 8, 9, 10] (by kernel_rfl) (by kernel_rfl) rfl ?_
    simp only [inOrder, opAt]
    generalize w9.drew = Wk at *
    iterate 7
      (refine wpMixS_read (v := ?_) rfl rfl (fun w' hS => ?_) ?_
       rotate_left
       · ((try (have hE : w' = Wk := hS rfl; rw [hE])); (try clear hS); go_simp; (try with_reducible rfl))
       try simp only [Act.put, List.setIfInBounds_toArray, List.set_cons_zero, List.set_cons_succ])
    refine wpMixS_eff rfl rfl (fun K hK => ?_)
    go_simp
    refine (HI4.out.call (a' := (hasA (view C hm s) x).1) (Ke := fun e => e = .returned (.bool (hasA (view C hm s) x).2)) (fun s1 hm1 h1 hv => (by rw [← hv]; exact has_all ok h1 (upd_at _ _ _) x HI4.out.leWW))).mono ?_
    rintro e w5 ⟨rfl, hi5⟩
    have HIF := Lib.hid hi5
    clear hi5
    dsimp only
    refine hK.out _ _ _ (fun _ h => h) (fun h => by cases h) ?_
    clear hK K
    try simp only [Act.put, List.setIfInBounds_toArray, List.set_cons_zero, List.set_cons_succ]
    iterate 3
      (refine wpMixS_read (v := ?_) rfl rfl (fun w' hS => ?_) ?_
       rotate_left
       · ((try (have hE : w' = Wk := hS rfl; rw [hE])); (try clear hS); go_simp; (try with_reducible rfl))
       try simp only [Act.put, List.setIfInBounds_toArray, List.set_cons_zero, List.set_cons_succ])
    refine wpMixS_nil ?_
    go_wp2_with fail
    go_ret2
    exact ⟨by rw [HAG.out]; simp, HIF.out.ret⟩
end
end Go.Proofs.Ytbppafbdmdbdiaa
