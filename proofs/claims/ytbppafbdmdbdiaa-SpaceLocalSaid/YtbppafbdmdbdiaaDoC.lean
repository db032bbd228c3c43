/-
  The law's operation: Unmap.
-/
import Derived.Test.YtbppafbdmdbdiaaMDa
namespace Go.Proofs.Ytbppafbdmdbdiaa
open Go.RowKit
set_option linter.unusedVariables false
section
variable {C : Source} {B : Nat} {w : World} {sps : Nat → Option Sp} {hm : Pages} {g b : Nat} {s : Sp} {m : Value} {r : AS}
set_option maxRecDepth 100000 in
set_option maxHeartbeats 8000000 in
theorem do6 (ok : SourceOk C B) (hp : PairOk C) (P : DoP C B sps hm g b m r s w) (kd wh x n : Int) (t : ByteArray) (hk1 : 0 ≤ kd) (hk2 : kd < 256) (hkd : kd % 11 = 6) (hx1 : -9223372036854775808 ≤ x) (hx2 : x ≤ 9223372036854775807) (hn1 : -9223372036854775808 ≤ n) (hn2 : n ≤ 9223372036854775807) (ht : t.size ≤ maxLen)
    (hag : (unmapA (view C hm s) x).2 = (unmapA r x).2) :
    Calls Try.prog 27 #[.pointer (some ⟨b, 0, none⟩), .agg #[.int .u8 kd, .int .u8 wh, .int .i64 x, .int .i64 n, .string t]] w fun e w' => e = .returned (.tuple #[.pointer none, .bool true]) ∧ DoR C B sps hm g b m r.src (unmapA (view C hm s) x).1 (rsOf m (unmapA r x).1) w w' := by
  unfold maxLen at ht
  have HREF := Lib.hid (fun W (hs : SrcIs W m r.src) => refUnmap_any W m r x hs P.rok)
  have HAG := Lib.hid hag
  clear hag
  have HI := Lib.hid (P.init ok #[.int .u8 kd, .int .u8 wh, .int .i64 x, .int .i64 n, .string t])
  have HC := Lib.hid P
  clear P
  obtain ⟨u, hu⟩ : ∃ u : Nat, u = min t.size 200 := ⟨_, rfl⟩
  have eu : (if (200 : Int) < (t.size : Int) then (200 : Int) else (t.size : Int)) = (u : Int) := by split <;> omega
  have eu2 : (u : Int) ≤ (t.size : Int) := by omega
  have eu3 : u ≤ t.size := by omega
  have HU := Lib.hid hu
  clear hu
  go_enter Try.func27, Try.ntmps27
  go_upto_region 39 with (fail)
  generalize w.alloc (.cells #[.int .u8 kd, .int .u8 wh, .int .i64 x, .int .i64 n, .string t] 45) = W0 at *
  have HI1 := Lib.hid (HI.out.drew ok)
  have c0 : W0.drew.cell? ⟨b, 0, none⟩ = some (.pointer (some ⟨g, 0, none⟩)) := HI1.out.pair.ptr
  have c2 : W0.drew.cell? ⟨w.heap.size, 2, none⟩ = some (.int .i64 x) := HI1.out.op.cell 2
  have c3 : W0.drew.cell? ⟨w.heap.size, 3, none⟩ = some (.int .i64 n) := HI1.out.op.cell 3
  have HP := Lib.hid HI1.out.pair
  refine wp_region_mixL (fun W => W = W0.drew) [4, 6] [7, 13] [0, 1, 2, 3, 4, 5, 6, 7, 8, 9, 10, 11, 12, 13, 14] (by kernel_rfl) (by kernel_rfl) rfl ?_
  simp only [inOrder, opAt]
  generalize W0.drew = Wk at *
  iterate 4
    (refine wpMixS_read (v := ?_) rfl rfl (fun w' hS => ?_) ?_
     rotate_left
     · ((try (have hE : w' = Wk := hS rfl; rw [hE])); (try clear hS); go_simp; (try with_reducible rfl))
     try simp only [Act.put, List.setIfInBounds_toArray, List.set_cons_zero, List.set_cons_succ])
  refine mix_load_P rfl rfl (.tmp 286) rfl rfl (fun w' hS => (by have hE : w' = Wk := hS rfl; rw [hE]; exact HP.out)) ?_
  try simp only [Act.put, List.setIfInBounds_toArray, List.set_cons_zero, List.set_cons_succ]
  iterate 2
    (refine wpMixS_read (v := ?_) rfl rfl (fun w' hS => ?_) ?_
     rotate_left
     · ((try (have hE : w' = Wk := hS rfl; rw [hE])); (try clear hS); go_simp; (try with_reducible rfl))
     try simp only [Act.put, List.setIfInBounds_toArray, List.set_cons_zero, List.set_cons_succ])
  refine wpMixS_eff rfl rfl (fun K hK => ?_)
  go_simp
  refine (HREF.out Wk HI1.out.src).mono ?_
  rintro e w2 ⟨rfl, nb⟩
  have HI2 := Lib.hid (HI1.out.below ok nb)
  clear nb
  dsimp only
  refine hK.out _ _ _ (fun _ h => h) (fun h => by cases h) ?_
  clear hK K
  try simp only [Act.put, List.setIfInBounds_toArray, List.set_cons_zero, List.set_cons_succ]
  iterate 5
    (refine wpMixS_read (v := ?_) rfl rfl (fun w' hS => ?_) ?_
     rotate_left
     · ((try (have hE : w' = Wk := hS rfl; rw [hE])); (try clear hS); go_simp; (try with_reducible rfl))
     try simp only [Act.put, List.setIfInBounds_toArray, List.set_cons_zero, List.set_cons_succ])
  refine wpMixS_eff rfl rfl (fun K hK => ?_)
  refine wp_store_P HI2.out.pair (rsOf_map _ HC.out.src.map) (.tmp 294) (.tmp 291) rfl rfl rfl ?_
  intro w3 hw3 hf3
  have HI3 := Lib.hid (HI2.out.put hp hw3 hf3)
  clear hw3 hf3
  refine hK.out _ _ _ (fun _ h => h) (fun h => by cases h) ?_
  clear hK K
  try simp only [Act.put]
  iterate 1
    (refine wpMixS_read (v := ?_) rfl rfl (fun w' hS => ?_) ?_
     rotate_left
     · ((try (have hE : w' = Wk := hS rfl; rw [hE])); (try clear hS); go_simp; (try with_reducible rfl))
     try simp only [Act.put, List.setIfInBounds_toArray, List.set_cons_zero, List.set_cons_succ])
  refine wpMixS_nil ?_
  go_wp2_with fail
  clear c0 c2 c3 HP HI1
  have HI4 := Lib.hid (HI3.out.drew ok)
  have c0 : w3.drew.cell? ⟨b, 0, none⟩ = some (.pointer (some ⟨g, 0, none⟩)) := HI4.out.pair.ptr
  have c2 : w3.drew.cell? ⟨w.heap.size, 2, none⟩ = some (.int .i64 x) := HI4.out.op.cell 2
  have c3 : w3.drew.cell? ⟨w.heap.size, 3, none⟩ = some (.int .i64 n) := HI4.out.op.cell 3
  refine wp_region_mixL (fun W => W = w3.drew) [3, 5] [6] [0, 1, 2, 3, 4, 5, 7, 6, 8, 9, 10] (by kernel_rfl) (by kernel_rfl) rfl ?_
  simp only [inOrder, opAt]
  generalize w3.drew = Wk at *
  iterate 7
    (refine wpMixS_read (v := ?_) rfl rfl (fun w' hS => ?_) ?_
     rotate_left
     · ((try (have hE : w' = Wk := hS rfl; rw [hE])); (try clear hS); go_simp; (try with_reducible rfl))
     try simp only [Act.put, List.setIfInBounds_toArray, List.set_cons_zero, List.set_cons_succ])
  refine wpMixS_eff rfl rfl (fun K hK => ?_)
  go_simp
  refine (HI4.out.call (a' := (unmapA (view C hm s) x).1) (Ke := fun e => e = .returned (.int .i64 (unmapA (view C hm s) x).2)) (fun s1 hm1 h1 hv => (by rw [← hv]; exact unmap_all ok h1 (upd_at _ _ _) x HI4.out.leWW))).mono ?_
  rintro e w5 ⟨rfl, hi5⟩
  have HI5 := Lib.hid hi5
  clear hi5
  dsimp only
  refine hK.out _ _ _ (fun _ h => h) (fun h => by cases h) ?_
  clear hK K
  try simp only [Act.put, List.setIfInBounds_toArray, List.set_cons_zero, List.set_cons_succ]
  iterate 3
    (refine wpMixS_read (v := ?_) rfl rfl (fun w' hS => ?_) ?_
     rotate_left
     · ((try (have hE : w' = Wk := hS rfl; rw [hE])); (try clear hS); go_simp; (try with_reducible rfl))
     try simp only [Act.put, List.setIfInBounds_toArray, List.set_cons_zero, List.set_cons_succ])
  refine wpMixS_nil ?_
  go_wp2_with fail
  go_ret2
  exact ⟨by rw [HAG.out]; simp, HI5.out.ret⟩
end
end Go.Proofs.Ytbppafbdmdbdiaa
