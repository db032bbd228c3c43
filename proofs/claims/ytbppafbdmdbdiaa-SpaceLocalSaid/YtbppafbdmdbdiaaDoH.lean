/-
  The law's operation: SetWord.
-/
import Derived.Test.YtbppafbdmdbdiaaMDa
namespace Go.Proofs.Ytbppafbdmdbdiaa
open Go.RowKit
set_option linter.unusedVariables false
section
variable {C : Source} {B : Nat} {w : World} {sps : Nat → Option Sp} {hm : Pages} {g b : Nat} {s : Sp} {m : Value} {r : AS}
theorem le4_bs (n : Nat) (hn : n < 4294967296) : (#[.int .u8 (IntKind.u8.wrap (n : Int)), .int .u8 (IntKind.u8.wrap ((n : Int) / 256)), .int .u8 (IntKind.u8.wrap ((n : Int) / 65536)), .int .u8 (IntKind.u8.wrap ((n : Int) / 16777216))] : Array Value) = (bs (le4 n)).toArray := by
  rw [IntKind.wrap_u8, IntKind.wrap_u8, IntKind.wrap_u8, IntKind.wrap_u8]
  unfold le4 bs
  simp only [List.map_cons, List.map_nil, UInt8.toNat_ofNat']
  rw [show (n : Int) % 256 = ((n % 2 ^ 8 : Nat) : Int) by omega, show (n : Int) / 256 % 256 = ((n / 256 % 2 ^ 8 : Nat) : Int) by omega, show (n : Int) / 65536 % 256 = ((n / 65536 % 2 ^ 8 : Nat) : Int) by omega, show (n : Int) / 16777216 % 256 = ((n / 16777216 % 2 ^ 8 : Nat) : Int) by omega]
set_option maxRecDepth 100000 in
set_option maxHeartbeats 8000000 in
theorem do3 (ok : SourceOk C B) (hp : PairOk C) (P : DoP C B sps hm g b m r s w) (kd wh x n : Int) (t : ByteArray) (hk1 : 0 ≤ kd) (hk2 : kd < 256) (hkd : kd % 11 = 3) (hx1 : -9223372036854775808 ≤ x) (hx2 : x ≤ 9223372036854775807) (hn1 : -9223372036854775808 ≤ n) (hn2 : n ≤ 9223372036854775807) (ht : t.size ≤ maxLen)
    (hag : (storeA (view C hm s) x (le4 (n % 4294967296).toNat)).2 = (storeA r x (le4 (n % 4294967296).toNat)).2) :
    Calls Try.prog 27 #[.pointer (some ⟨b, 0, none⟩), .agg #[.int .u8 kd, .int .u8 wh, .int .i64 x, .int .i64 n, .string t]] w fun e w' => e = .returned (.tuple #[.pointer none, .bool true]) ∧ DoR C B sps hm g b m r.src (storeA (view C hm s) x (le4 (n % 4294967296).toNat)).1 (rsOf m (storeA r x (le4 (n % 4294967296).toNat)).1) w w' := by
  unfold maxLen at ht
  obtain ⟨nn, hnn⟩ : ∃ nn : Nat, nn = (n % 4294967296).toNat := ⟨_, rfl⟩
  rw [← hnn] at hag ⊢
  have en : n % 4294967296 = (nn : Int) := by omega
  have en2 : nn < 4294967296 := by omega
  have HREF := Lib.hid (fun W (hs : SrcIs W m r.src) => refStore_any W m r x ⟨(le4 nn).toArray⟩ (by show (le4 nn).toArray.size ≤ _; simp [le4]) hx1 hx2 hs P.rok)
  have hto : (⟨(le4 nn).toArray⟩ : ByteArray).data.toList = le4 nn := rfl
  rw [hto] at HREF
  have HAG := Lib.hid hag
  have HBS := Lib.hid (le4_bs nn en2)
  have HEN2 := Lib.hid en2
  clear hag hto hnn en2
  have HI := Lib.hid (P.init ok #[.int .u8 kd, .int .u8 wh, .int .i64 x, .int .i64 n, .string t])
  have HC := Lib.hid P
  clear P
  obtain ⟨u, hu⟩ : ∃ u : Nat, u = min t.size 200 := ⟨_, rfl⟩
  have eu : (if (200 : Int) < (t.size : Int) then (200 : Int) else (t.size : Int)) = (u : Int) := by split <;> omega
  have eu2 : (u : Int) ≤ (t.size : Int) := by omega
  have eu3 : u ≤ t.size := by omega
  have HU := Lib.hid hu
  clear hu
  go_enter Try.func27, Try.ntmps27
  go_upto_region 26 with (fail)
  generalize w.alloc (.cells #[.int .u8 kd, .int .u8 wh, .int .i64 x, .int .i64 n, .string t] 45) = W0 at *
  have HI5 := Lib.hid (HI.out.drew ok)
  have HRD : Hid (∀ W, Below W0.drew.heap.size W0.drew W → W.cell? ⟨b, 0, none⟩ = some (.pointer (some ⟨g, 0, none⟩)) ∧ W.cell? ⟨w.heap.size, 2, none⟩ = some (.int .i64 x) ∧ W.cell? ⟨w.heap.size, 3, none⟩ = some (.int .i64 n)) := Lib.hid fun W hb =>
    ⟨PB.ptr (Blk.below HI5.out.pair hb HI5.out.pair.lt), (HI5.out.op.below hb HI5.out.op.lt).cell 2, (HI5.out.op.below hb HI5.out.op.lt).cell 3⟩
  refine wp_region_mixL (fun W => Below W0.drew.heap.size W0.drew W) [4, 6, 8, 11, 14, 17, 18, 19, 20] [18, 20, 26] (List.range 28) (by kernel_rfl) (by kernel_rfl) (Below.refl _ _) ?_
  have hlr : List.range 28 = [0, 1, 2, 3, 4, 5, 6, 7, 8, 9, 10, 11, 12, 13, 14, 15, 16, 17, 18, 19, 20, 21, 22, 23, 24, 25, 26, 27] := by decide
  rw [hlr]
  clear hlr
  simp only [inOrder, opAt]
  generalize W0.drew = W5 at *
  iterate 4
    (refine wpMixS_read (v := ?_) rfl rfl (fun w' hS => ?_) ?_
     rotate_left
     · ((try (obtain ⟨s0, s2, s3⟩ := HRD.out w' (hS rfl))); (try clear hS); go_simp; (try with_reducible rfl))
     try simp only [Act.put, List.setIfInBounds_toArray, List.set_cons_zero, List.set_cons_succ])
  refine mix_load_P rfl rfl (.tmp 179) rfl rfl (fun w' hS => HI5.out.pair.below (hS rfl) HI5.out.pair.lt) ?_
  try simp only [Act.put, List.setIfInBounds_toArray, List.set_cons_zero, List.set_cons_succ]
  iterate 13
    (refine wpMixS_read (v := ?_) rfl rfl (fun w' hS => ?_) ?_
     rotate_left
     · ((try (obtain ⟨s0, s2, s3⟩ := HRD.out w' (hS rfl))); (try clear hS); go_simp; (try with_reducible rfl))
     try simp only [Act.put, List.setIfInBounds_toArray, List.set_cons_zero, List.set_cons_succ])
  refine wpMixS_eff rfl rfl (fun K hK => ?_)
  go_simp
  rw [HBS.out]
  have hb6 : Below W5.heap.size W5 (W5.alloc (.cells (bs (le4 nn)).toArray 5)) := (Below.refl _ _).alloc (Nat.le_refl _) _
  have HB6 := Lib.hid hb6
  clear hb6
  have HZ := Lib.hid (Blk.new W5 5 (bs (le4 nn)).toArray)
  have HI6 := Lib.hid (HI5.out.below ok HB6.out)
  have HCV : Hid (∀ W, Below (W5.alloc (.cells (bs (le4 nn)).toArray 5)).heap.size (W5.alloc (.cells (bs (le4 nn)).toArray 5)) W → (convert 27 9 (.slice (some ⟨W5.heap.size, 0, none⟩) 4 4)).run Try.prog W = .ok (.string ⟨(le4 nn).toArray⟩) W) := Lib.hid fun W hb => by
    have hZ := HZ.out.below hb HZ.out.lt
    refine run_convert_string (B := W5.heap.size + 1) Try.underlying27 Try.underlying5 Try.underlying9 ⟨_, 4, rfl, by simp [le4], by simp [maxLen], by simp [bs, le4], fun _ => ⟨_, rfl, by simp, fun j u hu => ?_⟩⟩
    rw [add_at0, hZ.cell]
    simpa using hu
  refine hK.out (fun W => Below (W5.alloc (.cells (bs (le4 nn)).toArray 5)).heap.size (W5.alloc (.cells (bs (le4 nn)).toArray 5)) W) _ _ (fun W h => HB6.out.trans (h.mono HB6.out.size)) (fun _ => Below.refl _ _) ?_
  clear hK K
  generalize W5.alloc (.cells (bs (le4 nn)).toArray 5) = w6 at *
  try simp only [Act.put, List.setIfInBounds_toArray, List.set_cons_zero, List.set_cons_succ]
  iterate 1
    (refine wpMixS_read (v := ?_) rfl rfl (fun w' hS => ?_) ?_
     rotate_left
     · ((try (have hcv := HCV.out w' (hS rfl))); (try clear hS); go_simp; (try with_reducible rfl))
     try simp only [Act.put, List.setIfInBounds_toArray, List.set_cons_zero, List.set_cons_succ])
  refine wpMixS_eff rfl rfl (fun K hK => ?_)
  go_simp
  refine (HREF.out w6 HI6.out.src).mono ?_
  rintro e w2 ⟨rfl, nb⟩
  have HI2 := Lib.hid (HI6.out.below ok nb)
  have HNB := Lib.hid nb
  clear nb
  dsimp only
  refine hK.out _ _ _ (fun _ h => h) (fun _ => HNB.out) ?_
  clear hK K
  try simp only [Act.put, List.setIfInBounds_toArray, List.set_cons_zero, List.set_cons_succ]
  iterate 5
    (refine wpMixS_read (v := ?_) rfl rfl (fun w' hS => ?_) ?_
     rotate_left
     · ((try clear hS); go_simp; (try with_reducible rfl))
     try simp only [Act.put, List.setIfInBounds_toArray, List.set_cons_zero, List.set_cons_succ])
  refine wpMixS_eff rfl rfl (fun K hK => ?_)
  refine wp_store_P HI2.out.pair (rsOf_map _ HC.out.src.map) (.tmp 200) (.tmp 197) rfl rfl rfl ?_
  intro w3 hw3 hf3
  have HI3 := Lib.hid (HI2.out.put hp hw3 hf3)
  clear hw3 hf3
  refine hK.out _ _ _ (fun _ h => h) (fun h => by cases h) ?_
  clear hK K
  try simp only [Act.put]
  iterate 1
    (refine wpMixS_read (v := ?_) rfl rfl (fun w' hS => ?_) ?_
     rotate_left
     · ((try clear hS); go_simp; (try with_reducible rfl))
     try simp only [Act.put, List.setIfInBounds_toArray, List.set_cons_zero, List.set_cons_succ])
  refine wpMixS_nil ?_
  go_wp2_with fail
  have HI4 := Lib.hid (HI3.out.drew ok)
  have c0 : w3.drew.cell? ⟨b, 0, none⟩ = some (.pointer (some ⟨g, 0, none⟩)) := HI4.out.pair.ptr
  have c2 : w3.drew.cell? ⟨w.heap.size, 2, none⟩ = some (.int .i64 x) := HI4.out.op.cell 2
  have c3 : w3.drew.cell? ⟨w.heap.size, 3, none⟩ = some (.int .i64 n) := HI4.out.op.cell 3
  refine wp_region_mixL (fun W => W = w3.drew) [3, 5] [7] [0, 1, 2, 3, 4, 5, 6, 8, 7, 9, 10, 11] (by kernel_rfl) (by kernel_rfl) rfl ?_
  simp only [inOrder, opAt]
  generalize w3.drew = Wk at *
  iterate 8
    (refine wpMixS_read (v := ?_) rfl rfl (fun w' hS => ?_) ?_
     rotate_left
     · ((try (have hE : w' = Wk := hS rfl; rw [hE])); (try clear hS); go_simp; (try with_reducible rfl))
     try simp only [Act.put, List.setIfInBounds_toArray, List.set_cons_zero, List.set_cons_succ])
  refine wpMixS_eff rfl rfl (fun K hK => ?_)
  go_simp
  refine (HI4.out.call (a' := (storeA (view C hm s) x (le4 nn)).1) (Ke := fun e => e = .returned (.int .i64 (storeA (view C hm s) x (le4 nn)).2)) (fun s1 hm1 h1 hv => (by rw [← hv]; exact setWord_all ok h1 (upd_at _ _ _) x nn HEN2.out hx1 hx2 HI4.out.leWW))).mono ?_
  rintro e w5 ⟨rfl, hi5⟩
  have HIF := Lib.hid hi5
  clear hi5
  dsimp only
  refine hK.out _ _ _ (fun _ h => h) (fun h => by cases h) ?_
  clear hK K
  try simp only [Act.put, List.setIfInBounds_toArray, List.set_cons_zero, List.set_cons_succ]
  iterate 3
    (refine wpMixS_read (v := ?_) rfl rfl (fun w' hS => ?_) ?_
     rotate_left
     · ((try (have hE : w' = Wk := hS rfl; rw [hE])); (try clear hS); go_simp; (try with_reducible rfl))
     try simp only [Act.put, List.setIfInBounds_toArray, List.set_cons_zero, List.set_cons_succ])
  refine wpMixS_nil ?_
  go_wp2_with fail
  go_ret2
  exact ⟨by rw [HAG.out]; simp, HIF.out.ret⟩
end
end Go.Proofs.Ytbppafbdmdbdiaa
