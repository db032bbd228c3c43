/-
  The law's operation: Word.
-/
import Derived.Test.YtbppafbdmdbdiaaMDa
namespace Go.Proofs.Ytbppafbdmdbdiaa
open Go.RowKit
set_option linter.unusedVariables false
section
variable {C : Source} {B : Nat} {w : World} {sps : Nat → Option Sp} {hm : Pages} {g b : Nat} {s : Sp} {m : Value} {r : AS}
theorem leV_step (l : List UInt8) (j : Nat) (h : j < l.length) : leV (l.drop j) = l[j].toNat + 256 * leV (l.drop (j + 1)) := by
  rw [List.drop_eq_getElem_cons h]
  rfl
theorem leV_lt : ∀ (l : List UInt8) (k : Nat), l.length ≤ k → leV l < 256 ^ k
  | [], k, _ => Nat.pow_pos (by omega)
  | b :: l, k + 1, h => by
    have := leV_lt l k (by simp at h; omega)
    have hb := b.toNat_lt
    show b.toNat + 256 * leV l < 256 ^ (k + 1)
    rw [Nat.pow_succ]
    omega
set_option maxRecDepth 100000 in
set_option maxHeartbeats 8000000 in
theorem do2 (ok : SourceOk C B) (hp : PairOk C) (P : DoP C B sps hm g b m r s w) (kd wh x n : Int) (t : ByteArray) (hk1 : 0 ≤ kd) (hk2 : kd < 256) (hkd : kd % 11 = 2) (hx1 : -9223372036854775808 ≤ x) (hx2 : x ≤ 9223372036854775807) (hn1 : -9223372036854775808 ≤ n) (hn2 : n ≤ 9223372036854775807) (ht : t.size ≤ maxLen)
    (hag : (loadA (view C hm s) x 4).2 = (loadA r x 4).2) :
    Calls Try.prog 27 #[.pointer (some ⟨b, 0, none⟩), .agg #[.int .u8 kd, .int .u8 wh, .int .i64 x, .int .i64 n, .string t]] w fun e w' => e = .returned (.tuple #[.pointer none, .bool true]) ∧ DoR C B sps hm g b m r.src (loadA (view C hm s) x 4).1 (rsOf m (loadA r x 4).1) w w' := by
  unfold maxLen at ht
  have HREF := Lib.hid (fun W (hs : SrcIs W m r.src) => refLoad_any W m r x 4 (by omega) hx1 hx2 hs P.rok)
  have h4 := load4 (view C hm s) x
  obtain ⟨a', ha'⟩ : ∃ a', a' = (loadA (view C hm s) x 4).1 := ⟨_, rfl⟩
  obtain ⟨L, hL⟩ : ∃ L, L = (loadA (view C hm s) x 4).2 := ⟨_, rfl⟩
  rw [← hag, ← hL] at HREF
  rw [← ha']
  have hll : L.1.length ≤ 4 := by
    rw [hL]
    by_cases he : (loadA (view C hm s) x 4).2.2 = 0
    · obtain ⟨_, _, _, _, h⟩ := h4.1 he
      rw [h]; simp
    · rw [h4.2 he]; simp
  have HA := Lib.hid ha'
  have HL := Lib.hid hL
  clear ha' hL hag h4
  obtain ⟨l, e⟩ := L
  dsimp only at hll
  have HLL := Lib.hid hll
  clear hll
  have hz := z61
  have HI := Lib.hid (P.init ok #[.int .u8 kd, .int .u8 wh, .int .i64 x, .int .i64 n, .string t])
  have HC := Lib.hid P
  clear P
  obtain ⟨u, hu⟩ : ∃ u : Nat, u = min t.size 200 := ⟨_, rfl⟩
  have eu : (if (200 : Int) < (t.size : Int) then (200 : Int) else (t.size : Int)) = (u : Int) := by split <;> omega
  have eu2 : (u : Int) ≤ (t.size : Int) := by omega
  have eu3 : u ≤ t.size := by omega
  have HU := Lib.hid hu
  clear hu
  go_enter Try.func27, Try.ntmps27
  go_upto_region 15 with (fail)
  generalize w.alloc (.cells #[.int .u8 kd, .int .u8 wh, .int .i64 x, .int .i64 n, .string t] 45) = W0 at *
  have HI1 := Lib.hid (HI.out.drew ok)
  have c0 : W0.drew.cell? ⟨b, 0, none⟩ = some (.pointer (some ⟨g, 0, none⟩)) := HI1.out.pair.ptr
  have c2 : W0.drew.cell? ⟨w.heap.size, 2, none⟩ = some (.int .i64 x) := HI1.out.op.cell 2
  have c3 : W0.drew.cell? ⟨w.heap.size, 3, none⟩ = some (.int .i64 n) := HI1.out.op.cell 3
  refine wp_region_mixL (fun W => W = W0.drew) [3, 5] [6] [0, 1, 2, 3, 4, 5, 6, 7, 8, 9, 10, 11] (by kernel_rfl) (by kernel_rfl) rfl ?_
  simp only [inOrder, opAt]
  generalize W0.drew = Wk at *
  iterate 6
    (refine wpMixS_read (v := ?_) rfl rfl (fun w' hS => ?_) ?_
     rotate_left
     · ((try (have hE : w' = Wk := hS rfl; rw [hE])); (try clear hS); go_simp; (try with_reducible rfl))
     try simp only [Act.put, List.setIfInBounds_toArray, List.set_cons_zero, List.set_cons_succ])
  refine wpMixS_eff rfl rfl (fun K hK => ?_)
  go_simp
  refine (HI1.out.call (a' := a') (Ke := fun e' => e' = .returned (.tuple #[.int .u32 (leV l), .int .i64 e])) (fun s1 hm1 h1 hv => (by
    have hq := word_all ok h1 (upd_at _ _ _) x hx1 hx2 HI1.out.leWW
    rw [hv, ← HL.out, ← HA.out] at hq
    exact hq))).mono ?_
  rintro e5 w5 ⟨rfl, hi5⟩
  have HI4 := Lib.hid hi5
  clear hi5
  dsimp only
  refine hK.out _ _ _ (fun _ h => h) (fun h => by cases h) ?_
  clear hK K
  try simp only [Act.put, List.setIfInBounds_toArray, List.set_cons_zero, List.set_cons_succ]
  iterate 5
    (refine wpMixS_read (v := ?_) rfl rfl (fun w' hS => ?_) ?_
     rotate_left
     · ((try (have hE : w' = Wk := hS rfl; rw [hE])); (try clear hS); go_simp; (try with_reducible rfl))
     try simp only [Act.put, List.setIfInBounds_toArray, List.set_cons_zero, List.set_cons_succ])
  refine wpMixS_nil ?_
  clear c0 c2 c3 HI1
  go_wp2_with fail
  have HI5 := Lib.hid (HI4.out.drew ok)
  have HRD : Hid (∀ W, Below w5.drew.heap.size w5.drew W → W.cell? ⟨b, 0, none⟩ = some (.pointer (some ⟨g, 0, none⟩)) ∧ W.cell? ⟨w.heap.size, 2, none⟩ = some (.int .i64 x) ∧ W.cell? ⟨w.heap.size, 3, none⟩ = some (.int .i64 n)) := Lib.hid fun W hb =>
    ⟨PB.ptr (Blk.below HI5.out.pair hb HI5.out.pair.lt), (HI5.out.op.below hb HI5.out.op.lt).cell 2, (HI5.out.op.below hb HI5.out.op.lt).cell 3⟩
  clear HI4
  refine wp_region_mixE (fun W => Below w5.drew.heap.size w5.drew W) [0, 1, 2, 3, 4, 5, 6, 7, 8, 9, 10, 11, 12, 13] [6, 11, 12] [0, 1, 2, 3, 4, 5] 6 11 [7, 8, 9, 10, 11, 12, 13, 14] [6, 7, 8, 9, 10, 12, 13, 14] (by kernel_rfl) (by kernel_rfl) (Below.refl _ _) ?_
  simp only [inOrder, opAt]
  generalize w5.drew = W5 at *
  iterate 3
    (refine wpMixE_read (v := ?_) rfl rfl (fun w' hS => ?_) ?_
     rotate_left
     · ((try (obtain ⟨s0, s2, s3⟩ := HRD.out w' (hS rfl))); (try clear hS); go_simp; (try with_reducible rfl))
     try simp only [Act.put, List.setIfInBounds_toArray, List.set_cons_zero, List.set_cons_succ])
  refine mixE_load_P rfl rfl (.tmp 136) rfl rfl (fun w' hS => HI5.out.pair.below (hS rfl) HI5.out.pair.lt) ?_
  try simp only [Act.put, List.setIfInBounds_toArray, List.set_cons_zero, List.set_cons_succ]
  iterate 2
    (refine wpMixE_read (v := ?_) rfl rfl (fun w' hS => ?_) ?_
     rotate_left
     · ((try (obtain ⟨s0, s2, s3⟩ := HRD.out w' (hS rfl))); (try clear hS); go_simp; (try with_reducible rfl))
     try simp only [Act.put, List.setIfInBounds_toArray, List.set_cons_zero, List.set_cons_succ])
  refine wpMixE_nil ⟨?_, ?_⟩
  · refine wpMixS_eff rfl rfl (fun K hK => ?_)
    go_simp
    refine (HREF.out W5 HI5.out.src).mono ?_
    rintro e w6 ⟨rfl, nb⟩
    have HI6 := Lib.hid (HI5.out.below ok nb)
    have HB6 := Lib.hid nb
    clear nb
    dsimp only
    refine hK.out _ _ _ (fun _ h => h) (fun _ => HB6.out) ?_
    clear hK K
    try simp only [Act.put, List.setIfInBounds_toArray, List.set_cons_zero, List.set_cons_succ]
    iterate 4
      (refine wpMixS_read (v := ?_) rfl rfl (fun w' hS => ?_) ?_
       rotate_left
       · ((try clear hS); go_simp; (try with_reducible rfl))
       try simp only [Act.put, List.setIfInBounds_toArray, List.set_cons_zero, List.set_cons_succ])
    refine wpMixS_eff rfl rfl (fun K hK => ?_)
    go_simp
    refine hK.out _ _ _ (fun _ h => h) (fun _ => HB6.out.alloc HB6.out.size _) ?_
    clear hK K
    try simp only [Act.put, List.setIfInBounds_toArray, List.set_cons_zero, List.set_cons_succ]
    have HZ := Lib.hid (Blk.new w6 61 (rsCells rs0))
    obtain ⟨z, hz6⟩ : ∃ z, z = w6.heap.size := ⟨_, rfl⟩
    rw [← hz6] at HZ ⊢
    have HB7 := Lib.hid (HB6.out.alloc HB6.out.size (.cells (rsCells rs0) 61))
    have hzl : W5.heap.size ≤ z := by rw [hz6]; exact HB6.out.size
    clear hz6
    have HZE : Hid True := Lib.hid trivial
    generalize w6.alloc (.cells (rsCells rs0) 61) = w7 at *
    refine wpMixS_eff rfl rfl (fun K hK => ?_)
    refine wp_store_S HZ.out (rsOf_map _ HC.out.src.map) (.tmp 15) (.tmp 141) rfl rfl rfl ?_
    intro w8 hw8 hf8
    have hb8 : Below W5.heap.size W5 w8 := HB7.out.trans (hf8.below HB7.out.size (by simpa using hzl))
    have HI8 := Lib.hid (HI5.out.below ok hb8)
    have HZ8 := Lib.hid hw8
    refine hK.out _ _ _ (fun _ h => h) (fun _ => (by first | exact hb8 | (show Below z _ _; rw [HZE.out]; exact hb8))) ?_
    clear hK K HZ HB7 hw8 hf8 hb8
    try simp only [Act.put]
    iterate 2
      (refine wpMixS_read (v := ?_) rfl rfl (fun w' hS => ?_) ?_
       rotate_left
       · ((try clear hS); go_simp; (try with_reducible rfl))
       try simp only [Act.put, List.setIfInBounds_toArray, List.set_cons_zero, List.set_cons_succ])
    refine wpMixS_nil ?_
    have hsz : (⟨l.toArray⟩ : ByteArray).size = l.length := by show l.toArray.size = _; simp
    go_wp2_with (first
      | (with_reducible refine load_S HZ8.out rfl (.tmp 15) rfl rfl ?_)
      | (refine store_P HI8.out.pair (rsOf_map _ HC.out.src.map) rfl (.tmp 147) (.tmp 145) rfl rfl rfl ?_; intro w9 hw9 hf9))
    have HI9 := Lib.hid (HI8.out.put hp hw9 hf9)
    clear hw9 hf9
    go_loopg [18, 19] (l.length + 1) (fun q ov iv wr => ∃ i : Nat, i ≤ l.length ∧ iv = .int .i64 ((i : Int) - 1) ∧ q = i + 1 ∧ wr = w9 ∧ ov = .int .u32 (leV (l.drop i) : Nat))
    case atStart => exact ⟨l.length, Nat.le_refl _, by have := HLL.out; rw [IntWalk.wrap64_in _ (by omega)], rfl, rfl, by simp [leV]⟩
    case round =>
      obtain ⟨i, hi, rfl, rfl, rfl, rfl⟩ := hrel
      have hi4 := HLL.out
      rcases Nat.eq_zero_or_pos i with rfl | hpos
      · have i1 : decide ((0 : Int) ≤ ((0 : Nat) : Int) - 1) = false := rfl
        clear hi hsz
        go_wp2_with fail
        go_ret2
        exact ⟨by simp, HI9.out.ret⟩
      · obtain ⟨j, rfl⟩ : ∃ j, i = j + 1 := ⟨i - 1, by omega⟩
        have hj : ((j + 1 : Nat) : Int) - 1 = (j : Int) := by omega
        rw [hj]
        have i1 : decide ((0 : Int) ≤ (j : Int)) = true := decide_eq_true (by omega)
        have i2 : (j : Int) < ((⟨l.toArray⟩ : ByteArray).size : Int) := by rw [hsz]; omega
        have i3 : j < (⟨l.toArray⟩ : ByteArray).size := by rw [hsz]; omega
        have hstep := leV_step l j (by omega)
        have hlt := leV_lt (l.drop (j + 1)) 3 (by rw [List.length_drop]; omega)
        obtain ⟨v, hv⟩ : ∃ v, v = leV (l.drop (j + 1)) := ⟨_, rfl⟩
        rw [← hv] at hstep hlt ⊢
        have HST := Lib.hid hstep
        have HLT := Lib.hid hlt
        have HHI := Lib.hid hi
        clear hpos hj hstep hlt hv
        go_wp2_with fail
        go_roundg (j + 1)
        case measure => omega
        case rel => exact ⟨j, by have := HHI.out; omega, by go_num, rfl, rfl, by
          rw [HST.out]
          have hb := l[j].toNat_lt
          have hv2 := HLT.out
          have hb2 : (⟨l.toArray⟩ : ByteArray)[j].toNat = l[j].toNat := rfl
          congr 1
          rw [hb2]
          omega⟩
  · refine wpMixS_eff rfl rfl (fun K hK => ?_)
    go_simp
    refine hK.out _ _ _ (fun _ h => h) (fun _ => (Below.refl _ _).alloc (Nat.le_refl _) _) ?_
    clear hK K
    try simp only [Act.put, List.setIfInBounds_toArray, List.set_cons_zero, List.set_cons_succ]
    have HZ := Lib.hid (Blk.new W5 61 (rsCells rs0))
    obtain ⟨z, hz6⟩ : ∃ z, z = W5.heap.size := ⟨_, rfl⟩
    rw [← hz6] at HZ ⊢
    have HB6 := Lib.hid ((Below.refl W5.heap.size W5).alloc (Nat.le_refl _) (.cells (rsCells rs0) 61))
    have hzl : W5.heap.size ≤ z := by rw [hz6]; exact Nat.le_refl _
    have HI6 := Lib.hid (HI5.out.below ok HB6.out)
    have HZE := Lib.hid hz6
    clear hz6
    generalize W5.alloc (.cells (rsCells rs0) 61) = w6 at *
    refine wpMixS_eff rfl rfl (fun K hK => ?_)
    go_simp
    refine (HREF.out w6 HI6.out.src).mono ?_
    rintro e w7 ⟨rfl, nb⟩
    have HZ7 := Lib.hid (HZ.out.below nb HZ.out.lt)
    have HB7 := Lib.hid (HB6.out.trans (nb.mono HB6.out.size))
    clear nb HZ
    have HZ := HZ7
    clear HZ7
    dsimp only
    refine hK.out _ _ _ (fun _ h => h) (fun _ => (by first | exact HB7.out | (show Below z _ _; rw [HZE.out]; exact HB7.out))) ?_
    clear hK K
    try simp only [Act.put, List.setIfInBounds_toArray, List.set_cons_zero, List.set_cons_succ]
    iterate 4
      (refine wpMixS_read (v := ?_) rfl rfl (fun w' hS => ?_) ?_
       rotate_left
       · ((try clear hS); go_simp; (try with_reducible rfl))
       try simp only [Act.put, List.setIfInBounds_toArray, List.set_cons_zero, List.set_cons_succ])
    refine wpMixS_eff rfl rfl (fun K hK => ?_)
    refine wp_store_S HZ.out (rsOf_map _ HC.out.src.map) (.tmp 15) (.tmp 141) rfl rfl rfl ?_
    intro w8 hw8 hf8
    have hb8 : Below W5.heap.size W5 w8 := HB7.out.trans (hf8.below HB7.out.size (by simpa using hzl))
    have HI8 := Lib.hid (HI5.out.below ok hb8)
    have HZ8 := Lib.hid hw8
    refine hK.out _ _ _ (fun _ h => h) (fun _ => (by first | exact hb8 | (show Below z _ _; rw [HZE.out]; exact hb8))) ?_
    clear hK K HZ HB7 hw8 hf8 hb8
    try simp only [Act.put]
    iterate 2
      (refine wpMixS_read (v := ?_) rfl rfl (fun w' hS => ?_) ?_
       rotate_left
       · ((try clear hS); go_simp; (try with_reducible rfl))
       try simp only [Act.put, List.setIfInBounds_toArray, List.set_cons_zero, List.set_cons_succ])
    refine wpMixS_nil ?_
    have hsz : (⟨l.toArray⟩ : ByteArray).size = l.length := by show l.toArray.size = _; simp
    go_wp2_with (first
      | (with_reducible refine load_S HZ8.out rfl (.tmp 15) rfl rfl ?_)
      | (refine store_P HI8.out.pair (rsOf_map _ HC.out.src.map) rfl (.tmp 147) (.tmp 145) rfl rfl rfl ?_; intro w9 hw9 hf9))
    have HI9 := Lib.hid (HI8.out.put hp hw9 hf9)
    clear hw9 hf9
    go_loopg [18, 19] (l.length + 1) (fun q ov iv wr => ∃ i : Nat, i ≤ l.length ∧ iv = .int .i64 ((i : Int) - 1) ∧ q = i + 1 ∧ wr = w9 ∧ ov = .int .u32 (leV (l.drop i) : Nat))
    case atStart => exact ⟨l.length, Nat.le_refl _, by have := HLL.out; rw [IntWalk.wrap64_in _ (by omega)], rfl, rfl, by simp [leV]⟩
    case round =>
      obtain ⟨i, hi, rfl, rfl, rfl, rfl⟩ := hrel
      have hi4 := HLL.out
      rcases Nat.eq_zero_or_pos i with rfl | hpos
      · have i1 : decide ((0 : Int) ≤ ((0 : Nat) : Int) - 1) = false := rfl
        clear hi hsz
        go_wp2_with fail
        go_ret2
        exact ⟨by simp, HI9.out.ret⟩
      · obtain ⟨j, rfl⟩ : ∃ j, i = j + 1 := ⟨i - 1, by omega⟩
        have hj : ((j + 1 : Nat) : Int) - 1 = (j : Int) := by omega
        rw [hj]
        have i1 : decide ((0 : Int) ≤ (j : Int)) = true := decide_eq_true (by omega)
        have i2 : (j : Int) < ((⟨l.toArray⟩ : ByteArray).size : Int) := by rw [hsz]; omega
        have i3 : j < (⟨l.toArray⟩ : ByteArray).size := by rw [hsz]; omega
        have hstep := leV_step l j (by omega)
        have hlt := leV_lt (l.drop (j + 1)) 3 (by rw [List.length_drop]; omega)
        obtain ⟨v, hv⟩ : ∃ v, v = leV (l.drop (j + 1)) := ⟨_, rfl⟩
        rw [← hv] at hstep hlt ⊢
        have HST := Lib.hid hstep
        have HLT := Lib.hid hlt
        have HHI := Lib.hid hi
        clear hpos hj hstep hlt hv
        go_wp2_with fail
        go_roundg (j + 1)
        case measure => omega
        case rel => exact ⟨j, by have := HHI.out; omega, by go_num, rfl, rfl, by
          rw [HST.out]
          have hb := l[j].toNat_lt
          have hv2 := HLT.out
          have hb2 : (⟨l.toArray⟩ : ByteArray)[j].toNat = l[j].toNat := rfl
          congr 1
          rw [hb2]
          omega⟩
end
end Go.Proofs.Ytbppafbdmdbdiaa
