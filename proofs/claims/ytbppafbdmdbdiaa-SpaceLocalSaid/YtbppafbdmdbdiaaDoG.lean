/-
  The law's operation: Page.
-/
import Derived.Test.YtbppafbdmdbdiaaMDa
namespace Go.Proofs.Ytbppafbdmdbdiaa
open Go.RowKit
set_option linter.unusedVariables false
section
variable {C : Source} {B : Nat} {w : World} {sps : Nat → Option Sp} {hm : Pages} {g b : Nat} {s : Sp} {m : Value} {r : AS}
theorem hasA_page (r : AS) (x : Int) : (pageA r x).1 = (hasA r x).1 := by
  unfold pageA hasA
  by_cases h : x < 0 ∨ 64 ≤ x
  · rw [if_pos h, if_pos h]
  · rw [if_neg h, if_neg h]
    cases (needA r x.toNat).page x.toNat <;> rfl
theorem page_cases (r : AS) (x : Int) : ((x < 0 ∨ 64 ≤ x) ∧ (pageA r x).2.1 = [] ∧ (pageA r x).2.2 = 2) ∨ (∃ p : Nat, x = p ∧ p < 64 ∧ (hasA r x).2 = false ∧ (pageA r x).2.1 = [] ∧ (pageA r x).2.2 = 8) ∨
    (∃ (p : Nat) (b : List UInt8), x = p ∧ p < 64 ∧ (hasA r x).2 = true ∧ (pageA r x).1.page p = some b ∧ (pageA r x).2.1 = b ∧ (pageA r x).2.2 = 0) := by
  unfold pageA hasA
  by_cases h : x < 0 ∨ 64 ≤ x
  · rw [if_pos h]; exact .inl ⟨h, rfl, rfl⟩
  · rw [if_neg h, if_neg h]
    cases hp : (needA r x.toNat).page x.toNat with
    | none => exact .inr (.inl ⟨x.toNat, by omega, by omega, rfl, rfl, rfl⟩)
    | some b => exact .inr (.inr ⟨x.toNat, b, by omega, by omega, rfl, hp, rfl, rfl⟩)
set_option maxRecDepth 100000 in
set_option maxHeartbeats 8000000 in
theorem do8 (ok : SourceOk C B) (hp : PairOk C) (P : DoP C B sps hm g b m r s w) (kd wh x n : Int) (t : ByteArray) (hk1 : 0 ≤ kd) (hk2 : kd < 256) (hkd : kd % 11 = 8) (hx1 : -9223372036854775808 ≤ x) (hx2 : x ≤ 9223372036854775807) (hn1 : -9223372036854775808 ≤ n) (hn2 : n ≤ 9223372036854775807) (ht : t.size ≤ maxLen)
    (hag : (pageA (view C hm s) x).2 = (pageA r x).2) :
    Calls Try.prog 27 #[.pointer (some ⟨b, 0, none⟩), .agg #[.int .u8 kd, .int .u8 wh, .int .i64 x, .int .i64 n, .string t]] w fun e w' => e = .returned (.tuple #[.pointer none, .bool true]) ∧ DoR C B sps hm g b m r.src (pageA (view C hm s) x).1 (rsOf m (pageA r x).1) w w' := by
  unfold maxLen at ht
  have HREF := Lib.hid (fun W (hs : SrcIs W m r.src) => refHas_any W m r x hs P.rok)
  rw [← hasA_page r x] at HREF
  obtain ⟨a', ha'⟩ : ∃ a', a' = (pageA (view C hm s) x).1 := ⟨_, rfl⟩
  obtain ⟨L, hL⟩ : ∃ L, L = (pageA (view C hm s) x).2 := ⟨_, rfl⟩
  have hpc := page_cases r x
  rw [← hag, ← hL] at hpc
  rw [← ha']
  have HA := Lib.hid ha'
  have HL := Lib.hid hL
  clear ha' hL hag
  obtain ⟨l, e⟩ := L
  have HPC := Lib.hid hpc
  clear hpc
  have hz := z61
  have HI := Lib.hid (P.init ok #[.int .u8 kd, .int .u8 wh, .int .i64 x, .int .i64 n, .string t])
  have HC := Lib.hid P
  clear P
  obtain ⟨u, hu⟩ : ∃ u : Nat, u = min t.size 200 := ⟨_, rfl⟩
  have eu : (if (200 : Int) < (t.size : Int) then (200 : Int) else (t.size : Int)) = (u : Int) := by split <;> omega
  have eu2 : (u : Int) ≤ (t.size : Int) := by omega
  have eu3 : u ≤ t.size := by omega
  have HU := Lib.hid hu
  clear hu
  go_enter Try.func27, Try.ntmps27
  go_upto_region 46 with (fail)
  generalize w.alloc (.cells #[.int .u8 kd, .int .u8 wh, .int .i64 x, .int .i64 n, .string t] 45) = W0 at *
  have HI1 := Lib.hid (HI.out.drew ok)
  have c0 : W0.drew.cell? ⟨b, 0, none⟩ = some (.pointer (some ⟨g, 0, none⟩)) := HI1.out.pair.ptr
  have c2 : W0.drew.cell? ⟨w.heap.size, 2, none⟩ = some (.int .i64 x) := HI1.out.op.cell 2
  have c3 : W0.drew.cell? ⟨w.heap.size, 3, none⟩ = some (.int .i64 n) := HI1.out.op.cell 3
  refine wp_region_mixL (fun W => W = W0.drew) [3, 5] [6] [0, 1, 2, 3, 4, 5, 6, 7, 8, 9, 10, 11] (by kernel_rfl) (by kernel_rfl) rfl ?_
  simp only [inOrder, opAt]
  generalize W0.drew = Wk at *
  iterate 6
    (refine wpMixS_read (v := ?_) rfl rfl (fun w' hS => ?_) ?_
     rotate_left
     · ((try (have hE : w' = Wk := hS rfl; rw [hE])); (try clear hS); go_simp; (try with_reducible rfl))
     try simp only [Act.put, List.setIfInBounds_toArray, List.set_cons_zero, List.set_cons_succ])
  refine wpMixS_eff rfl rfl (fun K hK => ?_)
  go_simp
  refine (HI1.out.call (a' := a') (Ke := fun e' => e' = .returned (.tuple #[.string ⟨l.toArray⟩, .int .i64 e])) (fun s1 hm1 h1 hv => (by
    have hq := page_all ok h1 (upd_at _ _ _) x HI1.out.leWW
    rw [hv, ← HL.out, ← HA.out] at hq
    exact hq))).mono ?_
  rintro e5 w5 ⟨rfl, hi5⟩
  have HI4 := Lib.hid hi5
  clear hi5
  dsimp only
  refine hK.out _ _ _ (fun _ h => h) (fun h => by cases h) ?_
  clear hK K
  try simp only [Act.put, List.setIfInBounds_toArray, List.set_cons_zero, List.set_cons_succ]
  iterate 5
    (refine wpMixS_read (v := ?_) rfl rfl (fun w' hS => ?_) ?_
     rotate_left
     · ((try (have hE : w' = Wk := hS rfl; rw [hE])); (try clear hS); go_simp; (try with_reducible rfl))
     try simp only [Act.put, List.setIfInBounds_toArray, List.set_cons_zero, List.set_cons_succ])
  refine wpMixS_nil ?_
  clear c0 c2 c3 HI1
  go_wp2_with fail
  have HI5 := Lib.hid (HI4.out.drew ok)
  have HRD : Hid (∀ W, Below w5.drew.heap.size w5.drew W → W.cell? ⟨b, 0, none⟩ = some (.pointer (some ⟨g, 0, none⟩)) ∧ W.cell? ⟨w.heap.size, 2, none⟩ = some (.int .i64 x) ∧ W.cell? ⟨w.heap.size, 3, none⟩ = some (.int .i64 n)) := Lib.hid fun W hb =>
    ⟨PB.ptr (Blk.below HI5.out.pair hb HI5.out.pair.lt), (HI5.out.op.below hb HI5.out.op.lt).cell 2, (HI5.out.op.below hb HI5.out.op.lt).cell 3⟩
  clear HI4
  refine wp_region_mixE (fun W => Below w5.drew.heap.size w5.drew W) [0, 1, 2, 3, 4, 5, 6, 7, 8, 9, 10, 11] [6, 10, 11] [0, 1, 2, 3, 4, 5] 6 10 [7, 8, 9, 10, 11, 12] [6, 7, 8, 9, 11, 12] (by kernel_rfl) (by kernel_rfl) (Below.refl _ _) ?_
  simp only [inOrder, opAt]
  generalize w5.drew = W5 at *
  iterate 3
    (refine wpMixE_read (v := ?_) rfl rfl (fun w' hS => ?_) ?_
     rotate_left
     · ((try (obtain ⟨s0, s2, s3⟩ := HRD.out w' (hS rfl))); (try clear hS); go_simp; (try with_reducible rfl))
     try simp only [Act.put, List.setIfInBounds_toArray, List.set_cons_zero, List.set_cons_succ])
  refine mixE_load_P rfl rfl (.tmp 344) rfl rfl (fun w' hS => HI5.out.pair.below (hS rfl) HI5.out.pair.lt) ?_
  try simp only [Act.put, List.setIfInBounds_toArray, List.set_cons_zero, List.set_cons_succ]
  iterate 2
    (refine wpMixE_read (v := ?_) rfl rfl (fun w' hS => ?_) ?_
     rotate_left
     · ((try (obtain ⟨s0, s2, s3⟩ := HRD.out w' (hS rfl))); (try clear hS); go_simp; (try with_reducible rfl))
     try simp only [Act.put, List.setIfInBounds_toArray, List.set_cons_zero, List.set_cons_succ])
  refine wpMixE_nil ⟨?_, ?_⟩
  · refine wpMixS_eff rfl rfl (fun K hK => ?_)
    go_simp
    refine (HREF.out W5 HI5.out.src).mono ?_
    rintro e w6 ⟨rfl, nb⟩
    have HI6 := Lib.hid (HI5.out.below ok nb)
    have HB6 := Lib.hid nb
    clear nb
    dsimp only
    refine hK.out _ _ _ (fun _ h => h) (fun _ => HB6.out) ?_
    clear hK K
    try simp only [Act.put, List.setIfInBounds_toArray, List.set_cons_zero, List.set_cons_succ]
    iterate 3
      (refine wpMixS_read (v := ?_) rfl rfl (fun w' hS => ?_) ?_
       rotate_left
       · ((try clear hS); go_simp; (try with_reducible rfl))
       try simp only [Act.put, List.setIfInBounds_toArray, List.set_cons_zero, List.set_cons_succ])
    refine wpMixS_eff rfl rfl (fun K hK => ?_)
    go_simp
    refine hK.out _ _ _ (fun _ h => h) (fun _ => HB6.out.alloc HB6.out.size _) ?_
    clear hK K
    try simp only [Act.put, List.setIfInBounds_toArray, List.set_cons_zero, List.set_cons_succ]
    have HZ := Lib.hid (Blk.new w6 61 (rsCells rs0))
    obtain ⟨z, hz6⟩ : ∃ z, z = w6.heap.size := ⟨_, rfl⟩
    rw [← hz6] at HZ ⊢
    have HB7 := Lib.hid (HB6.out.alloc HB6.out.size (.cells (rsCells rs0) 61))
    have hzl : W5.heap.size ≤ z := by rw [hz6]; exact HB6.out.size
    clear hz6
    have HZE : Hid True := Lib.hid trivial
    generalize w6.alloc (.cells (rsCells rs0) 61) = w7 at *
    refine wpMixS_eff rfl rfl (fun K hK => ?_)
    refine wp_store_S HZ.out (rsOf_map _ HC.out.src.map) (.tmp 30) (.tmp 349) rfl rfl rfl ?_
    intro w8 hw8 hf8
    have hb8 : Below W5.heap.size W5 w8 := HB7.out.trans (hf8.below HB7.out.size (by simpa using hzl))
    have HI8 := Lib.hid (HI5.out.below ok hb8)
    have HZ8 := Lib.hid hw8
    refine hK.out _ _ _ (fun _ h => h) (fun _ => (by first | exact hb8 | (show Below z _ _; rw [HZE.out]; exact hb8))) ?_
    clear hK K HZ HB7 hw8 hf8 hb8
    try simp only [Act.put]
    iterate 1
      (refine wpMixS_read (v := ?_) rfl rfl (fun w' hS => ?_) ?_
       rotate_left
       · ((try clear hS); go_simp; (try with_reducible rfl))
       try simp only [Act.put, List.setIfInBounds_toArray, List.set_cons_zero, List.set_cons_succ])
    refine wpMixS_nil ?_
    go_upto_region 49 with (first
      | (with_reducible refine load_S HZ8.out rfl (.tmp 30) rfl rfl ?_)
      | (refine store_P HI8.out.pair (rsOf_map _ HC.out.src.map) rfl (.tmp 354) (.tmp 352) rfl rfl rfl ?_; intro w9 hw9 hf9))
    have HI9 := Lib.hid (HI8.out.put hp hw9 hf9)
    have HZ9 := Lib.hid (HZ8.out.fr hf9 (by have h1 := HI5.out.pair.lt; simp; omega))
    clear hw9 hf9
    have c2 : w9.cell? ⟨w.heap.size, 2, none⟩ = some (.int .i64 x) := HI9.out.op.cell 2
    rcases HPC.out with ⟨hp1, hl1, he1⟩ | ⟨p, hp1, hp2, hh, hl1, he1⟩ | ⟨p, bb, hp1, hp2, hh, hbb, hl1, he1⟩
    · subst hl1 he1
      have hc : decide (x < 0) = true ∨ (decide (x < 0) = false ∧ decide (64 ≤ x) = true) := by
        by_cases d1 : x < 0
        · exact .inl (decide_eq_true d1)
        · exact .inr ⟨decide_eq_false d1, decide_eq_true (by omega)⟩
      clear hp1
      rcases hc with d1 | ⟨d1, d2⟩
      all_goals
        go_wp2_with fail
        go_ret2
        exact ⟨by simp, HI9.out.ret⟩
    · subst hp1 hl1 he1
      have d1 : decide ((p : Int) < 0) = false := decide_eq_false (by omega)
      have d2 : decide (64 ≤ (p : Int)) = false := decide_eq_false (by omega)
      rw [hh]
      go_wp2_with fail
      go_ret2
      exact ⟨by simp, HI9.out.ret⟩
    · subst hp1 hl1 he1
      have d1 : decide ((p : Int) < 0) = false := decide_eq_false (by omega)
      have d2 : decide (64 ≤ (p : Int)) = false := decide_eq_false (by omega)
      rw [hh]
      go_wp2_with fail
      have HI10 := Lib.hid (HI9.out.drew ok)
      have c2 : w9.drew.cell? ⟨w.heap.size, 2, none⟩ = some (.int .i64 (p : Int)) := HI10.out.op.cell 2
      have c4 : w9.drew.cell? ⟨z, 1 + p * 5 + 4, none⟩ = some (.string ⟨l.toArray⟩) := by
        have := SB.c_bt HZ9.out (p := p) hp2
        rw [show (rsOf m (pageA r p).1).bt p = ⟨l.toArray⟩ from (by show (⟨(((pageA r p).1.page p).getD []).toArray⟩ : ByteArray) = _; rw [hbb]; rfl)] at this
        exact this
      have i1 : (p : Int) < 64 := by omega
      have i0 : (0 : Int) ≤ (p : Int) := by omega
      refine wp_region_mixL (fun W => W = w9.drew) [5, 9] [] [0, 1, 2, 3, 4, 5, 6, 7, 8, 9, 10, 11, 12, 13] (by kernel_rfl) (by kernel_rfl) rfl ?_
      simp only [inOrder, opAt]
      generalize w9.drew = Wk at *
      iterate 14
        (refine wpMixS_read (v := ?_) rfl rfl (fun w' hS => ?_) ?_
         rotate_left
         · ((try (have hE : w' = Wk := hS rfl; rw [hE])); (try clear hS); go_simp; (try with_reducible rfl))
         try simp only [Act.put, List.setIfInBounds_toArray, List.set_cons_zero, List.set_cons_succ])
      refine wpMixS_nil ?_
      go_wp2_with fail
      go_ret2
      exact ⟨by simp, HI10.out.ret⟩
  · refine wpMixS_eff rfl rfl (fun K hK => ?_)
    go_simp
    refine hK.out _ _ _ (fun _ h => h) (fun _ => (Below.refl _ _).alloc (Nat.le_refl _) _) ?_
    clear hK K
    try simp only [Act.put, List.setIfInBounds_toArray, List.set_cons_zero, List.set_cons_succ]
    have HZ := Lib.hid (Blk.new W5 61 (rsCells rs0))
    obtain ⟨z, hz6⟩ : ∃ z, z = W5.heap.size := ⟨_, rfl⟩
    rw [← hz6] at HZ ⊢
    have HB6 := Lib.hid ((Below.refl W5.heap.size W5).alloc (Nat.le_refl _) (.cells (rsCells rs0) 61))
    have hzl : W5.heap.size ≤ z := by rw [hz6]; exact Nat.le_refl _
    have HI6 := Lib.hid (HI5.out.below ok HB6.out)
    have HZE := Lib.hid hz6
    clear hz6
    generalize W5.alloc (.cells (rsCells rs0) 61) = w6 at *
    refine wpMixS_eff rfl rfl (fun K hK => ?_)
    go_simp
    refine (HREF.out w6 HI6.out.src).mono ?_
    rintro e w7 ⟨rfl, nb⟩
    have HZ7 := Lib.hid (HZ.out.below nb HZ.out.lt)
    have HB7 := Lib.hid (HB6.out.trans (nb.mono HB6.out.size))
    clear nb HZ
    have HZ := HZ7
    clear HZ7
    dsimp only
    refine hK.out _ _ _ (fun _ h => h) (fun _ => (by first | exact HB7.out | (show Below z _ _; rw [HZE.out]; exact HB7.out))) ?_
    clear hK K
    try simp only [Act.put, List.setIfInBounds_toArray, List.set_cons_zero, List.set_cons_succ]
    iterate 3
      (refine wpMixS_read (v := ?_) rfl rfl (fun w' hS => ?_) ?_
       rotate_left
       · ((try clear hS); go_simp; (try with_reducible rfl))
       try simp only [Act.put, List.setIfInBounds_toArray, List.set_cons_zero, List.set_cons_succ])
    refine wpMixS_eff rfl rfl (fun K hK => ?_)
    refine wp_store_S HZ.out (rsOf_map _ HC.out.src.map) (.tmp 30) (.tmp 349) rfl rfl rfl ?_
    intro w8 hw8 hf8
    have hb8 : Below W5.heap.size W5 w8 := HB7.out.trans (hf8.below HB7.out.size (by simpa using hzl))
    have HI8 := Lib.hid (HI5.out.below ok hb8)
    have HZ8 := Lib.hid hw8
    refine hK.out _ _ _ (fun _ h => h) (fun _ => (by first | exact hb8 | (show Below z _ _; rw [HZE.out]; exact hb8))) ?_
    clear hK K HZ HB7 hw8 hf8 hb8
    try simp only [Act.put]
    iterate 1
      (refine wpMixS_read (v := ?_) rfl rfl (fun w' hS => ?_) ?_
       rotate_left
       · ((try clear hS); go_simp; (try with_reducible rfl))
       try simp only [Act.put, List.setIfInBounds_toArray, List.set_cons_zero, List.set_cons_succ])
    refine wpMixS_nil ?_
    go_upto_region 49 with (first
      | (with_reducible refine load_S HZ8.out rfl (.tmp 30) rfl rfl ?_)
      | (refine store_P HI8.out.pair (rsOf_map _ HC.out.src.map) rfl (.tmp 354) (.tmp 352) rfl rfl rfl ?_; intro w9 hw9 hf9))
    have HI9 := Lib.hid (HI8.out.put hp hw9 hf9)
    have HZ9 := Lib.hid (HZ8.out.fr hf9 (by have h1 := HI5.out.pair.lt; simp; omega))
    clear hw9 hf9
    have c2 : w9.cell? ⟨w.heap.size, 2, none⟩ = some (.int .i64 x) := HI9.out.op.cell 2
    rcases HPC.out with ⟨hp1, hl1, he1⟩ | ⟨p, hp1, hp2, hh, hl1, he1⟩ | ⟨p, bb, hp1, hp2, hh, hbb, hl1, he1⟩
    · subst hl1 he1
      have hc : decide (x < 0) = true ∨ (decide (x < 0) = false ∧ decide (64 ≤ x) = true) := by
        by_cases d1 : x < 0
        · exact .inl (decide_eq_true d1)
        · exact .inr ⟨decide_eq_false d1, decide_eq_true (by omega)⟩
      clear hp1
      rcases hc with d1 | ⟨d1, d2⟩
      all_goals
        go_wp2_with fail
        go_ret2
        exact ⟨by simp, HI9.out.ret⟩
    · subst hp1 hl1 he1
      have d1 : decide ((p : Int) < 0) = false := decide_eq_false (by omega)
      have d2 : decide (64 ≤ (p : Int)) = false := decide_eq_false (by omega)
      rw [hh]
      go_wp2_with fail
      go_ret2
      exact ⟨by simp, HI9.out.ret⟩
    · subst hp1 hl1 he1
      have d1 : decide ((p : Int) < 0) = false := decide_eq_false (by omega)
      have d2 : decide (64 ≤ (p : Int)) = false := decide_eq_false (by omega)
      rw [hh]
      go_wp2_with fail
      have HI10 := Lib.hid (HI9.out.drew ok)
      have c2 : w9.drew.cell? ⟨w.heap.size, 2, none⟩ = some (.int .i64 (p : Int)) := HI10.out.op.cell 2
      have c4 : w9.drew.cell? ⟨z, 1 + p * 5 + 4, none⟩ = some (.string ⟨l.toArray⟩) := by
        have := SB.c_bt HZ9.out (p := p) hp2
        rw [show (rsOf m (pageA r p).1).bt p = ⟨l.toArray⟩ from (by show (⟨(((pageA r p).1.page p).getD []).toArray⟩ : ByteArray) = _; rw [hbb]; rfl)] at this
        exact this
      have i1 : (p : Int) < 64 := by omega
      have i0 : (0 : Int) ≤ (p : Int) := by omega
      refine wp_region_mixL (fun W => W = w9.drew) [5, 9] [] [0, 1, 2, 3, 4, 5, 6, 7, 8, 9, 10, 11, 12, 13] (by kernel_rfl) (by kernel_rfl) rfl ?_
      simp only [inOrder, opAt]
      generalize w9.drew = Wk at *
      iterate 14
        (refine wpMixS_read (v := ?_) rfl rfl (fun w' hS => ?_) ?_
         rotate_left
         · ((try (have hE : w' = Wk := hS rfl; rw [hE])); (try clear hS); go_simp; (try with_reducible rfl))
         try simp only [Act.put, List.setIfInBounds_toArray, List.set_cons_zero, List.set_cons_succ])
      refine wpMixS_nil ?_
      go_wp2_with fail
      go_ret2
      exact ⟨by simp, HI10.out.ret⟩
end
end Go.Proofs.Ytbppafbdmdbdiaa
