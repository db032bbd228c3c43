/-
  The reference: Map, Unmap, Has.
-/
import Derived.Test.YtbppafbdmdbdiaaMRb
import Derived.Lib.EndianBits
namespace Go.Proofs.Ytbppafbdmdbdiaa
open Go.RowKit
set_option linter.unusedVariables false

section
variable {P : Program} {ops : Array Oper} {Q : Exit → Act → World → Prop} {nl eff : List Nat} {S : World → Prop} {b : Nat} {r : RS}
theorem mix_load_S {i : Nat} {rest : List (Nat × Oper)} {o : Oper} {a : Act} {w : World} (he : eff.contains i = false) (hw : Region.wanted o (yielded ops a.tmps) = true) (x : Operand) (ho : o.op = .load 61 x)
    (hx : a.eval x = .pointer (some ⟨b, 0, none⟩)) (hS : ∀ w', worldsOf S nl i w' → w'.rangeAt b 0 (rsL r)) (h : wpMixS Try.prog ops Q nl eff S rest (a.put o.dst (.agg (rsCells r))) w) : wpMixS Try.prog ops Q nl eff S ((i, o) :: rest) a w :=
  wpMixS_row he hw 61 x ho b 0 hx (rsL r) _ hS Try.underlying61 rfl (by rw [rsL_length]; exact info61) h
theorem wp_store_S {r0 : RS} {op : Oper} {a : Act} {w : World} {K : Act → World → Prop} (h : SB w b r0) (hm : ∃ o, r.src = .map o) (x y : Operand) (ho : op.op = .store 61 x y)
    (hx : a.eval x = .pointer (some ⟨b, 0, none⟩)) (hy : a.eval y = .agg (rsCells r)) (hk : ∀ w', SB w' b r → Fr [b] w w' → K (a.put op.dst undef) w') : op.wp Try.prog a w K Q := by
  have hsz : (rsCells r).size = 321 := by show (rsL r).length = 321; exact rsL_length r
  have hsz0 : (rsCells r0).size = 321 := by show (rsL r0).length = 321; exact rsL_length r0
  refine wp_store_mid 61 x y ho b 0 (rsCells r) hx hy ?_ ?_ (all_oneCell_toArray (SB.one r hm)) ?_
  · intro j hj
    rw [hsz] at hj
    refine ⟨?_, ?_⟩
    · rw [Nat.zero_add, h.cell, Array.getElem?_eq_getElem (by omega)]; rfl
    · exact h.frozen _
  · rw [hsz]; exact info61
  · obtain ⟨g1, g2⟩ := setCells_blk h (rsL r) (by rw [rsL_length, hsz0])
    exact hk _ g1 g2
end
theorem rs_put (m : Value) (a : AS) (p : Nat) (l : List UInt8) : rsOf m (putA a p l) = { rsOf m a with th := upd (rsOf m a).th p true, ch := upd (rsOf m a).ch p true, bt := upd (rsOf m a).bt p ⟨(padL l).toArray⟩ } := by
  unfold rsOf putA
  congr 1
  · funext q
    show (upd a.page p (some (padL l)) q).isSome = upd (fun p => (a.page p).isSome) p true q
    by_cases e : q = p
    · rw [e, upd_at, upd_at]; rfl
    · rw [upd_ne _ _ _ _ e, upd_ne _ _ _ _ e]
  · funext q
    show (⟨((upd a.page p (some (padL l)) q).getD []).toArray⟩ : ByteArray) = upd (fun p => ⟨((a.page p).getD []).toArray⟩) p _ q
    by_cases e : q = p
    · rw [e, upd_at, upd_at]; rfl
    · rw [upd_ne _ _ _ _ e, upd_ne _ _ _ _ e]
theorem rs_drop (m : Value) (a : AS) (p : Nat) : rsOf m (dropA a p) = { rsOf m a with th := upd (rsOf m a).th p false, ch := upd (rsOf m a).ch p true, bt := upd (rsOf m a).bt p ⟨#[]⟩ } := by
  unfold rsOf dropA
  congr 1
  · funext q
    show (upd a.page p none q).isSome = upd (fun p => (a.page p).isSome) p false q
    by_cases e : q = p
    · rw [e, upd_at, upd_at]; rfl
    · rw [upd_ne _ _ _ _ e, upd_ne _ _ _ _ e]
  · funext q
    show (⟨((upd a.page p none q).getD []).toArray⟩ : ByteArray) = upd (fun p => ⟨((a.page p).getD []).toArray⟩) p _ q
    by_cases e : q = p
    · rw [e, upd_at, upd_at]; rfl
    · rw [upd_ne _ _ _ _ e, upd_ne _ _ _ _ e]

set_option maxRecDepth 100000 in
set_option maxHeartbeats 8000000 in
theorem refMap_any (w : World) (m : Value) (a : AS) (p : Int) (t : ByteArray) (ht : t.size ≤ 9223372036854775807) (hs : SrcIs w m a.src) (ha : AOk a) :
    Calls Try.prog 45 #[.agg (rsCells (rsOf m a)), .int .i64 p, .string t] w fun e w' => e = .returned (.tuple #[.agg (rsCells (rsOf m (mapA a p t.data.toList).1)), .int .i64 (mapA a p t.data.toList).2]) ∧ Below w.heap.size w w' := by
  have hz := z61
  have HMAP := Lib.hid hs.map
  have HT := Lib.hid (Two.new w (rsOf m a))
  have HS := Lib.hid hs
  have HA := Lib.hid ha
  clear hs ha
  have hL : t.data.toList.length = t.size := by simp
  by_cases hp : p < 0 ∨ 64 ≤ p
  · have hr : mapA a p t.data.toList = (a, 2) := by unfold mapA; rw [if_pos hp]
    rw [hr]
    have hc : decide (p < 0) = true ∨ (decide (p < 0) = false ∧ decide (64 ≤ p) = true) := by
      by_cases c1 : p < 0
      · exact .inl (decide_eq_true c1)
      · exact .inr ⟨decide_eq_false c1, decide_eq_true (by omega)⟩
    clear hp hr hL
    rcases hc with c1 | ⟨c1, c2⟩
    all_goals
      go_enter Try.func45, Try.ntmps45
      go_upto_region 1 with (fail)
      generalize ((w.alloc (.cells (rsCells (rsOf m a)) 61)).alloc (.cells (rsCells rs0) 61)) = W0 at *
      clear hz
      obtain ⟨k, hk⟩ : ∃ k, k = w.heap.size := ⟨_, rfl⟩
      rw [← hk] at HT ⊢
      have HN := Lib.hid hk
      have hkl := HT.out.lt
      clear hk
      obtain ⟨r0, hz0⟩ := HT.out.z
      have HZ0 := Lib.hid hz0
      clear hz0
      go_wp2_with (first
        | (with_reducible refine load_S HT.out.s rfl (.tmp 3) rfl rfl ?_)
        | (refine store_S HZ0.out (rsOf_map a HMAP.out) rfl (.tmp 6) (.tmp 14) rfl rfl rfl ?_; intro w1 hw1 hf1))
      refine bodyPost_ret (res_S2 rfl _ hw1 rfl) rfl ?_
      have hbel := (HT.out.ret hf1).resolve_right (by rw [HN.out]; omega)
      exact ⟨rfl, hbel⟩
  · obtain ⟨n, rfl⟩ : ∃ n : Nat, p = n := ⟨p.toNat, by omega⟩
    have hn : n < 64 := by omega
    have c1 : decide ((n : Int) < 0) = false := decide_eq_false (by omega)
    have c2 : decide (64 ≤ (n : Int)) = false := decide_eq_false (by omega)
    by_cases hl : 64 < t.size
    · have hr : mapA a n t.data.toList = (a, 5) := by unfold mapA; rw [if_neg (by omega), if_pos (by omega)]
      rw [hr]
      have c3 : decide ((64 : Int) < t.size) = true := decide_eq_true (by omega)
      clear hp hr hL
      go_enter Try.func45, Try.ntmps45
      go_upto_region 1 with (fail)
      generalize ((w.alloc (.cells (rsCells (rsOf m a)) 61)).alloc (.cells (rsCells rs0) 61)) = W0 at *
      clear hz
      obtain ⟨k, hk⟩ : ∃ k, k = w.heap.size := ⟨_, rfl⟩
      rw [← hk] at HT ⊢
      have HN := Lib.hid hk
      have hkl := HT.out.lt
      clear hk
      obtain ⟨r0, hz0⟩ := HT.out.z
      have HZ0 := Lib.hid hz0
      clear hz0
      go_wp2_with (first
        | (with_reducible refine load_S HT.out.s rfl (.tmp 3) rfl rfl ?_)
        | (refine store_S HZ0.out (rsOf_map a HMAP.out) rfl (.tmp 6) (.tmp 18) rfl rfl rfl ?_; intro w1 hw1 hf1))
      refine bodyPost_ret (res_S2 rfl _ hw1 rfl) rfl ?_
      have hbel := (HT.out.ret hf1).resolve_right (by rw [HN.out]; omega)
      exact ⟨rfl, hbel⟩
    · have c3 : decide ((64 : Int) < t.size) = false := decide_eq_false (by omega)
      have hr : mapA a n t.data.toList = if ((needA a n).page n).isSome then (needA a n, 13) else (putA (needA a n) n t.data.toList, 0) := by unfold mapA; rw [if_neg (by omega), if_neg (by omega), Int.toNat_natCast]
      rw [hr]
      have HNE := Lib.hid (fun W hs => refNeed_any W m a n hn hs HA.out)
      have i1 : (n : Int) < 64 := by omega
      have i0 : (0 : Int) ≤ (n : Int) := by omega
      have HPAD := Lib.hid (fun W => pad_any W t ht)
      clear hp hr hL
      obtain ⟨a2, ha2⟩ : ∃ a2, a2 = needA a n := ⟨_, rfl⟩
      rw [← ha2] at HNE ⊢
      clear ha2
      cases hpg : (a2.page n).isSome with
      | true =>
        rw [if_pos rfl]
        go_enter Try.func45, Try.ntmps45
        go_upto_region 1 with (fail)
        generalize ((w.alloc (.cells (rsCells (rsOf m a)) 61)).alloc (.cells (rsCells rs0) 61)) = W0 at *
        clear hz
        obtain ⟨k, hk⟩ : ∃ k, k = w.heap.size := ⟨_, rfl⟩
        rw [← hk] at HT ⊢
        have HN := Lib.hid hk
        have hkl := HT.out.lt
        clear hk
        go_wp2_with (with_reducible refine load_S HT.out.s rfl (.tmp 3) rfl rfl ?_)
        refine (HNE.out W0 (HS.out.two HT.out HN.out)).mono ?_
        rintro e w2 ⟨rfl, nb⟩
        have HT2 := Lib.hid (HT.out.below nb)
        have hlt2 := HT2.out.lt
        clear nb HNE
        dsimp only
        go_upto_region 6 with (refine store_S HT2.out.s (rsOf_map _ HMAP.out) rfl (.tmp 3) (.tmp 21) rfl rfl rfl ?_; intro w3 hw3 hf3)
        have HT3 := Lib.hid (HT2.out.step hw3 hf3)
        have hlt3 := HT3.out.lt
        clear hw3 hf3
        have cth := HT3.out.s.c_th hn
        replace cth : w3.cell? ⟨k, 1 + n * 5 + 1, none⟩ = some (.bool (a2.page n).isSome) := cth
        rw [hpg] at cth
        clear hpg
        obtain ⟨r0, hz0⟩ := HT3.out.z
        have HZ0 := Lib.hid hz0
        clear hz0
        go_wp2_with (first
          | (with_reducible refine load_S HT3.out.s rfl (.tmp 3) rfl rfl ?_)
          | (refine store_S HZ0.out (rsOf_map _ HMAP.out) rfl (.tmp 6) (.tmp 27) rfl rfl rfl ?_; intro w1 hw1 hf1))
        refine bodyPost_ret (res_S2 rfl _ hw1 rfl) rfl ?_
        have hbel := (HT3.out.ret hf1).resolve_right (by rw [HN.out]; omega)
        exact ⟨rfl, hbel⟩
      | false =>
        rw [if_neg (by simp)]
        go_enter Try.func45, Try.ntmps45
        go_upto_region 1 with (fail)
        generalize ((w.alloc (.cells (rsCells (rsOf m a)) 61)).alloc (.cells (rsCells rs0) 61)) = W0 at *
        clear hz
        obtain ⟨k, hk⟩ : ∃ k, k = w.heap.size := ⟨_, rfl⟩
        rw [← hk] at HT ⊢
        have HN := Lib.hid hk
        have hkl := HT.out.lt
        clear hk
        go_wp2_with (with_reducible refine load_S HT.out.s rfl (.tmp 3) rfl rfl ?_)
        refine (HNE.out W0 (HS.out.two HT.out HN.out)).mono ?_
        rintro e w2 ⟨rfl, nb⟩
        have HT2 := Lib.hid (HT.out.below nb)
        have hlt2 := HT2.out.lt
        clear nb HNE
        dsimp only
        go_upto_region 6 with (refine store_S HT2.out.s (rsOf_map _ HMAP.out) rfl (.tmp 3) (.tmp 21) rfl rfl rfl ?_; intro w3 hw3 hf3)
        have HT3 := Lib.hid (HT2.out.step hw3 hf3)
        have hlt3 := HT3.out.lt
        clear hw3 hf3
        have cth := HT3.out.s.c_th hn
        replace cth : w3.cell? ⟨k, 1 + n * 5 + 1, none⟩ = some (.bool (a2.page n).isSome) := cth
        rw [hpg] at cth
        clear hpg
        go_wp2_with fail
        have HT4 := Lib.hid (HT3.out.below (Below.refl _ _).drew)
        refine wp_region_mixL (fun _ => True) [] [4, 8, 12, 16] [0, 1, 2, 3, 5, 6, 7, 9, 13, 4, 8, 10, 11, 12, 14, 15, 16] (by kernel_rfl) (by kernel_rfl) trivial ?_
        simp only [inOrder, opAt]
        generalize w3.drew = W3 at *
        iterate 9
          (refine wpMixS_read (v := ?_) rfl rfl (fun w' hS => ?_) ?_
           rotate_left
           · ((try clear hS); go_simp; (try with_reducible rfl))
           try simp only [Act.put, List.setIfInBounds_toArray, List.set_cons_zero, List.set_cons_succ])
        refine wpMixS_eff rfl rfl (fun K hK => ?_)
        go_simp
        refine (HPAD.out W3).mono ?_
        rintro e W4 ⟨rfl, nb⟩
        have HT5 := Lib.hid (HT4.out.below nb)
        have HT6 := Lib.hid (HT5.out.th hn true)
        have HT7 := Lib.hid (HT6.out.ch hn true)
        have HT8 := Lib.hid (HT7.out.bt hn ⟨(padL t.data.toList).toArray⟩)
        have c4 := HT5.out.s.c_th hn
        have f4 := HT5.out.s.frozen (1 + n * 5 + 1)
        have c5 := HT6.out.s.c_ch hn
        have f5 := HT6.out.s.frozen (1 + n * 5 + 3)
        have c6 := HT7.out.s.c_bt hn
        have f6 := HT7.out.s.frozen (1 + n * 5 + 4)
        clear nb
        try dsimp only
        refine hK.out _ _ _ (fun _ h => h) (fun h => by cases h) ?_
        clear hK K
        try simp only [Act.put, List.setIfInBounds_toArray, List.set_cons_zero, List.set_cons_succ]
        refine wpMixS_eff rfl rfl (fun K hK => ?_)
        go_simp
        refine hK.out _ _ _ (fun _ h => h) (fun h => by cases h) ?_
        clear hK K
        try simp only [Act.put, List.setIfInBounds_toArray, List.set_cons_zero, List.set_cons_succ]
        iterate 2
          (refine wpMixS_read (v := ?_) rfl rfl (fun w' hS => ?_) ?_
           rotate_left
           · ((try clear hS); go_simp; (try with_reducible rfl))
           try simp only [Act.put, List.setIfInBounds_toArray, List.set_cons_zero, List.set_cons_succ])
        refine wpMixS_eff rfl rfl (fun K hK => ?_)
        go_simp
        refine hK.out _ _ _ (fun _ h => h) (fun h => by cases h) ?_
        clear hK K
        try simp only [Act.put, List.setIfInBounds_toArray, List.set_cons_zero, List.set_cons_succ]
        iterate 2
          (refine wpMixS_read (v := ?_) rfl rfl (fun w' hS => ?_) ?_
           rotate_left
           · ((try clear hS); go_simp; (try with_reducible rfl))
           try simp only [Act.put, List.setIfInBounds_toArray, List.set_cons_zero, List.set_cons_succ])
        refine wpMixS_eff rfl rfl (fun K hK => ?_)
        go_simp
        refine hK.out _ _ _ (fun _ h => h) (fun h => by cases h) ?_
        clear hK K
        try simp only [Act.put, List.setIfInBounds_toArray, List.set_cons_zero, List.set_cons_succ]
        refine wpMixS_nil ?_
        have hsb : SB (((W4.setCell ⟨k, 1 + n * 5 + 1, none⟩ (.bool true)).setCell ⟨k, 1 + n * 5 + 3, none⟩ (.bool true)).setCell ⟨k, 1 + n * 5 + 4, none⟩ (.string ⟨(padL t.data.toList).toArray⟩)) k (rsOf m (putA a2 n t.data.toList)) := by
          rw [rs_put]
          exact HT8.out.s
        have HSB := Lib.hid hsb
        clear c4 f4 c5 f5 c6 f6 HT7 HT6 hsb
        generalize (((W4.setCell ⟨k, 1 + n * 5 + 1, none⟩ (.bool true)).setCell ⟨k, 1 + n * 5 + 3, none⟩ (.bool true)).setCell ⟨k, 1 + n * 5 + 4, none⟩ (.string ⟨(padL t.data.toList).toArray⟩)) = W6 at *
        obtain ⟨r0, hz0⟩ := HT8.out.z
        have HZ0 := Lib.hid hz0
        clear hz0
        go_wp2_with (first
          | (with_reducible refine load_S HSB.out rfl (.tmp 3) rfl rfl ?_)
          | (refine store_S HZ0.out (rsOf_map _ HMAP.out) rfl (.tmp 6) (.tmp 42) rfl rfl rfl ?_; intro w1 hw1 hf1))
        refine bodyPost_ret (res_S2 rfl _ hw1 rfl) rfl ?_
        have hbel := (HT8.out.ret hf1).resolve_right (by rw [HN.out]; omega)
        exact ⟨rfl, hbel⟩

set_option maxRecDepth 100000 in
set_option maxHeartbeats 8000000 in
theorem refUnmap_any (w : World) (m : Value) (a : AS) (p : Int) (hs : SrcIs w m a.src) (ha : AOk a) :
    Calls Try.prog 46 #[.agg (rsCells (rsOf m a)), .int .i64 p] w fun e w' => e = .returned (.tuple #[.agg (rsCells (rsOf m (unmapA a p).1)), .int .i64 (unmapA a p).2]) ∧ Below w.heap.size w w' := by
  have hz := z61
  have HMAP := Lib.hid hs.map
  have HT := Lib.hid (Two.new w (rsOf m a))
  have HS := Lib.hid hs
  have HA := Lib.hid ha
  clear hs ha
  by_cases hp : p < 0 ∨ 64 ≤ p
  · have hr : unmapA a p = (a, 2) := by unfold unmapA; rw [if_pos hp]
    rw [hr]
    have hc : decide (p < 0) = true ∨ (decide (p < 0) = false ∧ decide (64 ≤ p) = true) := by
      by_cases c1 : p < 0
      · exact .inl (decide_eq_true c1)
      · exact .inr ⟨decide_eq_false c1, decide_eq_true (by omega)⟩
    clear hp hr
    rcases hc with c1 | ⟨c1, c2⟩
    all_goals
      go_enter Try.func46, Try.ntmps46
      go_upto_region 1 with (fail)
      generalize ((w.alloc (.cells (rsCells (rsOf m a)) 61)).alloc (.cells (rsCells rs0) 61)) = W0 at *
      clear hz
      obtain ⟨k, hk⟩ : ∃ k, k = w.heap.size := ⟨_, rfl⟩
      rw [← hk] at HT ⊢
      have HN := Lib.hid hk
      have hkl := HT.out.lt
      clear hk
      obtain ⟨r0, hz0⟩ := HT.out.z
      have HZ0 := Lib.hid hz0
      clear hz0
      go_wp2_with (first
        | (with_reducible refine load_S HT.out.s rfl (.tmp 2) rfl rfl ?_)
        | (refine store_S HZ0.out (rsOf_map a HMAP.out) rfl (.tmp 4) (.tmp 12) rfl rfl rfl ?_; intro w1 hw1 hf1))
      refine bodyPost_ret (res_S2 rfl _ hw1 rfl) rfl ?_
      have hbel := (HT.out.ret hf1).resolve_right (by rw [HN.out]; omega)
      exact ⟨rfl, hbel⟩
  · obtain ⟨n, rfl⟩ : ∃ n : Nat, p = n := ⟨p.toNat, by omega⟩
    have hn : n < 64 := by omega
    have c1 : decide ((n : Int) < 0) = false := decide_eq_false (by omega)
    have c2 : decide (64 ≤ (n : Int)) = false := decide_eq_false (by omega)
    have hr : unmapA a n = if ((needA a n).page n).isSome then (dropA (needA a n) n, 0) else (needA a n, 8) := by unfold unmapA; rw [if_neg (by omega), Int.toNat_natCast]
    rw [hr]
    have HNE := Lib.hid (fun W hs => refNeed_any W m a n hn hs HA.out)
    have i1 : (n : Int) < 64 := by omega
    have i0 : (0 : Int) ≤ (n : Int) := by omega
    clear hp hr
    obtain ⟨a2, ha2⟩ : ∃ a2, a2 = needA a n := ⟨_, rfl⟩
    rw [← ha2] at HNE ⊢
    clear ha2
    cases hpg : (a2.page n).isSome with
    | false =>
      rw [if_neg (by simp)]
      go_enter Try.func46, Try.ntmps46
      go_upto_region 1 with (fail)
      generalize ((w.alloc (.cells (rsCells (rsOf m a)) 61)).alloc (.cells (rsCells rs0) 61)) = W0 at *
      clear hz
      obtain ⟨k, hk⟩ : ∃ k, k = w.heap.size := ⟨_, rfl⟩
      rw [← hk] at HT ⊢
      have HN := Lib.hid hk
      have hkl := HT.out.lt
      clear hk
      go_wp2_with (with_reducible refine load_S HT.out.s rfl (.tmp 2) rfl rfl ?_)
      refine (HNE.out W0 (HS.out.two HT.out HN.out)).mono ?_
      rintro e w2 ⟨rfl, nb⟩
      have HT2 := Lib.hid (HT.out.below nb)
      have hlt2 := HT2.out.lt
      clear nb HNE
      dsimp only
      go_upto_region 4 with (refine store_S HT2.out.s (rsOf_map _ HMAP.out) rfl (.tmp 2) (.tmp 15) rfl rfl rfl ?_; intro w3 hw3 hf3)
      have HT3 := Lib.hid (HT2.out.step hw3 hf3)
      have hlt3 := HT3.out.lt
      clear hw3 hf3
      have cth := HT3.out.s.c_th hn
      replace cth : w3.cell? ⟨k, 1 + n * 5 + 1, none⟩ = some (.bool (a2.page n).isSome) := cth
      rw [hpg] at cth
      clear hpg
      obtain ⟨r0, hz0⟩ := HT3.out.z
      have HZ0 := Lib.hid hz0
      clear hz0
      go_wp2_with (first
        | (with_reducible refine load_S HT3.out.s rfl (.tmp 2) rfl rfl ?_)
        | (refine store_S HZ0.out (rsOf_map _ HMAP.out) rfl (.tmp 4) (.tmp 22) rfl rfl rfl ?_; intro w1 hw1 hf1))
      refine bodyPost_ret (res_S2 rfl _ hw1 rfl) rfl ?_
      have hbel := (HT3.out.ret hf1).resolve_right (by rw [HN.out]; omega)
      exact ⟨rfl, hbel⟩
    | true =>
      rw [if_pos rfl]
      go_enter Try.func46, Try.ntmps46
      go_upto_region 1 with (fail)
      generalize ((w.alloc (.cells (rsCells (rsOf m a)) 61)).alloc (.cells (rsCells rs0) 61)) = W0 at *
      clear hz
      obtain ⟨k, hk⟩ : ∃ k, k = w.heap.size := ⟨_, rfl⟩
      rw [← hk] at HT ⊢
      have HN := Lib.hid hk
      have hkl := HT.out.lt
      clear hk
      go_wp2_with (with_reducible refine load_S HT.out.s rfl (.tmp 2) rfl rfl ?_)
      refine (HNE.out W0 (HS.out.two HT.out HN.out)).mono ?_
      rintro e w2 ⟨rfl, nb⟩
      have HT2 := Lib.hid (HT.out.below nb)
      have hlt2 := HT2.out.lt
      clear nb HNE
      dsimp only
      go_upto_region 4 with (refine store_S HT2.out.s (rsOf_map _ HMAP.out) rfl (.tmp 2) (.tmp 15) rfl rfl rfl ?_; intro w3 hw3 hf3)
      have HT3 := Lib.hid (HT2.out.step hw3 hf3)
      have hlt3 := HT3.out.lt
      clear hw3 hf3
      have cth := HT3.out.s.c_th hn
      replace cth : w3.cell? ⟨k, 1 + n * 5 + 1, none⟩ = some (.bool (a2.page n).isSome) := cth
      rw [hpg] at cth
      have HT6 := Lib.hid (HT3.out.th hn false)
      have HT7 := Lib.hid (HT6.out.ch hn true)
      have HT8 := Lib.hid (HT7.out.bt hn ⟨#[]⟩)
      have f4 := HT3.out.s.frozen (1 + n * 5 + 1)
      have c5 := HT6.out.s.c_ch hn
      have f5 := HT6.out.s.frozen (1 + n * 5 + 3)
      have c6 := HT7.out.s.c_bt hn
      have f6 := HT7.out.s.frozen (1 + n * 5 + 4)
      clear hpg
      go_upto_region 7 with (fail)
      have hsb : SB (((w3.setCell ⟨k, 1 + n * 5 + 1, none⟩ (.bool false)).setCell ⟨k, 1 + n * 5 + 3, none⟩ (.bool true)).setCell ⟨k, 1 + n * 5 + 4, none⟩ (.string ⟨#[]⟩)) k (rsOf m (dropA a2 n)) := by
        rw [rs_drop]
        exact HT8.out.s
      have HSB := Lib.hid hsb
      clear cth f4 c5 f5 c6 f6 HT7 HT6 hsb
      generalize (((w3.setCell ⟨k, 1 + n * 5 + 1, none⟩ (.bool false)).setCell ⟨k, 1 + n * 5 + 3, none⟩ (.bool true)).setCell ⟨k, 1 + n * 5 + 4, none⟩ (.string ⟨#[]⟩)) = W6 at *
      obtain ⟨r0, hz0⟩ := HT8.out.z
      have HZ0 := Lib.hid hz0
      clear hz0
      go_wp2_with (first
        | (with_reducible refine load_S HSB.out rfl (.tmp 2) rfl rfl ?_)
        | (refine store_S HZ0.out (rsOf_map _ HMAP.out) rfl (.tmp 4) (.tmp 35) rfl rfl rfl ?_; intro w1 hw1 hf1))
      refine bodyPost_ret (res_S2 rfl _ hw1 rfl) rfl ?_
      have hbel := (HT8.out.ret hf1).resolve_right (by rw [HN.out]; omega)
      exact ⟨rfl, hbel⟩

set_option maxRecDepth 100000 in
set_option maxHeartbeats 8000000 in
theorem refHas_any (w : World) (m : Value) (a : AS) (p : Int) (hs : SrcIs w m a.src) (ha : AOk a) :
    Calls Try.prog 47 #[.agg (rsCells (rsOf m a)), .int .i64 p] w fun e w' => e = .returned (.tuple #[.agg (rsCells (rsOf m (hasA a p).1)), .bool (hasA a p).2]) ∧ Below w.heap.size w w' := by
  have hz := z61
  have HMAP := Lib.hid hs.map
  have HT := Lib.hid (Two.new w (rsOf m a))
  have HS := Lib.hid hs
  have HA := Lib.hid ha
  clear hs ha
  by_cases hp : p < 0 ∨ 64 ≤ p
  · have hr : hasA a p = (a, false) := by unfold hasA; rw [if_pos hp]
    rw [hr]
    have hc : decide (p < 0) = true ∨ (decide (p < 0) = false ∧ decide (64 ≤ p) = true) := by
      by_cases c1 : p < 0
      · exact .inl (decide_eq_true c1)
      · exact .inr ⟨decide_eq_false c1, decide_eq_true (by omega)⟩
    clear hp hr
    rcases hc with c1 | ⟨c1, c2⟩
    all_goals
      go_enter Try.func47, Try.ntmps47
      go_upto_region 1 with (fail)
      generalize ((w.alloc (.cells (rsCells (rsOf m a)) 61)).alloc (.cells (rsCells rs0) 61)) = W0 at *
      clear hz
      obtain ⟨k, hk⟩ : ∃ k, k = w.heap.size := ⟨_, rfl⟩
      rw [← hk] at HT ⊢
      have HN := Lib.hid hk
      have hkl := HT.out.lt
      clear hk
      obtain ⟨r0, hz0⟩ := HT.out.z
      have HZ0 := Lib.hid hz0
      clear hz0
      go_wp2_with (first
        | (with_reducible refine load_S HT.out.s rfl (.tmp 2) rfl rfl ?_)
        | (refine store_S HZ0.out (rsOf_map a HMAP.out) rfl (.tmp 4) (.tmp 12) rfl rfl rfl ?_; intro w1 hw1 hf1))
      refine bodyPost_ret (res_S2 rfl _ hw1 rfl) rfl ?_
      have hbel := (HT.out.ret hf1).resolve_right (by rw [HN.out]; omega)
      exact ⟨rfl, hbel⟩
  · obtain ⟨n, rfl⟩ : ∃ n : Nat, p = n := ⟨p.toNat, by omega⟩
    have hn : n < 64 := by omega
    have c1 : decide ((n : Int) < 0) = false := decide_eq_false (by omega)
    have c2 : decide (64 ≤ (n : Int)) = false := decide_eq_false (by omega)
    have hr : hasA a n = (needA a n, ((needA a n).page n).isSome) := by unfold hasA; rw [if_neg (by omega), Int.toNat_natCast]
    rw [hr]
    have HNE := Lib.hid (fun W hs => refNeed_any W m a n hn hs HA.out)
    have i1 : (n : Int) < 64 := by omega
    have i0 : (0 : Int) ≤ (n : Int) := by omega
    clear hp hr
    obtain ⟨a2, ha2⟩ : ∃ a2, a2 = needA a n := ⟨_, rfl⟩
    rw [← ha2] at HNE ⊢
    clear ha2
    go_enter Try.func47, Try.ntmps47
    go_upto_region 1 with (fail)
    generalize ((w.alloc (.cells (rsCells (rsOf m a)) 61)).alloc (.cells (rsCells rs0) 61)) = W0 at *
    clear hz
    obtain ⟨k, hk⟩ : ∃ k, k = w.heap.size := ⟨_, rfl⟩
    rw [← hk] at HT ⊢
    have HN := Lib.hid hk
    have hkl := HT.out.lt
    clear hk
    go_wp2_with (with_reducible refine load_S HT.out.s rfl (.tmp 2) rfl rfl ?_)
    refine (HNE.out W0 (HS.out.two HT.out HN.out)).mono ?_
    rintro e w2 ⟨rfl, nb⟩
    have HT2 := Lib.hid (HT.out.below nb)
    have hlt2 := HT2.out.lt
    clear nb HNE
    dsimp only
    go_upto_region 4 with (refine store_S HT2.out.s (rsOf_map _ HMAP.out) rfl (.tmp 2) (.tmp 15) rfl rfl rfl ?_; intro w3 hw3 hf3)
    have HT3 := Lib.hid (HT2.out.step hw3 hf3)
    have hlt3 := HT3.out.lt
    clear hw3 hf3
    have HT4 := Lib.hid (HT3.out.below (Below.refl _ _).drew)
    have cth : w3.drew.cell? ⟨k, 1 + n * 5 + 1, none⟩ = some (.bool (a2.page n).isSome) := HT4.out.s.c_th hn
    refine wp_region_mixL (fun W => W.rangeAt k 0 (rsL (rsOf m a2)) ∧ W.cell? ⟨k, 1 + n * 5 + 1, none⟩ = some (.bool (a2.page n).isSome)) [0, 1, 2, 3, 4, 5, 6] [6] [0, 1, 2, 3, 4, 5, 6, 7] (by kernel_rfl) (by kernel_rfl) ⟨HT4.out.s.range, cth⟩ ?_
    simp only [inOrder, opAt]
    generalize w3.drew = W3 at *
    refine mix_load_S rfl rfl (.tmp 2) rfl rfl (fun w' hS => (hS rfl).1) ?_
    try simp only [Act.put, List.setIfInBounds_toArray, List.set_cons_zero, List.set_cons_succ]
    iterate 5
      (refine wpMixS_read (v := ?_) rfl rfl (fun w' hS => ?_) ?_
       rotate_left
       · ((try (obtain ⟨_, s0⟩ := hS rfl)); (try clear hS); go_simp; (try with_reducible rfl))
       try simp only [Act.put, List.setIfInBounds_toArray, List.set_cons_zero, List.set_cons_succ])
    obtain ⟨r0, hz0⟩ := HT4.out.z
    have HZ0 := Lib.hid hz0
    clear hz0
    refine wpMixS_eff rfl rfl (fun K hK => ?_)
    refine wp_store_S HZ0.out (rsOf_map a2 HMAP.out) (.tmp 4) (.tmp 16) rfl rfl rfl ?_
    intro w1 hw1 hf1
    refine hK.out _ _ _ (fun _ h => h) (fun h => ⟨SB.range (HT4.out.s.fr hf1 (by simp)), SB.c_th (HT4.out.s.fr hf1 (by simp)) hn⟩) ?_
    clear hK K
    try simp only [Act.put]
    iterate 1
      (refine wpMixS_read (v := ?_) rfl rfl (fun w' hS => ?_) ?_
       rotate_left
       · ((try clear hS); go_simp; (try with_reducible rfl))
       try simp only [Act.put, List.setIfInBounds_toArray, List.set_cons_zero, List.set_cons_succ])
    refine wpMixS_nil ?_
    go_wp2_with fail
    refine bodyPost_ret (res_S2 rfl _ hw1 rfl) rfl ?_
    have hbel := (HT4.out.ret hf1).resolve_right (by rw [HN.out]; omega)
    exact ⟨rfl, hbel⟩
end Go.Proofs.Ytbppafbdmdbdiaa

/-
  The reference: All, Fork.
-/
namespace Go.Proofs.Ytbppafbdmdbdiaa
open Go.RowKit
set_option linter.unusedVariables false

theorem needUp_ok {a : AS} (h : AOk a) : ∀ k, AOk (needUp k a)
  | 0 => h
  | k + 1 => (needUp_ok h k).need k
theorem needUp_src (a : AS) : ∀ k, (needUp k a).src = a.src
  | 0 => rfl
  | k + 1 => by
    show (needA (needUp k a) k).src = _
    rw [needA_src, needUp_src a k]

set_option maxRecDepth 100000 in
set_option maxHeartbeats 8000000 in
theorem refAll_any (w : World) (m : Value) (a : AS) (hs : SrcIs w m a.src) (ha : AOk a) :
    Calls Try.prog 48 #[.agg (rsCells (rsOf m a))] w fun e w' => e = .returned (.agg (rsCells (rsOf m (needUp 64 a)))) ∧ Below w.heap.size w w' := by
  have hz := z61
  have HMAP := Lib.hid hs.map
  have HT := Lib.hid (Two.new w (rsOf m a))
  have HS := Lib.hid hs
  have HA := Lib.hid ha
  clear hs ha
  go_enter Try.func48, Try.ntmps48
  go_upto_region 1 with (fail)
  generalize ((w.alloc (.cells (rsCells (rsOf m a)) 61)).alloc (.cells (rsCells rs0) 61)) = W0 at *
  clear hz
  obtain ⟨k, hk⟩ : ∃ k, k = w.heap.size := ⟨_, rfl⟩
  rw [← hk] at HT ⊢
  have HN := Lib.hid hk
  have hkl := HT.out.lt
  clear hk
  go_wp2_with fail
  go_loopg [3] 64 (fun q iv wr => ∃ i : Nat, iv = .int .i64 i ∧ q = 64 - i ∧ i ≤ 64 ∧ Two k (rsOf m (needUp i a)) w wr)
  case atStart => exact ⟨0, rfl, rfl, by omega, HT.out⟩
  case round =>
    obtain ⟨i, rfl, rfl, hi, ht1⟩ := hrel
    have HT1 := Lib.hid ht1
    have hlt1 := ht1.lt
    clear ht1
    by_cases hlt : i < 64
    · have i1 : (i : Int) < 64 := by omega
      have HNE := Lib.hid (refNeed_any wr m (needUp i a) i hlt (by rw [needUp_src]; exact HS.out.two HT1.out HN.out) (needUp_ok HA.out i))
      go_wp2_with (with_reducible refine load_S HT1.out.s rfl (.tmp 1) rfl rfl ?_)
      refine HNE.out.mono ?_
      rintro e w2 ⟨rfl, nb⟩
      have HT2 := Lib.hid (HT1.out.below nb)
      have hlt2 := HT2.out.lt
      clear nb HNE
      dsimp only
      go_wp2_with (refine store_S (r := rsOf m (needA (needUp i a) i)) HT2.out.s (rsOf_map _ HMAP.out) rfl (.tmp 1) (.tmp 10) rfl rfl rfl ?_; intro w3 hw3 hf3)
      have HT3 := Lib.hid (HT2.out.step hw3 hf3)
      have hlt3 := HT3.out.lt
      clear hw3 hf3
      go_roundg (64 - (i + 1))
      case measure => omega
      case rel => exact ⟨i + 1, by go_num, rfl, by omega, HT3.out⟩
    · obtain rfl : i = 64 := by omega
      have i1 : decide (((64 : Nat) : Int) < 64) = false := by decide
      obtain ⟨r0, hz0⟩ := HT1.out.z
      have HZ0 := Lib.hid hz0
      clear hz0
      go_wp2_with (first
        | (with_reducible refine load_S HT1.out.s rfl (.tmp 1) rfl rfl ?_)
        | (refine store_S HZ0.out (rsOf_map _ HMAP.out) rfl (.tmp 2) (.tmp 11) rfl rfl rfl ?_; intro w1 hw1 hf1))
      refine bodyPost_ret (res_S1 rfl _ hw1 rfl) rfl ?_
      have hbel := (HT1.out.ret hf1).resolve_right (by rw [HN.out]; omega)
      exact ⟨rfl, hbel⟩

theorem child_rs0 (A : AS) : rsOf (.map none) (childA A 0) = rs0 := by
  unfold rsOf childA rs0
  congr 1
theorem child_rs (A : AS) (k : Nat) : rsOf (.map none) (childA A (k + 1)) = { rsOf (.map none) (childA A k) with kn := upd (rsOf (.map none) (childA A k)).kn k true, th := upd (rsOf (.map none) (childA A k)).th k (A.page k).isSome, ak := upd (rsOf (.map none) (childA A k)).ak k false, ch := upd (rsOf (.map none) (childA A k)).ch k (A.page k).isSome, bt := upd (rsOf (.map none) (childA A k)).bt k ⟨((A.page k).getD []).toArray⟩ } := by
  unfold rsOf childA
  congr 1
  · funext p
    show decide (p < k + 1) = upd (fun p => decide (p < k)) k true p
    by_cases e : p = k
    · rw [e, upd_at]; simp
    · rw [upd_ne _ _ _ _ e]; simp; omega
  · funext p
    show (if p < k + 1 then A.page p else none).isSome = upd (fun p => (if p < k then A.page p else none).isSome) k _ p
    by_cases e : p = k
    · rw [e, upd_at, if_pos (by omega)]
    · rw [upd_ne _ _ _ _ e]
      by_cases h : p < k
      · rw [if_pos h, if_pos (by omega)]
      · rw [if_neg h, if_neg (by omega)]
  · funext p
    by_cases e : p = k
    · rw [e, upd_at]
    · rw [upd_ne _ _ _ _ e]
  · funext p
    show (decide (p < k + 1) && (A.page p).isSome) = upd (fun p => decide (p < k) && (A.page p).isSome) k _ p
    by_cases e : p = k
    · rw [e, upd_at]; simp
    · rw [upd_ne _ _ _ _ e, show decide (p < k + 1) = decide (p < k) by simp; omega]
  · funext p
    show (⟨((if p < k + 1 then A.page p else none).getD []).toArray⟩ : ByteArray) = upd (fun p => ⟨((if p < k then A.page p else none).getD []).toArray⟩) k _ p
    by_cases e : p = k
    · rw [e, upd_at, if_pos (by omega)]
    · rw [upd_ne _ _ _ _ e]
      by_cases h : p < k
      · rw [if_pos h, if_pos (by omega)]
      · rw [if_neg h, if_neg (by omega)]
theorem info58 : (Try.prog.info? 58).map (·.size) = some 5 := by kernel_rfl
/-- A page of the reference's space is stored whole. -/
theorem SB.page {w : World} {b k : Nat} {r : RS} (h : SB w b r) (hk : k < 64) (v0 v1 v2 v3 : Bool) (v4 : ByteArray) :
    SB (w.setCells b (1 + k * 5) [.bool v0, .bool v1, .bool v2, .bool v3, .string v4]) b { r with kn := upd r.kn k v0, th := upd r.th k v1, ak := upd r.ak k v2, ch := upd r.ch k v3, bt := upd r.bt k v4 } ∧ Fr [b] w (w.setCells b (1 + k * 5) [.bool v0, .bool v1, .bool v2, .bool v3, .string v4]) := by
  refine ⟨((((h.kn hk v0).th hk v1).ak hk v2).ch hk v3).bt hk v4, ?_⟩
  exact (((((Fr.refl [b] w).setCell (p := ⟨b, 1 + k * 5, none⟩) (.inl (by simp)) _).setCell (p := ⟨b, 1 + k * 5 + 1, none⟩) (.inl (by simp)) _).setCell (p := ⟨b, 1 + k * 5 + 2, none⟩) (.inl (by simp)) _).setCell (p := ⟨b, 1 + k * 5 + 3, none⟩) (.inl (by simp)) _).setCell (p := ⟨b, 1 + k * 5 + 4, none⟩) (.inl (by simp)) _
theorem SB.there5 {w : World} {b k : Nat} {r : RS} (h : SB w b r) (hk : k < 64) : w.there b (1 + k * 5) 5 := fun j hj => by
  have hsz : (rsCells r).size = 321 := by show (rsL r).length = 321; exact rsL_length r
  refine ⟨?_, h.frozen _⟩
  rw [h.cell, Array.getElem?_eq_getElem (by omega)]; rfl
theorem res_S4 {w : World} {b c : Nat} {r s : RS} {fn : Func} {p q : Tmp} (hf : fn.results = #[.cell p 61, .cell q 61]) (tmps : Array Value) (h : SB w b r) (h' : SB w c s) (hp : tmps.getD p undef = .pointer (some ⟨b, 0, none⟩)) (hq : tmps.getD q undef = .pointer (some ⟨c, 0, none⟩)) : (results fn tmps).run Try.prog w = .ok (.tuple #[.agg (rsCells r), .agg (rsCells s)]) w := by
  have hl := run_loadVar_mid (P := Try.prog) w b 0 61 (rsL r) _ h.range Try.underlying61 rfl (by rw [rsL_length]; exact info61)
  have hl' := run_loadVar_mid (P := Try.prog) w c 0 61 (rsL s) _ h'.range Try.underlying61 rfl (by rw [rsL_length]; exact info61)
  have ha : ∀ b, (asAddr (.pointer (some ⟨b, 0, none⟩)) : Sem Addr).run Try.prog w = .ok ⟨b, 0, none⟩ w := fun _ => rfl
  have hp' : tmps[p]?.getD undef = .pointer (some ⟨b, 0, none⟩) := by rw [← hp, Array.getD_eq_getD_getElem?]
  have hq' : tmps[q]?.getD undef = .pointer (some ⟨c, 0, none⟩) := by rw [← hq, Array.getD_eq_getD_getElem?]
  simp only [results, hf]
  simp [Sem.run_bind, Result.andThen, hp', hq', ha, hl, hl']
  exact ⟨rfl, rfl⟩

set_option maxRecDepth 100000 in
set_option maxHeartbeats 8000000 in
theorem refFork_any (w : World) (m : Value) (a : AS) (hs : SrcIs w m a.src) (ha : AOk a) :
    Calls Try.prog 49 #[.agg (rsCells (rsOf m a))] w fun e w' => e = .returned (.tuple #[.agg (rsCells (rsOf m (needUp 64 a))), .agg (rsCells (rsOf (.map none) (childA (needUp 64 a) 64)))]) ∧ Below w.heap.size w w' := by
  have hz := z61
  have HMAP := Lib.hid hs.map
  have HT := Lib.hid (Two.new w (rsOf m a))
  have HS := Lib.hid hs
  have HA := Lib.hid ha
  clear hs ha
  obtain ⟨A, hA⟩ : ∃ A, A = needUp 64 a := ⟨_, rfl⟩
  have HALL := Lib.hid (fun W hs => refAll_any W m a hs HA.out)
  rw [← hA] at HALL ⊢
  clear hA
  have HC := Lib.hid (Blk.new_ (g := w.heap.size + 1 + 1) ((w.alloc (.cells (rsCells (rsOf m a)) 61)).alloc (.cells (rsCells rs0) 61)) 61 (rsCells rs0) (by simp))
  have HT0 := Lib.hid (HT.out.below (W' := ((w.alloc (.cells (rsCells (rsOf m a)) 61)).alloc (.cells (rsCells rs0) 61)).alloc (.cells (rsCells rs0) 61)) ((Below.refl _ _).alloc (Nat.le_refl _) _))
  have HT := HT0
  clear HT0
  go_enter Try.func49, Try.ntmps49
  go_upto_region 1 with (fail)
  generalize (((w.alloc (.cells (rsCells (rsOf m a)) 61)).alloc (.cells (rsCells rs0) 61)).alloc (.cells (rsCells rs0) 61)) = W0 at *
  clear hz
  obtain ⟨k, hk⟩ : ∃ k, k = w.heap.size := ⟨_, rfl⟩
  rw [← hk] at HT HC ⊢
  have HN := Lib.hid hk
  have hkl := HC.out.lt
  clear hk
  have HAL := Lib.hid (HALL.out W0 (HS.out.two HT.out HN.out))
  go_wp2_with (with_reducible refine load_S HT.out.s rfl (.tmp 1) rfl rfl ?_)
  refine HAL.out.mono ?_
  rintro e w2 ⟨rfl, nb⟩
  obtain ⟨r0, hz0⟩ := (HT.out.below nb).z
  have HZ0 := Lib.hid hz0
  have HC2 := Lib.hid (HC.out.below nb HC.out.lt)
  have HB2 := Lib.hid (show Below k w w2 from (HT.out.below nb).b)
  have hlt2 := HC2.out.lt
  clear nb HAL hz0
  dsimp only
  go_upto_region 2 with (refine store_S HZ0.out (rsOf_map A HMAP.out) rfl (.tmp 2) (.tmp 6) rfl rfl rfl ?_; intro w3 hw3 hf3)
  have HO3 := Lib.hid hw3
  have HC3 := Lib.hid (HC2.out.fr hf3 (by simp))
  have HB3 := Lib.hid (HB2.out.trans (hf3.below (by omega) (by simp)))
  clear hw3 hf3
  go_wp2_with fail
  go_loopg [4] 64 (fun q iv wr => ∃ i : Nat, iv = .int .i64 i ∧ q = 64 - i ∧ i ≤ 64 ∧ SB wr (k + 1) (rsOf m A) ∧ SB wr (k + 1 + 1) (rsOf (.map none) (childA A i)) ∧ Below k w wr)
  case atStart => exact ⟨0, rfl, rfl, by omega, HO3.out, by rw [child_rs0]; exact HC3.out, HB3.out⟩
  case round =>
    obtain ⟨i, rfl, rfl, hi, ho4, hc4, hb4⟩ := hrel
    have HO4 := Lib.hid ho4.drew
    have HC4 := Lib.hid hc4.drew
    have HB4 := Lib.hid hb4.drew
    have hlt4 : k + 1 + 1 < wr.drew.heap.size := hc4.lt
    have hlt4' : k + 1 + 1 < wr.heap.size := hc4.lt
    by_cases hlt : i < 64
    · have i1 : (i : Int) < 64 := by omega
      have cth : wr.drew.cell? ⟨k + 1, 1 + i * 5 + 1, none⟩ = some (.bool (A.page i).isSome) := SB.c_th HO4.out hlt
      have cbt : wr.drew.cell? ⟨k + 1, 1 + i * 5 + 4, none⟩ = some (.string ⟨((A.page i).getD []).toArray⟩) := SB.c_bt HO4.out hlt
      have HCR := Lib.hid (child_rs A i)
      generalize (A.page i).isSome = h1 at *
      generalize (⟨((A.page i).getD []).toArray⟩ : ByteArray) = h2 at *
      clear ho4 hc4 hb4
      go_wp2_with fail
      refine wp_region_mixL (fun W => W.cell? ⟨k + 1, 1 + i * 5 + 1, none⟩ = some (.bool h1) ∧ W.cell? ⟨k + 1, 1 + i * 5 + 4, none⟩ = some (.string h2)) [0, 1, 2, 3, 4, 5, 6, 7, 8, 9, 10, 11, 12, 13, 14, 15, 16, 17, 18, 19] [19] [0, 1, 2, 3, 4, 5, 6, 7, 8, 9, 10, 11, 12, 13, 14, 15, 16, 17, 18, 19] (by kernel_rfl) (by kernel_rfl) ⟨cth, cbt⟩ ?_
      simp only [inOrder, opAt]
      generalize wr.drew = W4 at *
      iterate 19
        (refine wpMixS_read (v := ?_) rfl rfl (fun w' hS => ?_) ?_
         rotate_left
         · ((try (obtain ⟨s0, s1⟩ := hS rfl)); (try clear hS); go_simp; (try with_reducible rfl))
         try simp only [Act.put, List.setIfInBounds_toArray, List.set_cons_zero, List.set_cons_succ])
      have hpage := SB.page HC4.out hlt true h1 false h1 h2
      rw [← HCR.out] at hpage
      refine wpMixS_eff rfl rfl (fun K hK => ?_)
      refine wp_store_mid 58 (.tmp 29) (.tmp 27) rfl (k + 1 + 1) (1 + i * 5) #[.bool true, .bool h1, .bool false, .bool h1, .string h2] rfl rfl (SB.there5 HC4.out hlt) info58 (by simp [Value.oneCell']) ?_
      have HF4 := Lib.hid hpage
      clear hpage
      generalize W4.setCells (k + 1 + 1) (1 + i * 5) (#[.bool true, .bool h1, .bool false, .bool h1, .string h2] : Array Value).toList = W5 at *
      have HO5 := Lib.hid (HO4.out.fr HF4.out.2 (by simp))
      refine hK.out _ _ _ (fun _ h => h) (fun h => ⟨(HF4.out.2.cell (by show k + 1 < _; omega) (by simp)).trans cth, (HF4.out.2.cell (by show k + 1 < _; omega) (by simp)).trans cbt⟩) ?_
      clear hK K
      try simp only [Act.put]
      refine wpMixS_nil ?_
      go_wp2_with fail
      go_roundg (64 - (i + 1))
      case measure => omega
      case rel => exact ⟨i + 1, by go_num, rfl, by omega, HO5.out, HF4.out.1, HB4.out.trans (HF4.out.2.below (by omega) (by simp; omega))⟩
    · obtain rfl : i = 64 := by omega
      have i1 : decide (((64 : Nat) : Int) < 64) = false := by decide
      clear ho4 hc4 hb4
      go_wp2_with fail
      refine wp_region_mixL (fun W => W.rangeAt (k + 1) 0 (rsL (rsOf m A)) ∧ W.rangeAt (k + 1 + 1) 0 (rsL (rsOf (.map none) (childA A 64)))) [0, 1, 2] [2, 3] [0, 1, 2, 3] (by kernel_rfl) (by kernel_rfl) ⟨SB.range HO4.out, SB.range HC4.out⟩ ?_
      simp only [inOrder, opAt]
      generalize wr.drew = W4 at *
      refine mix_load_S rfl rfl (.tmp 2) rfl rfl (fun w' hS => (hS rfl).1) ?_
      try simp only [Act.put, List.setIfInBounds_toArray, List.set_cons_zero, List.set_cons_succ]
      refine mix_load_S rfl rfl (.tmp 3) rfl rfl (fun w' hS => (hS rfl).2) ?_
      try simp only [Act.put, List.setIfInBounds_toArray, List.set_cons_zero, List.set_cons_succ]
      refine wpMixS_eff rfl rfl (fun K hK => ?_)
      refine wp_store_S HO4.out (rsOf_map A HMAP.out) (.tmp 2) (.tmp 30) rfl rfl rfl ?_
      intro w5 hw5 hf5
      have HC5 := Lib.hid (HC4.out.fr hf5 (by simp))
      refine hK.out _ _ _ (fun _ h => h) (fun h => ⟨SB.range hw5, SB.range HC5.out⟩) ?_
      clear hK K
      try simp only [Act.put]
      refine wpMixS_eff rfl rfl (fun K hK => ?_)
      refine wp_store_S HC5.out ⟨none, rfl⟩ (.tmp 3) (.tmp 31) rfl rfl rfl ?_
      intro w6 hw6 hf6
      have HO6 := Lib.hid (Blk.fr hw5 hf6 (by simp))
      refine hK.out _ _ _ (fun _ h => h) (fun h => by cases h) ?_
      clear hK K
      try simp only [Act.put]
      refine wpMixS_nil ?_
      go_wp2_with fail
      refine bodyPost_ret (res_S4 rfl _ HO6.out hw6 rfl rfl) rfl ?_
      have hbel : Below k w w6 := (HB4.out.trans (hf5.below (by omega) (by simp))).trans (hf6.below (by have := hf5.size; omega) (by simp; omega))
      rw [HN.out] at hbel
      exact ⟨rfl, hbel⟩
end Go.Proofs.Ytbppafbdmdbdiaa

/-
  Walks: Word, Page.
-/
namespace Go.Proofs.Ytbppafbdmdbdiaa
open Go.RowKit
set_option linter.unusedVariables false

def PageK (e : Ending) (r : List UInt8 × Nat) : Sp → Pages → Prop := fun _ _ => e = .returned (.tuple #[.string ⟨r.1.toArray⟩, .int .i64 r.2])
/-- Page. -/
def pageA (a : AS) (p : Int) : AS × List UInt8 × Nat :=
  if p < 0 ∨ 64 ≤ p then (a, [], 2) else match (needA a p.toNat).page p.toNat with | none => (needA a p.toNat, [], 8) | some b => (needA a p.toNat, b, 0)
section
variable {C : Source} {B : Nat} {w w' : World} {sps : Nat → Option Sp} {hm : Pages} {g : Nat} {s : Sp}
set_option maxRecDepth 100000 in
set_option maxHeartbeats 8000000 in
theorem page_all (ok : SourceOk C B) (h : All C B w sps hm) (hg : sps g = some s) (p : Int) (hB : B ≤ w.heap.size) :
    Calls Try.prog 28 #[.pointer (some ⟨g, 0, none⟩), .int .i64 p] w fun e w' => Stp C B sps hm g (pageA (view C hm s) p).1 w w' (PageK e (pageA (view C hm s) p).2) := by
  have hq := ptr23_some
  by_cases hp : 0 ≤ p ∧ p < 64
  · have hpb : Hid (pageB p = true) := Lib.hid (decide_eq_true hp)
    obtain ⟨n, rfl⟩ : ∃ n : Nat, p = n := ⟨p.toNat, by omega⟩
    have hn : n < 64 := by omega
    have hr : pageA (view C hm s) n = match (needA (view C hm s) n).page n with | none => (needA (view C hm s) n, [], 8) | some b => (needA (view C hm s) n, b, 0) := by unfold pageA; rw [if_neg (by omega), Int.toNat_natCast]
    obtain ⟨R, hR⟩ : ∃ R, R = pageA (view C hm s) n := ⟨_, rfl⟩
    rw [← hR]
    rw [hr] at hR
    have HR := Lib.hid hR
    have HN := Lib.hid (need_all ok h hg n hn hB)
    clear hr hR hp
    go_enter Try.func28, Try.ntmps28
    go_wp2_with fail
    refine (isPage_any _ _).mono ?_
    rintro e w' ⟨rfl, rfl⟩
    rw [hpb.out]
    dsimp only
    go_wp2_with fail
    refine HN.out.mono ?_
    rintro e w2 ⟨s2, hm2, hA2, hv2, ho2, hmv2, rfl⟩
    have hgr2 : upd sps g (some s2) g = some s2 := upd_at _ _ _
    have HA2 := Lib.hid hA2
    have HV2 := Lib.hid hv2
    have HO2 := Lib.hid ho2
    have HMV2 := Lib.hid hmv2
    clear hA2 hv2 ho2 hmv2 HN hgr2
    unfold ptrV
    cases hpg : s2.pg n with
    | none =>
      have hr2 : R = (needA (view C hm s) n, [], 8) := by
        rw [HR.out]
        have : (needA (view C hm s) n).page n = none := by rw [← HV2.out]; show pageOf hm2 (s2.pg n) = none; rw [hpg]; rfl
        rw [this]
      have HRF := Lib.hid hr2
      have hq2 := nil_eql
      clear hr2 hpg
      simp only [Option.map_none]
      go_wp2_with fail
      go_ret2
      exact ⟨s2, hm2, HA2.out, by rw [HRF.out]; exact HV2.out, HO2.out, HMV2.out, by rw [HRF.out]; rfl⟩
    | some r =>
      obtain ⟨⟨b0, sh0⟩, hmr⟩ := HA2.out.ref g s2 (upd_at _ _ _) n r hpg
      have hr2 : R = (needA (view C hm s) n, b0, 0) := by
        rw [HR.out]
        have : (needA (view C hm s) n).page n = some b0 := by
          rw [← HV2.out]; show pageOf hm2 (s2.pg n) = _; rw [hpg]; show (hm2 r).map _ = _; rw [hmr]; rfl
        rw [this]
      have HRF := Lib.hid hr2
      have hq2 := ptr_eql2
      obtain ⟨hl, hbr, _⟩ := HA2.out.mem r b0 sh0 hmr
      have hconv : (convert 27 9 (.slice (some ⟨r, 0, none⟩) 64 64)).run Try.prog w2 = .ok (.string ⟨b0.toArray⟩) w2 := by
        refine run_convert_string (B := w2.heap.size) Try.underlying27 Try.underlying5 Try.underlying9 ⟨some ⟨r, 0, none⟩, 64, by rw [hl], by omega, by unfold maxLen; omega, by rw [bs_length]; omega, fun _ => ⟨_, rfl, hbr.lt, fun j u hu => ?_⟩⟩
        rw [add_at0]
        have := held_range w2 r b0 sh0 hbr j u hu
        rw [Nat.zero_add] at this
        exact this
      clear hr2 hpg hmr hl hbr
      simp only [Option.map_some]
      go_wp2_with fail
      go_ret2
      exact ⟨s2, hm2, HA2.out, by rw [HRF.out]; exact HV2.out, HO2.out, HMV2.out, by rw [HRF.out]; rfl⟩
  · have hpb : Hid (pageB p = false) := Lib.hid (decide_eq_false hp)
    have hr : pageA (view C hm s) p = (view C hm s, [], 2) := by unfold pageA; rw [if_pos (by omega)]
    rw [hr]
    have HS := Lib.hid (fun e (he : PageK e ([], 2) s hm) => Stp.self h hg he)
    clear hr hp
    go_enter Try.func28, Try.ntmps28
    go_wp2_with fail
    refine (isPage_any _ _).mono ?_
    rintro e w' ⟨rfl, rfl⟩
    rw [hpb.out]
    dsimp only
    go_wp2_with fail
    go_ret2
    exact HS.out _ rfl

theorem load4 (a : AS) (x : Int) : ((loadA a x 4).2.2 = 0 → ∃ b0 b1 b2 b3, (loadA a x 4).2.1 = [b0, b1, b2, b3]) ∧ ((loadA a x 4).2.2 ≠ 0 → (loadA a x 4).2.1 = []) := by
  unfold loadA
  rw [if_neg (by omega)]
  refine ⟨fun h => ?_, fun h => ?_⟩
  · have h' : (accessA a x 4).2 = 0 := h
    show ∃ b0 b1 b2 b3, (if (accessA a x 4).2 = 0 then bytesA (accessA a x 4).1 x.toNat (4 : Int).toNat else []) = _
    rw [if_pos h']
    exact ⟨_, _, _, _, rfl⟩
  · have h' : ¬ (accessA a x 4).2 = 0 := h
    show (if (accessA a x 4).2 = 0 then bytesA (accessA a x 4).1 x.toNat (4 : Int).toNat else []) = _
    rw [if_neg h']
/-- The number in bytes, the least significant one first. -/
def leV : List UInt8 → Nat
  | [] => 0
  | b :: l => b.toNat + 256 * leV l
def WordK (e : Ending) (l : List UInt8) (r : Nat) : Sp → Pages → Prop := fun _ _ => e = .returned (.tuple #[.int .u32 (leV l), .int .i64 r])

set_option maxRecDepth 100000 in
set_option maxHeartbeats 8000000 in
theorem word_all (ok : SourceOk C B) (h : All C B w sps hm) (hg : sps g = some s) (at_ : Int) (ha1 : -9223372036854775808 ≤ at_) (ha2 : at_ ≤ 9223372036854775807) (hB : B ≤ w.heap.size) :
    Calls Try.prog 32 #[.pointer (some ⟨g, 0, none⟩), .int .i64 at_] w fun e w' => Stp C B sps hm g (loadA (view C hm s) at_ 4).1 w w' (WordK e (loadA (view C hm s) at_ 4).2.1 (loadA (view C hm s) at_ 4).2.2) := by
  have HL := Lib.hid (load_all ok h hg at_ 4 (by omega) ha1 ha2 hB)
  have HK := Lib.hid (load4 (view C hm s) at_)
  generalize loadA (view C hm s) at_ 4 = R at *
  obtain ⟨a', l, r⟩ := R
  dsimp only at HL HK ⊢
  go_enter Try.func32, Try.ntmps32
  go_wp2_with fail
  refine HL.out.mono ?_
  rintro e w1 ⟨s1, hm1, hA1, hv1, ho1, hmv1, rfl⟩
  have HA1 := Lib.hid hA1
  have HV1 := Lib.hid hv1
  have HO1 := Lib.hid ho1
  have HMV1 := Lib.hid hmv1
  clear hA1 hv1 ho1 hmv1 HL
  by_cases hr : r = 0
  · subst hr
    obtain ⟨b0, b1, b2, b3, rfl⟩ := HK.out.1 rfl
    dsimp only
    have h0 := b0.toNat_lt
    have h1 := b1.toNat_lt
    have h2 := b2.toNat_lt
    have h3 := b3.toNat_lt
    go_wp2_with fail
    have HA2 := Lib.hid (HA1.out.below ok.keeps (Below.refl w1.heap.size w1).drew)
    have HMV2 : Hid (Mv B C.X w w1.drew) := Lib.hid HMV1.out.drew
    refine wp_region_mixL (fun _ => True) [0, 1, 2, 3, 4, 5, 6, 7, 8, 9, 10, 11, 12, 13, 14, 15, 16, 17] [] [0, 1, 2, 3, 4, 5, 6, 7, 8, 9, 10, 11, 12, 13, 14, 15, 16, 17, 18, 19] (by kernel_rfl) (by kernel_rfl) trivial ?_
    simp only [inOrder, opAt]
    generalize w1.drew = W1 at *
    iterate 20
      (refine wpMixS_read (v := ?_) rfl rfl (fun w' hS => ?_) ?_
       rotate_left
       · ((try clear hS); go_simp; (try with_reducible rfl))
       try simp only [Act.put, List.setIfInBounds_toArray, List.set_cons_zero, List.set_cons_succ])
    refine wpMixS_nil ?_
    go_wp2_with fail
    go_ret2
    refine ⟨s1, hm1, HA2.out, HV1.out, HO1.out, HMV2.out, ?_⟩
    show Ending.returned (.tuple #[.int .u32 (bits BinOp.or IntKind.u32 (bits BinOp.or IntKind.u32 (bits BinOp.or IntKind.u32 (IntKind.u32.wrap (b0.toNat : Int)) (IntKind.u32.wrap (IntKind.u32.wrap (b1.toNat : Int) * 256))) (IntKind.u32.wrap (IntKind.u32.wrap (b2.toNat : Int) * 65536))) (IntKind.u32.wrap (IntKind.u32.wrap (b3.toNat : Int) * 16777216))), .int .i64 ((0 : Nat) : Int)]) = _
    rw [IntWalk.u32_in (b0.toNat : Int) (by omega), IntWalk.u32_in (b1.toNat : Int) (by omega), IntWalk.u32_in (b2.toNat : Int) (by omega), IntWalk.u32_in (b3.toNat : Int) (by omega),
      IntWalk.u32_in ((b1.toNat : Int) * 256) (by omega), IntWalk.u32_in ((b2.toNat : Int) * 65536) (by omega), IntWalk.u32_in ((b3.toNat : Int) * 16777216) (by omega),
      u32_or8 (b0.toNat : Int) ((b1.toNat : Int) * 256) (by omega) (by omega) (by omega) (by omega) (by omega), u32_or16 ((b0.toNat : Int) + (b1.toNat : Int) * 256) ((b2.toNat : Int) * 65536) (by omega) (by omega) (by omega) (by omega) (by omega), u32_or24 ((b0.toNat : Int) + (b1.toNat : Int) * 256 + (b2.toNat : Int) * 65536) ((b3.toNat : Int) * 16777216) (by omega) (by omega) (by omega) (by omega) (by omega)]
    have hle : ((leV [b0, b1, b2, b3] : Nat) : Int) = (b0.toNat : Int) + (b1.toNat : Int) * 256 + (b2.toNat : Int) * 65536 + (b3.toNat : Int) * 16777216 := by
      show ((b0.toNat + 256 * (b1.toNat + 256 * (b2.toNat + 256 * (b3.toNat + 256 * 0))) : Nat) : Int) = _
      omega
    rw [← hle]
  · have hl := HK.out.2 hr
    subst hl
    have e2 : ((r : Int) != 0) = true := bne_iff_ne.2 (by omega)
    have e3 : ((r : Int) == 0) = false := beq_eq_false_iff_ne.2 (by omega)
    clear hr
    dsimp only
    go_wp2_with fail
    go_ret2
    exact ⟨s1, hm1, HA1.out, HV1.out, HO1.out, HMV1.out, rfl⟩
end
end Go.Proofs.Ytbppafbdmdbdiaa
