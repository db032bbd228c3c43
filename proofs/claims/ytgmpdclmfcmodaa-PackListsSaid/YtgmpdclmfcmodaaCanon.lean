/-
  Walks of the reference: Canonical.
-/
import Derived.Test.YtgmpdclmfcmodaaToks
namespace Go.Proofs.Ytgmpdclmfcmodaa
open Go.RowKit

theorem info57 : (Try.prog.info? 57).map (fun i => (i.zero, i.size, i.bytes)) = some (some (.agg #[.slice none 0 0, .int .i64 0, .int .i64 0]), 3, 40) := by kernel_rfl

theorem below_drewN {B : Nat} {a w : World} (h : Below B a w) (n : Nat) : Below B a (w.drewN n) := ⟨h.os, h.tape, h.output, h.size, h.block⟩

/-- A row of bytes of the call's own: its value, and its cells where there are any. -/
theorem own_text {w : World} {base n : Nat} {v : Value} {l : List UInt8} (h : w.ownsRow base 5 1 v n (bs l)) :
    ∃ A c tb, v = .slice A l.length c ∧ l.length ≤ c ∧ c ≤ maxLen ∧ (0 < l.length → A = some ⟨tb, 0, none⟩ ∧ tb < w.heap.size ∧ ∀ i, i < l.length → w.cell? ⟨tb, i, none⟩ = some (.int .u8 (l.getD i 0).toNat)) := by
  have hn : n = l.length := by have := h.1; rw [bs_length] at this; omega
  subst hn
  rcases h.2 with ⟨rfl, h0⟩ | ⟨g, cap, cur, rfl, hb, hh, h1, h2, _⟩
  · exact ⟨none, 0, 0, by rw [h0], by omega, by unfold maxLen; omega, fun h => by omega⟩
  · refine ⟨some ⟨g, 0, none⟩, cap, g, rfl, h1, h2, fun _ => ⟨rfl, (h.lt g rfl).2, fun i hi => ?_⟩⟩
    have := h.cellAt i (by omega)
    rw [this, bs_get, List.getElem?_eq_getElem hi]
    simp [hi]

set_option maxRecDepth 100000 in
set_option maxHeartbeats 8000000 in
/-- Canonical of the reference. -/
theorem rcanonical_any (w : World) (B : Nat) (vd vb : Value) (dict b : List UInt8) (hd : RdB w B vd dict) (hb : RdB w B vb b) (hB : B ≤ w.heap.size) (h1 : dict.length ≤ 1048576) (h2 : b.length ≤ 1048576) :
    Calls Try.prog 18 #[vd, vb] w fun e w' => ∃ v, e = .returned v ∧ RdT w' w'.heap.size v (Pk.can dict b) ∧ Below w.heap.size w w' := by
  obtain ⟨i0, hi, hz0, hz1, hz2⟩ := info_parts info5
  obtain ⟨i7, hi7, hz70, hz71, hz72⟩ := info_parts info57
  obtain ⟨A, cap, rfl, ca1, ca2, hra⟩ := hd
  obtain ⟨A', cap', rfl, cb1, cb2, hrb⟩ := hb
  go_enter Try.func18, Try.ntmps18
  go_wp2_with (first
    | (at_builtin; refine wpList_append_any _ rfl (.tmp 11) (.tmp 12) _ rfl w.heap.size 5 i0 _ 1 1 Try.underlying22 hi hz0 hz1 hz2 rfl (by omega) (.slice (some ⟨w.heap.size, 0, none⟩) 0 0) 0 [] rfl (World.ownsRow_made w _ _ (Nat.le_refl _) (by unfold maxLen; omega) rfl) B A dict.length cap (bs dict) rfl (hra.alloc hB _) (bs_one dict) (by unfold maxLen; omega) (by omega) (by simp) ?_; intro v1 w1 hown1 hgrow1 hat1; simp only [Nat.zero_add, List.nil_append] at hown1)
    | (at_builtin; refine wpList_append_any _ rfl (.tmp 13) (.tmp 14) _ rfl w.heap.size 5 i0 _ 1 1 Try.underlying22 hi hz0 hz1 hz2 rfl (by omega) v1 dict.length (bs dict) rfl hown1 B A' b.length cap' (bs b) rfl ((hrb.alloc hB _).grown hgrow1 (by simp; omega) (by simp [Value.ownBlock]; omega)) (bs_one b) (by unfold maxLen; omega) (by omega) (by have := hgrow1.size; simp at this; omega) ?_; intro v2 w2 hown2 hgrow2 hat2))
  have hs1 : w.heap.size ≤ w1.heap.size := by have := hgrow1.size; simp at this; omega
  have hbl2 : Below w.heap.size w w2 := (((Below.refl _ _).alloc (Nat.le_refl _) _).grown hgrow1 (by simp) (by simp [Value.ownBlock])).grown hgrow2 hs1 (fun k hk => (hown1.lt k hk).1)
  rw [← bs_append] at hown2
  obtain ⟨TA, tc, tb, rfl, ht1, ht2, htx⟩ := own_text hown2
  have hcan : Pk.canGo (dict ++ b) ((dict ++ b).length - dict.length) dict.length [] [] = Pk.can dict b := by
    unfold Pk.can
    rw [List.length_append, Nat.add_sub_cancel_left]
  have hll : (dict ++ b).length ≤ 2100000 := by rw [List.length_append]; omega
  have hdl : dict.length ≤ (dict ++ b).length := by rw [List.length_append]; omega
  clear hown1 hown2 hgrow1 hgrow2 hat1 hat2 hra hrb
  generalize dict ++ b = l at *
  have HCAN := Lib.hid hcan
  have HTX := Lib.hid htx
  clear hcan htx
  have hsz2 := hbl2.size
  have hbase : w2.heap.size ≤ w2.heap.size := Nat.le_refl _
  go_loopg [6, 7, 8] (l.length - dict.length) (fun n ov rv at_ wr => ∃ (i : Nat) (ts : List Pk.Tok) (q : List UInt8) (lvs : List Value) (RA OA : Option Addr) (rc oc : Nat), rv = .slice RA q.length rc ∧ ov = .slice OA ts.length oc ∧ at_ = .int .i64 i ∧ n = l.length - i ∧ dict.length ≤ i ∧ i ≤ l.length ∧
    q.length < 128 ∧ ts.length ≤ 2 * (i - dict.length) ∧ Pk.canGo l (l.length - i) i ts q = Pk.can dict b ∧ CanSt wr w2.heap.size ov rv lvs ts q ∧ Below w2.heap.size w2 wr)
  case atStart => exact ⟨dict.length, [], [], [], none, none, 0, 0, rfl, rfl, rfl, rfl, Nat.le_refl _, hdl, by simp, by simp, HCAN.out, CanSt.nil_ _ _, Below.refl _ _⟩
  case round =>
    obtain ⟨i, ts, q, lvs, RA, OA, rc, oc, rfl, rfl, rfl, rfl, hi1, hi2, hq1, htl, hgo, hst, hbl⟩ := hrel
    have HGO := Lib.hid hgo
    clear hgo
    have hszr := hbl.size
    by_cases hlt : i < l.length
    · obtain ⟨rfl, htbl, hcell⟩ := HTX.out (by omega)
      have hcell' : ∀ j, j < l.length → wr.cell? ⟨tb, j, none⟩ = some (.int .u8 (l.getD j 0).toNat) := fun j hj => by
        rw [hbl.cell htbl]; exact hcell j hj
      have HC := Lib.hid hcell'
      clear hcell hcell'
      go_wp2_with fail
      refine (rbest_any wr tb tc l i HC.out (by omega) hlt).mono ?_
      rintro e w3 ⟨rfl, nd, rfl⟩
      dsimp only
      have hst' : CanSt (wr.drewN nd) w2.heap.size (.slice OA ts.length oc) (.slice RA q.length rc) lvs ts q := hst.drewN nd
      by_cases h4 : 4 ≤ (Pk.best l i).1
      · have hgo2 := Lib.hid (Pk.canGo_match l i ts q hlt h4)
        have hbd := Pk.best_bounds l i h4
        have e4 : decide ((4 : Int) ≤ ((Pk.best l i).1 : Int)) = true := by simp; omega
        generalize (Pk.best l i).1 = n at *
        generalize (Pk.best l i).2 = d at *
        obtain ⟨b1, b2, b3, b4, b5⟩ := hbd
        by_cases hq0 : 0 < q.length
        · have e5 : decide ((0 : Int) < (q.length : Int)) = true := by simp; omega
          go_wp2_with (first
            | (at_builtin; refine wpList_append_lies _ rfl (.tmp 33) (.tmp 36) _ rfl w2.heap.size 57 i7 _ 3 40 Try.underlying30 hi7 hz70 hz71 hz72 rfl (by omega) (.slice OA ts.length oc) ts.length (tcells lvs ts) rfl (hst'.out.alloc _) ⟨wr.heap.size, 0, none⟩ 1 1 [.slice RA q.length rc, .int .i64 0, .int .i64 0] rfl rfl (World.news_of_block (cs := #[.slice RA q.length rc, .int .i64 0, .int .i64 0]) (t := 57) (fr := (0, 0)) (heap_alloc_new (wr.drewN nd) _)) (by simp [Value.oneCell']) (by omega) (by unfold maxLen; omega) (by omega) (by simp; omega) (wr.heap.size + 1) (by simp) ?_; intro gg oc2 w4 hown4 hgrow4 hat4 hlt4; have hsz4 := hgrow4.size; simp at hsz4)
            | (at_builtin; refine wpList_append_lies _ rfl (.tmp 38) (.tmp 42) _ rfl w2.heap.size 57 i7 _ 3 40 Try.underlying30 hi7 hz70 hz71 hz72 rfl (by omega) (.slice (some ⟨gg, 0, none⟩) (ts.length + 1) oc2) (ts.length + 1) _ rfl (hown4.alloc _) ⟨w4.heap.size, 0, none⟩ 1 1 [.slice none 0 0, .int .i64 d, .int .i64 n] rfl rfl (World.news_of_block (cs := #[.slice none 0 0, .int .i64 d, .int .i64 n]) (t := 57) (fr := (0, 0)) (heap_alloc_new w4 _)) (by simp [Value.oneCell']) (by omega) (by unfold maxLen; omega) (by omega) (by simp; omega) (w4.heap.size + 1) (by simp) ?_; intro gh oc3 w5 hown5 hgrow5 hat5 hlt5))
          have st4 := CanSt.push (t := ⟨q, 0, 0⟩) (rv' := .slice none 0 0) (q' := []) hst' hgrow4 hown4 hst'.run (World.ownsRow_nil _ _ _ _) (by simp [Value.ownBlock]) (by simp [Value.ownBlock])
          have st5 := CanSt.push (t := ⟨[], d, n⟩) (rv' := .slice none 0 0) (q' := []) (ov' := .slice (some ⟨gh, 0, none⟩) (ts.length + 1 + 1) oc3) st4 hgrow5 (by rw [tcells_snoc _ _ hst.len, List.length_append]; exact hown5) (World.ownsRow_nil _ _ _ _) (World.ownsRow_nil _ _ _ _) (by simp [Value.ownBlock]) (by simp [Value.ownBlock])
          have hrt : Pk.runTok q = [⟨q, 0, 0⟩] := by unfold Pk.runTok; rw [if_neg (by intro h; rw [h] at hq0; simp at hq0)]
          go_roundg (l.length - (i + n))
          case measure => omega
          case rel =>
            refine ⟨i + n, ts ++ [⟨q, 0, 0⟩] ++ [⟨[], d, n⟩], [], _, none, some ⟨gh, 0, none⟩, 0, oc3, rfl, by simp, by go_num, rfl, by omega, by omega, by simp, by simp; omega, ?_, st5, ?_⟩
            · have := hgo2.out
              rw [hrt] at this
              rw [← this]
              exact HGO.out
            · exact ((((below_drewN hbl nd).alloc hszr _).grown hgrow4 (by simp; omega) (fun k hk => (hst.out.lt k hk).1)).alloc (by omega) _).grown hgrow5 (by simp; omega) (fun k hk => (hown4.lt k hk).1)
        · have hq00 : q = [] := List.eq_nil_of_length_eq_zero (by omega)
          subst hq00
          go_wp2_with (at_builtin; refine wpList_append_lies _ rfl (.tmp 38) (.tmp 42) _ rfl w2.heap.size 57 i7 _ 3 40 Try.underlying30 hi7 hz70 hz71 hz72 rfl (by omega) (.slice OA ts.length oc) ts.length (tcells lvs ts) rfl (hst'.out.alloc _) ⟨wr.heap.size, 0, none⟩ 1 1 [.slice none 0 0, .int .i64 d, .int .i64 n] rfl rfl (World.news_of_block (cs := #[.slice none 0 0, .int .i64 d, .int .i64 n]) (t := 57) (fr := (0, 0)) (heap_alloc_new (wr.drewN nd) _)) (by simp [Value.oneCell']) (by omega) (by unfold maxLen; omega) (by omega) (by simp; omega) (wr.heap.size + 1) (by simp) ?_; intro gh oc3 w5 hown5 hgrow5 hat5 hlt5)
          have st5 := CanSt.push (t := ⟨[], d, n⟩) (rv' := .slice RA 0 rc) (q' := []) hst' hgrow5 hown5 (World.ownsRow_nil _ _ _ _) hst'.run (by simp [Value.ownBlock]) hst'.sep
          go_roundg (l.length - (i + n))
          case measure => omega
          case rel =>
            refine ⟨i + n, ts ++ [⟨[], d, n⟩], [], _, RA, some ⟨gh, 0, none⟩, rc, oc3, rfl, by simp, by go_num, rfl, by omega, by omega, by simp, by simp; omega, ?_, st5, ?_⟩
            · have := hgo2.out
              simp only [Pk.runTok, if_true, List.append_nil] at this
              rw [← this]
              exact HGO.out
            · exact ((below_drewN hbl nd).alloc hszr _).grown hgrow5 (by simp; omega) (fun k hk => (hst.out.lt k hk).1)
      · have hgo2 := Lib.hid (Pk.canGo_lit l i ts q hlt h4)
        have e4 : decide ((4 : Int) ≤ ((Pk.best l i).1 : Int)) = false := by simp; omega
        have hx := HC.out i hlt
        have i1 : (0 : Int) ≤ (i : Int) := by omega
        have i2 : (i : Int) < l.length := by omega
        generalize l.getD i 0 = x at *
        by_cases hq128 : q.length + 1 = 128
        · have e5 : (((q.length : Int) + 1) == 128) = true := beq_iff_eq.2 (by omega)
          have HQ := Lib.hid hq128
          clear hq128
          go_wp2_with (first
            | (at_builtin; refine wpList_append_lies _ rfl (.tmp 47) (.tmp 52) _ rfl w2.heap.size 5 i0 _ 1 1 Try.underlying22 hi hz0 hz1 hz2 rfl (by omega) (.slice RA q.length rc) q.length (bs q) rfl (hst'.run.alloc _) ⟨wr.heap.size, 0, none⟩ 1 1 [.int .u8 x.toNat] rfl rfl (World.news_of_block (t := 5) (fr := (0, 0)) (heap_alloc_new (wr.drewN nd) _)) (by simp [Value.oneCell']) (by omega) (by unfold maxLen; omega) (by omega) (by simp; omega) (wr.heap.size + 1) (by simp) ?_; intro gg rc2 w4 hown4 hgrow4 hat4 hlt4; have hsz4 := hgrow4.size; simp at hsz4; have st4 := CanSt.lit hst' hgrow4 hown4 (by rcases hat4 with h | h; exact .inl h; exact .inr ⟨gg, rfl, by simp; omega⟩))
            | (at_builtin; refine wpList_append_lies _ rfl (.tmp 59) (.tmp 62) _ rfl w2.heap.size 57 i7 _ 3 40 Try.underlying30 hi7 hz70 hz71 hz72 rfl (by omega) (.slice OA ts.length oc) ts.length (tcells lvs ts) rfl (st4.out.alloc _) ⟨w4.heap.size, 0, none⟩ 1 1 [.slice (some ⟨gg, 0, none⟩) (q.length + 1) rc2, .int .i64 0, .int .i64 0] rfl rfl (World.news_of_block (cs := #[.slice (some ⟨gg, 0, none⟩) (q.length + 1) rc2, .int .i64 0, .int .i64 0]) (t := 57) (fr := (0, 0)) (heap_alloc_new w4 _)) (by simp [Value.oneCell']) (by omega) (by unfold maxLen; omega) (by omega) (by simp; omega) (w4.heap.size + 1) (by simp) ?_; intro gh oc3 w5 hown5 hgrow5 hat5 hlt5))
          have st5 := CanSt.push (t := ⟨q ++ [x], 0, 0⟩) (lv := .slice (some ⟨gg, 0, none⟩) (q.length + 1) rc2) (rv' := .slice none 0 0) (q' := []) st4 hgrow5 hown5 (by simpa using st4.run) (World.ownsRow_nil _ _ _ _) (by simp [Value.ownBlock]) (by simp [Value.ownBlock])
          go_roundg (l.length - (i + 1))
          case measure => omega
          case rel =>
            refine ⟨i + 1, ts ++ [⟨q ++ [x], 0, 0⟩], [], _, none, some ⟨gh, 0, none⟩, 0, oc3, rfl, by simp, by go_num, rfl, by omega, by omega, by simp, by simp; omega, ?_, st5, ?_⟩
            · have := hgo2.out
              rw [if_pos HQ.out] at this
              rw [← this]
              exact HGO.out
            · exact ((((below_drewN hbl nd).alloc hszr _).grown hgrow4 (by simp; omega) (fun k hk => (hst.run.lt k hk).1)).alloc (by omega) _).grown hgrow5 (by simp; omega) (fun k hk => (hst.out.lt k hk).1)
        · have e5 : (((q.length : Int) + 1) == 128) = false := beq_eq_false_iff_ne.2 (by omega)
          have HQ := Lib.hid hq128
          clear hq128
          go_wp2_with (at_builtin; refine wpList_append_lies _ rfl (.tmp 47) (.tmp 52) _ rfl w2.heap.size 5 i0 _ 1 1 Try.underlying22 hi hz0 hz1 hz2 rfl (by omega) (.slice RA q.length rc) q.length (bs q) rfl (hst'.run.alloc _) ⟨wr.heap.size, 0, none⟩ 1 1 [.int .u8 x.toNat] rfl rfl (World.news_of_block (t := 5) (fr := (0, 0)) (heap_alloc_new (wr.drewN nd) _)) (by simp [Value.oneCell']) (by omega) (by unfold maxLen; omega) (by omega) (by simp; omega) (wr.heap.size + 1) (by simp) ?_; intro gg rc2 w4 hown4 hgrow4 hat4 hlt4; have hsz4 := hgrow4.size; simp at hsz4; have st4 := CanSt.lit hst' hgrow4 hown4 (by rcases hat4 with h | h; exact .inl h; exact .inr ⟨gg, rfl, by simp; omega⟩))
          go_roundg (l.length - (i + 1))
          case measure => omega
          case rel =>
            refine ⟨i + 1, ts, q ++ [x], lvs, some ⟨gg, 0, none⟩, OA, rc2, oc, by simp, rfl, by go_num, rfl, by omega, by omega, by have := HQ.out; simp; omega, by omega, ?_, by simpa using st4, ?_⟩
            · have := hgo2.out
              rw [if_neg HQ.out] at this
              rw [← this]
              exact HGO.out
            · exact ((below_drewN hbl nd).alloc hszr _).grown hgrow4 (by simp; omega) (fun k hk => (hst.run.lt k hk).1)
    · have hend := Lib.hid (Pk.canGo_end l (l.length - i) i ts q (by omega))
      by_cases hq0 : 0 < q.length
      · have e5 : decide ((0 : Int) < (q.length : Int)) = true := by simp; omega
        go_wp2_with (at_builtin; refine wpList_append_lies _ rfl (.tmp 67) (.tmp 70) _ rfl w2.heap.size 57 i7 _ 3 40 Try.underlying30 hi7 hz70 hz71 hz72 rfl (by omega) (.slice OA ts.length oc) ts.length (tcells lvs ts) rfl (hst.out.alloc _) ⟨wr.heap.size, 0, none⟩ 1 1 [.slice RA q.length rc, .int .i64 0, .int .i64 0] rfl rfl (World.news_of_block (cs := #[.slice RA q.length rc, .int .i64 0, .int .i64 0]) (t := 57) (fr := (0, 0)) (heap_alloc_new wr _)) (by simp [Value.oneCell']) (by omega) (by unfold maxLen; omega) (by omega) (by simp; omega) (wr.heap.size + 1) (by simp) ?_; intro gg oc2 w4 hown4 hgrow4 hat4 hlt4)
        have st4 := CanSt.push (t := ⟨q, 0, 0⟩) (rv' := .slice none 0 0) (q' := []) hst hgrow4 hown4 hst.run (World.ownsRow_nil _ _ _ _) (by simp [Value.ownBlock]) (by simp [Value.ownBlock])
        have hrt : Pk.runTok q = [⟨q, 0, 0⟩] := by unfold Pk.runTok; rw [if_neg (by intro h; rw [h] at hq0; simp at hq0)]
        go_ret
        refine ⟨_, rfl, ?_, hbl2.trans (((hbl.alloc hszr _).grown hgrow4 (by simp; omega) (fun k hk => (hst.out.lt k hk).1)).mono hsz2)⟩
        have := hend.out
        rw [HGO.out, hrt] at this
        rw [this]
        exact st4.reads
      · have hq00 : q = [] := List.eq_nil_of_length_eq_zero (by omega)
        subst hq00
        go_wp2_with fail
        go_ret
        refine ⟨_, rfl, ?_, hbl2.trans (hbl.mono hsz2)⟩
        have := hend.out
        rw [HGO.out] at this
        simp only [Pk.runTok, if_true, List.append_nil] at this
        rw [this]
        exact hst.reads
end Go.Proofs.Ytgmpdclmfcmodaa
