/-
  Walks: PackWith and Pack.
-/
import Derived.Test.YtgmpdclmfcmodaaWriter
import Derived.Test.YtgmpdclmfcmodaaMem2
namespace Go.Proofs.Ytgmpdclmfcmodaa
open Go.RowKit

theorem packWith_long (w : World) (B : Nat) (vd vb : Value) (dict b : List UInt8) (hd : RdB w B vd dict) (hb : RdB w B vb b) (h : 1048576 < dict.length ∨ 1048576 < b.length) :
    Calls Try.prog 14 #[vd, vb] w fun e w' => e = .returned (.tuple #[.slice none 0 0, .int .i64 5]) ∧ w = w' := by
  obtain ⟨A, cap, rfl, _⟩ := hd
  obtain ⟨A', cap', rfl, _⟩ := hb
  by_cases h1 : 1048576 < dict.length
  · have e1 : decide ((1048576 : Int) < dict.length) = true := by simp; omega
    go_enter Try.func14, Try.ntmps14
    go_wp2_with fail
    go_ret2
    exact ⟨rfl, rfl⟩
  · have e1 : decide ((1048576 : Int) < dict.length) = false := by simp; omega
    have e2 : decide ((1048576 : Int) < b.length) = true := by simp; omega
    go_enter Try.func14, Try.ntmps14
    go_wp2_with fail
    go_ret2
    exact ⟨rfl, rfl⟩

/-- The finder, while other blocks are written. -/
theorem Fin.below {w w' : World} {g tb bb mb B k : Nat} {l : List UInt8} (h : Fin w g tb bb mb l k) (hb : Below B w w') (h1 : g < B) (h2 : tb < B) (h3 : bb < B) (h4 : mb < B) : Fin w' g tb bb mb l k := by
  obtain ⟨cap, cap2, tc, bc, m, a1, c1, c2, c3, c4, a2, a3, a4, a5, a6, a7, a8⟩ := h
  exact ⟨cap, cap2, tc, bc, m, a1.below hb h1, c1, c2, c3, c4, a2.below hb h2, a3, a4.below hb h3, a5, a6, a7.keep (hb.block mb h4), a8⟩

/-- The writer, while blocks below its own are written. -/
theorem Wr.fr {w w' : World} {base g : Nat} {p q : List UInt8} {L : List Nat} (h : Wr w base g p q) (hf : Fr L w w') (hL : ∀ x ∈ L, x < base) : Wr w' base g p q := by
  obtain ⟨pv, qv, a1, a2, a3, a4, a5⟩ := h
  refine ⟨pv, qv, a1.fr hf (fun hm => by have := hL g hm; omega), own_fr a2 hf (fun b hb hm => ?_), own_fr a3 hf (fun b hb hm => ?_), a4, a5⟩
  · have := (a2.lt b hb).1; have := hL b hm; omega
  · have := (a3.lt b hb).1; have := hL b hm; omega

/-- The block of an owned row. -/
theorem own_block {w : World} {base e n g cap : Nat} {l : List UInt8} (h : w.ownsRow base e 1 (.slice (some ⟨g, 0, none⟩) n cap) n (bs l)) :
    ∃ tc, Blk w g e tc ∧ n = l.length ∧ n ≤ cap ∧ cap ≤ maxLen ∧ ∀ i, i < l.length → tc[i]? = some (.int .u8 (l.getD i 0).toNat) := by
  have hn : n = l.length := by have := h.1; rw [bs_length] at this; omega
  rcases h.2 with ⟨h, _⟩ | ⟨g', c', cur, hv, _, hh, h1, h2, h3, h4⟩
  · cases h
  · injection hv with e1 _ e3
    injection e1 with e1
    injection e1 with e1
    subst e1 e3
    refine ⟨cur, hh, hn, h1, h2, fun i hi => ?_⟩
    have h5 := congrArg (fun x => x[i]?) h4
    simp only [Nat.mul_one, bs_get] at h5
    rw [List.getElem?_take_of_lt (by omega), List.getElem?_eq_getElem hi] at h5
    rw [← Array.getElem?_toList, h5]
    simp [hi]

set_option maxRecDepth 100000 in
set_option maxHeartbeats 4000000 in
theorem packWith_own (w : World) (B : Nat) (vd vb : Value) (dict b : List UInt8) (hd : RdB w B vd dict) (hb : RdB w B vb b) (hB : B ≤ w.heap.size) (h1 : dict.length ≤ 1048576) (h2 : b.length ≤ 1048576) :
    Calls Try.prog 14 #[vd, vb] w fun e w' => ∃ v, e = .returned (.tuple #[v, .int .i64 0]) ∧ w'.ownsRow w.heap.size 5 1 v (Pk.pack dict b).length (bs (Pk.pack dict b)) ∧ Below w.heap.size w w' := by
  obtain ⟨i0, hi, hz0, hz1, hz2⟩ := info_parts info5
  have hnear := Pk.pack_near dict b
  have hd0 := hd
  have hb0 := hb
  obtain ⟨A, cap, rfl, ca1, ca2, _⟩ := hd
  obtain ⟨A', cap', rfl, cb1, cb2, hrb⟩ := hb
  have e1 : decide ((1048576 : Int) < dict.length) = false := by simp; omega
  have e2 : decide ((1048576 : Int) < b.length) = false := by simp; omega
  have e3 : (if (4096 : Int) < (dict.length : Int) then (dict.length : Int) - 4096 else 0) = ((dict.length - 4096 : Nat) : Int) := by split <;> omega
  obtain ⟨nA, nc, hsl, hrn⟩ := slice_from Try.underlying22 hi hz1 hd0 (dict.length - 4096) (by omega) .i64
  generalize hs : dict.length - 4096 = s at *
  have HS := Lib.hid hs
  clear hs
  have hnl : (dict.drop s).length = dict.length - s := List.length_drop
  generalize hne : dict.drop s = near at *
  have HNE := Lib.hid hne
  clear hne
  have hsl' := fun W => hsl W
  rw [← hnl] at hsl' hrn hnear
  have HNL := Lib.hid hnl
  clear hnl hsl
  have hrn2 : Reads w B 1 nA near.length (bs near) := by
    obtain ⟨_, _, hv, _, _, h⟩ := hrn
    injection hv with e1 _ e3
    subst e1
    exact h
  have hnd : near.length ≤ 4096 := by have := HNL.out; have := HS.out; omega
  have hmk : ∀ W : World, (Instr.makeSlice 22 (.int .i64 0) (.int .i64 ((near.length : Int) + b.length))).run Try.prog W = .ok (.slice (some ⟨W.heap.size, 0, none⟩) 0 (near.length + b.length)) (W.alloc (.cells (madeCells #[.int .u8 0] (near.length + b.length)) 5)) := by
    intro W
    have := run_make (P := Try.prog) W 22 5 i0 (.int .u8 0) Try.underlying22 hi hz0 .i64 .i64 0 ((near.length : Int) + b.length) (by omega) (by omega) (by rw [hz2]; omega) (by omega)
    rw [this, hz1]
    simp [Value.cells, show ((near.length : Int) + b.length).toNat = near.length + b.length by omega]
  have hml : near.length + b.length ≤ maxLen := by unfold maxLen; omega
  go_enter Try.func14, Try.ntmps14
  go_wp2_with (first
    | (at_builtin; refine wpList_append_room_any _ rfl (.tmp 31) (.tmp 32) _ rfl w.heap.size 5 i0 1 Try.underlying22 hi hz1 w.heap.size 0 (near.length + b.length) [] rfl (World.ownsRow_made w _ _ (Nat.le_refl _) hml (by simp [madeCells])) B nA near.length nc (bs near) rfl (hrn2.alloc hB _) (bs_one near) (by omega) ?_; intro w1 hown1 hgrow1; simp only [Nat.zero_add, List.nil_append] at hown1)
    | (at_builtin; refine wpList_append_room_any _ rfl (.tmp 33) (.tmp 34) _ rfl w.heap.size 5 i0 1 Try.underlying22 hi hz1 w.heap.size near.length (near.length + b.length) (bs near) rfl hown1 B A' b.length cap' (bs b) rfl ((hrb.alloc hB _).grown hgrow1 (by simp; omega) (by simp; omega)) (bs_one b) (by omega) ?_; intro w2 hown2 hgrow2))
  have hb1 : Below w.heap.size w w2 := (((Below.refl _ _).alloc (Nat.le_refl _) _).grown hgrow1 (by simp) (by simp)).grown hgrow2 (by have := hgrow1.size; simp at this; omega) (by simp)
  rw [← bs_append] at hown2
  obtain ⟨tc, htb, _, hc1, hc2, ht⟩ := own_block hown2
  have hll : (near ++ b).length = near.length + b.length := List.length_append
  have hcall := newFinder_any w2 w.heap.size (near.length + b.length) (near ++ b) tc (by omega) (by omega) hml htb ht
  rw [hll] at hcall
  refine hcall.mono ?_
  clear hcall
  rintro e w3 ⟨gf, bb, mb, rfl, hfin, hfr, q1, q2, q3⟩
  dsimp only
  have hsz3 := hfr.size
  have htl := htb.lt
  have hlt3 : gf < w3.heap.size ∧ bb < w3.heap.size ∧ mb < w3.heap.size := by
    obtain ⟨_, _, _, _, _, h, _, _, _, _, _, _, h3, _, _, h4, _⟩ := hfin
    exact ⟨h.lt, h3.lt, h4.lt⟩
  have hb3 : Below w.heap.size w w3 := hb1.trans (hfr.below (by omega) (by simp))
  have htot : near.length ≤ (near ++ b).length := by omega
  have hnear2 := hnear
  rw [show b.length = (near ++ b).length - near.length by omega] at hnear2
  have HTOT := Lib.hid hnear2
  have HLL := Lib.hid hll
  clear hnear hnear2 hll hgrow1 hgrow2 hown1 hown2 htb ht hfr hd0 hrn hrn2 hsl' hb0 hrb e3
  generalize hgl : near ++ b = l at *
  clear hgl
  go_wp2_with fail
  refine wp_forget (fun W => Fin W gf w.heap.size bb mb l 0 ∧ Wr W w3.heap.size w3.heap.size [] [] ∧ Below w.heap.size w W ∧ w3.heap.size ≤ W.heap.size) ?_ ?_
  · have hal : Below w3.heap.size w3 (w3.alloc (.cells #[.slice none 0 0, .slice none 0 0] 65)) := (Below.refl _ _).alloc (Nat.le_refl _) _
    refine ⟨hfin.below hal hlt3.1 (by omega) hlt3.2.1 hlt3.2.2, ⟨.slice none 0 0, .slice none 0 0, Blk.new _ _ _, World.ownsRow_nil _ _ _ _, World.ownsRow_nil _ _ _ _, by simp [Value.ownBlock], Nat.le_refl _⟩, hb3.trans (hal.mono (by omega)), hal.size⟩
  have hwb : w.heap.size ≤ w3.heap.size := hb3.size
  generalize hbase : w3.heap.size = base at *
  have htb : w.heap.size < base := by omega
  clear hfin hb3 hbase
  rintro w5 ⟨hfin, hwr, hbl, hsz⟩
  go_loopg [9] (l.length - near.length) (fun n at_ wr => ∃ (i : Nat) (p q : List UInt8), at_ = .int .i64 i ∧ n = l.length - i ∧ near.length ≤ i ∧ i ≤ l.length ∧ q.length < 128 ∧ p.length + 2 * q.length ≤ 2 * (i - near.length) ∧
    Pk.packGo l (l.length - i) i p q = Pk.pack dict b ∧ (∃ k, k ≤ i ∧ Fin wr gf w.heap.size bb mb l k) ∧ Wr wr base base p q ∧ Below w.heap.size w wr ∧ base ≤ wr.heap.size)
  case atStart => exact ⟨near.length, [], [], rfl, rfl, Nat.le_refl _, htot, by simp, by simp, HTOT.out, ⟨0, by omega, hfin⟩, hwr, hbl, hsz⟩
  case round =>
    clear hfin hwr hbl hsz
    obtain ⟨i, p, q, rfl, rfl, hi1, hi2, hq1, hpq, hgo, ⟨k, hk, hfin⟩, hwr, hbl, hsz⟩ := hrel
    have HGO := Lib.hid hgo
    clear hgo
    have hlb : l.length ≤ 1100000 := by have := HLL.out; omega
    have hfin0 := hfin
    obtain ⟨cap3, cap4, tc, bc, m, hg, _⟩ := hfin0
    have g0 := hg.cell 0
    simp at g0
    by_cases hlt : i < l.length
    · go_wp2_with fail
      refine (longest_any wr gf w.heap.size bb mb l k i hfin hk hi2 (by omega)).mono ?_
      rintro e w6 ⟨rfl, ⟨k', hk', hf6⟩, hfr6⟩
      dsimp only
      have hf60 := hf6
      obtain ⟨cap5, cap6, tc6, bc6, m6, hg6, _, hcc, _, _, htb6, ht6, _⟩ := hf60
      have g06 := hg6.cell 0
      simp at g06
      have t06 : w6.cell? ⟨w.heap.size, i, none⟩ = some (.int .u8 (l.getD i 0).toNat) := by rw [htb6.cell, ht6 i hlt]
      have hwr6 := hwr.fr hfr6 (by intro x hx; simp at hx; omega)
      have hbl6 : Below w.heap.size w w6 := hbl.trans (hfr6.below (by have := hbl.size; omega) (by intro x hx; simp at hx; omega))
      have hsz6 : base ≤ w6.heap.size := by have := hfr6.size; omega
      have i1 : (0 : Int) ≤ (i : Int) := by omega
      have i2 : (i : Int) < l.length := by omega
      by_cases h4 : (Pk.long l i).1 < 4
      · have hgo2 := Lib.hid (Pk.packGo_lit l i p q hlt h4)
        have e5 : decide (((Pk.long l i).1 : Int) < 4) = true := by simp; omega
        generalize l.getD i 0 = x at *
        go_wp2_with fail
        refine (literal_any w6 base base p q x hwr6 hq1 (by omega) hsz6).mono ?_
        rintro e w7 ⟨rfl, hwr7, hbl7⟩
        dsimp only
        go_wp2_with fail
        go_roundg (l.length - (i + 1))
        case measure => omega
        case rel =>
          refine ⟨i + 1, _, _, rfl, rfl, by omega, by omega, ?_, ?_, by rw [← hgo2.out]; exact HGO.out, ⟨k', by omega, hf6.below hbl7 hlt3.1 htb hlt3.2.1 hlt3.2.2⟩, hwr7, hbl6.trans (hbl7.mono (by omega)), by have := hbl7.size; omega⟩
          · split <;> simp <;> omega
          · have := (Pk.flush_length p (q ++ [x])).1
            split <;> simp at this ⊢ <;> omega
      · have hgo2 := Lib.hid (Pk.packGo_match l i p q hlt h4)
        have hbd := Pk.long_bounds l i (by omega)
        have e5 : decide (((Pk.long l i).1 : Int) < 4) = false := by simp; omega
        generalize (Pk.long l i).1 = n at *
        generalize (Pk.long l i).2 = d at *
        obtain ⟨b1, b2, b3, b4, b5⟩ := hbd
        go_wp2_with fail
        refine (match_any w6 base base p q n d hwr6 (by omega) (by omega) hsz6 (by omega) b1 b3 b4).mono ?_
        rintro e w7 ⟨rfl, hwr7, hbl7⟩
        dsimp only
        go_wp2_with fail
        go_roundg (l.length - (i + n))
        case measure => omega
        case rel =>
          refine ⟨i + n, _, _, by go_num, rfl, by omega, by omega, by simp, ?_, by rw [← hgo2.out]; exact HGO.out, ⟨k', by omega, hf6.below hbl7 hlt3.1 htb hlt3.2.1 hlt3.2.2⟩, hwr7, hbl6.trans (hbl7.mono (by omega)), by have := hbl7.size; omega⟩
          have := (Pk.flush_length p q).1
          have h0 := (Pk.flush_length p q).2.2
          have h9 : (Pk.flush p q ++ Pk.matchBytes n d).length = (Pk.flush p q).length + 3 := by simp [Pk.matchBytes]
          rw [h9, List.length_nil]
          omega
    · go_wp2_with fail
      refine (end_any wr base base p q hwr (by omega) (by omega) hsz).mono ?_
      rintro e w7 ⟨rfl, hwr7, hbl7⟩
      dsimp only
      obtain ⟨pv, qv, hg7, hp7, _, _, _⟩ := hwr7
      have g07 := hg7.cell 0
      simp at g07
      have hfl : Hid (Pk.flush p q = Pk.pack dict b) := by
        have := HGO.out
        rw [Pk.packGo_end l _ i p q (by omega)] at this
        exact this
      go_wp2_with fail
      go_ret2
      refine ⟨pv, rfl, ?_, hbl.trans (hbl7.mono (by omega))⟩
      rw [← hfl.out]
      exact own_base hp7 fun g hg => by have := (hp7.lt g hg).1; have := hbl.size; omega

theorem packWith_any (w : World) (B : Nat) (vd vb : Value) (dict b : List UInt8) (hd : RdB w B vd dict) (hb : RdB w B vb b) (hB : B ≤ w.heap.size) (h1 : dict.length ≤ 1048576) (h2 : b.length ≤ 1048576) :
    Calls Try.prog 14 #[vd, vb] w fun e w' => ∃ v, e = .returned (.tuple #[v, .int .i64 0]) ∧ RdB w' w'.heap.size v (Pk.pack dict b) ∧ Below w.heap.size w w' :=
  (packWith_own w B vd vb dict b hd hb hB h1 h2).mono fun _ _ ⟨v, h1, h2, h3⟩ => ⟨v, h1, RdB.of_own h2 rfl, h3⟩

set_option maxRecDepth 100000 in
/-- Pack. -/
theorem pack_any (w : World) (B : Nat) (vb : Value) (b : List UInt8) (hb : RdB w B vb b) (hB : B ≤ w.heap.size) (h2 : b.length ≤ 1048576) :
    Calls Try.prog 15 #[vb] w fun e w' => ∃ v, e = .returned (.tuple #[v, .int .i64 0]) ∧ RdB w' w'.heap.size v (Pk.pack [] b) ∧ Below w.heap.size w w' := by
  go_enter Try.func15, Try.ntmps15
  go_wp2_with fail
  refine (packWith_any w B (.slice none 0 0) vb [] b (RdB.nil _ _) hb hB (by simp) h2).mono ?_
  rintro e w1 ⟨v, rfl, hv, hbl⟩
  dsimp only
  go_wp2_with fail
  go_ret2
  exact ⟨v, rfl, hv, hbl⟩

set_option maxRecDepth 100000 in
theorem pack_long (w : World) (B : Nat) (vb : Value) (b : List UInt8) (hb : RdB w B vb b) (h2 : 1048576 < b.length) :
    Calls Try.prog 15 #[vb] w fun e w' => e = .returned (.tuple #[.slice none 0 0, .int .i64 5]) ∧ w = w' := by
  go_enter Try.func15, Try.ntmps15
  go_wp2_with fail
  refine (packWith_long w B (.slice none 0 0) vb [] b (RdB.nil _ _) hb (.inr h2)).mono ?_
  rintro e w1 ⟨rfl, rfl⟩
  dsimp only
  go_wp2_with fail
  go_ret2
  exact ⟨rfl, rfl⟩
end Go.Proofs.Ytgmpdclmfcmodaa
