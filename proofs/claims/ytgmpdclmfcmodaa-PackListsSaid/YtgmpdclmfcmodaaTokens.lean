/-
  Walks: Tokens.
-/
import Derived.Test.YtgmpdclmfcmodaaRtoken
import Derived.Test.YtgmpdclmfcmodaaPure7
namespace Go.Proofs.Ytgmpdclmfcmodaa
open Go.RowKit

/-- Tokens that the call has collected: their row, and the rows of their literals. -/
structure TkSt (w : World) (base e : Nat) (ov : Value) (lvs : List Value) (ts : List Pk.Tok) : Prop where
  len : lvs.length = ts.length
  out : w.ownsRow base e 3 ov ts.length (tcells lvs ts)
  lits : ∀ (j : Nat) lv t, lvs[j]? = some lv → ts[j]? = some t → w.ownsRow base 5 1 lv t.lit.length (bs t.lit)

section
variable {w w1 : World} {base e : Nat} {ov ov' lv : Value} {lvs : List Value} {ts : List Pk.Tok} {t : Pk.Tok} {o : Obj}
theorem TkSt.nil_ (w : World) (base e : Nat) : TkSt w base e (.slice none 0 0) [] [] := ⟨rfl, World.ownsRow_nil _ _ _ _, by simp⟩
theorem TkSt.below (h : TkSt w base e ov lvs ts) (hb : Below w.heap.size w w1) : TkSt w1 base e ov lvs ts :=
  ⟨h.len, own_fr h.out (Fr.of_below (L := []) hb) (by simp), fun j lv t h1 h2 => own_fr (h.lits j lv t h1 h2) (Fr.of_below (L := []) hb) (by simp)⟩
theorem TkSt.push (h : TkSt w base e ov lvs ts) (hne : 5 ≠ e) (hgrow : (w.alloc o).grownBy w1 ov.ownBlock) (hown : w1.ownsRow base e 3 ov' (ts.length + 1) (tcells lvs ts ++ [lv, .int .i64 t.dist, .int .i64 t.len]))
    (hlv : w.ownsRow base 5 1 lv t.lit.length (bs t.lit)) : TkSt w1 base e ov' (lvs ++ [lv]) (ts ++ [t]) := by
  have keep : ∀ {v n xs}, w.ownsRow base 5 1 v n xs → w1.ownsRow base 5 1 v n xs := fun hv => (hv.alloc o).kept hgrow (own_own_ne hv h.out hne)
  refine ⟨by simp [h.len], ?_, ?_⟩
  · rw [tcells_snoc _ _ h.len, List.length_append]
    exact hown
  · intro j u s hu hs
    rcases Nat.lt_or_ge j lvs.length with hj | hj
    · rw [List.getElem?_append_left hj] at hu
      rw [List.getElem?_append_left (by rw [← h.len]; exact hj)] at hs
      exact keep (h.lits j u s hu hs)
    · rw [List.getElem?_append_right hj] at hu
      rw [List.getElem?_append_right (by rw [← h.len]; exact hj)] at hs
      have hj0 : j - lvs.length = 0 := by
        rcases Nat.eq_zero_or_pos (j - lvs.length) with h0 | h0
        · exact h0
        · rw [List.getElem?_eq_none (by simp; omega)] at hu; cases hu
      rw [hj0] at hu
      rw [← h.len, hj0] at hs
      simp only [List.getElem?_cons_zero, Option.some.injEq] at hu hs
      subst hu hs
      exact keep hlv
theorem TkSt.reads (h : TkSt w base e ov lvs ts) : RdT w w.heap.size ov ts := by
  have hl : ∀ (j : Nat) lv t, lvs[j]? = some lv → ts[j]? = some t → RdB w w.heap.size lv t.lit := fun j lv t h1 h2 => RdB.of_own (h.lits j lv t h1 h2) rfl
  rcases h.out.2 with ⟨rfl, h0⟩ | ⟨g, cap, cur, rfl, _, _, h1, _⟩
  · exact ⟨none, 0, lvs, 0, by rw [h0], by omega, h.len, fun h => by omega, hl⟩
  · refine ⟨_, cap, lvs, g, rfl, h1, h.len, fun _ => ⟨rfl, (h.out.lt g rfl).2, fun j u hu => ?_⟩, hl⟩
    have hj : j < ts.length * 3 := by
      have := (List.getElem?_eq_some_iff.1 hu).1
      rw [h.out.1] at this
      exact this
    rw [h.out.cellAt j hj]
    exact hu
end

/-- What a function that lists tokens returns. -/
def TksRet (w' : World) (r : Except (Nat × Nat) (List Pk.Tok)) (e : Ending) : Prop :=
  match r with
  | .error (a, n) => e = .returned (.tuple #[.slice none 0 0, .int .i64 a, .int .i64 n])
  | .ok l => ∃ v, e = .returned (.tuple #[v, .int .i64 0, .int .i64 0]) ∧ RdT w' w'.heap.size v l

theorem info49 : (Try.prog.info? 49).map (fun i => (i.zero, i.size, i.bytes)) = some (some (.agg #[.slice none 0 0, .int .i64 0, .int .i64 0]), 3, 40) := by kernel_rfl

set_option maxRecDepth 100000 in
set_option maxHeartbeats 8000000 in
theorem rtokens_any (w : World) (B : Nat) (vp : Value) (p : List UInt8) (hp : RdB w B vp p) (hB : B ≤ w.heap.size) (hpl : p.length ≤ 2000000) :
    Calls Try.prog 26 #[vp] w fun e w' => TksRet w' (Pk.tokens p) e ∧ Below w.heap.size w w' := by
  obtain ⟨i7, hi7, hz70, hz71, hz72⟩ := info_parts info57
  have hp0 := hp
  obtain ⟨A', cap', rfl, cb1, cb2, _⟩ := hp
  have hR : Hid (Pk.tokGo p.length 0 p [] = Pk.tokens p) := Lib.hid rfl
  generalize Pk.tokens p = R at *
  go_enter Try.func26, Try.ntmps26
  go_wp2_with fail
  go_loopg [5, 6] p.length (fun n ov atv wr => ∃ (k : Nat) (ts : List Pk.Tok) (lvs : List Value) (OA : Option Addr) (oc : Nat), atv = .int .i64 k ∧ ov = .slice OA ts.length oc ∧ n = (p.drop k).length ∧ k ≤ p.length ∧ ts.length ≤ k ∧
    Pk.tokGo (p.drop k).length k (p.drop k) ts = R ∧ TkSt wr w.heap.size 57 (.slice OA ts.length oc) lvs ts ∧ Below w.heap.size w wr)
  case atStart => exact ⟨0, [], [], none, 0, rfl, rfl, by simp, by omega, by simp, by simpa using hR.out, TkSt.nil_ _ _ _, Below.refl _ _⟩
  case round =>
    obtain ⟨k, ts, lvs, OA, oc, rfl, rfl, rfl, hk, htl, hgo, hst, hbl⟩ := hrel
    have HGO := Lib.hid hgo
    clear hgo hR
    have hszr := hbl.size
    by_cases hlt : k < p.length
    · have i1 : (k : Int) < p.length := by omega
      have hpr := hp0.below (hbl.mono hB)
      have hne : p.drop k ≠ [] := by intro h; have := congrArg List.length h; simp at this; omega
      have hst0 := Pk.tokGo_step k (p.drop k) ts hne
      rw [HGO.out] at hst0
      have hdl2 : (p.drop k).length = p.length - k := List.length_drop
      have hdr : ∀ s, p.drop (k + s) = (p.drop k).drop s := fun s => by rw [List.drop_drop]
      generalize hrest : p.drop k = rest at *
      have HST := Lib.hid hst0
      have HDL := Lib.hid hdl2
      have HDR := Lib.hid hdr
      have HREST := Lib.hid hrest
      clear hst0 hdl2 hdr hrest
      go_wp2_with fail
      have hcall := rtoken_own wr B _ p k hpr (by omega) hlt (by omega)
      rw [HREST.out] at hcall
      refine hcall.mono ?_
      clear hcall hpr
      rintro e w2 ⟨htr, hbl2⟩
      have hbw2 : Below w.heap.size w w2 := hbl.trans (hbl2.mono hszr)
      have hsz2 := hbl2.size
      have hst2 := hst.below hbl2
      cases htok : Pk.tokenOf rest with
      | error n =>
        rw [htok] at htr
        simp only [TokOwn] at htr
        subst htr
        have hres : Hid (R = .error (k, n)) := Lib.hid (by have := HST.out; rw [htok] at this; exact this)
        rcases Pk.tokenOf_err htok with rfl | rfl
        · dsimp only
          clear htok
          go_wp2_with fail
          go_ret3
          rw [hres.out]
          exact ⟨rfl, hbw2.alloc (by omega) _⟩
        · dsimp only
          clear htok
          go_wp2_with fail
          go_ret3
          rw [hres.out]
          exact ⟨rfl, hbw2.alloc (by omega) _⟩
      | ok x =>
        obtain ⟨t, s⟩ := x
        rw [htok] at htr
        simp only [TokOwn] at htr
        obtain ⟨lv, rfl, hlv0⟩ := htr
        have hlv : w2.ownsRow w.heap.size 5 1 lv t.lit.length (bs t.lit) := own_base hlv0 (fun g hg => by have := (hlv0.lt g hg).1; omega)
        clear hlv0
        have htk := Pk.tokenOf_ok htok
        have hres : Hid (R = Pk.tokGo (rest.drop s).length (k + s) (rest.drop s) (ts ++ [t])) := Lib.hid (by have := HST.out; rw [htok] at this; exact this)
        clear htok HST
        obtain ⟨LA, lc, rfl⟩ := own_form hlv
        obtain ⟨tq, td, tn⟩ := t
        simp only at htk hlv
        obtain ⟨s1, s2, _, _, _, _⟩ := htk
        have hks : k + s ≤ p.length := by have := HDL.out; omega
        have HLV := Lib.hid hlv
        have HST2 := Lib.hid hst2
        have hout := hst2.out
        clear hlv hst hst2
        dsimp only
        go_wp2_with (at_builtin; refine wpList_append_lies _ rfl (.tmp 25) (.tmp 27) _ rfl w.heap.size 57 i7 _ 3 40 Try.underlying30 hi7 hz70 hz71 hz72 rfl (by omega) (.slice OA ts.length oc) ts.length (tcells lvs ts) rfl ((hout.alloc _).alloc _) ⟨w2.heap.size + 1, 0, none⟩ 1 1 [.slice LA tq.length lc, .int .i64 td, .int .i64 tn] rfl rfl (World.news_of_block (cs := #[.slice LA tq.length lc, .int .i64 td, .int .i64 tn]) (t := 57) (fr := (0, 0)) (by simpa using heap_alloc_new (w2.alloc _) _)) (by simp [Value.oneCell']) (by omega) (by unfold maxLen; omega) (by omega) (by simp; omega) (w2.heap.size + 2) (by simp) ?_; intro gg oc2 w4 hown4 hgrow4 hat4 hlt4; have hsz4 := hgrow4.size; simp at hsz4)
        have st3 := HST2.out.below ((Below.refl w2.heap.size w2).alloc (Nat.le_refl _) (.cells #[.slice LA tq.length lc, .int .i64 td, .int .i64 tn] 57))
        have lv3 := own_fr HLV.out (Fr.of_below (L := []) ((Below.refl w2.heap.size w2).alloc (Nat.le_refl _) (.cells #[.slice LA tq.length lc, .int .i64 td, .int .i64 tn] 57))) (by simp)
        have st4 := TkSt.push (t := ⟨tq, td, tn⟩) (ov' := .slice (some ⟨gg, 0, none⟩) (ts.length + 1) oc2) st3 (by decide) hgrow4 hown4 lv3
        go_roundg ((rest.drop s).length)
        case measure => rw [List.length_drop]; omega
        case rel =>
          have hd := HDR.out s
          refine ⟨k + s, ts ++ [⟨tq, td, tn⟩], lvs ++ [.slice LA tq.length lc], some ⟨gg, 0, none⟩, oc2, by go_num, by simp, by rw [hd], hks, by simp; omega, ?_, ?_, ?_⟩
          · rw [hd, hres.out]
          · rw [List.length_append]; exact st4
          · exact ((hbw2.alloc (by omega) _).alloc (by simp; omega) _).grown hgrow4 (by simp; omega) (fun g hg => (hout.lt g hg).1)
    · have hkp : k = p.length := by omega
      have hfin : Hid (R = .ok ts) := Lib.hid (by
        have := HGO.out
        rw [show p.drop k = [] by rw [hkp, List.drop_length], Pk.tokGo_nil] at this
        exact this.symm)
      have i1 : decide ((k : Int) < p.length) = false := decide_eq_false (by omega)
      go_wp2_with fail
      go_ret3
      rw [hfin.out]
      exact ⟨⟨_, rfl, hst.reads⟩, hbl⟩

theorem tok_below {w2 w3 : World} {cs : Array Value} {t : TypeId} (hgrow3 : (w2.alloc (.cells cs t)).grownBy w3 none) (v : Value) : Below w2.heap.size w2 (w3.setCell ⟨w2.heap.size, 0, none⟩ v) :=
  (((Below.refl w2.heap.size w2).alloc (Nat.le_refl _) _).grown hgrow3 (by simp) (by simp)).setCell (p := ⟨w2.heap.size, 0, none⟩) (Nat.le_refl _) v
theorem size_set (w : World) (p : Addr) (v : Value) : (w.setCell p v).heap.size = w.heap.size := by simp [World.setCell]
theorem new_set (w : World) (p : Addr) (v : Value) (o : Obj) : ((w.setCell p v).alloc o).heap[w.heap.size]? = some o := by
  have := heap_alloc_new (w.setCell p v) o
  rwa [size_set] at this

set_option maxRecDepth 100000 in
set_option maxHeartbeats 8000000 in
theorem tokens_any (w : World) (B : Nat) (vp : Value) (p : List UInt8) (hp : RdB w B vp p) (hB : B ≤ w.heap.size) (hpl : p.length ≤ 2000000) :
    Calls Try.prog 24 #[vp] w fun e w' => TksRet w' (Pk.tokens p) e ∧ Below w.heap.size w w' := by
  obtain ⟨i0, hi, hz0, hz1, hz2⟩ := info_parts info5
  obtain ⟨i7, hi7, hz70, hz71, hz72⟩ := info_parts info49
  have hp0 := hp
  obtain ⟨A', cap', rfl, cb1, cb2, _⟩ := hp
  have hR : Hid (Pk.tokGo p.length 0 p [] = Pk.tokens p) := Lib.hid rfl
  generalize Pk.tokens p = R at *
  go_enter Try.func24, Try.ntmps24
  go_wp2_with fail
  go_loopg [2, 3] p.length (fun n ov atv wr => ∃ (k : Nat) (ts : List Pk.Tok) (lvs : List Value) (OA : Option Addr) (oc : Nat), atv = .int .i64 k ∧ ov = .slice OA ts.length oc ∧ n = (p.drop k).length ∧ k ≤ p.length ∧ ts.length ≤ k ∧
    Pk.tokGo (p.drop k).length k (p.drop k) ts = R ∧ TkSt wr w.heap.size 49 (.slice OA ts.length oc) lvs ts ∧ Below w.heap.size w wr)
  case atStart => exact ⟨0, [], [], none, 0, rfl, rfl, by simp, by omega, by simp, by simpa using hR.out, TkSt.nil_ _ _ _, Below.refl _ _⟩
  case round =>
    obtain ⟨k, ts, lvs, OA, oc, rfl, rfl, rfl, hk, htl, hgo, hst, hbl⟩ := hrel
    have HGO := Lib.hid hgo
    clear hgo hR
    have hszr := hbl.size
    by_cases hlt : k < p.length
    · have i1 : (k : Int) < p.length := by omega
      obtain ⟨S, sc, hsl, hsr⟩ := slice_from Try.underlying22 hi hz1 (hp0.below (hbl.mono hB)) k (by omega) .i64
      have hne : p.drop k ≠ [] := by intro h; have := congrArg List.length h; simp at this; omega
      have hst0 := Pk.tokGo_step k (p.drop k) ts hne
      rw [HGO.out] at hst0
      have hdl2 : (p.drop k).length = p.length - k := List.length_drop
      have hdr : ∀ s, p.drop (k + s) = (p.drop k).drop s := fun s => by rw [List.drop_drop]
      generalize hrest : p.drop k = rest at *
      have HST := Lib.hid hst0
      have HDL := Lib.hid hdl2
      have HDR := Lib.hid hdr
      clear hst0 hdl2 hdr hrest
      have hrl : 0 < rest.length ∧ rest.length ≤ 8000000 := by have := HDL.out; omega
      go_wp2_with fail
      refine (token_any wr B _ rest hsr (by omega) hrl.1 hrl.2).mono ?_
      rintro e w2 ⟨htr, hbl2⟩
      have hbw2 : Below w.heap.size w w2 := hbl.trans (hbl2.mono hszr)
      have hsz2 := hbl2.size
      have hst2 := hst.below hbl2
      cases htok : Pk.tokenOf rest with
      | error n =>
        rw [htok] at htr
        simp only [TokRet] at htr
        subst htr
        have hres : Hid (R = .error (k, n)) := Lib.hid (by have := HST.out; rw [htok] at this; exact this)
        rcases Pk.tokenOf_err htok with rfl | rfl
        · dsimp only
          clear htok
          go_wp2_with fail
          go_ret3
          rw [hres.out]
          exact ⟨rfl, hbw2.alloc (by omega) _⟩
        · dsimp only
          clear htok
          go_wp2_with fail
          go_ret3
          rw [hres.out]
          exact ⟨rfl, hbw2.alloc (by omega) _⟩
      | ok x =>
        obtain ⟨t, s⟩ := x
        rw [htok] at htr
        simp only [TokRet] at htr
        obtain ⟨lv, rfl, hlv⟩ := htr
        have htk := Pk.tokenOf_ok htok
        have hres : Hid (R = Pk.tokGo (rest.drop s).length (k + s) (rest.drop s) (ts ++ [t])) := Lib.hid (by have := HST.out; rw [htok] at this; exact this)
        clear htok HST
        obtain ⟨tq, td, tn⟩ := t
        simp only at htk hlv
        obtain ⟨LA, lc, rfl, l1, l2, hlr⟩ := hlv
        obtain ⟨s1, s2, _, _, s5, _⟩ := htk
        have hks : k + s ≤ p.length := by have := HDL.out; omega
        have HST2 := Lib.hid hst2
        clear hst hst2
        dsimp only
        go_wp2_with (first
          | (at_builtin; refine wpList_append_any _ rfl (.const (.slice none 0 0)) (.tmp 25) _ rfl w.heap.size 5 i0 _ 1 1 Try.underlying22 hi hz0 hz1 hz2 rfl (by omega) (.slice none 0 0) 0 [] rfl (World.ownsRow_nil _ _ _ _) B LA tq.length lc (bs tq) rfl (hlr.alloc (by omega) _) (bs_one tq) (by unfold maxLen; omega) (by omega) (by simp; omega) ?_; intro v3 w3 hown3 hgrow3 hat3; simp only [Nat.zero_add, List.nil_append] at hown3; obtain ⟨A3, c3, rfl⟩ := own_form hown3; have hblk := (Blk.new_ w2 49 #[.slice LA tq.length lc, .int .i64 td, .int .i64 tn] rfl).grown hgrow3 (by simp [Value.ownBlock]); have b0 := hblk.cell 0; have b1 := hblk.cell 1; have b2 := hblk.cell 2; have f0 := hblk.frozen 0; simp at b0 b1 b2; have hb3 := tok_below hgrow3 (.slice A3 tq.length c3); have hout := (HST2.out.below hb3).out; have hsz3 := hgrow3.size; simp at hsz3; have hnew := new_set w3 ⟨w2.heap.size, 0, none⟩ (.slice A3 tq.length c3); have hsz5 := size_set w3 ⟨w2.heap.size, 0, none⟩ (.slice A3 tq.length c3))
          | (at_builtin; refine wpList_append_lies _ rfl (.tmp 28) (.tmp 30) _ rfl w.heap.size 49 i7 _ 3 40 Try.underlying45 hi7 hz70 hz71 hz72 rfl (by omega) (.slice OA ts.length oc) ts.length (tcells lvs ts) rfl (hout.alloc _) ⟨w3.heap.size, 0, none⟩ 1 1 [.slice A3 tq.length c3, .int .i64 td, .int .i64 tn] rfl rfl (World.news_of_block (cs := #[.slice A3 tq.length c3, .int .i64 td, .int .i64 tn]) (t := 49) (fr := (0, 0)) (hnew _)) (by simp [Value.oneCell']) (by omega) (by unfold maxLen; omega) (by omega) (by simp; omega) (w3.heap.size + 1) (by simp) ?_; intro gg oc2 w4 hown4 hgrow4 hat4 hlt4; have hsz4 := hgrow4.size; simp at hsz4))
        have st3 := HST2.out.below hb3
        have lv3 : (w3.setCell ⟨w2.heap.size, 0, none⟩ (.slice A3 tq.length c3)).ownsRow w.heap.size 5 1 (.slice A3 tq.length c3) tq.length (bs tq) :=
          own_fr hown3 ((Fr.refl [w2.heap.size] w3).setCell (p := ⟨w2.heap.size, 0, none⟩) (.inl (by simp)) (.slice A3 tq.length c3)) (fun g hg hm => own_blk_ne hown3 hblk (by decide) (by rw [hg, List.mem_singleton.1 hm]))
        have st4 := TkSt.push (t := ⟨tq, td, tn⟩) (ov' := .slice (some ⟨gg, 0, none⟩) (ts.length + 1) oc2) st3 (by decide) hgrow4 hown4 lv3
        go_roundg ((rest.drop s).length)
        case measure => rw [List.length_drop]; omega
        case rel =>
          have hd := HDR.out s
          refine ⟨k + s, ts ++ [⟨tq, td, tn⟩], lvs ++ [.slice A3 tq.length c3], some ⟨gg, 0, none⟩, oc2, by go_num, by simp, by rw [hd], hks, by simp; omega, ?_, ?_, ?_⟩
          · rw [hd, hres.out]
          · rw [List.length_append]; exact st4
          · exact ((hbw2.trans (hb3.mono (by omega))).alloc (by omega) _).grown hgrow4 (by simp; omega) (fun g hg => (hout.lt g hg).1)
    · have hkp : k = p.length := by omega
      have hfin : Hid (R = .ok ts) := Lib.hid (by
        have := HGO.out
        rw [show p.drop k = [] by rw [hkp, List.drop_length], Pk.tokGo_nil] at this
        exact this.symm)
      have i1 : decide ((k : Int) < p.length) = false := decide_eq_false (by omega)
      go_wp2_with fail
      go_ret3
      rw [hfin.out]
      exact ⟨⟨_, rfl, hst.reads⟩, hbl⟩
end Go.Proofs.Ytgmpdclmfcmodaa
