/-
  Walks: Unpack of the reference.
-/
import Derived.Test.YtgmpdclmfcmodaaUnpack
namespace Go.Proofs.Ytgmpdclmfcmodaa
open Go.RowKit

theorem rtok_blk {w2 w3 : World} {base n : Nat} {v : Value} {xs : List Value} {cs : Array Value} (hown2 : w2.ownsRow base 5 1 v n xs) (hgrow3 : (w2.alloc (.cells cs 57)).grownBy w3 v.ownBlock) : Blk w3 w2.heap.size 57 cs :=
  (Blk.new_ w2 57 cs rfl).grown hgrow3 (Ne.symm (own_blk_ne (hown2.alloc (.cells cs 57)) (Blk.new_ w2 57 cs rfl) (by decide)))

set_option maxRecDepth 100000 in
set_option maxHeartbeats 8000000 in
theorem runpack_any (w : World) (B : Nat) (vd vp : Value) (dict p : List UInt8) (most : Int) (hd : RdB w B vd dict) (hp : RdB w B vp p) (hB : B ≤ w.heap.size) (hpl : p.length ≤ 8000000) (hm1 : -9223372036854775808 ≤ most) (hm2 : most < 9223372036854775808) :
    Calls Try.prog 20 #[vd, vp, .int .i64 most] w fun e w' => UnpRet w' (Pk.unpack dict p most) e ∧ Below w.heap.size w w' := by
  obtain ⟨i0, hi, hz0, hz1, hz2⟩ := info_parts info5
  have hp0 := hp
  obtain ⟨A, cap, rfl, ca1, ca2, hra⟩ := hd
  obtain ⟨A', cap', rfl, cb1, cb2, _⟩ := hp
  by_cases hmost : most < 0 ∨ 1048576 < most
  · have hR : Hid (Pk.unpack dict p most = .error (0, 2)) := Lib.hid (by unfold Pk.unpack; rw [if_pos hmost])
    by_cases h0 : most < 0
    · have e1 : decide (most < 0) = true := decide_eq_true h0
      go_enter Try.func20, Try.ntmps20
      go_wp2_with fail
      go_ret3
      rw [hR.out]
      exact ⟨rfl, Below.refl _ _⟩
    · have e1 : decide (most < 0) = false := decide_eq_false h0
      have e2 : decide ((1048576 : Int) < most) = true := decide_eq_true (by omega)
      go_enter Try.func20, Try.ntmps20
      go_wp2_with fail
      go_ret3
      rw [hR.out]
      exact ⟨rfl, Below.refl _ _⟩
  have e1 : decide (most < 0) = false := decide_eq_false (by omega)
  have e2 : decide ((1048576 : Int) < most) = false := decide_eq_false (by omega)
  by_cases hdl : 1048576 < dict.length
  · have hR : Hid (Pk.unpack dict p most = .error (0, 5)) := Lib.hid (by unfold Pk.unpack; rw [if_neg hmost, if_pos hdl])
    have e3 : decide ((1048576 : Int) < dict.length) = true := decide_eq_true (by omega)
    go_enter Try.func20, Try.ntmps20
    go_wp2_with fail
    go_ret3
    rw [hR.out]
    exact ⟨rfl, Below.refl _ _⟩
  have e3 : decide ((1048576 : Int) < dict.length) = false := decide_eq_false (by omega)
  have hR : Hid (Pk.unpackGo dict.length most.toNat p.length 0 p dict = Pk.unpack dict p most) := Lib.hid (by unfold Pk.unpack; rw [if_neg hmost, if_neg hdl])
  generalize Pk.unpack dict p most = R at *
  obtain ⟨mN, rfl⟩ : ∃ mN : Nat, most = mN := ⟨most.toNat, by omega⟩
  rw [Int.toNat_natCast] at hR
  have hml : mN ≤ 1048576 := by omega
  clear hmost hm1 hm2
  go_enter Try.func20, Try.ntmps20
  go_wp2_with (at_builtin; refine wpList_append_any _ rfl (.tmp 24) (.tmp 25) _ rfl w.heap.size 5 i0 _ 1 1 Try.underlying22 hi hz0 hz1 hz2 rfl (by omega) (.slice (some ⟨w.heap.size, 0, none⟩) 0 0) 0 [] rfl (World.ownsRow_made w _ _ (Nat.le_refl _) (by unfold maxLen; omega) rfl) B A dict.length cap (bs dict) rfl (hra.alloc hB _) (bs_one dict) (by unfold maxLen; omega) (by omega) (by simp) ?_; intro v1 w1 hown1 hgrow1 hat1; simp only [Nat.zero_add, List.nil_append] at hown1; obtain ⟨A5, c5, rfl⟩ := own_form hown1)
  have hbl1 : Below w.heap.size w w1 := ((Below.refl _ _).alloc (Nat.le_refl _) _).grown hgrow1 (by simp) (by simp [Value.ownBlock])
  clear hgrow1 hat1
  go_loopg [9, 10] p.length (fun n tv atv wr => ∃ (k : Nat) (text : List UInt8) (OA : Option Addr) (oc : Nat), atv = .int .i64 k ∧ tv = .slice OA text.length oc ∧ n = (p.drop k).length ∧ k ≤ p.length ∧ dict.length ≤ text.length ∧ text.length ≤ dict.length + mN ∧
    Pk.unpackGo dict.length mN (p.drop k).length k (p.drop k) text = R ∧ wr.ownsRow w.heap.size 5 1 (.slice OA text.length oc) text.length (bs text) ∧ Below w.heap.size w wr)
  case atStart => exact ⟨0, dict, A5, c5, rfl, rfl, by simp, by omega, by omega, by omega, by simpa using hR.out, hown1, hbl1⟩
  case round =>
    clear hown1 hbl1
    obtain ⟨k, text, OA, oc, rfl, rfl, rfl, hk, ht1, ht2, hgo, hown, hbl⟩ := hrel
    have HGO := Lib.hid hgo
    clear hgo hR
    have hszr := hbl.size
    by_cases hlt : k < p.length
    · have i1 : (k : Int) < p.length := by omega
      have hpr := hp0.below (hbl.mono hB)
      have hne : p.drop k ≠ [] := by intro h; have := congrArg List.length h; simp at this; omega
      have hst := Pk.unpackGo_step dict.length mN k (p.drop k) text hne
      rw [HGO.out] at hst
      have hdl2 : (p.drop k).length = p.length - k := List.length_drop
      have hdr : ∀ s, p.drop (k + s) = (p.drop k).drop s := fun s => by rw [List.drop_drop]
      generalize hrest : p.drop k = rest at *
      have HST := Lib.hid hst
      have HDL := Lib.hid hdl2
      have HDR := Lib.hid hdr
      have HREST := Lib.hid hrest
      clear hst hdl2 hdr hrest
      have hrl : 0 < rest.length ∧ rest.length ≤ 8000000 := by have := HDL.out; omega
      go_wp2_with fail
      have hcall := rtoken_any wr B _ p k hpr (by omega) hlt hpl
      rw [HREST.out] at hcall
      refine hcall.mono ?_
      clear hcall hpr
      rintro e w2 ⟨htr, hbl2⟩
      have hbw2 : Below w.heap.size w w2 := hbl.trans (hbl2.mono hszr)
      have hsz2 := hbl2.size
      have hown2 : w2.ownsRow w.heap.size 5 1 (.slice OA text.length oc) text.length (bs text) := own_fr hown (Fr.of_below (L := []) hbl2) (by simp)
      cases htok : Pk.tokenOf rest with
      | error n =>
        rw [htok] at htr
        simp only [TokRet] at htr
        subst htr
        have hres : Hid (R = .error (k, n)) := Lib.hid (by have := HST.out; rw [htok] at this; exact this)
        rcases Pk.tokenOf_err htok with rfl | rfl
        · dsimp only
          clear htok
          go_wp2_with fail
          go_ret3
          rw [hres.out]
          exact ⟨rfl, hbw2.alloc (by omega) _⟩
        · dsimp only
          clear htok
          go_wp2_with fail
          go_ret3
          rw [hres.out]
          exact ⟨rfl, hbw2.alloc (by omega) _⟩
      | ok x =>
        obtain ⟨t, s⟩ := x
        rw [htok] at htr
        simp only [TokRet] at htr
        obtain ⟨lv, rfl, hlv⟩ := htr
        have htk := Pk.tokenOf_ok htok
        have hst2 := HST.out
        rw [htok] at hst2
        simp only at hst2
        have HST2 := Lib.hid hst2
        clear hst2 htok HST
        obtain ⟨tq, td, tn⟩ := t
        simp only at htk hlv HST2
        obtain ⟨LA, lc, rfl, l1, l2, hlr⟩ := hlv
        obtain ⟨s1, s2, s3, s4, s5, s6⟩ := htk
        dsimp only
        by_cases hdist : text.length < td
        · have e4 : decide ((text.length : Int) < (td : Int)) = true := decide_eq_true (by omega)
          have hres : Hid (R = .error (k, 2)) := Lib.hid (by have := HST2.out; rw [if_pos hdist] at this; exact this)
          go_wp2_with fail
          go_ret3
          rw [hres.out]
          exact ⟨rfl, hbw2.alloc (by omega) _⟩
        have e4 : decide ((text.length : Int) < (td : Int)) = false := decide_eq_false (by omega)
        by_cases hlong : mN < text.length - dict.length + tq.length + tn
        · have e5 : decide ((mN : Int) < (text.length : Int) - dict.length + tn + tq.length) = true := decide_eq_true (by omega)
          have hres : Hid (R = .error (k, 5)) := Lib.hid (by have := HST2.out; rw [if_neg hdist, if_pos hlong] at this; exact this)
          go_wp2_with fail
          go_ret3
          rw [hres.out]
          exact ⟨rfl, hbw2.alloc (by omega) _⟩
        have e5 : decide ((mN : Int) < (text.length : Int) - dict.length + tn + tq.length) = false := decide_eq_false (by omega)
        have hres : Hid (R = Pk.unpackGo dict.length mN (rest.drop s).length (k + s) (rest.drop s) (Pk.copyN td tn (text ++ tq))) := Lib.hid (by have := HST2.out; rw [if_neg hdist, if_neg hlong] at this; exact this)
        clear HST2
        go_wp2_with (at_builtin; refine wpList_append_any _ rfl (.tmp 63) (.tmp 65) _ rfl w.heap.size 5 i0 _ 1 1 Try.underlying22 hi hz0 hz1 hz2 rfl (by omega) (.slice OA text.length oc) text.length (bs text) rfl (hown2.alloc _) w2.heap.size LA tq.length lc (bs tq) rfl (hlr.alloc (Nat.le_refl _) _) (bs_one tq) (by unfold maxLen; omega) (by omega) (by simp; omega) ?_; intro v3 w3 hown3 hgrow3 hat3; obtain ⟨A3, c3, rfl⟩ := own_form hown3; have hblk := rtok_blk hown2 hgrow3; have b0 := hblk.cell 0; have b1 := hblk.cell 1; have b2 := hblk.cell 2; simp at b0 b1 b2)
        have hsz3 := hgrow3.size
        simp at hsz3
        have hbw3 : Below w.heap.size w w3 := (hbw2.alloc (by omega) _).grown hgrow3 (by simp; omega) (fun g hg => (hown2.lt g hg).1)
        have hul0 : (text ++ tq).length = text.length + tq.length := List.length_append
        rw [← bs_append, ← hul0] at hown3
        have htl : (text ++ tq).length ≤ 4000000 ∧ td ≤ (text ++ tq).length := by omega
        have hlim : (text ++ tq).length + tn ≤ dict.length + mN ∧ dict.length ≤ (text ++ tq).length := by omega
        have HU0 := Lib.hid hul0
        clear hgrow3 hat3 b0 b1 b2 hown2 hown hlr hul0
        generalize text ++ tq = text2 at *
        generalize w2.heap.size = gT at *
        go_loopg [9, 14] tn (fun n tv iv wr => ∃ (j : Nat) (OA : Option Addr) (oc : Nat), iv = .int .i64 j ∧ n = tn - j ∧ j ≤ tn ∧ tv = .slice OA (Pk.copyN td j text2).length oc ∧ wr.ownsRow w.heap.size 5 1 (.slice OA (Pk.copyN td j text2).length oc) (Pk.copyN td j text2).length (bs (Pk.copyN td j text2)) ∧
          Blk wr gT 57 #[.slice LA tq.length lc, .int .i64 td, .int .i64 tn] ∧ Below w.heap.size w wr)
        case atStart => exact ⟨0, A3, c3, rfl, rfl, by omega, by rw [← HU0.out]; rfl, hown3, hblk, hbw3⟩
        case round =>
          clear hown3 hblk hbw3
          obtain ⟨j, OA, oc, rfl, rfl, hj, rfl, hown, hblk, hbl⟩ := hrel
          have hszr := hbl.size
          have b0 := hblk.cell 0
          have b1 := hblk.cell 1
          have b2 := hblk.cell 2
          simp at b0 b1 b2
          by_cases hjt : j < tn
          · have hul := Pk.copyN_length td j text2
            have hun : Pk.copyN td (j + 1) text2 = Pk.copyN td j text2 ++ [(Pk.copyN td j text2).getD ((Pk.copyN td j text2).length - td) 0] := rfl
            obtain ⟨TA, tc, tb, hv, hx1, hx2, htx⟩ := own_text hown
            injection hv with hv1 _ hv2
            subst hv1 hv2
            obtain ⟨rfl, htb, hcell⟩ := htx (by omega)
            have hx := hcell ((Pk.copyN td j text2).length - td) (by omega)
            generalize Pk.copyN td j text2 = u at *
            generalize u.getD (u.length - td) 0 = x at *
            have HUN := Lib.hid hun
            have HUL := Lib.hid hul
            have j1 : (j : Int) < tn := by omega
            have j2 : (0 : Int) ≤ (u.length : Int) - td := by omega
            have j3 : (u.length : Int) - td < u.length := by omega
            have j4 : u.length ≤ 5000000 := by omega
            clear hun hul hcell htx
            go_wp2_with (at_builtin; refine wpList_append_lies _ rfl (.tmp 73) (.tmp 82) _ rfl w.heap.size 5 i0 _ 1 1 Try.underlying22 hi hz0 hz1 hz2 rfl (by omega) (.slice (some ⟨tb, 0, none⟩) u.length oc) u.length (bs u) rfl (hown.alloc _) ⟨wr.heap.size, 0, none⟩ 1 1 [.int .u8 x.toNat] rfl rfl (World.news_of_block (t := 5) (fr := (0, 0)) (heap_alloc_new wr _)) (by simp [Value.oneCell']) (by omega) (by unfold maxLen; omega) (by omega) (by simp; omega) (wr.heap.size + 1) (by simp) ?_; intro gg oc2 w4 hown4 hgrow4 hat4 hlt4)
            go_roundg (tn - (j + 1))
            case measure => omega
            case rel =>
              refine ⟨j + 1, some ⟨gg, 0, none⟩, oc2, by go_num, rfl, by omega, ?_, ?_, ?_, ?_⟩
              · rw [HUN.out, List.length_append]; rfl
              · rw [HUN.out, List.length_append, bs_append]; exact hown4
              · exact (hblk.alloc (.cells #[.int .u8 x.toNat] 5)).grown hgrow4 (Ne.symm (own_blk_ne (hown.alloc (.cells #[.int .u8 x.toNat] 5)) (hblk.alloc (.cells #[.int .u8 x.toNat] 5)) (by decide)))
              · exact (hbl.alloc hszr _).grown hgrow4 (by simp; omega) (fun g hg => (hown.lt g hg).1)
          · have hjn : j = tn := by omega
            subst hjn
            have hul := Pk.copyN_length td j text2
            have hfin := hres
            generalize Pk.copyN td j text2 = u at *
            have HUL := Lib.hid hul
            clear hul
            go_wp2_with fail
            go_roundg ((rest.drop s).length)
            case measure => rw [List.length_drop]; omega
            case rel =>
              have hd := HDR.out s
              have h0 := HDL.out
              have h2 := HUL.out
              refine ⟨k + s, u, OA, oc, by go_num, rfl, by rw [hd], by omega, by omega, by omega, ?_, hown, hbl⟩
              rw [hd, hres.out]
    · have hkp : k = p.length := by omega
      have hfin : Hid (R = .ok (text.drop dict.length)) := Lib.hid (by
        have := HGO.out
        rw [show p.drop k = [] by rw [hkp, List.drop_length], Pk.unpackGo_nil] at this
        exact this.symm)
      obtain ⟨S, sc, hsl, hsr⟩ := slice_from Try.underlying22 hi hz1 (RdB.of_own hown rfl) dict.length (by omega) .i64
      have i1 : decide ((k : Int) < p.length) = false := decide_eq_false (by omega)
      go_wp2_with fail
      go_ret3
      rw [hfin.out]
      exact ⟨⟨_, rfl, hsr⟩, hbl⟩
end Go.Proofs.Ytgmpdclmfcmodaa
