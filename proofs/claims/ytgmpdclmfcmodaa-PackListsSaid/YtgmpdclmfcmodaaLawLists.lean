/-
  The law PackLists, walked.
-/
import Derived.Test.YtgmpdclmfcmodaaLists
import Derived.Test.YtgmpdclmfcmodaaForms
import Derived.Test.YtgmpdclmfcmodaaLawRepeats
namespace Go.Proofs.Ytgmpdclmfcmodaa
open Go.RowKit

/-- What the law keeps of its first argument. -/
def ownOf (ls : List (List UInt8)) : List (List UInt8) := (ls.take 10).map (·.take 100)
theorem ownOf_length (ls : List (List UInt8)) : (ownOf ls).length = min 10 ls.length := by simp [ownOf]
theorem ownOf_get (ls : List (List UInt8)) (k : Nat) (h : k < (ownOf ls).length) : (ownOf ls).getD k [] = (ls.getD k []).take 100 := by
  rw [ownOf_length] at h
  unfold ownOf
  rw [List.getD_eq_getElem?_getD, List.getD_eq_getElem?_getD, List.getElem?_map, List.getElem?_take_of_lt (by omega), List.getElem?_eq_getElem (by omega)]
  rfl
theorem ownOf_le (ls : List (List UInt8)) (k : Nat) : ((ownOf ls).getD k []).length ≤ 100 := by
  rcases Nat.lt_or_ge k (ownOf ls).length with h | h
  · rw [ownOf_get ls k h, List.length_take]; omega
  · rw [List.getD_eq_getElem?_getD, List.getElem?_eq_none h]; simp

/-- Slices of the argument's strings, in a row of the call's own. -/
structure OwSt (w0 w : World) (base : Nat) (ov : Value) (lvs : List Value) (f : Nat → List UInt8) (k : Nat) : Prop where
  len : lvs.length = k
  out : w.ownsRow base 22 1 ov k lvs
  els : ∀ (j : Nat) lv, lvs[j]? = some lv → RdB w0 base lv (f j)

theorem OwSt.reads {w0 w : World} {base : Nat} {A : Option Addr} {cap k : Nat} {lvs : List Value} {ls : List (List UInt8)} (h : OwSt w0 w base (.slice A k cap) lvs (fun j => ls.getD j []) k) (hk : k = ls.length) (hb : Below base w0 w) (hB : base ≤ w.heap.size) : RdL w w.heap.size (.slice A k cap) ls := by
  subst hk
  have hl : ∀ (j : Nat) lv t, lvs[j]? = some lv → ls[j]? = some t → RdB w w.heap.size lv t := fun j lv t h1 h2 => by
    have := h.els j lv h1
    rw [List.getD_eq_getElem?_getD, h2] at this
    exact (this.below hb).more hB
  rcases h.out.2 with ⟨hv, h0⟩ | ⟨g, c, cur, hv, _, _, h1, h2, _⟩
  · injection hv with e1 e2 e3
    subst e1 e3
    refine ⟨none, 0, [], by rw [h0], by omega, by simp [maxLen], ?_, by simp⟩
    rw [h0]
    exact Reads.none_
  · injection hv with e1 e2 e3
    subst e1 e3
    exact ⟨_, _, lvs, rfl, h1, h2, Reads.of_own h.out, hl⟩

/-- A store into the row: what it reads as then. -/
theorem LsSt.store {w : World} {base g n cap idx : Nat} {lvs : List Value} {ls : List (List UInt8)} {v : Value} {x : List UInt8} (h : LsSt w base (.slice (some ⟨g, 0, none⟩) n cap) lvs ls) (hn : n = ls.length) (hi : idx < n) (hv : RdB w base v x) (hB : base ≤ w.heap.size) :
    (∃ u, w.cell? ⟨g, idx, none⟩ = some u) ∧ w.frozen? ⟨g, idx, none⟩ = false ∧ base ≤ g ∧ RdL (w.setCell ⟨g, idx, none⟩ v) (w.setCell ⟨g, idx, none⟩ v).heap.size (.slice (some ⟨g, 0, none⟩) n cap) (ls.set idx x) := by
  subst hn
  have hlen := h.len
  obtain ⟨hbg, hgs⟩ := h.out.lt g rfl
  obtain ⟨_, hor⟩ := h.out
  rcases hor with ⟨hv0, _⟩ | ⟨g', c, cur, hv0, _, hh, h1, h2, h3, _⟩
  · cases hv0
  injection hv0 with e1 _ e3
  injection e1 with e1
  injection e1 with e1
  subst e1 e3
  have hblk : Blk w g 22 cur := hh
  have hci : idx < cur.size := by rw [h3]; omega
  have hcell : ∀ j, j < ls.length → w.cell? ⟨g, j, none⟩ = lvs[j]? := fun j hj => h.out.cellAt j (by omega)
  refine ⟨⟨cur[idx], by rw [hblk.cell, Array.getElem?_eq_getElem hci]⟩, hblk.frozen idx, hbg, ?_⟩
  refine ⟨_, cap, lvs.set idx v, by rw [List.length_set], by rw [List.length_set]; exact h1, h2, ?_, fun j lv l hj hl => ?_⟩
  · rw [List.length_set]
    refine ⟨by rw [List.length_set, hlen, Nat.mul_one], fun _ => ⟨_, rfl, by rw [size_set]; exact hgs, fun j u hu => ?_⟩⟩
    rw [add_at0]
    have hj : j < ls.length := by
      have := (List.getElem?_eq_some_iff.1 hu).1
      rw [List.length_set] at this
      omega
    rw [(hblk.set_ idx v).cell, Array.getElem?_setIfInBounds]
    rw [List.getElem?_set] at hu
    by_cases hij : idx = j
    · rw [if_pos hij] at hu ⊢
      subst hij
      rw [if_pos (by omega)] at hu
      rw [if_pos hci]
      exact hu
    · rw [if_neg hij] at hu ⊢
      rw [← hblk.cell, hcell j hj]
      exact hu
  · rw [List.getElem?_set] at hj hl
    have hfr : Fr [g] w (w.setCell ⟨g, idx, none⟩ v) := (Fr.refl _ _).setCell (.inl (by simp)) _
    by_cases hij : idx = j
    · rw [if_pos hij] at hj hl
      rw [if_pos (by omega)] at hj hl
      injection hj with hj
      injection hl with hl
      subst hj hl
      have : Below base w (w.setCell ⟨g, idx, none⟩ v) := (Below.refl _ _).setCell hbg v
      exact (hv.below this).more (by rw [size_set]; exact hB)
    · rw [if_neg hij] at hj hl
      have ho := h.els j lv l hj hl
      have := own_fr ho hfr (fun b hb hm => by
        have hbe : b = g := by simpa using hm
        subst hbe
        rcases own_own_ne ho h.out (by decide) with h0 | h0
        · rw [h0] at hb; cases hb
        · exact h0 hb)
      exact RdB.of_own this rfl

theorem unpackList_1000 (w : World) (B : Nat) (v : Value) (ps : List (List UInt8)) (h : RdL w B v ps) (hB : B ≤ w.heap.size) (hlen : ∀ j, (ps.getD j []).length ≤ 8000000) (hll : ps.length ≤ 1000000) :
    Calls Try.prog 28 #[v, .int .i64 1000] w fun e w' => UlRet w' w.heap.size ps 1000 e ∧ Below w.heap.size w w' := unpackList_any w B v ps 1000 h hB hlen (by omega) hll

set_option maxRecDepth 100000 in
set_option maxHeartbeats 32000000 in
theorem lists_walk (w : World) (vl : Value) (t : Int) (vb : Value) (ls : List (List UInt8)) (b : List UInt8) (hl : RdL w w.heap.size vl ls) (ht : (Lit.int .u8 t).wf = true) (hb : RdB w w.heap.size vb b) :
    Calls Try.prog 12 #[vl, .int .u8 t, vb] w fun e w' => e = .returned (.bool true) ∧ Below w.heap.size w w' := by
  obtain ⟨i2, hi, hz0, hz1, hz2⟩ := info_parts info22
  obtain ⟨i0, hj, _, hj1, _⟩ := info_parts info5
  obtain ⟨ht1, ht2⟩ := u8_int ht
  obtain ⟨m, rfl⟩ : ∃ m : Nat, t = m := ⟨t.toNat, by omega⟩
  obtain ⟨A, cap, rfl, hc1, hc2, hat⟩ := hl.at_
  have HAT := Lib.hid hat
  have hol := ownOf_length ls
  have hog := ownOf_get ls
  have hle := ownOf_le ls
  have HOG := Lib.hid hog
  have HLE := Lib.hid hle
  clear hat hl hog hle ht
  generalize ownOf ls = os at *
  go_enter Try.func12, Try.ntmps12
  go_wp2_with fail
  go_loopg [7, 8] os.length (fun n ov iv wr => ∃ (k : Nat) (OA : Option Addr) (oc : Nat) (lvs : List Value), iv = .int .i64 k ∧ n = os.length - k ∧ k ≤ os.length ∧ ov = .slice OA k oc ∧ OwSt w wr w.heap.size (.slice OA k oc) lvs (fun j => os.getD j []) k ∧ Below w.heap.size w wr)
  case atStart => exact ⟨0, none, 0, [], rfl, by omega, by omega, rfl, ⟨rfl, World.ownsRow_nil _ _ _ _, by simp⟩, Below.refl _ _⟩
  case round =>
    obtain ⟨k, OA, oc, lvs, rfl, rfl, hk, rfl, hst, hbl⟩ := hrel
    have hszr := hbl.size
    by_cases hlt : k < os.length
    · have i1 : (k : Int) < ls.length := by omega
      have i1' : k < ls.length := by omega
      have i2' : (k : Int) < 10 := by omega
      obtain ⟨ad, lv, rfl, hab, hcell, hel⟩ := HAT.out k i1'
      obtain ⟨EA, ec, rfl, he1, _, _⟩ := id hel
      have hog := HOG.out k hlt
      have C0 := Lib.hid hcell
      obtain ⟨q, hq⟩ : ∃ q : Nat, q = min (ls.getD k []).length 100 := ⟨_, rfl⟩
      have e1 : (if (100 : Int) < ((ls.getD k []).length : Int) then (100 : Int) else ((ls.getD k []).length : Int)) = (q : Int) := by split <;> omega
      have hqe : q ≤ (ls.getD k []).length ∧ q ≤ ec := by omega
      have hup := hel.upto hqe.1
      have htk : (ls.getD k []).take q = os.getD k [] := by
        rw [hog]
        rcases Nat.le_total (ls.getD k []).length 100 with h | h
        · rw [List.take_of_length_le h, List.take_of_length_le (by omega)]
        · rw [hq, Nat.min_eq_right h]
      rw [htk] at hup
      have HUP := Lib.hid hup
      have HST := Lib.hid hst
      have hout := hst.out
      have hcr : wr.drew.cell? (ad.add k) = some (.slice EA (ls.getD k []).length ec) := (hbl.cell (p := ad.add k) (by rw [block_of_add]; exact hab)).trans hcell
      clear hup htk hog hq hst hel hcell
      generalize (ls.getD k []).length = L at *
      go_wp2_with fail
      refine wp_region_mixS (fun w' => w'.cell? (ad.add k) = some (.slice EA L ec)) [0, 1, 2, 3, 4, 5, 6, 7, 8, 9, 10, 11, 12, 13] [12, 13] [0, 1, 2, 3, 4, 5, 6, 7, 8, 9, 10, 11, 12, 13, 14] (by kernel_rfl) (by kernel_rfl) hcr ?_
      clear hcr
      simp only [inOrder, opAt]
      iterate 12
        (refine wpMixS_read (v := ?_) rfl rfl (fun w' hS => ?_) ?_
         rotate_left
         · ((try replace hS := hS rfl); (try dsimp only at hS); go_simp; (try with_reducible rfl))
         try simp only [Act.put, List.setIfInBounds_toArray, List.set_cons_zero, List.set_cons_succ])
      refine wpMixS_eff rfl rfl (fun K hK => ?_)
      go_simp
      refine hK.out _ _ _ (fun _ h => h) (fun _ => ?_) ?_
      · exact (((hbl.drew).alloc hszr _).cell (p := ad.add k) (by rw [block_of_add]; exact hab)).trans C0.out
      clear hK K
      try simp only [Act.put, List.setIfInBounds_toArray, List.set_cons_zero, List.set_cons_succ]
      refine wpMixS_eff rfl rfl (fun K hK => ?_)
      refine wp_append_lies _ _ _ _ (by rfl) w.heap.size 22 i2 _ 1 24 Try.underlying51 hi hz0 hz1 hz2 rfl (by omega) (.slice OA k oc) k lvs (by rfl) ((hout.alloc _).drew)
        ⟨wr.heap.size, 0, none⟩ 1 1 [.slice EA q ec] (by rfl) (by rfl) (World.news_of_block (cs := #[.slice EA q ec]) (t := 22) (fr := (0, 0)) (heap_alloc_new wr _)) (by simp [Value.oneCell'])
        (by omega) (by unfold maxLen; omega) (by omega) (by simp; omega) (wr.heap.size + 1) (by simp) ?_
      intro gg oc2 w4 hown4 hgrow4 hat4 hlt4
      have hbl4 : Below w.heap.size w w4 := ((hbl.alloc hszr _).drew).grown hgrow4 (by simp; omega) (fun g hg => (hout.lt g hg).1)
      refine hK.out _ _ _ (fun _ h => h) (fun _ => ?_) ?_
      · exact (hbl4.cell (p := ad.add k) (by rw [block_of_add]; exact hab)).trans C0.out
      clear hK K
      try simp only [Act.put, List.setIfInBounds_toArray, List.set_cons_zero, List.set_cons_succ]
      iterate 1
        (refine wpMixS_read (v := ?_) rfl rfl (fun w' hS => ?_) ?_
         rotate_left
         · ((try replace hS := hS rfl); (try dsimp only at hS); go_simp; (try with_reducible rfl))
         try simp only [Act.put, List.setIfInBounds_toArray, List.set_cons_zero, List.set_cons_succ])
      refine wpMixS_nil ?_
      go_wp2_with fail
      go_roundg (os.length - (k + 1))
      case measure => omega
      case rel =>
        refine ⟨k + 1, some ⟨gg, 0, none⟩, oc2, lvs ++ [.slice EA q ec], by go_num, rfl, by omega, rfl, ⟨by simp [HST.out.len], hown4, fun j lv hj => ?_⟩, hbl4⟩
        rcases Nat.lt_or_ge j lvs.length with h | h
        · rw [List.getElem?_append_left h] at hj
          exact HST.out.els j lv hj
        · rw [List.getElem?_append_right h] at hj
          have hj0 : j - lvs.length = 0 := by
            rcases Nat.eq_zero_or_pos (j - lvs.length) with h0 | h0
            · exact h0
            · rw [List.getElem?_eq_none (by simp; omega)] at hj; cases hj
          rw [hj0] at hj
          simp only [List.getElem?_cons_zero, Option.some.injEq] at hj
          subst hj
          have := HST.out.len
          obtain rfl : j = k := by omega
          exact HUP.out
    · obtain rfl : k = os.length := by omega
      obtain ⟨w1, rfl⟩ : ∃ w1 : World, w1 = wr := ⟨_, rfl⟩
      have hro := hst.reads rfl hbl hszr
      have hfin : Hid (ls.length ≤ os.length ∨ ls.length > os.length ∧ 10 ≤ os.length) := Lib.hid (by omega)
      have hn10 : os.length ≤ 10 := by omega
      have hPl := packsTo_length os os.length
      have hPg := packsTo_get os os.length
      have hPle : ∀ j, ((packsTo os os.length).getD j []).length ≤ 8000000 := fun j => by
        rcases Nat.lt_or_ge j os.length with h | h
        · rw [hPg j h]
          have := Pk.pack_len (dictOf os j) (os.getD j [])
          have := HLE.out j
          omega
        · rw [List.getD_eq_getElem?_getD, List.getElem?_eq_none (by omega)]; simp
      have HPG := Lib.hid hPg
      have HPLE := Lib.hid hPle
      have hpc := packList_any w1 w1.heap.size _ os os.length hro (Nat.le_refl _) (Nat.le_refl _) (fun j _ => by have := HLE.out j; omega) (fun h => by omega) (by omega)
      have HPC := Lib.hid hpc
      have hdle : ∀ k, (dictOf os k).length ≤ 100 := fun k => by
        unfold dictOf
        split
        · simp
        · exact HLE.out _
      have HDLE := Lib.hid hdle
      clear hPg hPle hst hpc hdle hlt hk hol
      have HPL := Lib.hid hPl
      clear hPl
      rcases hfin.out with hx | ⟨hx, hy⟩
      have i1 : decide ((os.length : Int) < ls.length) = false := decide_eq_false (by omega)
      have i1' : decide (os.length < ls.length) = false := decide_eq_false (by omega)
      rotate_left
      have i1 : decide ((os.length : Int) < ls.length) = true := decide_eq_true (by omega)
      have i1' : decide (os.length < ls.length) = true := decide_eq_true (by omega)
      have i3 : decide ((os.length : Int) < 10) = false := decide_eq_false (by omega)
      rotate_left
      all_goals
        clear hx hfin
        go_wp2_with fail
        refine HPC.out.mono ?_
        rintro e w2 ⟨⟨_, hpl⟩, nb⟩
        obtain ⟨pv, pls, rfl, hst⟩ := hpl rfl
        generalize packsTo os os.length = P at *
        replace hro := (hro.below nb).more nb.size
        have bl2 := hbl.trans (nb.mono hszr)
        have hpr := hst.reads
        have hst' := Lib.hid (LsSt.out hst)
        obtain ⟨PA, pc, rfl⟩ := own_form hst'.out
        rw [HPL.out] at hst hpr ⊢
        clear hpl HPC
        dsimp only
        go_wp2_with fail
        refine (known_any w2).mono ?_
        rintro e w3 ⟨rfl, nb2⟩
        replace hro := (hro.below nb2).more nb2.size
        replace hpr := (hpr.below nb2).more nb2.size
        replace hst := hst.below nb2
        have bl3 := bl2.trans (nb2.mono bl2.size)
        have hb1 := nb.size
        have hb2 := nb2.size
        clear nb nb2 bl2 hst'
        dsimp only
        have HRO := Lib.hid hro
        have HPR := Lib.hid hpr
        have HSTP := Lib.hid hst
        clear hro hpr hst
        go_wp2_with fail
        have hsz3 := bl3.size
        go_loopg [11, 12] os.length (fun q dv iv wr => ∃ (k : Nat) (dvv : Value), iv = .int .i64 k ∧ dvv = dv ∧ q = os.length - k ∧ k ≤ os.length ∧ RdB wr w3.heap.size dvv (dictOf os k) ∧ Below w3.heap.size w3 wr)
        case atStart => exact ⟨0, _, rfl, rfl, by omega, by omega, RdB.nil _ _, Below.refl _ _⟩
        case round =>
          obtain ⟨k, dv, rfl, rfl, rfl, hk, hdv, hbl4⟩ := hrel
          have hsz4 := hbl4.size
          by_cases hlt : k < os.length
          · have k1 : (k : Int) < os.length := by omega
            obtain ⟨OA', oc', hv, _, _, hoat⟩ := (HRO.out.below hbl4).at_
            injection hv with e1 e2 e3
            subst e1 e3
            obtain ⟨oad, olv, rfl, hoab, hocell, hoel⟩ := hoat k hlt
            obtain ⟨PA', pc', hv, _, _, hpat⟩ := (HPR.out.below hbl4).at_
            rw [HPL.out] at hv hpat
            injection hv with e1 e2 e3
            subst e1 e3
            obtain ⟨pad, plv, rfl, hpab, hpcell, hpel⟩ := hpat k hlt
            rw [HPG.out k hlt] at hpel
            have hxl := HLE.out k
            have hdl := HDLE.out k
            clear hoat hpat
            have hdn : dictOf os (k + 1) = os.getD k [] := by unfold dictOf; rw [if_neg (by omega), Nat.add_sub_cancel]
            have HDN := Lib.hid hdn
            clear hdn
            generalize dictOf os k = d at *
            generalize os.getD k [] = x at *
            have hpl4 := Pk.pack_len d x
            have hcl4 := Pk.can_len d x
            obtain ⟨PLA, plc, rfl, _, _, _⟩ := id hpel
            obtain ⟨OLA, olc, rfl, _, _, _⟩ := id hoel
            have HPC := Lib.hid hpcell
            have HOC := Lib.hid hocell
            have key : ∀ W, Below w3.heap.size wr W → W.cell? (pad.add k) = some (.slice PLA (Pk.pack d x).length plc) ∧ (convert 22 9 (.slice PLA (Pk.pack d x).length plc)).run Try.prog W = .ok (.string ⟨(Pk.pack d x).toArray⟩) W ∧ W.cell? (oad.add k) = some (.slice OLA x.length olc) := fun W hW =>
              ⟨(hW.cell (p := pad.add k) (by rw [block_of_add]; exact hpab)).trans HPC.out, conv_of (hpel.below hW), (hW.cell (p := oad.add k) (by rw [block_of_add]; exact hoab)).trans HOC.out⟩
            have KEY := Lib.hid key
            have hdw : Below w3.heap.size wr wr.drew := (Below.refl _ _).drew
            have hk0 := key _ hdw
            clear key hpcell hocell
            go_wp2_with fail
            refine wp_region_mixS (fun w' => w'.cell? (pad.add k) = some (.slice PLA (Pk.pack d x).length plc) ∧ (convert 22 9 (.slice PLA (Pk.pack d x).length plc)).run Try.prog w' = .ok (.string ⟨(Pk.pack d x).toArray⟩) w' ∧ w'.cell? (oad.add k) = some (.slice OLA x.length olc))
              [0, 1, 2, 3, 4, 5, 6, 7, 8, 9, 10, 11, 12, 13] [10, 11] [0, 1, 2, 3, 4, 5, 6, 7, 8, 9, 10, 11, 12, 13] (by kernel_rfl) (by kernel_rfl) hk0 ?_
            clear hk0
            simp only [inOrder, opAt]
            iterate 10
              (refine wpMixS_read (v := ?_) rfl rfl (fun w' hS => ?_) ?_
               rotate_left
               · ((try replace hS := hS rfl); (try dsimp only at hS); go_simp; (try with_reducible rfl))
               try simp only [Act.put, List.setIfInBounds_toArray, List.set_cons_zero, List.set_cons_succ])
            refine wpMixS_eff rfl rfl (fun K hK => ?_)
            go_simp
            refine (rcanonical_any wr.drew w3.heap.size dv _ d x hdv hoel hsz4 (by omega) (by omega)).mono ?_
            rintro e w4 ⟨v4, rfl, h4, nb⟩
            have hb4 : Below w3.heap.size wr w4 := hdw.trans (nb.mono hsz4)
            clear nb
            dsimp only
            refine hK.out _ _ _ (fun _ h => h) (fun _ => KEY.out _ hb4) ?_
            clear hK K
            try simp only [Act.put, List.setIfInBounds_toArray, List.set_cons_zero, List.set_cons_succ]
            refine wpMixS_eff rfl rfl (fun K hK => ?_)
            go_simp
            refine (rbytes_any w4 _ v4 _ h4 (Pk.can_ok d x) (Nat.le_refl _) (by rw [Pk.pack_eq]; omega) (by omega)).mono ?_
            rintro e w5 ⟨v5, rfl, h5, nb⟩
            rw [Pk.pack_eq] at h5
            have hb5 : Below w3.heap.size wr w5 := hb4.trans (nb.mono (by have := hb4.size; omega))
            clear nb h4
            dsimp only
            refine hK.out (fun w' => (w'.cell? (pad.add k) = some (.slice PLA (Pk.pack d x).length plc) ∧ (convert 22 9 (.slice PLA (Pk.pack d x).length plc)).run Try.prog w' = .ok (.string ⟨(Pk.pack d x).toArray⟩) w' ∧ w'.cell? (oad.add k) = some (.slice OLA x.length olc)) ∧ (convert 22 9 v5).run Try.prog w' = .ok (.string ⟨(Pk.pack d x).toArray⟩) w') _ _ (fun _ h => h.1) (fun _ => ⟨KEY.out _ hb5, conv_of h5⟩) ?_
            clear hK K
            try simp only [Act.put, List.setIfInBounds_toArray, List.set_cons_zero, List.set_cons_succ]
            iterate 2
              (refine wpMixS_read (v := ?_) rfl rfl (fun w' hS => ?_) ?_
               rotate_left
               · ((try replace hS := hS rfl); (try dsimp only at hS); go_simp; (try with_reducible rfl))
               try simp only [Act.put, List.setIfInBounds_toArray, List.set_cons_zero, List.set_cons_succ])
            refine wpMixS_nil ?_
            have oc5 := (KEY.out _ hb5).2.2
            go_wp2_with fail
            go_roundg (os.length - (k + 1))
            case measure => omega
            case rel => exact ⟨k + 1, .slice OLA x.length olc, by go_num, rfl, rfl, by omega, by rw [HDN.out]; exact hoel.below hb5, hbl4.trans hb5⟩
          · obtain rfl : k = os.length := by omega
            have k1 : decide ((os.length : Int) < os.length) = false := decide_eq_false (by omega)
            obtain ⟨w4, rfl⟩ : ∃ w4 : World, w4 = wr := ⟨_, rfl⟩
            have hst := HSTP.out.below hbl4
            have hpr := HPR.out.below hbl4
            have hb4 := bl3.trans (hbl4.mono hsz3)
            have hbb := hb.below hb4
            have hpl := HPL.out
            have hw1 : w.heap.size ≤ w1.heap.size := hszr
            have hw4 : w1.heap.size ≤ w4.heap.size := by omega
            clear hdv HSTP HPR HRO HPG HDLE hb bl3 HLE HAT HOG hbl hlt
            by_cases hz : os.length = 0
            rotate_left
            by_cases h20 : m < 20
            focus
              obtain ⟨idx, hidx⟩ : ∃ idx : Nat, idx = m % os.length := ⟨_, rfl⟩
              have hil : idx < os.length := by rw [hidx]; exact Nat.mod_lt _ (by omega)
              have q1 : decide ((0 : Int) < os.length) = true := decide_eq_true (by omega)
              have q1' : decide (0 < os.length) = true := decide_eq_true (by omega)
              have q2 : decide ((m : Int) < 20) = true := decide_eq_true (by omega)
              have q3 : (m : Int) % (os.length : Int) = (idx : Int) := by rw [hidx]; rfl
              have q4 : Int.tmod (m : Int) (os.length : Int) = (idx : Int) := by rw [← q3]; exact Int.tmod_eq_emod_of_nonneg (by omega)
              have q5 : IntKind.i64.wrap (idx : Int) = (idx : Int) := IntWalk.i64_in _ (by omega)
              have q6 : (idx : Int) < os.length := by omega
              have q8 : IntKind.i64.wrap (m : Int) = (m : Int) := IntWalk.i64_in _ (by omega)
              have q7 : ((os.length : Int) == 0) = false := beq_eq_false_iff_ne.2 (by omega)
              clear hidx
              have hform : ∃ g, PA = some ⟨g, 0, none⟩ := by
                rcases hst.out.2 with ⟨hv, h0⟩ | ⟨g, c, cur, hv, _⟩
                · omega
                · injection hv with e1 _ _
                  exact ⟨g, e1⟩
              obtain ⟨g, rfl⟩ := hform
              go_wp2_with fail
              refine wp_region_mixS (fun w' => True) [0, 1, 2, 3, 4, 5, 6, 7] [7, 9] [0, 1, 2, 3, 4, 5, 6, 7, 8, 9] (by kernel_rfl) (by kernel_rfl) trivial ?_
              simp only [inOrder, opAt]
              iterate 7
                (refine wpMixS_read (v := ?_) rfl rfl (fun w' hS => ?_) ?_
                 rotate_left
                 · ((try replace hS := hS rfl); (try dsimp only at hS); go_simp; (try with_reducible rfl))
                 try simp only [Act.put, List.setIfInBounds_toArray, List.set_cons_zero, List.set_cons_succ])
              refine wpMixS_eff rfl rfl (fun K hK => ?_)
              go_simp
              refine (cut_any w4.drew w.heap.size vb b hbb).mono ?_
              rintro e w5 ⟨v5, rfl, h5, rfl⟩
              have hb4l : (b.take 400).length ≤ 400 := by rw [List.length_take]; omega
              generalize b.take 400 = b4 at *
              dsimp only
              refine hK.out _ _ _ (fun _ h => h) (fun _ => trivial) ?_
              clear hK K
              try simp only [Act.put, List.setIfInBounds_toArray, List.set_cons_zero, List.set_cons_succ]
              iterate 1
                (refine wpMixS_read (v := ?_) rfl rfl (fun w' hS => ?_) ?_
                 rotate_left
                 · ((try replace hS := hS rfl); (try dsimp only at hS); go_simp; (try with_reducible rfl))
                 try simp only [Act.put, List.setIfInBounds_toArray, List.set_cons_zero, List.set_cons_succ])
              obtain ⟨⟨u0, hu0⟩, hfz, hgb, hrd⟩ := LsSt.store (w := w4) hst hpl.symm hil (h5.more hw1) hw4
              refine wpMixS_eff rfl rfl (fun K hK => ?_)
              obtain ⟨UA, uc, rfl, _, _, _⟩ := id h5
              go_simp
              refine hK.out _ _ _ (fun _ h => h) (fun h => by cases h) ?_
              clear hK K
              try simp only [Act.put, List.setIfInBounds_toArray, List.set_cons_zero, List.set_cons_succ]
              refine wpMixS_nil ?_
              have hb6 : Below w.heap.size w (w4.setCell ⟨g, idx, none⟩ (.slice UA b4.length uc)).drew := (hb4.setCell (by simp; omega) _).drew
              have HPS : ∀ j, ((P.set idx b4).getD j []).length ≤ 8000000 := fun j => by
                have := HPLE.out j
                rw [List.getD_eq_getElem?_getD] at this ⊢
                rw [List.getElem?_set]
                split
                · split
                  · simp; omega
                  · simp
                · exact this
              have hpsl : (P.set idx b4).length = os.length := by rw [List.length_set]; exact hpl
              have hcall0 := unpackList_1000 (w4.setCell ⟨g, idx, none⟩ (.slice UA b4.length uc)).drew _ _ _ hrd (Nat.le_refl _) HPS (by omega)
              have hcall := Lib.hid hcall0
              have HPS1 := Lib.hid HPS
              clear hcall0 HPS
              have hsz6 : w.heap.size ≤ (w4.setCell ⟨g, idx, none⟩ (.slice UA b4.length uc)).drew.heap.size := hb6.size
              replace hrd : RdL (w4.setCell ⟨g, idx, none⟩ (.slice UA b4.length uc)).drew (w4.setCell ⟨g, idx, none⟩ (.slice UA b4.length uc)).drew.heap.size (.slice (some ⟨g, 0, none⟩) os.length pc) (P.set idx b4) := hrd
              have HRD := Lib.hid hrd
              clear hrd hst hpr h5 hbb hu0 hfz HPLE HPL hpl hbl4 q3 q4 q5 q6 q8
              generalize P.set idx b4 = ps at *
              go_wp2_with fail
              refine hcall.out.mono ?_
              rintro e w6 ⟨hu, nb⟩
              have hb7 := hb6.trans (nb.mono hsz6)
              have hrd := (HRD.out.below nb).more nb.size
              have HPS := HPS1.out
              clear hcall nb HPS1 HRD hb6 hb4 hsz6
              generalize (some (⟨g, 0, none⟩ : Addr)) = PA at *
            rotate_left
            focus
              have q1 : decide ((0 : Int) < os.length) = true := decide_eq_true (by omega)
              have q1' : decide (0 < os.length) = true := decide_eq_true (by omega)
              have q2 : decide ((m : Int) < 20) = false := decide_eq_false (by omega)
              have HPS := HPLE.out
              have hcall0 := unpackList_1000 w4 _ _ _ hpr hsz4 HPS (by omega)
              have hcall := Lib.hid hcall0
              have HPS1 := Lib.hid HPS
              clear hcall0 HPS
              have hpsl := hpl
              have HRD := Lib.hid hpr
              have hsz6 := hb4.size
              clear hst hpr hbb HPLE HPL hpl
              generalize hps : P = ps at *
              clear hps
              go_wp2_with fail
              refine hcall.out.mono ?_
              rintro e w6 ⟨hu, nb⟩
              have hb7 := hb4.trans (nb.mono hsz6)
              have hrd := (HRD.out.below (nb.mono hsz4)).more (Nat.le_trans hsz4 nb.size)
              have HPS := HPS1.out
              clear hcall nb HPS1 HRD hb4 hsz6 hbl4
            rotate_left
            focus
              have q1 : decide ((0 : Int) < os.length) = false := decide_eq_false (by omega)
              have q1' : decide (0 < os.length) = false := decide_eq_false (by omega)
              clear hz
              have HPS := HPLE.out
              have hcall0 := unpackList_1000 w4 _ _ _ hpr hsz4 HPS (by omega)
              have hcall := Lib.hid hcall0
              have HPS1 := Lib.hid HPS
              clear hcall0 HPS
              have hpsl := hpl
              have HRD := Lib.hid hpr
              have hsz6 := hb4.size
              clear hst hpr hbb HPLE HPL hpl
              generalize hps : P = ps at *
              clear hps
              go_wp2_with fail
              refine hcall.out.mono ?_
              rintro e w6 ⟨hu, nb⟩
              have hb7 := hb4.trans (nb.mono hsz6)
              have hrd := (HRD.out.below (nb.mono hsz4)).more (Nat.le_trans hsz4 nb.size)
              have HPS := HPS1.out
              clear hcall nb HPS1 HRD hb4 hsz6 hbl4
            rotate_left
            all_goals
              have HRD := Lib.hid hrd
              have HPS2 := Lib.hid HPS
              have hsz7 := hb7.size
              clear hrd HPS
              obtain ⟨ts, hts, hu⟩ := hu
              have HTS := Lib.hid hts
              clear hts
              rcases hu with ⟨htl, v', lvs', rfl, hst6⟩ | ⟨htl, a9, n9, hn9, herr, rfl⟩
              · have htl2 : ts.length = os.length := by omega
                have hrt := hst6.reads
                have HTL := Lib.hid htl2
                obtain ⟨TA, tc, hv, _, _, _⟩ := hrt.at_
                rw [htl2] at hv
                subst hv
                have HRT := Lib.hid hrt
                clear hst6 hrt htl htl2
                dsimp only
                go_wp2_with fail
                go_loopg [11, 16] os.length (fun q dv iv wr => ∃ (k : Nat) (dvv : Value), iv = .int .i64 k ∧ dvv = dv ∧ q = os.length - k ∧ k ≤ os.length ∧ RdB wr wr.heap.size dvv (dictOf ts k) ∧ Below w6.heap.size w6 wr)
                case atStart => exact ⟨0, _, rfl, rfl, by omega, by omega, RdB.nil _ _, Below.refl _ _⟩
                case round =>
                  obtain ⟨k, dv, rfl, rfl, rfl, hk, hdv, hbl8⟩ := hrel
                  have hsz8 := hbl8.size
                  have hb8 := hb7.trans (hbl8.mono hsz7)
                  by_cases hlt : k < os.length
                  · have k1 : (k : Int) < os.length := by omega
                    have k2 : (0 : Int) ≤ (k : Int) := by omega
                    obtain ⟨PB, pcb, hv, _, _, hpat⟩ := (HRD.out.below hbl8).at_
                    rw [hpsl] at hv hpat
                    injection hv with e1 e2 e3
                    subst e1 e3
                    obtain ⟨pad, plv, hpad, hpab, hpcell, hpel⟩ := hpat k hlt
                    clear hpat e2
                    obtain ⟨TB, tcb, hv, _, _, htat⟩ := (HRT.out.below hbl8).at_
                    rw [HTL.out] at hv htat
                    injection hv with e1 e2 e3
                    subst e1 e3
                    obtain ⟨tad, tlv, rfl, htab, htcell, htel⟩ := htat k hlt
                    clear htat e2
                    cases hpad
                    have hxl := HPS2.out k
                    have hun := HTS.out k (by rw [HTL.out]; exact hlt)
                    have hdn : dictOf ts (k + 1) = ts.getD k [] := by unfold dictOf; rw [if_neg (by omega), Nat.add_sub_cancel]
                    have HDN := Lib.hid hdn
                    have HUN := Lib.hid hun
                    clear hdn hun
                    generalize dictOf ts k = d at *
                    generalize ps.getD k [] = x at *
                    generalize ts.getD k [] = t at *
                    obtain ⟨PLA, plc, rfl, _, _, _⟩ := id hpel
                    obtain ⟨TLA, tlc, rfl, _, _, _⟩ := id htel
                    have TCE := Lib.hid htcell
                    go_wp2_with fail
                    refine (runpack_any wr wr.heap.size dv _ d x 1000 hdv (hpel.more hsz8) (Nat.le_refl _) hxl (by omega) (by omega)).mono ?_
                    rintro e w9 ⟨hu9, nb⟩
                    have hun := HUN.out
                    change Pk.unpack d x 1000 = _ at hun
                    rw [hun] at hu9
                    obtain ⟨u9, rfl, hu9⟩ := hu9
                    clear hun HUN
                    have hb9 : Below w6.heap.size wr w9 := nb.mono hsz8
                    have hcw : (w9.drew.cell? (tad.add k) = some (.slice TLA t.length tlc)) ∧ (convert 22 9 (.slice TLA t.length tlc)).run Try.prog w9.drew = .ok (.string ⟨t.toArray⟩) w9.drew ∧ (convert 22 9 u9).run Try.prog w9.drew = .ok (.string ⟨t.toArray⟩) w9.drew :=
                      ⟨(hb9.cell (p := tad.add k) (by rw [block_of_add]; exact htab)).trans TCE.out, conv_of (w := w9.drew) (htel.below hb9.drew), conv_of (w := w9.drew) hu9⟩
                    clear htcell hpcell
                    dsimp only
                    go_wp2_with fail
                    refine wp_region_mixS (fun w' => w'.cell? (tad.add k) = some (.slice TLA t.length tlc) ∧ (convert 22 9 (.slice TLA t.length tlc)).run Try.prog w' = .ok (.string ⟨t.toArray⟩) w' ∧ (convert 22 9 u9).run Try.prog w' = .ok (.string ⟨t.toArray⟩) w')
                      [0, 1, 2, 3, 4, 5, 6, 7, 8, 9, 10, 11, 12, 13, 14, 15, 16, 17, 18] [] [0, 1, 2, 3, 4, 5, 6, 7, 8, 9, 10, 11, 12, 13, 14, 15, 16, 17, 18] (by kernel_rfl) (by kernel_rfl) hcw ?_
                    clear hcw
                    simp only [inOrder, opAt]
                    iterate 19
                      (refine wpMixS_read (v := ?_) rfl rfl (fun w' hS => ?_) ?_
                       rotate_left
                       · ((try replace hS := hS rfl); (try dsimp only at hS); go_simp; (try with_reducible rfl))
                       try simp only [Act.put, List.setIfInBounds_toArray, List.set_cons_zero, List.set_cons_succ])
                    refine wpMixS_nil ?_
                    go_wp2_with fail
                    go_roundg (os.length - (k + 1))
                    case measure => omega
                    case rel => exact ⟨k + 1, u9, by go_num, rfl, rfl, by omega, by rw [HDN.out]; exact hu9, hbl8.trans hb9.drew⟩
                  · obtain rfl : k = os.length := by omega
                    have k1 : decide ((os.length : Int) < os.length) = false := decide_eq_false (by omega)
                    go_wp2_with fail
                    go_ret
                    exact ⟨rfl, hb8⟩
              · have HERR := Lib.hid herr
                have HTL := Lib.hid htl
                have hto : ts.length < os.length := by omega
                have f1 : ((n9 : Int) == 0) = false := beq_eq_false_iff_ne.2 (by omega)
                have f1' : (n9 == 0) = false := beq_eq_false_iff_ne.2 (by omega)
                clear herr htl
                dsimp only
                go_wp2_with fail
                go_loopg [11, 16] os.length (fun q dv iv wr => ∃ (k : Nat) (dvv : Value), iv = .int .i64 k ∧ dvv = dv ∧ q = os.length - k ∧ k ≤ ts.length ∧ RdB wr wr.heap.size dvv (dictOf ts k) ∧ Below w6.heap.size w6 wr)
                case atStart => exact ⟨0, _, rfl, rfl, by omega, by omega, RdB.nil _ _, Below.refl _ _⟩
                case round =>
                  obtain ⟨k, dv, rfl, rfl, rfl, hk, hdv, hbl8⟩ := hrel
                  have hsz8 := hbl8.size
                  have hb8 := hb7.trans (hbl8.mono hsz7)
                  have hlt : k < os.length := by omega
                  have k1 : (k : Int) < os.length := by omega
                  have k2 : (0 : Int) ≤ (k : Int) := by omega
                  obtain ⟨PB, pcb, hv, _, _, hpat⟩ := (HRD.out.below hbl8).at_
                  rw [hpsl] at hv hpat
                  injection hv with e1 e2 e3
                  subst e1 e3
                  obtain ⟨pad, plv, hpad, hpab, hpcell, hpel⟩ := hpat k hlt
                  clear hpat e2
                  cases hpad
                  have hxl := HPS2.out k
                  by_cases hke : k < ts.length
                  · have hun := HTS.out k hke
                    have hdn : dictOf ts (k + 1) = ts.getD k [] := by unfold dictOf; rw [if_neg (by omega), Nat.add_sub_cancel]
                    have HDN := Lib.hid hdn
                    have HUN := Lib.hid hun
                    clear hdn hun
                    generalize dictOf ts k = d at *
                    generalize ps.getD k [] = x at *
                    generalize ts.getD k [] = t at *
                    obtain ⟨PLA, plc, rfl, _, _, _⟩ := id hpel
                    go_wp2_with fail
                    refine (runpack_any wr wr.heap.size dv _ d x 1000 hdv (hpel.more hsz8) (Nat.le_refl _) hxl (by omega) (by omega)).mono ?_
                    rintro e w9 ⟨hu9, nb⟩
                    have hun := HUN.out
                    change Pk.unpack d x 1000 = _ at hun
                    rw [hun] at hu9
                    obtain ⟨u9, rfl, hu9⟩ := hu9
                    clear hun HUN
                    have hb9 : Below w6.heap.size wr w9 := nb.mono hsz8
                    dsimp only
                    go_wp2_with fail
                    refine wp_region_mixS (fun w' => True)
                      [0, 1, 2, 3, 4, 5, 6, 7, 8, 9, 10, 11, 12, 13, 14, 15, 16, 17, 18] [] [0, 1, 2, 3, 4, 5, 6, 7, 8, 9, 10, 11, 12, 13, 14, 15, 16, 17, 18] (by kernel_rfl) (by kernel_rfl) trivial ?_
                    simp only [inOrder, opAt]
                    iterate 3
                      (refine wpMixS_read (v := ?_) rfl rfl (fun w' hS => ?_) ?_
                       rotate_left
                       · ((try replace hS := hS rfl); (try dsimp only at hS); go_simp; (try with_reducible rfl))
                       try simp only [Act.put, List.setIfInBounds_toArray, List.set_cons_zero, List.set_cons_succ])
                    iterate 15
                      (refine wpMixS_skip rfl rfl ?_
                       try simp only [Act.put, List.setIfInBounds_toArray, List.set_cons_zero, List.set_cons_succ])
                    iterate 1
                      (refine wpMixS_read (v := ?_) rfl rfl (fun w' hS => ?_) ?_
                       rotate_left
                       · ((try replace hS := hS rfl); (try dsimp only at hS); go_simp; (try with_reducible rfl))
                       try simp only [Act.put, List.setIfInBounds_toArray, List.set_cons_zero, List.set_cons_succ])
                    refine wpMixS_nil ?_
                    go_wp2_with fail
                    go_roundg (os.length - (k + 1))
                    case measure => omega
                    case rel => exact ⟨k + 1, u9, by go_num, rfl, rfl, by omega, by rw [HDN.out]; exact hu9, hbl8.trans hb9.drew⟩
                  · obtain rfl : k = ts.length := by omega
                    have hun := HERR.out
                    have HUN := Lib.hid hun
                    clear hun
                    generalize dictOf ts ts.length = d at *
                    generalize ps.getD ts.length [] = x at *
                    obtain ⟨PLA, plc, rfl, _, _, _⟩ := id hpel
                    go_wp2_with fail
                    refine (runpack_any wr wr.heap.size dv _ d x 1000 hdv (hpel.more hsz8) (Nat.le_refl _) hxl (by omega) (by omega)).mono ?_
                    rintro e w9 ⟨hu9, nb⟩
                    have hun := HUN.out
                    change Pk.unpack d x 1000 = _ at hun
                    rw [hun] at hu9
                    simp only [UnpRet] at hu9
                    subst hu9
                    clear hun HUN
                    dsimp only
                    go_wp2_with fail
                    go_ret
                    exact ⟨rfl, hb8.trans (nb.mono hb8.size)⟩
end Go.Proofs.Ytgmpdclmfcmodaa
