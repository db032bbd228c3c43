/-
  Walks: PackList and UnpackList.
-/
import Derived.Test.YtgmpdclmfcmodaaLawTokens
namespace Go.Proofs.Ytgmpdclmfcmodaa
open Go.RowKit

theorem info22 : (Try.prog.info? 22).map (fun i => (i.zero, i.size, i.bytes)) = some (some (.slice none 0 0), 1, 24) := by kernel_rfl

/-- A slice value that reads as these byte strings. -/
def RdL (w : World) (B : Nat) (v : Value) (ls : List (List UInt8)) : Prop :=
  ∃ A cap lvs, v = .slice A ls.length cap ∧ ls.length ≤ cap ∧ cap ≤ maxLen ∧ Reads w B 1 A ls.length lvs ∧ ∀ (j : Nat) lv l, lvs[j]? = some lv → ls[j]? = some l → RdB w B lv l

section
variable {w w' : World} {B B' : Nat} {v : Value} {ls : List (List UInt8)}
theorem RdL.below (h : RdL w B v ls) (hb : Below B w w') : RdL w' B v ls :=
  let ⟨A, c, lvs, h1, h2, h3, h4, h5⟩ := h
  ⟨A, c, lvs, h1, h2, h3, h4.below hb, fun j lv l a b => (h5 j lv l a b).below hb⟩
theorem RdL.more (h : RdL w B v ls) (hB : B ≤ B') : RdL w B' v ls :=
  let ⟨A, c, lvs, h1, h2, h3, h4, h5⟩ := h
  ⟨A, c, lvs, h1, h2, h3, h4.more hB, fun j lv l a b => (h5 j lv l a b).more hB⟩
/-- An element of it. -/
theorem RdL.at_ (h : RdL w B v ls) : ∃ A cap, v = .slice A ls.length cap ∧ ls.length ≤ cap ∧ cap ≤ maxLen ∧ ∀ i, i < ls.length → ∃ ad lv, A = some ad ∧ ad.block < B ∧ w.cell? (ad.add i) = some lv ∧ RdB w B lv (ls.getD i []) := by
  obtain ⟨A, c, lvs, h1, h2, h3, h4, h5⟩ := h
  refine ⟨A, c, h1, h2, h3, fun i hi => ?_⟩
  obtain ⟨ad, u, e, hb, hu, hc⟩ := h4.at_ hi
  refine ⟨ad, u, e, hb, hc, h5 i u _ hu ?_⟩
  rw [List.getD_eq_getElem?_getD, List.getElem?_eq_getElem hi]
  rfl
end

/-- Byte strings that the call has collected: their row, and the rows of their bytes. -/
structure LsSt (w : World) (base : Nat) (ov : Value) (lvs : List Value) (ls : List (List UInt8)) : Prop where
  len : lvs.length = ls.length
  out : w.ownsRow base 22 1 ov ls.length lvs
  els : ∀ (j : Nat) lv l, lvs[j]? = some lv → ls[j]? = some l → w.ownsRow base 5 1 lv l.length (bs l)

section
variable {w w1 : World} {base : Nat} {ov ov' lv : Value} {lvs : List Value} {ls : List (List UInt8)} {l : List UInt8} {o : Obj}
theorem LsSt.nil_ (w : World) (base : Nat) : LsSt w base (.slice none 0 0) [] [] := ⟨rfl, World.ownsRow_nil _ _ _ _, by simp⟩
theorem LsSt.below (h : LsSt w base ov lvs ls) (hb : Below w.heap.size w w1) : LsSt w1 base ov lvs ls :=
  ⟨h.len, own_fr h.out (Fr.of_below (L := []) hb) (by simp), fun j lv t h1 h2 => own_fr (h.els j lv t h1 h2) (Fr.of_below (L := []) hb) (by simp)⟩
theorem LsSt.push (h : LsSt w base ov lvs ls) (hgrow : (w.alloc o).grownBy w1 ov.ownBlock) (hown : w1.ownsRow base 22 1 ov' (ls.length + 1) (lvs ++ [lv]))
    (hlv : w.ownsRow base 5 1 lv l.length (bs l)) : LsSt w1 base ov' (lvs ++ [lv]) (ls ++ [l]) := by
  have keep : ∀ {v n xs}, w.ownsRow base 5 1 v n xs → w1.ownsRow base 5 1 v n xs := fun hv => (hv.alloc o).kept hgrow (own_own_ne hv h.out (by decide))
  refine ⟨by simp [h.len], ?_, ?_⟩
  · rw [List.length_append]
    exact hown
  · intro j u s hu hs
    rcases Nat.lt_or_ge j lvs.length with hj | hj
    · rw [List.getElem?_append_left hj] at hu
      rw [List.getElem?_append_left (by rw [← h.len]; exact hj)] at hs
      exact keep (h.els j u s hu hs)
    · rw [List.getElem?_append_right hj] at hu
      rw [List.getElem?_append_right (by rw [← h.len]; exact hj)] at hs
      have hj0 : j - lvs.length = 0 := by
        rcases Nat.eq_zero_or_pos (j - lvs.length) with h0 | h0
        · exact h0
        · rw [List.getElem?_eq_none (by simp; omega)] at hu; cases hu
      rw [hj0] at hu
      rw [← h.len, hj0] at hs
      simp only [List.getElem?_cons_zero, Option.some.injEq] at hu hs
      subst hu hs
      exact keep hlv
theorem LsSt.reads (h : LsSt w base ov lvs ls) : RdL w w.heap.size ov ls := by
  have hl : ∀ (j : Nat) lv t, lvs[j]? = some lv → ls[j]? = some t → RdB w w.heap.size lv t := fun j lv t h1 h2 => RdB.of_own (h.els j lv t h1 h2) rfl
  rcases h.out.2 with ⟨rfl, h0⟩ | ⟨g, cap, cur, rfl, _, _, h1, h2, _⟩
  · refine ⟨none, 0, [], by rw [h0], by omega, by simp [maxLen], ?_, by simp⟩
    rw [h0]
    exact Reads.none_
  · exact ⟨_, cap, lvs, rfl, h1, h2, Reads.of_own h.out, hl⟩
end

/-- The dictionary of an element: the element before it. -/
def dictOf (ls : List (List UInt8)) (k : Nat) : List UInt8 := if k = 0 then [] else ls.getD (k - 1) []
/-- What PackList packs. -/
def packsTo (ls : List (List UInt8)) : Nat → List (List UInt8)
  | 0 => []
  | k + 1 => packsTo ls k ++ [Pk.pack (dictOf ls k) (ls.getD k [])]
theorem packsTo_length (ls : List (List UInt8)) : ∀ k, (packsTo ls k).length = k
  | 0 => rfl
  | k + 1 => by rw [packsTo, List.length_append, packsTo_length ls k]; rfl
theorem packsTo_get (ls : List (List UInt8)) : ∀ k j, j < k → (packsTo ls k).getD j [] = Pk.pack (dictOf ls j) (ls.getD j [])
  | 0, j, h => by omega
  | k + 1, j, h => by
    have hl := packsTo_length ls k
    rw [packsTo, List.getD_eq_getElem?_getD]
    by_cases hj : j < k
    · rw [List.getElem?_append_left (by omega), ← List.getD_eq_getElem?_getD]
      exact packsTo_get ls k j hj
    · obtain rfl : j = k := by omega
      rw [List.getElem?_append_right (by omega), hl, Nat.sub_self]
      rfl

/-- What PackList returns. -/
def PlRet (w' : World) (base : Nat) (ls : List (List UInt8)) (K : Nat) (e : Ending) : Prop :=
  (K < ls.length → e = .returned (.tuple #[.slice none 0 0, .int .i64 5])) ∧ (K = ls.length → ∃ v' lvs, e = .returned (.tuple #[v', .int .i64 0]) ∧ LsSt w' base v' lvs (packsTo ls ls.length))

set_option maxRecDepth 100000 in
set_option maxHeartbeats 8000000 in
/-- PackList: K is the first element that is too long, or their number. -/
theorem packList_any (w : World) (B : Nat) (v : Value) (ls : List (List UInt8)) (K : Nat) (h : RdL w B v ls) (hB : B ≤ w.heap.size) (hK : K ≤ ls.length) (hok : ∀ j, j < K → (ls.getD j []).length ≤ 1048576) (hbad : K < ls.length → 1048576 < (ls.getD K []).length) (hll : ls.length ≤ 1000000) :
    Calls Try.prog 25 #[v] w fun e w' => PlRet w' w.heap.size ls K e ∧ Below w.heap.size w w' := by
  obtain ⟨i2, hi, hz0, hz1, hz2⟩ := info_parts info22
  obtain ⟨A, cap, rfl, hc1, hc2, _⟩ := h.at_
  have HOK := Lib.hid hok
  have HBAD := Lib.hid hbad
  have HL := Lib.hid h
  clear hok hbad
  go_enter Try.func25, Try.ntmps25
  go_wp2_with fail
  go_loopg [4, 5, 12] ls.length (fun n ov dv iv wr => ∃ (k : Nat) (OA : Option Addr) (oc : Nat) (lvs : List Value) (dvv : Value), iv = .int .i64 k ∧ dvv = dv ∧ n = ls.length - k ∧ k ≤ K ∧ ov = .slice OA k oc ∧ LsSt wr w.heap.size (.slice OA k oc) lvs (packsTo ls k) ∧ RdB wr B dvv (dictOf ls k) ∧ (dictOf ls k).length ≤ 1048576 ∧ Below w.heap.size w wr)
  case atStart => exact ⟨0, none, 0, [], _, rfl, rfl, by omega, by omega, rfl, LsSt.nil_ _ _, RdB.nil _ _, by simp [dictOf], Below.refl _ _⟩
  case round =>
    obtain ⟨k, OA, oc, lvs, dv, rfl, rfl, rfl, hk, rfl, hst, hdv, hdl, hbl⟩ := hrel
    have hszr := hbl.size
    by_cases hlt : k < ls.length
    · have i1 : (k : Int) < ls.length := by omega
      have i2' : (0 : Int) ≤ (k : Int) := by omega
      obtain ⟨A1, c1, hv, _, _, hat⟩ := (HL.out.below (hbl.mono hB)).at_
      injection hv with e1 e2 e3
      subst e1 e3
      obtain ⟨ad, lv, rfl, hab, hcell, hel⟩ := hat k hlt
      clear hat e2
      by_cases hkK : k < K
      · have hel2 := HOK.out k hkK
        have hnext : packsTo ls (k + 1) = packsTo ls k ++ [Pk.pack (dictOf ls k) (ls.getD k [])] := rfl
        have hdn : dictOf ls (k + 1) = ls.getD k [] := by unfold dictOf; rw [if_neg (by omega), Nat.add_sub_cancel]
        have hpk := packsTo_length ls k
        have HN := Lib.hid hnext
        have HD := Lib.hid hdn
        clear hnext hdn
        generalize packsTo ls k = pk at *
        generalize dictOf ls k = dk at *
        generalize ls.getD k [] = dn at *
        go_wp2_with fail
        refine (packWith_own wr B dv lv dk dn hdv hel (by omega) hdl hel2).mono ?_
        rintro e w2 ⟨pv, rfl, hpv, nb⟩
        have hst2 := hst.below nb
        have hel3 := hel.below (nb.mono (by omega))
        have hbl2 := hbl.trans (nb.mono hszr)
        have hsz2 := hbl2.size
        have hpv2 : w2.ownsRow w.heap.size 5 1 pv (Pk.pack dk dn).length (bs (Pk.pack dk dn)) := own_base hpv fun g hg => by have := (hpv.lt g hg).1; omega
        have hout := hst2.out
        rw [hpk] at hout
        clear hst hdv hel hpv nb hbl
        generalize Pk.pack dk dn = P at *
        obtain ⟨PA, pc, rfl⟩ := own_form hpv2
        dsimp only
        go_wp2_with (at_builtin; refine wpList_append_lies _ rfl (.tmp 25) (.tmp 27) _ rfl w.heap.size 22 i2 _ 1 24 Try.underlying51 hi hz0 hz1 hz2 rfl (by omega) (.slice OA k oc) k lvs rfl (hout.alloc _) ⟨w2.heap.size, 0, none⟩ 1 1 [.slice PA P.length pc] rfl rfl (World.news_of_block (cs := #[.slice PA P.length pc]) (t := 22) (fr := (0, 0)) (heap_alloc_new w2 _)) (by simp [Value.oneCell']) (by omega) (by unfold maxLen; omega) (by omega) (by simp; omega) (w2.heap.size + 1) (by simp) ?_; intro gg oc2 w4 hown4 hgrow4 hat4 hlt4)
        have st4 := LsSt.push hst2 hgrow4 (by rw [hpk]; exact hown4) hpv2
        go_roundg (ls.length - (k + 1))
        case measure => omega
        case rel =>
          refine ⟨k + 1, some ⟨gg, 0, none⟩, oc2, lvs ++ [.slice PA P.length pc], lv, by go_num, rfl, rfl, by omega, rfl, ?_, ?_, by rw [HD.out]; exact hel2, ?_⟩
          · rw [HN.out]; exact st4
          · rw [HD.out]; exact hel3.below (((Below.refl _ _).alloc (by omega) _).grown hgrow4 (by simp; omega) (fun g hg => by have := (hout.lt g hg).1; omega))
          · exact (hbl2.alloc hsz2 _).grown hgrow4 (by simp; omega) (fun g hg => (hout.lt g hg).1)
      · obtain rfl : k = K := by omega
        have hel2 := HBAD.out hlt
        have hpost : ∀ w', PlRet w' w.heap.size ls k (.returned (.tuple #[.slice none 0 0, .int .i64 5])) := fun w' => ⟨fun _ => rfl, fun h => by omega⟩
        have HP := Lib.hid hpost
        clear hpost
        generalize dictOf ls k = dk at *
        generalize ls.getD k [] = x at *
        go_wp2_with fail
        refine (packWith_long wr B dv lv dk x hdv hel (.inr hel2)).mono ?_
        rintro e w2 ⟨rfl, rfl⟩
        dsimp only
        go_wp2_with fail
        go_ret2
        exact ⟨HP.out _, hbl⟩
    · obtain rfl : k = ls.length := by omega
      obtain rfl : ls.length = K := by omega
      have i1 : decide ((ls.length : Int) < ls.length) = false := decide_eq_false (by omega)
      have hpost : PlRet wr w.heap.size ls ls.length (.returned (.tuple #[.slice OA ls.length oc, .int .i64 0])) := ⟨fun h => by omega, fun _ => ⟨_, _, rfl, hst⟩⟩
      clear hst hdv
      go_wp2_with fail
      go_ret2
      exact ⟨hpost, hbl⟩

/-- What UnpackList returns: ts are the elements that it has unpacked. -/
def UlRet (w' : World) (base : Nat) (ps : List (List UInt8)) (most : Nat) (e : Ending) : Prop :=
  ∃ ts : List (List UInt8), (∀ j, j < ts.length → Pk.unpack (dictOf ts j) (ps.getD j []) most = .ok (ts.getD j [])) ∧
    ((ts.length = ps.length ∧ ∃ v' lvs, e = .returned (.tuple #[v', .int .i64 0, .int .i64 0]) ∧ LsSt w' base v' lvs ts) ∨
     (ts.length < ps.length ∧ ∃ a n, n ≠ 0 ∧ Pk.unpack (dictOf ts ts.length) (ps.getD ts.length []) most = .error (a, n) ∧ e = .returned (.tuple #[.slice none 0 0, .int .i64 ts.length, .int .i64 n])))

theorem dictOf_snoc (ts : List (List UInt8)) (t : List UInt8) (j : Nat) (h : j ≤ ts.length) : dictOf (ts ++ [t]) j = dictOf ts j := by
  unfold dictOf
  split
  · rfl
  · rw [List.getD_eq_getElem?_getD, List.getD_eq_getElem?_getD, List.getElem?_append_left (by omega)]
theorem getD_snoc (ts : List (List UInt8)) (t : List UInt8) (j : Nat) (h : j < ts.length) : (ts ++ [t]).getD j [] = ts.getD j [] := by
  rw [List.getD_eq_getElem?_getD, List.getD_eq_getElem?_getD, List.getElem?_append_left h]
theorem getD_last (ts : List (List UInt8)) (t : List UInt8) : (ts ++ [t]).getD ts.length [] = t := by simp
theorem dictOf_last (ts : List (List UInt8)) (t : List UInt8) : dictOf (ts ++ [t]) (ts.length + 1) = t := by
  unfold dictOf
  rw [if_neg (by omega), Nat.add_sub_cancel]
  simp

set_option maxRecDepth 100000 in
set_option maxHeartbeats 8000000 in
theorem unpackList_any (w : World) (B : Nat) (v : Value) (ps : List (List UInt8)) (most : Nat) (h : RdL w B v ps) (hB : B ≤ w.heap.size) (hlen : ∀ j, (ps.getD j []).length ≤ 8000000) (hmost : most ≤ 1048576) (hll : ps.length ≤ 1000000) :
    Calls Try.prog 28 #[v, .int .i64 most] w fun e w' => UlRet w' w.heap.size ps most e ∧ Below w.heap.size w w' := by
  obtain ⟨i2, hi, hz0, hz1, hz2⟩ := info_parts info22
  obtain ⟨A, cap, rfl, hc1, hc2, _⟩ := h.at_
  have HLEN := Lib.hid hlen
  have HL := Lib.hid h
  clear hlen
  go_enter Try.func28, Try.ntmps28
  go_wp2_with fail
  go_loopg [4, 7, 15] ps.length (fun n ov dv iv wr => ∃ (OA : Option Addr) (oc : Nat) (lvs : List Value) (dvv : Value) (ts : List (List UInt8)), iv = .int .i64 ts.length ∧ dvv = dv ∧ n = ps.length - ts.length ∧ ts.length ≤ ps.length ∧ ov = .slice OA ts.length oc ∧ LsSt wr w.heap.size (.slice OA ts.length oc) lvs ts ∧
    (∀ j, j < ts.length → Pk.unpack (dictOf ts j) (ps.getD j []) most = .ok (ts.getD j [])) ∧ RdB wr wr.heap.size dvv (dictOf ts ts.length) ∧ Below w.heap.size w wr)
  case atStart => exact ⟨none, 0, [], _, [], rfl, rfl, by simp, by simp, rfl, LsSt.nil_ _ _, by simp, RdB.nil _ _, Below.refl _ _⟩
  case round =>
    obtain ⟨OA, oc, lvs, dv, ts, rfl, rfl, rfl, hk, rfl, hst, hts, hdv, hbl⟩ := hrel
    have HTS := Lib.hid hts
    clear hts
    have hszr := hbl.size
    by_cases hlt : ts.length < ps.length
    · have i1 : (ts.length : Int) < ps.length := by omega
      have i2' : (0 : Int) ≤ (ts.length : Int) := by omega
      obtain ⟨A1, c1, hv, _, _, hat⟩ := (HL.out.below (hbl.mono hB)).at_
      injection hv with e1 e2 e3
      subst e1 e3
      obtain ⟨ad, lv, rfl, hab, hcell, hel⟩ := hat ts.length hlt
      clear hat e2
      have hpl := HLEN.out ts.length
      generalize hx : ps.getD ts.length [] = x at *
      generalize hdk : dictOf ts ts.length = dk at *
      have HX := Lib.hid hx
      have HDK := Lib.hid hdk
      clear hx hdk
      go_wp2_with fail
      refine (unpackWith_own wr wr.heap.size dv lv dk x most hdv (hel.more (by omega)) (Nat.le_refl _) hpl (by omega) (by omega)).mono ?_
      rintro e w2 ⟨hu, nb⟩
      have hst2 := hst.below nb
      have hbl2 := hbl.trans (nb.mono hszr)
      have hsz2 := hbl2.size
      cases hR : Pk.unpack dk x most with
      | error y =>
        obtain ⟨a, n⟩ := y
        rw [hR] at hu
        simp only [UnpOwn] at hu
        subst hu
        have hn := unpack_err hR
        have hpost : ∀ w', UlRet w' w.heap.size ps most (.returned (.tuple #[.slice none 0 0, .int .i64 ts.length, .int .i64 n])) := fun w' =>
          ⟨ts, HTS.out, .inr ⟨hlt, a, n, by omega, by rw [HX.out, HDK.out]; exact hR, rfl⟩⟩
        have HP := Lib.hid hpost
        have e1 : ((n : Int) == 0) = false := beq_eq_false_iff_ne.2 (by omega)
        have e2 : (n == 0) = false := beq_eq_false_iff_ne.2 (by omega)
        clear hpost hR hn
        dsimp only
        go_wp2_with fail
        go_ret3
        exact ⟨HP.out _, hbl2⟩
      | ok t =>
        rw [hR] at hu
        obtain ⟨tv, rfl, htv⟩ := hu
        have htv2 : w2.ownsRow w.heap.size 5 1 tv t.length (bs t) := own_base htv fun g hg => by have := (htv.lt g hg).1; omega
        obtain ⟨TA, tc, rfl⟩ := own_form htv2
        have hout := hst2.out
        have HR := Lib.hid hR
        clear hst hdv hel htv nb hbl hR
        dsimp only
        go_wp2_with (at_builtin; refine wpList_append_lies _ rfl (.tmp 32) (.tmp 34) _ rfl w.heap.size 22 i2 _ 1 24 Try.underlying51 hi hz0 hz1 hz2 rfl (by omega) (.slice OA ts.length oc) ts.length lvs rfl (hout.alloc _) ⟨w2.heap.size, 0, none⟩ 1 1 [.slice TA t.length tc] rfl rfl (World.news_of_block (cs := #[.slice TA t.length tc]) (t := 22) (fr := (0, 0)) (heap_alloc_new w2 _)) (by simp [Value.oneCell']) (by omega) (by unfold maxLen; omega) (by omega) (by simp; omega) (w2.heap.size + 1) (by simp) ?_; intro gg oc2 w4 hown4 hgrow4 hat4 hlt4)
        have st4 := LsSt.push hst2 hgrow4 hown4 htv2
        have htv4 : w4.ownsRow w.heap.size 5 1 (.slice TA t.length tc) t.length (bs t) := (htv2.alloc (.cells #[.slice TA t.length tc] 22)).kept hgrow4 (own_own_ne htv2 hout (by decide))
        go_roundg (ps.length - (ts.length + 1))
        case measure => omega
        case rel =>
          refine ⟨some ⟨gg, 0, none⟩, oc2, lvs ++ [.slice TA t.length tc], .slice TA t.length tc, ts ++ [t], by rw [List.length_append]; go_num, rfl, by simp, by simp; omega, by simp, ?_, ?_, ?_, ?_⟩
          · rw [List.length_append]; exact st4
          · intro j hj
            rw [List.length_append, List.length_singleton] at hj
            rw [dictOf_snoc ts t j (by omega)]
            by_cases hj2 : j < ts.length
            · rw [getD_snoc ts t j hj2]
              exact HTS.out j hj2
            · obtain rfl : j = ts.length := by omega
              rw [getD_last, HX.out, HDK.out]
              exact HR.out
          · rw [List.length_append, List.length_singleton, dictOf_last]
            exact RdB.of_own htv4 rfl
          · exact (hbl2.alloc hsz2 _).grown hgrow4 (by simp; omega) (fun g hg => (hout.lt g hg).1)
    · have hkl : ts.length = ps.length := by omega
      have i1 : decide ((ts.length : Int) < ps.length) = false := decide_eq_false (by omega)
      have i1' : decide (ts.length < ps.length) = false := decide_eq_false (by omega)
      have hpost : UlRet wr w.heap.size ps most (.returned (.tuple #[.slice OA ts.length oc, .int .i64 0, .int .i64 0])) := ⟨ts, HTS.out, .inl ⟨hkl, _, _, rfl, hst⟩⟩
      clear hst hdv hkl
      go_wp2_with fail
      go_ret3
      exact ⟨hpost, hbl⟩
end Go.Proofs.Ytgmpdclmfcmodaa
