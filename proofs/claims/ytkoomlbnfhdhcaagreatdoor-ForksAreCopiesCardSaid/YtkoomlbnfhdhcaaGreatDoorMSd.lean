/-
  Walks: Store.
-/
import Derived.Test.YtkoomlbnfhdhcaaGreatDoorMSc
namespace Go.Proofs.YtkoomlbnfhdhcaaGreatDoor
open Go.RowKit
set_option linter.unusedVariables false

def ErrK (e : Ending) (r : Nat) : Sp → Pages → Prop := fun _ _ => e = .returned (.int .i64 r)
/-- Which blocks k stores move. -/
structure StM (s : Sp) (hm : Pages) (x k : Nat) (s' : Sp) (hm' : Pages) : Prop where
  out : ∀ p, (∀ i, i < k → (x + i) / 64 ≠ p) → s'.pg p = s.pg p
  new : ∀ p, s'.pg p = s.pg p ∨ ∃ n, s'.pg p = some n ∧ hm n = none
  shr : ∀ r b, hm r = some (b, true) → hm' r = some (b, true)
  more : ∀ r, hm r ≠ none → hm' r ≠ none
  own : ∀ i, i < k → ∃ q b, s'.pg ((x + i) / 64) = some q ∧ hm' q = some (b, false)
  known : s'.known = s.known
theorem StM.zero (s : Sp) (hm : Pages) (x : Nat) : StM s hm x 0 s hm := ⟨fun _ _ => rfl, fun _ => .inl rfl, fun _ _ h => h, fun _ h => h, fun i hi => absurd hi (by omega), rfl⟩
theorem StM.step {s : Sp} {hm : Pages} {x k : Nat} {s2 s3 s4 : Sp} {hm2 hm3 hm4 : Pages} {q : Nat} {b b' : List UInt8} (h : StM s hm x k s2 hm2) (h1 : ∀ p, p ≠ (x + k) / 64 → s3.pg p = s2.pg p)
    (h2 : s3.pg ((x + k) / 64) = s2.pg ((x + k) / 64) ∨ ∃ n, s3.pg ((x + k) / 64) = some n ∧ hm2 n = none) (h3 : ∀ r c, hm2 r = some c → hm3 r = some c) (h4 : s3.known = s2.known) (h5 : s3.pg ((x + k) / 64) = some q) (h6 : hm3 q = some (b, false))
    (h7 : s4.pg = s3.pg) (h8 : s4.known = s3.known) (h9 : hm4 = upd hm3 q (some (b', false))) : StM s hm x (k + 1) s4 hm4 where
  out := fun p hp => by
    rw [h7, h1 p (fun e => hp k (by omega) e.symm)]
    exact h.out p fun i hi => hp i (by omega)
  new := fun p => by
    rw [h7]
    by_cases e : p = (x + k) / 64
    · subst e
      rcases h2 with h2 | ⟨n, hn, hn2⟩
      · rw [h2]; exact h.new _
      · refine .inr ⟨n, hn, ?_⟩
        rcases Classical.em (hm n = none) with g | g
        · exact g
        · exact absurd hn2 (h.more n g)
    · rw [h1 p e]; exact h.new p
  shr := fun r c hr => by
    have g := h3 _ _ (h.shr r c hr)
    rw [h9, upd_ne _ _ _ _ (fun e => by rw [e, h6] at g; cases g)]
    exact g
  more := fun r hr => by
    rw [h9]
    by_cases e : r = q
    · rw [e, upd_at]; simp
    · rw [upd_ne _ _ _ _ e]
      cases hc : hm2 r with
      | none => exact absurd hc (h.more r hr)
      | some c => rw [h3 r c hc]; simp
  own := fun i hi => by
    rw [h7, h9]
    by_cases e : (x + i) / 64 = (x + k) / 64
    · rw [e]; exact ⟨q, b', h5, upd_at _ _ _⟩
    · have hik : i < k := by
        rcases Nat.lt_or_ge i k with g | g
        · exact g
        · exact absurd (by rw [show i = k by omega]) e
      obtain ⟨q', b1, g1, g2⟩ := h.own i hik
      rw [h1 _ e]
      by_cases e2 : q' = q
      · rw [g1, e2]; exact ⟨q, b', rfl, upd_at _ _ _⟩
      · exact ⟨q', b1, g1, by rw [upd_ne _ _ _ _ e2]; exact h3 _ _ g2⟩
  known := by rw [h8, h4, h.known]
/-- .. and if all pages are known. -/
def ErrKM (e : Ending) (r : Nat) (x k : Nat) (s : Sp) (hm : Pages) : Sp → Pages → Prop := fun s' hm' => ErrK e r s' hm' ∧ (Kn s → if r = 0 then StM s hm x k s' hm' else s' = s ∧ hm' = hm)
theorem access_range (a : AS) (at_ n : Int) (h0 : (accessA a at_ n).2 = 0) : n = 0 ∨ (0 ≤ at_ ∧ at_ + n ≤ 4096) := by
  by_cases c0 : n = 0
  · exact .inl c0
  · unfold accessA at h0
    rw [if_neg c0] at h0
    by_cases c1 : at_ < 0 ∨ 4096 ≤ at_ ∨ 4096 - at_ < n
    · rw [if_pos c1] at h0; cases h0
    · exact .inr (by omega)

section
variable {C : Source} {B : Nat} {w w' : World} {sps : Nat → Option Sp} {hm : Pages} {g : Nat} {s : Sp}

set_option maxRecDepth 100000 in
set_option maxHeartbeats 8000000 in
theorem store_more (ok : SourceOk C B) (h : All C B w sps hm) (hg : sps g = some s) (at_ : Int) (t : ByteArray) (ht : t.size ≤ 140737488355328) (ha1 : -9223372036854775808 ≤ at_) (ha2 : at_ ≤ 9223372036854775807) (hB : B ≤ w.heap.size) :
    Calls Tryz.prog 131 #[.pointer (some ⟨g, 0, none⟩), .int .i64 at_, .string t] w fun e w' => Stp C B sps hm g (storeA (view C hm s) at_ t.data.toList).1 w w' (ErrKM e (storeA (view C hm s) at_ t.data.toList).2 at_.toNat t.size s hm) := by
  have hq := ptr23_some
  have hL : t.data.toList.length = t.size := by simp
  have hget : ∀ k (hk : k < t.size), t.data.toList.getD k 0 = t[k] := fun k hk => by
    rw [List.getD_eq_getElem?_getD, List.getElem?_eq_getElem (by rw [hL]; exact hk)]
    rfl
  have HGET := Lib.hid hget
  clear hget
  have hr : storeA (view C hm s) at_ t.data.toList = (if (accessA (view C hm s) at_ t.size).2 = 0 then storeGo (accessA (view C hm s) at_ t.size).1 at_.toNat t.data.toList t.size else (accessA (view C hm s) at_ t.size).1, (accessA (view C hm s) at_ t.size).2) := by unfold storeA; rw [hL]
  rw [hr]
  have HAC := Lib.hid (access_more ok h hg at_ t.size (by omega) (by omega) ha1 ha2 hB)
  have HRG := Lib.hid (access_range (view C hm s) at_ t.size)
  clear hr hL
  generalize accessA (view C hm s) at_ t.size = R at *
  obtain ⟨a', r⟩ := R
  dsimp only at HAC HRG ⊢
  generalize t.data.toList = L at *
  obtain ⟨aa, haa⟩ : ∃ aa, aa = if r = 0 then storeGo a' at_.toNat L t.size else a' := ⟨_, rfl⟩
  rw [← haa]
  have HAA := Lib.hid haa
  clear haa
  go_enter Tryz.func131, Tryz.ntmps131
  go_wp2_with fail
  refine HAC.out.mono ?_
  rintro e w1 ⟨s1, hm1, hA1, hv1, ho1, hmv1, ⟨rfl, hpg⟩, hkn⟩
  have HKN := Lib.hid hkn
  clear hkn
  dsimp only
  have HA1 := Lib.hid hA1
  have HV1 := Lib.hid hv1
  have HO1 := Lib.hid ho1
  have HPG := Lib.hid hpg
  have hsz1 := hmv1.size
  have HMV1 := Lib.hid hmv1
  clear hA1 hv1 ho1 hpg hmv1 HAC
  by_cases hr0 : r = 0
  · subst hr0
    have haa := HAA.out
    rw [if_pos rfl] at haa
    have HAB := Lib.hid haa
    clear haa HAA
    go_wp2_with fail
    go_loopg [22] t.size (fun n iv wr => ∃ (k : Nat) (s2 : Sp) (hm2 : Pages), iv = .int .i64 k ∧ n = t.size - k ∧ k ≤ t.size ∧ All C B wr (upd sps g (some s2)) hm2 ∧ Hid (view C hm2 s2 = storeGo a' at_.toNat L k) ∧ (∀ k' x', k' ≠ g → sps k' = some x' → view C hm2 x' = view C hm x') ∧ Mv B C.X w wr ∧ Hid (Kn s → StM s hm at_.toNat k s2 hm2))
    case atStart => exact ⟨0, s1, hm1, rfl, rfl, Nat.zero_le _, HA1.out, HV1, HO1.out, HMV1.out, Lib.hid (fun hk => by obtain ⟨e1, e2⟩ := HKN.out hk; rw [e1, e2]; exact StM.zero _ _ _)⟩
    case round =>
      obtain ⟨k, s2, hm2, rfl, rfl, hk, hA2, HV2, ho2, hmv2, HST2⟩ := hrel
      have HA2 := Lib.hid hA2
      have HO2 := Lib.hid ho2
      have HMV2 := Lib.hid hmv2
      have hsz2 := hmv2.size
      clear hA2 ho2 hmv2
      by_cases hlt : k < t.size
      · have i1 : (k : Int) < t.size := by omega
        have hrg := HRG.out (by first | rfl | trivial)
        obtain ⟨x, rfl⟩ : ∃ x : Nat, at_ = x := ⟨at_.toNat, by omega⟩
        have hxk : x + k < 4096 := by omega
        obtain ⟨P, hP⟩ : ∃ P : Nat, P = (x + k) / 64 := ⟨_, rfl⟩
        obtain ⟨Q, hQ⟩ : ∃ Q : Nat, Q = (x + k) % 64 := ⟨_, rfl⟩
        have d1 : ((x : Int) + k) / 64 = (P : Int) := by omega
        have d2 : ((x : Int) + k) % 64 = (Q : Int) := by omega
        have hP64 : P < 64 := by omega
        have hQ64 : Q < 64 := by omega
        have hgr : upd sps g (some s2) g = some s2 := upd_at _ _ _
        have hso1 := HPG.out (by first | rfl | trivial) (k : Int) (by omega) (by omega)
        rw [d1, Int.toNat_natCast] at hso1
        have hso2 : (s2.pg P).isSome = true := by
          have e1 := page_some (C := C) HA2.out.toRep hgr P
          rw [HV2.out] at e1
          rw [← e1]
          refine storeGo_some _ _ _ _ ?_ _
          rw [← HV1.out, page_some (C := C) HA1.out.toRep (upd_at sps g (some s1)) P]
          exact hso1
        obtain ⟨q, hpq⟩ := Option.isSome_iff_exists.1 hso2
        obtain ⟨⟨b0, sh0⟩, hmq⟩ := HA2.out.ref g s2 hgr P q hpq
        have HOWN := Lib.hid (own_more ok (HA2.out.below ok.keeps (Below.refl wr.heap.size wr).drew) hgr P q b0 sh0 hP64 hpq hmq (Nat.le_trans hB hsz2))
        have hg9 := HGET.out k hlt
        have HG9 := Lib.hid hg9
        have HP := Lib.hid hP
        have HQ := Lib.hid hQ
        clear hrg hso1 hso2 hgr hg9 hP hQ
        go_upto_region 10 with (fail)
        refine wp_region_mixL (fun _ => True) [] [2, 13] [0, 1, 3, 4, 5, 6, 7, 8, 9, 2, 10, 11, 12, 13] (by kernel_rfl) (by kernel_rfl) trivial ?_
        simp only [inOrder, opAt]
        have y1 : IntKind.i64.wrap ((x : Int) + k) = (x : Int) + k := IntWalk.i64_in _ (by omega)
        have y2 : ((x : Int) + k).tmod 64 = (Q : Int) := by rw [Int.tmod_eq_emod_of_nonneg (by omega)]; exact d2
        have y3 : (0 : Int) ≤ (Q : Int) := by omega
        have y4 : (Q : Int) < 64 := by omega
        have HMVd : Hid (Mv B C.X w wr.drew) := Lib.hid HMV2.out.drew
        generalize wr.drew = W0 at *
        iterate 9
          (refine wpMixS_read (v := ?_) rfl rfl (fun w' hS => ?_) ?_
           rotate_left
           · ((try clear hS); go_simp; (try with_reducible rfl))
           try simp only [Act.put, List.setIfInBounds_toArray, List.set_cons_zero, List.set_cons_succ])
        refine wpMixS_eff rfl rfl (fun K hK => ?_)
        go_simp
        refine HOWN.out.mono ?_
        rintro e w3 ⟨s3, hm3, hA3, hv3, ho3, hmv3, ⟨q3, rfl, hpg3, hmq3⟩, hw1, hw2, hw3, hw4⟩
        have HPG3 := Lib.hid hpg3
        have HMQ3 := Lib.hid hmq3
        have HW1 := Lib.hid hw1
        have HW2 := Lib.hid hw2
        have HW3 := Lib.hid hw3
        have HW4 := Lib.hid hw4
        clear hw1 hw2 hw3 hw4
        rw [upd_upd] at hA3
        have hgr3 : upd sps g (some s3) g = some s3 := upd_at _ _ _
        obtain ⟨hl3, hbq3, _⟩ := hA3.mem q3 b0 false hmq3
        have hbg3 := (hA3.blk g s3 hgr3).1
        have hqg := hA3.toRep.page_ne hgr3 hmq3
        have c1 : w3.cell? ⟨q3, Q, none⟩ = some (.int .u8 (b0.getD Q 0).toNat) := by rw [hbq3.cell, held_byte b0 false Q (by omega)]
        have f1 := hbq3.frozen Q
        have hbg4 := hbg3.far (p := ⟨q3, Q, none⟩) (by show g ≠ q3; exact fun e => hqg e.symm) (.int .u8 t[k].toNat)
        have c2 : (w3.setCell ⟨q3, Q, none⟩ (.int .u8 t[k].toNat)).cell? ⟨g, 129 + P, none⟩ = some (.bool (s3.changed P)) := by rw [hbg4.cell, sp_changed s3 P hP64]
        have f2 := hbg4.frozen (129 + P)
        have hfin := hA3.byte ok hgr3 (x + k) q3 b0 t[k] hxk (by rw [← HP.out]; exact hpg3) hmq3 rfl
        rw [← HP.out, ← HQ.out] at hfin
        have hzz : (w3.setCell ⟨q3, Q, none⟩ (.int .u8 t[k].toNat)).heap.size = w3.heap.size := by simp
        have HFIN := Lib.hid hfin
        have HV3 := Lib.hid hv3
        have HO3 := Lib.hid ho3
        have HMV3 := Lib.hid hmv3
        have zg := hbg3.lt
        have zq := hbq3.lt
        clear hA3 hv3 ho3 hmv3 hpg3 hmq3 hgr3 hl3 hbq3 hbg3 hbg4 hfin hzz
        unfold ptrV
        simp only [Option.map_some]
        try dsimp only
        refine hK.out _ _ _ (fun _ h => h) (fun h => by cases h) ?_
        clear hK K
        try simp only [Act.put, List.setIfInBounds_toArray, List.set_cons_zero, List.set_cons_succ]
        iterate 3
          (refine wpMixS_read (v := ?_) rfl rfl (fun w' hS => ?_) ?_
           rotate_left
           · ((try clear hS); go_simp; (try with_reducible rfl))
           try simp only [Act.put, List.setIfInBounds_toArray, List.set_cons_zero, List.set_cons_succ])
        refine wpMixS_eff rfl rfl (fun K hK => ?_)
        go_simp
        refine hK.out _ _ _ (fun _ h => h) (fun h => by cases h) ?_
        clear hK K
        try simp only [Act.put, List.setIfInBounds_toArray, List.set_cons_zero, List.set_cons_succ]
        refine wpMixS_nil ?_
        clear c1 f1 y1 y2
        generalize w3.setCell ⟨q3, Q, none⟩ (.int .u8 t[k].toNat) = W4 at *
        go_wp2_with fail
        obtain ⟨s4, hm4, hA4, hv4, ho4, hmv4, hg1, hg2, hg3⟩ := HFIN.out
        rw [upd_upd] at hA4
        go_roundg (t.size - (k + 1))
        case measure => omega
        case rel => exact ⟨k + 1, s4, hm4, by go_num, rfl, by omega, hA4, Lib.hid (by rw [hv4, HV3.out, HV2.out, ← HG9.out]; rfl), fun k' x' hne hx => by rw [ho4 k' x' hne (by rw [upd_ne _ _ _ _ hne]; exact hx), HO3.out k' x' hne (by rw [upd_ne _ _ _ _ hne]; exact hx)]; exact HO2.out k' x' hne hx, (HMVd.out.trans HMV3.out).trans hmv4, Lib.hid (fun hk => by
          have h0 := HST2.out hk
          rw [Int.toNat_natCast] at h0 ⊢
          exact h0.step (by rw [← HP.out]; exact HW1.out) (by rw [← HP.out]; exact HW2.out) HW3.out HW4.out (by rw [← HP.out]; exact HPG3.out) HMQ3.out hg1 hg2 hg3)⟩
      · obtain rfl : k = t.size := by omega
        have i1 : decide ((t.size : Int) < t.size) = false := decide_eq_false (by omega)
        go_wp2_with fail
        go_ret
        exact ⟨s2, hm2, HA2.out, by rw [HAB.out]; exact HV2.out, HO2.out, HMV2.out, rfl, fun hk => by rw [if_pos rfl]; exact HST2.out hk⟩
  · have e2 : ((r : Int) != 0) = true := bne_iff_ne.2 (by omega)
    have e3 : ((r : Int) == 0) = false := beq_eq_false_iff_ne.2 (by omega)
    have haa := HAA.out
    rw [if_neg hr0] at haa
    have HAB := Lib.hid haa
    have HR0 := Lib.hid hr0
    clear hr0 haa HAA
    go_wp2_with fail
    go_ret
    exact ⟨s1, hm1, HA1.out, by rw [HAB.out]; exact HV1.out, HO1.out, HMV1.out, rfl, fun hk => by rw [if_neg HR0.out]; exact HKN.out hk⟩
theorem store_all (ok : SourceOk C B) (h : All C B w sps hm) (hg : sps g = some s) (at_ : Int) (t : ByteArray) (ht : t.size ≤ 140737488355328) (ha1 : -9223372036854775808 ≤ at_) (ha2 : at_ ≤ 9223372036854775807) (hB : B ≤ w.heap.size) :
    Calls Tryz.prog 131 #[.pointer (some ⟨g, 0, none⟩), .int .i64 at_, .string t] w fun e w' => Stp C B sps hm g (storeA (view C hm s) at_ t.data.toList).1 w w' (ErrK e (storeA (view C hm s) at_ t.data.toList).2) :=
  (store_more ok h hg at_ t ht ha1 ha2 hB).mono fun e w' h => h.weak fun _ _ h => h.1
end
end Go.Proofs.YtkoomlbnfhdhcaaGreatDoor

/-
  Walks: Map.
-/
namespace Go.Proofs.YtkoomlbnfhdhcaaGreatDoor
open Go.RowKit
set_option linter.unusedVariables false

/-- A page is mapped. -/
def putA (a : AS) (p : Nat) (l : List UInt8) : AS := { a with page := upd a.page p (some (padL l)), changed := upd a.changed p true }
def mapA (a : AS) (p : Int) (l : List UInt8) : AS × Nat :=
  if p < 0 ∨ 64 ≤ p then (a, 2) else if 64 < l.length then (a, 5) else if ((needA a p.toNat).page p.toNat).isSome then (needA a p.toNat, 13) else (putA (needA a p.toNat) p.toNat l, 0)

section
variable {C : Source} {B : Nat} {w w' : World} {sps : Nat → Option Sp} {hm : Pages} {g : Nat} {s : Sp}

/-- A page of a new block is put, and marked. -/
theorem All.put_new (h : All C B w sps hm) (ok : SourceOk C B) (hg : sps g = some s) (p : Nat) (hp : p < 64) (hk : s.known p = true) (q : Nat) (l : List UInt8) (hnew : ∀ c, hm q ≠ some c) (hBq : B ≤ q) (hbq : Blk w q 125 (heldCells (padL l) false))
    (hw : w' = (w.setCell ⟨g, 193 + p, none⟩ (ptrV (some q))).setCell ⟨g, 129 + p, none⟩ (.bool true)) :
    ∃ s' hm', All C B w' (upd sps g (some s')) hm' ∧ view C hm' s' = putA (view C hm s) p l ∧ (∀ k y, k ≠ g → sps k = some y → view C hm' y = view C hm y) ∧ Mv B C.X w w' := by
  have hbg := (h.blk g s hg).1
  have hset := hbg.set_ (193 + p) (ptrV (some q))
  rw [sp_set_pg s p _ hp] at hset
  have hqg : q ≠ g := hbq.ne_ hbg (by decide)
  have hf1 : Fr [g] w (w.setCell ⟨g, 193 + p, none⟩ (ptrV (some q))) := (Fr.refl _ _).setCell (.inl (by simp)) _
  have hinv : ∀ r, s.known r = false → s.asked r = false ∧ upd s.pg p (some q) r = none := fun r hr => by
    obtain ⟨i1, i2⟩ := h.inv g s hg r hr
    exact ⟨i1, by rw [upd_ne _ _ _ _ (fun e => by rw [e, hk] at hr; cases hr)]; exact i2⟩
  have hA1 := h.put ok.keeps hg p { s with pg := upd s.pg p (some q) } q (padL l) rfl (fun _ h => h) rfl hinv (padL_length l) hf1 hset hnew hBq (hbq.far (p := ⟨g, 193 + p, none⟩) (by show q ≠ g; exact hqg) _)
  have hg1 : upd sps g (some { s with pg := upd s.pg p (some q) }) g = some { s with pg := upd s.pg p (some q) } := upd_at _ _ _
  have hset2 := hset.set_ (129 + p) (.bool true)
  rw [sp_set_changed _ p true hp] at hset2
  have hf2 : Fr [g] (w.setCell ⟨g, 193 + p, none⟩ (ptrV (some q))) ((w.setCell ⟨g, 193 + p, none⟩ (ptrV (some q))).setCell ⟨g, 129 + p, none⟩ (.bool true)) := (Fr.refl _ _).setCell (.inl (by simp)) _
  have hA2 := hA1.flags ok.keeps hg1 { s with pg := upd s.pg p (some q), changed := upd s.changed p true } rfl (fun _ h => h) rfl hinv hf2 hset2
  rw [upd_upd] at hA2
  subst hw
  refine ⟨_, _, hA2, ?_, fun k y hne hy => ?_, ((h.toRep.fr_sp hg hf1).trans (hA1.toRep.fr_sp hg1 hf2)).more⟩
  · unfold view putA
    congr 1
    funext r
    show pageOf (upd hm q _) (upd s.pg p (some q) r) = upd _ p _ r
    by_cases e : r = p
    · subst e
      rw [upd_at, upd_at]
      show (upd hm q _ q).map _ = _
      rw [upd_at]
      rfl
    · rw [upd_ne _ _ _ _ e, upd_ne _ _ _ _ e]
      exact view_new h.toRep q hnew _ g s hg r
  · unfold view
    congr 1
    funext r
    exact view_new h.toRep q hnew _ k y hy r

theorem needA_known (a : AS) (p : Nat) : (needA a p).known p = true := by
  unfold needA
  split
  · assumption
  · split
    · exact upd_at _ _ _
    · exact upd_at _ _ _

set_option maxRecDepth 100000 in
set_option maxHeartbeats 8000000 in
theorem map_all (ok : SourceOk C B) (h : All C B w sps hm) (hg : sps g = some s) (p : Int) (t : ByteArray) (ht : t.size ≤ 140737488355328) (hB : B ≤ w.heap.size) :
    Calls Tryz.prog 14 #[.pointer (some ⟨g, 0, none⟩), .int .i64 p, .string t] w fun e w' => Stp C B sps hm g (mapA (view C hm s) p t.data.toList).1 w w' (ErrK e (mapA (view C hm s) p t.data.toList).2) := by
  have hq := ptr23_some
  have hL : t.data.toList.length = t.size := by simp
  by_cases hp : 0 ≤ p ∧ p < 64
  · have hpb : Hid (pageB p = true) := Lib.hid (decide_eq_true hp)
    obtain ⟨n, rfl⟩ : ∃ n : Nat, p = n := ⟨p.toNat, by omega⟩
    have hn : n < 64 := by omega
    by_cases hl : 64 < t.size
    · have hr : mapA (view C hm s) n t.data.toList = (view C hm s, 5) := by unfold mapA; rw [if_neg (by omega), if_pos (by omega)]
      rw [hr]
      have HS := Lib.hid (fun e (he : ErrK e 5 s hm) => Stp.self h hg he)
      have e1 : decide ((64 : Int) < t.size) = true := decide_eq_true (by omega)
      clear hr hL hp
      go_enter Tryz.func14, Tryz.ntmps14
      go_wp2_with fail
      refine (isPage_any _ _).mono ?_
      rintro e w' ⟨rfl, rfl⟩
      rw [hpb.out]
      dsimp only
      go_wp2_with fail
      go_ret
      exact HS.out _ rfl
    · have e1 : decide ((64 : Int) < t.size) = false := decide_eq_false (by omega)
      have hr : mapA (view C hm s) n t.data.toList = if ((needA (view C hm s) n).page n).isSome then (needA (view C hm s) n, 13) else (putA (needA (view C hm s) n) n t.data.toList, 0) := by unfold mapA; rw [if_neg (by omega), if_neg (by omega), Int.toNat_natCast]
      obtain ⟨R, hR⟩ : ∃ R, R = mapA (view C hm s) n t.data.toList := ⟨_, rfl⟩
      rw [← hR]
      rw [hr] at hR
      have HR := Lib.hid hR
      have HN := Lib.hid (need_all ok h hg n hn hB)
      have HNK := Lib.hid (needA_known (view C hm s) n)
      have HNH := Lib.hid (fun W => newHeld_any W t ht)
      have i1 : (n : Int) < 64 := by omega
      have i0 : (0 : Int) ≤ (n : Int) := by omega
      clear hr hR hL hp
      go_enter Tryz.func14, Tryz.ntmps14
      go_wp2_with fail
      refine (isPage_any _ _).mono ?_
      rintro e w' ⟨rfl, rfl⟩
      rw [hpb.out]
      dsimp only
      go_wp2_with fail
      refine HN.out.mono ?_
      rintro e w2 ⟨s2, hm2, hA2, hv2, ho2, hmv2, rfl⟩
      have hgr2 : upd sps g (some s2) g = some s2 := upd_at _ _ _
      have hps := page_some (C := C) hA2.toRep hgr2 n
      rw [hv2] at hps
      have HA2 := Lib.hid hA2
      have HV2 := Lib.hid hv2
      have HO2 := Lib.hid ho2
      have HMV2 := Lib.hid hmv2
      have hsz2 := hmv2.size
      have HPS := Lib.hid hps
      clear hA2 hv2 ho2 hmv2 hps HN hgr2
      unfold ptrV
      cases hpg : s2.pg n with
      | some r =>
        have hr2 : R = (needA (view C hm s) n, 13) := by rw [HR.out, if_pos (by rw [HPS.out, hpg]; rfl)]
        have HRF := Lib.hid hr2
        have hq2 := ptr_neq2
        clear hr2 hpg
        simp only [Option.map_some]
        go_wp2_with fail
        go_ret
        exact ⟨s2, hm2, HA2.out, by rw [HRF.out]; exact HV2.out, HO2.out, HMV2.out, by rw [HRF.out]; rfl⟩
      | none =>
        have hr2 : R = (putA (needA (view C hm s) n) n t.data.toList, 0) := by rw [HR.out, if_neg (by rw [HPS.out, hpg]; simp)]
        have HRF := Lib.hid hr2
        have hq2 := nil_neq
        clear hr2 hpg
        simp only [Option.map_none]
        go_upto_region 9 with (fail)
        have HBL := Lib.hid (HA2.out.below ok.keeps (Below.refl w2.heap.size w2).drew)
        have HMVd : Hid (Mv B C.X w w2.drew) := Lib.hid HMV2.out.drew
        have hszd : w2.drew.heap.size = w2.heap.size := rfl
        rw [← hszd] at hsz2
        clear hszd
        refine wp_region_mixL (fun _ => True) [] [3, 7] [0, 1, 2, 4, 5, 3, 6, 7] (by kernel_rfl) (by kernel_rfl) trivial ?_
        simp only [inOrder, opAt]
        generalize w2.drew = W2 at *
        iterate 5
          (refine wpMixS_read (v := ?_) rfl rfl (fun w' hS => ?_) ?_
           rotate_left
           · ((try clear hS); go_simp; (try with_reducible rfl))
           try simp only [Act.put, List.setIfInBounds_toArray, List.set_cons_zero, List.set_cons_succ])
        refine wpMixS_eff rfl rfl (fun K hK => ?_)
        go_simp
        refine (HNH.out W2).mono ?_
        rintro e w3 ⟨rfl, hnb, nb⟩
        have hA3 := HBL.out.below ok.keeps nb
        have hgr3 : upd sps g (some s2) g = some s2 := upd_at _ _ _
        have hnew : ∀ c, hm2 W2.heap.size ≠ some c := fun c hc => by
          obtain ⟨b1, sh1⟩ := c
          have := (HBL.out.mem W2.heap.size b1 sh1 hc).2.1.lt
          omega
        have hkn : s2.known n = true := by
          have e1 : (view C hm2 s2).known n = true := by rw [HV2.out]; exact HNK.out
          exact e1
        have hfin := hA3.put_new ok hgr3 n hn hkn W2.heap.size t.data.toList hnew (Nat.le_trans hB hsz2) hnb rfl
        have hbg3 := (hA3.blk g s2 hgr3).1
        have c1 : w3.cell? ⟨g, 193 + n, none⟩ = some (ptrV (s2.pg n)) := by rw [hbg3.cell, sp_pg s2 n hn]
        have f1 := hbg3.frozen (193 + n)
        have c2 : w3.cell? ⟨g, 129 + n, none⟩ = some (.bool (s2.changed n)) := by rw [hbg3.cell, sp_changed s2 n hn]
        have f2 := hbg3.frozen (129 + n)
        have HFIN := Lib.hid hfin
        have NB := Lib.hid nb
        have zg := hbg3.lt
        have hne : 193 + n ≠ 129 + n := by omega
        clear hA3 hgr3 hnew hkn hfin hbg3 nb hnb
        unfold ptrV at HFIN c1
        unfold ptrV
        simp only [Option.map_some] at HFIN ⊢
        try dsimp only
        refine hK.out _ _ _ (fun _ h => h) (fun h => by cases h) ?_
        clear hK K
        try simp only [Act.put, List.setIfInBounds_toArray, List.set_cons_zero, List.set_cons_succ]
        iterate 1
          (refine wpMixS_read (v := ?_) rfl rfl (fun w' hS => ?_) ?_
           rotate_left
           · ((try clear hS); go_simp; (try with_reducible rfl))
           try simp only [Act.put, List.setIfInBounds_toArray, List.set_cons_zero, List.set_cons_succ])
        refine wpMixS_eff rfl rfl (fun K hK => ?_)
        go_simp
        refine hK.out _ _ _ (fun _ h => h) (fun h => by cases h) ?_
        clear hK K
        try simp only [Act.put, List.setIfInBounds_toArray, List.set_cons_zero, List.set_cons_succ]
        refine wpMixS_nil ?_
        go_wp2_with fail
        obtain ⟨s4, hm4, hA4, hv4, ho4, hmv4⟩ := HFIN.out
        rw [upd_upd] at hA4
        go_ret
        exact ⟨s4, hm4, hA4, by rw [hv4, HV2.out, HRF.out], fun k y hne hy => by rw [ho4 k y hne (by rw [upd_ne _ _ _ _ hne]; exact hy)]; exact HO2.out k y hne hy, (HMVd.out.trans (Mv.of_below NB.out)).trans hmv4, by rw [HRF.out]; rfl⟩
  · have hpb : Hid (pageB p = false) := Lib.hid (decide_eq_false hp)
    have hr : mapA (view C hm s) p t.data.toList = (view C hm s, 2) := by unfold mapA; rw [if_pos (by omega)]
    rw [hr]
    have HS := Lib.hid (fun e (he : ErrK e 2 s hm) => Stp.self h hg he)
    clear hr hL hp
    go_enter Tryz.func14, Tryz.ntmps14
    go_wp2_with fail
    refine (isPage_any _ _).mono ?_
    rintro e w' ⟨rfl, rfl⟩
    rw [hpb.out]
    dsimp only
    go_wp2_with fail
    go_ret
    exact HS.out _ rfl
end
end Go.Proofs.YtkoomlbnfhdhcaaGreatDoor

/-
  One space without a source; the laws' known.
-/
namespace Go.Proofs.YtkoomlbnfhdhcaaGreatDoor
open Go.RowKit
set_option linter.unusedVariables false

/-- No source. -/
def C0 : Source := ⟨fetchV 0, fun _ => none, fun _ _ => False, NoX, 0⟩
theorem ok0 (B : Nat) : SourceOk C0 B := ⟨fun _ _ _ h _ => h, fun _ h => h.elim, fun _ _ _ h => h.elim, ⟨0, rfl⟩, fun _ _ _ _ _ _ _ h => h.elim⟩
/-- One space that looks so. -/
def On (B : Nat) (w : World) (g : Nat) (a : AS) : Prop := (∃ sps hm s, All C0 B w sps hm ∧ sps g = some s ∧ view C0 hm s = a) ∧ B ≤ w.heap.size
def newA : AS := ⟨none, fun _ => false, fun _ => false, fun _ => false, fun _ => none⟩

section
variable {B : Nat} {w w' : World} {g : Nat} {a : AS}
theorem On.step {sps : Nat → Option Sp} {hm : Pages} {a' : AS} {K : Sp → Pages → Prop} (hB : B ≤ w.heap.size) (h : Stp C0 B sps hm g a' w w' K) : On B w' g a' ∧ Below B w w' := by
  obtain ⟨s', hm', h1, h2, _, h4, _⟩ := h
  exact ⟨⟨⟨_, hm', s', h1, upd_at _ _ _, h2⟩, Nat.le_trans hB h4.size⟩, h4.below hB⟩
theorem On.below (h : On B w g a) (hb : Below w.heap.size w w') : On B w' g a := by
  obtain ⟨⟨sps, hm, s, h1, h2, h3⟩, hB⟩ := h
  exact ⟨⟨sps, hm, s, h1.below (ok0 B).keeps hb, h2, h3⟩, Nat.le_trans hB hb.size⟩

theorem new_on (w : World) : Calls Tryz.prog 12 #[.nilFunc] w fun e w' => e = .returned (.pointer (some ⟨w.heap.size + 1, 0, none⟩)) ∧ On w.heap.size w' (w.heap.size + 1) newA ∧ Below w.heap.size w w' := by
  refine (new_nil w).mono ?_
  rintro e w' ⟨rfl, hb, nb⟩
  refine ⟨rfl, ⟨⟨upd (fun _ => none) (w.heap.size + 1) (some ⟨.nilFunc, fun _ => false, fun _ => false, fun _ => false, fun _ => none⟩), fun _ => none, _, ?_, upd_at _ _ _, rfl⟩, nb.size⟩, nb⟩
  refine ⟨⟨fun k s hs => ?_, fun h b sh hh => (by cases hh), fun k s hs p h hp => ?_, fun k s k' s' p q h b hs hs' hp hq hh => (by cases hh)⟩, fun s hs => ?_, fun k s hs _ => ?_, fun k s hs p hp => ?_⟩
  · rcases upd_some _ _ _ _ _ hs with ⟨e1, e2⟩ | ⟨_, hs⟩
    · rw [e1, e2]; exact ⟨hb, by omega⟩
    · cases hs
  · rcases upd_some _ _ _ _ _ hs with ⟨e1, e2⟩ | ⟨_, hs⟩
    · rw [e2] at hp; cases hp
    · cases hs
  · rcases upd_some _ _ _ _ _ hs with ⟨e1, e2⟩ | ⟨_, hs⟩
    · rw [e2]; exact .inl rfl
    · cases hs
  · rcases upd_some _ _ _ _ _ hs with ⟨e1, e2⟩ | ⟨_, hs⟩
    · rw [e2]
    · cases hs
  · rcases upd_some _ _ _ _ _ hs with ⟨e1, e2⟩ | ⟨_, hs⟩
    · rw [e2]; exact ⟨rfl, rfl⟩
    · cases hs

theorem load_on (h : On B w g a) (at_ n : Int) (hn1 : n ≤ 140737488355328) (ha1 : -9223372036854775808 ≤ at_) (ha2 : at_ ≤ 9223372036854775807) :
    Calls Tryz.prog 93 #[.pointer (some ⟨g, 0, none⟩), .int .i64 at_, .int .i64 n] w fun e w' => e = .returned (.tuple #[.string ⟨(loadA a at_ n).2.1.toArray⟩, .int .i64 (loadA a at_ n).2.2]) ∧ On B w' g (loadA a at_ n).1 ∧ Below B w w' := by
  obtain ⟨⟨sps, hm, s, h1, h2, rfl⟩, hB⟩ := h
  refine (load_all (ok0 B) h1 h2 at_ n hn1 ha1 ha2 hB).mono ?_
  intro e w' hs
  have := On.step hB hs
  obtain ⟨s', hm', _, _, _, _, hK⟩ := hs
  exact ⟨hK, this⟩
theorem store_on (h : On B w g a) (at_ : Int) (t : ByteArray) (ht : t.size ≤ 140737488355328) (ha1 : -9223372036854775808 ≤ at_) (ha2 : at_ ≤ 9223372036854775807) :
    Calls Tryz.prog 131 #[.pointer (some ⟨g, 0, none⟩), .int .i64 at_, .string t] w fun e w' => e = .returned (.int .i64 (storeA a at_ t.data.toList).2) ∧ On B w' g (storeA a at_ t.data.toList).1 ∧ Below B w w' := by
  obtain ⟨⟨sps, hm, s, h1, h2, rfl⟩, hB⟩ := h
  refine (store_all (ok0 B) h1 h2 at_ t ht ha1 ha2 hB).mono ?_
  intro e w' hs
  have := On.step hB hs
  obtain ⟨s', hm', _, _, _, _, hK⟩ := hs
  exact ⟨hK, this⟩
theorem map_on (h : On B w g a) (p : Int) (t : ByteArray) (ht : t.size ≤ 140737488355328) :
    Calls Tryz.prog 14 #[.pointer (some ⟨g, 0, none⟩), .int .i64 p, .string t] w fun e w' => e = .returned (.int .i64 (mapA a p t.data.toList).2) ∧ On B w' g (mapA a p t.data.toList).1 ∧ Below B w w' := by
  obtain ⟨⟨sps, hm, s, h1, h2, rfl⟩, hB⟩ := h
  refine (map_all (ok0 B) h1 h2 p t ht hB).mono ?_
  intro e w' hs
  have := On.step hB hs
  obtain ⟨s', hm', _, _, _, _, hK⟩ := hs
  exact ⟨hK, this⟩
end

/-! ### known -/
end Go.Proofs.YtkoomlbnfhdhcaaGreatDoor
