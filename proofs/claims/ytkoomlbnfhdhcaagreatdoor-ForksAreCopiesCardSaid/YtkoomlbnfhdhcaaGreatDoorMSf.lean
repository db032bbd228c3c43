/-
  Walks: Unmap, Has, SetWord.
-/
import Derived.Test.YtkoomlbnfhdhcaaGreatDoorMSe
namespace Go.Proofs.YtkoomlbnfhdhcaaGreatDoor
open Go.RowKit
set_option linter.unusedVariables false

/-- A page is unmapped. -/
def dropA (a : AS) (p : Nat) : AS := { a with page := upd a.page p none, changed := upd a.changed p true }
def unmapA (a : AS) (p : Int) : AS × Nat :=
  if p < 0 ∨ 64 ≤ p then (a, 2) else if ((needA a p.toNat).page p.toNat).isSome then (dropA (needA a p.toNat) p.toNat, 0) else (needA a p.toNat, 8)
def hasA (a : AS) (p : Int) : AS × Bool :=
  if p < 0 ∨ 64 ≤ p then (a, false) else (needA a p.toNat, ((needA a p.toNat).page p.toNat).isSome)
def BoolK (e : Ending) (r : Bool) : Sp → Pages → Prop := fun _ _ => e = .returned (.bool r)

section
variable {C : Source} {B : Nat} {w w' : World} {sps : Nat → Option Sp} {hm : Pages} {g : Nat} {s : Sp}

theorem All.drop (h : All C B w sps hm) (ok : SourceOk C B) (hg : sps g = some s) (p : Nat) (hp : p < 64) (hk : s.known p = true)
    (hw : w' = (w.setCell ⟨g, 193 + p, none⟩ (.pointer none)).setCell ⟨g, 129 + p, none⟩ (.bool true)) :
    ∃ s' hm', All C B w' (upd sps g (some s')) hm' ∧ view C hm' s' = dropA (view C hm s) p ∧ (∀ k y, k ≠ g → sps k = some y → view C hm' y = view C hm y) ∧ Mv B C.X w w' := by
  have hbg := (h.blk g s hg).1
  have hset := hbg.set_ (193 + p) (ptrV none)
  rw [sp_set_pg s p _ hp] at hset
  have hf1 : Fr [g] w (w.setCell ⟨g, 193 + p, none⟩ (.pointer none)) := (Fr.refl _ _).setCell (.inl (by simp)) _
  have hinv : ∀ r, s.known r = false → s.asked r = false ∧ upd s.pg p none r = none := fun r hr => by
    obtain ⟨i1, i2⟩ := h.inv g s hg r hr
    exact ⟨i1, by rw [upd_ne _ _ _ _ (fun e => by rw [e, hk] at hr; cases hr)]; exact i2⟩
  have hA1 := h.take ok.keeps hg p { s with pg := upd s.pg p none } rfl (fun _ h => h) rfl hinv hf1 hset
  have hg1 : upd sps g (some { s with pg := upd s.pg p none }) g = some { s with pg := upd s.pg p none } := upd_at _ _ _
  have hset2 := hset.set_ (129 + p) (.bool true)
  rw [sp_set_changed _ p true hp] at hset2
  have hf2 : Fr [g] (w.setCell ⟨g, 193 + p, none⟩ (.pointer none)) ((w.setCell ⟨g, 193 + p, none⟩ (.pointer none)).setCell ⟨g, 129 + p, none⟩ (.bool true)) := (Fr.refl _ _).setCell (.inl (by simp)) _
  have hA2 := hA1.flags ok.keeps hg1 { s with pg := upd s.pg p none, changed := upd s.changed p true } rfl (fun _ h => h) rfl hinv hf2 hset2
  rw [upd_upd] at hA2
  subst hw
  refine ⟨_, _, hA2, ?_, fun k y hne hy => rfl, ((h.toRep.fr_sp hg hf1).trans (hA1.toRep.fr_sp hg1 hf2)).more⟩
  unfold view dropA
  congr 1
  funext r
  show pageOf hm (upd s.pg p none r) = upd _ p none r
  by_cases e : r = p
  · subst e
    rw [upd_at, upd_at]
    rfl
  · rw [upd_ne _ _ _ _ e, upd_ne _ _ _ _ e]

theorem ptr23_neq (W : World) (q : Nat) : (binOp BinOp.neq 45 (.pointer (some ⟨q, 0, none⟩)) (.pointer none)).run Tryz.prog W = .ok (.bool true) W := by kernel_rfl
set_option maxRecDepth 100000 in
set_option maxHeartbeats 8000000 in
theorem has_all (ok : SourceOk C B) (h : All C B w sps hm) (hg : sps g = some s) (p : Int) (hB : B ≤ w.heap.size) :
    Calls Tryz.prog 101 #[.pointer (some ⟨g, 0, none⟩), .int .i64 p] w fun e w' => Stp C B sps hm g (hasA (view C hm s) p).1 w w' (BoolK e (hasA (view C hm s) p).2) := by
  have hq := ptr23_neq
  by_cases hp : 0 ≤ p ∧ p < 64
  · have hpb : Hid (pageB p = true) := Lib.hid (decide_eq_true hp)
    obtain ⟨n, rfl⟩ : ∃ n : Nat, p = n := ⟨p.toNat, by omega⟩
    have hn : n < 64 := by omega
    have hr : hasA (view C hm s) n = (needA (view C hm s) n, ((needA (view C hm s) n).page n).isSome) := by unfold hasA; rw [if_neg (by omega), Int.toNat_natCast]
    rw [hr]
    have HN := Lib.hid (need_all ok h hg n hn hB)
    clear hr hp
    go_enter Tryz.func101, Tryz.ntmps101
    go_wp2_with fail
    refine (isPage_any _ _).mono ?_
    rintro e w' ⟨rfl, rfl⟩
    rw [hpb.out]
    dsimp only
    go_wp2_with fail
    refine HN.out.mono ?_
    rintro e w2 ⟨s2, hm2, hA2, hv2, ho2, hmv2, rfl⟩
    have hgr2 : upd sps g (some s2) g = some s2 := upd_at _ _ _
    have hps := page_some (C := C) hA2.toRep hgr2 n
    rw [hv2] at hps
    have HA2 := Lib.hid hA2
    have HV2 := Lib.hid hv2
    have HO2 := Lib.hid ho2
    have HMV2 := Lib.hid hmv2
    have HPS := Lib.hid hps
    clear hA2 hv2 ho2 hmv2 hps HN hgr2
    unfold ptrV
    cases hpg : s2.pg n with
    | none =>
      have hr2 : ((needA (view C hm s) n).page n).isSome = false := by rw [HPS.out, hpg]; rfl
      have HR2 := Lib.hid hr2
      have hq2 := nil_neq
      clear hr2 hpg
      simp only [Option.map_none]
      go_wp2_with fail
      go_ret
      exact ⟨s2, hm2, HA2.out, HV2.out, HO2.out, HMV2.out, by rw [HR2.out]; rfl⟩
    | some r =>
      have hr2 : ((needA (view C hm s) n).page n).isSome = true := by rw [HPS.out, hpg]; rfl
      have HR2 := Lib.hid hr2
      have hq2 := ptr_neq2
      clear hr2 hpg
      simp only [Option.map_some]
      go_wp2_with fail
      go_ret
      exact ⟨s2, hm2, HA2.out, HV2.out, HO2.out, HMV2.out, by rw [HR2.out]; rfl⟩
  · have hpb : Hid (pageB p = false) := Lib.hid (decide_eq_false hp)
    have hr : hasA (view C hm s) p = (view C hm s, false) := by unfold hasA; rw [if_pos (by omega)]
    rw [hr]
    have HS := Lib.hid (fun e (he : BoolK e false s hm) => Stp.self h hg he)
    clear hr hp
    go_enter Tryz.func101, Tryz.ntmps101
    go_wp2_with fail
    refine (isPage_any _ _).mono ?_
    rintro e w' ⟨rfl, rfl⟩
    rw [hpb.out]
    dsimp only
    go_wp2_with fail
    go_ret
    exact HS.out _ rfl
end
end Go.Proofs.YtkoomlbnfhdhcaaGreatDoor

/-
  Walks: SetWord, Word.
-/
namespace Go.Proofs.YtkoomlbnfhdhcaaGreatDoor
open Go.RowKit
set_option linter.unusedVariables false
def le4 (n : Nat) : List UInt8 := [UInt8.ofNat n, UInt8.ofNat (n / 256), UInt8.ofNat (n / 65536), UInt8.ofNat (n / 16777216)]
section
variable {C : Source} {B : Nat} {w w' : World} {sps : Nat → Option Sp} {hm : Pages} {g : Nat} {s : Sp}
theorem Stp.after {w1 : World} {a' : AS} {K : Sp → Pages → Prop} (h : Below w.heap.size w w1) (hs : Stp C B sps hm g a' w1 w' K) : Stp C B sps hm g a' w w' K := by
  obtain ⟨s1, hm1, q1, q2, q3, q4, q5⟩ := hs
  exact ⟨s1, hm1, q1, q2, q3, (Mv.of_below h).trans q4, q5⟩
set_option maxRecDepth 100000 in
set_option maxHeartbeats 8000000 in
theorem setWord_all (ok : SourceOk C B) (h : All C B w sps hm) (hg : sps g = some s) (at_ : Int) (n : Nat) (hn : n < 4294967296) (ha1 : -9223372036854775808 ≤ at_) (ha2 : at_ ≤ 9223372036854775807) (hB : B ≤ w.heap.size) :
    Calls Tryz.prog 129 #[.pointer (some ⟨g, 0, none⟩), .int .i64 at_, .int .u32 n] w fun e w' => Stp C B sps hm g (storeA (view C hm s) at_ (le4 n)).1 w w' (ErrK e (storeA (view C hm s) at_ (le4 n)).2) := by
  have hbs : (#[.int .u8 ((n : Int) % 256), .int .u8 ((n : Int) / 256 % 256), .int .u8 ((n : Int) / 65536 % 256), .int .u8 ((n : Int) / 16777216)] : Array Value) = (bs (le4 n)).toArray := by
    unfold le4 bs
    simp only [List.map_cons, List.map_nil, UInt8.toNat_ofNat']
    rw [show (n : Int) % 256 = ((n % 2 ^ 8 : Nat) : Int) by omega, show (n : Int) / 256 % 256 = ((n / 256 % 2 ^ 8 : Nat) : Int) by omega, show (n : Int) / 65536 % 256 = ((n / 65536 % 2 ^ 8 : Nat) : Int) by omega, show (n : Int) / 16777216 = ((n / 16777216 % 2 ^ 8 : Nat) : Int) by omega]
  obtain ⟨W, hW⟩ : ∃ W, W = w.alloc (.cells #[.int .u8 ((n : Int) % 256), .int .u8 ((n : Int) / 256 % 256), .int .u8 ((n : Int) / 65536 % 256), .int .u8 ((n : Int) / 16777216)] 5) := ⟨_, rfl⟩
  have hbel : Below w.heap.size w W := by rw [hW]; exact (Below.refl _ _).alloc (Nat.le_refl _) _
  have hrd : RdB W (w.heap.size + 1) (.slice (some ⟨w.heap.size, 0, none⟩) 4 4) (le4 n) := by
    refine ⟨_, 4, rfl, by simp [le4], by simp [maxLen], by simp [bs, le4], fun _ => ⟨_, rfl, by simp, fun j u hu => ?_⟩⟩
    rw [add_at0, hW, hbs, World.cell?_alloc_mark]
    simpa using hu
  have hcv := run_convert_string (P := Tryz.prog) Tryz.underlying24 Tryz.underlying5 Tryz.underlying9 hrd
  have HST := Lib.hid (store_all ok (h.below ok.keeps hbel) hg at_ ⟨(le4 n).toArray⟩ (by show (le4 n).toArray.size ≤ _; simp [le4]) ha1 ha2 (Nat.le_trans hB hbel.size))
  have HB := Lib.hid hbel
  clear hbs hrd hbel
  have HW := Lib.hid hW
  rw [hW] at hcv
  clear hW
  go_enter Tryz.func129, Tryz.ntmps129
  go_wp2_with fail
  rw [← HW.out]
  refine HST.out.mono ?_
  rintro e w1 hs
  have HS := Lib.hid (Stp.after HB.out hs)
  obtain ⟨s1, hm1, _, _, _, _, rfl⟩ := hs
  dsimp only
  go_wp2_with fail
  go_ret
  obtain ⟨s1, hm1, q1, q2, q3, q4, _⟩ := HS.out
  exact ⟨s1, hm1, q1, q2, q3, q4, rfl⟩
end
end Go.Proofs.YtkoomlbnfhdhcaaGreatDoor

/-
  Walks: Fork.
-/
namespace Go.Proofs.YtkoomlbnfhdhcaaGreatDoor
open Go.RowKit
set_option linter.unusedVariables false

def emptySp : Sp := ⟨.nilFunc, fun _ => false, fun _ => false, fun _ => false, fun _ => none⟩
theorem upd_comm {α : Type} (F : Nat → α) (f g : Nat) (x y : α) (h : g ≠ f) : upd (upd F f x) g y = upd (upd F g y) f x := by
  funext q
  unfold upd
  by_cases h1 : q = g
  · subst h1
    rw [if_pos rfl, if_neg h, if_pos rfl]
  · rw [if_neg h1]
    by_cases h2 : q = f
    · rw [if_pos h2, if_pos h2]
    · rw [if_neg h2, if_neg h2, if_neg h1]

/-- All pages below k are needed. -/
def needUp : Nat → AS → AS
  | 0, a => a
  | k + 1, a => needA (needUp k a) k
/-- The child of a fork, its pages below k done. -/
def childA (a : AS) (k : Nat) : AS := ⟨none, fun p => decide (p < k), fun _ => false, fun p => decide (p < k) && (a.page p).isSome, fun p => if p < k then a.page p else none⟩

section
variable {C : Source} {B : Nat} {w w' : World} {sps : Nat → Option Sp} {hm : Pages} {g : Nat} {s : Sp}
theorem All.fresh (h : All C B w sps hm) : sps w.heap.size = none := by
  cases hs : sps w.heap.size with
  | none => rfl
  | some s => have := (h.blk _ s hs).1.lt; omega
theorem All.newsp (h : All C B w sps hm) (hk : Keeps C B) (hB : B ≤ w.heap.size) : All C B (w.alloc (.cells (spCells emptySp) 98)) (upd sps w.heap.size (some emptySp)) hm := by
  have hb : Below w.heap.size w (w.alloc (.cells (spCells emptySp) 98)) := (Below.refl _ _).alloc (Nat.le_refl _) _
  have h1 := h.below hk hb
  refine ⟨⟨fun k x hx => ?_, h1.mem, fun k x hx p q hq => ?_, fun k x k' x' p q r b hx hx' hr hr' hh => ?_⟩, fun x hx => ?_, fun k x hx hne => ?_, fun k x hx p hp => ?_⟩
  · rcases upd_some _ _ _ _ _ hx with ⟨rfl, rfl⟩ | ⟨hne, hx⟩
    · exact ⟨Blk.new _ _ _, hB⟩
    · exact h1.blk k x hx
  · rcases upd_some _ _ _ _ _ hx with ⟨rfl, rfl⟩ | ⟨hne, hx⟩
    · cases hq
    · exact h1.ref k x hx p q hq
  · rcases upd_some _ _ _ _ _ hx with ⟨rfl, rfl⟩ | ⟨hne, hx⟩
    · cases hr
    · rcases upd_some _ _ _ _ _ hx' with ⟨rfl, rfl⟩ | ⟨hne', hx'⟩
      · cases hr'
      · exact h1.own k x k' x' p q r b hx hx' hr hr' hh
  · rcases upd_some _ _ _ _ _ hx with ⟨_, rfl⟩ | ⟨hne, hx⟩
    · exact .inl rfl
    · exact h1.env x hx
  · rcases upd_some _ _ _ _ _ hx with ⟨_, rfl⟩ | ⟨hne', hx⟩
    · rfl
    · exact h1.nosrc k x hx hne
  · rcases upd_some _ _ _ _ _ hx with ⟨_, rfl⟩ | ⟨hne', hx⟩
    · exact ⟨rfl, rfl⟩
    · exact h1.inv k x hx p hp

/-- A shared page is put into a space. -/
theorem All.share (h : All C B w sps hm) (ok : SourceOk C B) {f : Nat} {c : Sp} (hf : sps f = some c) (p : Nat) (hp : p < 64) (hk : c.known p = true) {q : Nat} {b : List UInt8} {sh : Bool} (hq : hm q = some (b, sh))
    (hw : w' = ((w.setCell ⟨q, 64, none⟩ (.bool true)).setCell ⟨f, 193 + p, none⟩ (ptrV (some q))).setCell ⟨f, 129 + p, none⟩ (.bool true)) :
    ∃ c' hm', All C B w' (upd sps f (some c')) hm' ∧ view C hm' c' = { view C hm c with page := upd (view C hm c).page p (some b), changed := upd (view C hm c).changed p true } ∧
      (∀ k y, k ≠ f → sps k = some y → view C hm' y = view C hm y) ∧ Mv B C.X w w' ∧ c'.pg = upd c.pg p (some q) ∧ hm' = upd hm q (some (b, true)) := by
  obtain ⟨hl, hbq, hBq⟩ := h.mem q b sh hq
  have hset := hbq.set_ 64 (.bool true)
  rw [held_share b sh true hl] at hset
  have hf1 : Fr [q] w (w.setCell ⟨q, 64, none⟩ (.bool true)) := (Fr.refl _ _).setCell (.inl (by simp)) _
  obtain ⟨hA1, hm1⟩ := h.write ok.keeps hq b true hl (fun h => by cases h) hf1 hset
  have hvw : ∀ o, pageOf (upd hm q (some (b, true))) o = pageOf hm o := fun o => by
    cases o with
    | none => rfl
    | some t =>
      show (upd hm q _ t).map _ = (hm t).map _
      by_cases e : t = q
      · rw [e, upd_at, hq]; rfl
      · rw [upd_ne _ _ _ _ e]
  generalize hWd : w.setCell ⟨q, 64, none⟩ (.bool true) = W1 at *
  have hbf := (hA1.blk f c hf).1
  have hs2 := hbf.set_ (193 + p) (ptrV (some q))
  rw [sp_set_pg c p _ hp] at hs2
  have hf2 : Fr [f] W1 (W1.setCell ⟨f, 193 + p, none⟩ (ptrV (some q))) := (Fr.refl _ _).setCell (.inl (by simp)) _
  have hs3 := hs2.set_ (129 + p) (.bool true)
  rw [sp_set_changed _ p true hp] at hs3
  have hf3 : Fr [f] W1 ((W1.setCell ⟨f, 193 + p, none⟩ (ptrV (some q))).setCell ⟨f, 129 + p, none⟩ (.bool true)) := hf2.setCell (.inl (by simp)) _
  subst hw
  have hmv := hA1.toRep.fr_sp hf hf3
  have hinv : ∀ r, c.known r = false → c.asked r = false ∧ upd c.pg p (some q) r = none := fun r hr => by
    obtain ⟨i1, i2⟩ := h.inv f c hf r hr
    exact ⟨i1, by rw [upd_ne _ _ _ _ (fun e => by rw [e, hk] at hr; cases hr)]; exact i2⟩
  have key : ∀ k x p1 r c', upd sps f (some { c with pg := upd c.pg p (some q), changed := upd c.changed p true }) k = some x → x.pg p1 = some r → upd hm q (some (b, true)) r = some (c', false) → ∃ y, sps k = some y ∧ y.pg p1 = some r := fun k x p1 r c' hx hr hh => by
    rcases upd_some _ _ _ _ _ hx with ⟨rfl, rfl⟩ | ⟨hne, hx⟩
    · rcases upd_some _ _ _ _ _ hr with ⟨_, e⟩ | ⟨_, hr⟩
      · subst e
        rw [upd_at] at hh
        injection hh with hh
        injection hh with _ hh
        cases hh
      · exact ⟨c, hf, hr⟩
    · exact ⟨x, hx, hr⟩
  refine ⟨{ c with pg := upd c.pg p (some q), changed := upd c.changed p true }, upd hm q (some (b, true)), ⟨⟨fun k x hx => ?_, fun k d sd hx => ?_, fun k x hx p1 r hr => ?_, fun k x k' x' p1 p2 r d hx hx' hr hr' hh => ?_⟩, fun x hx => ?_, fun k x hx hne => ?_, fun k x hx => ?_⟩, ?_, fun k y hne hy => ?_, (hm1.trans hmv).more, rfl, rfl⟩
  · rcases upd_some _ _ _ _ _ hx with ⟨rfl, rfl⟩ | ⟨hne, hx⟩
    · exact ⟨hs3, (h.blk k c hf).2⟩
    · exact ⟨(hA1.blk k x hx).1.fr hf3 (by simpa using hne), (h.blk k x hx).2⟩
  · obtain ⟨m1, m2, m3⟩ := hA1.mem k d sd hx
    exact ⟨m1, m2.fr hf3 (by simpa using hA1.toRep.page_ne hf hx), m3⟩
  · rcases upd_some _ _ _ _ _ hx with ⟨rfl, rfl⟩ | ⟨hne, hx⟩
    · rcases upd_some _ _ _ _ _ hr with ⟨_, e⟩ | ⟨_, hr⟩
      · subst e; exact ⟨_, upd_at _ _ _⟩
      · exact hA1.ref k c hf p1 r hr
    · exact hA1.ref k x hx p1 r hr
  · obtain ⟨y, hy, hr1⟩ := key k x p1 r d hx hr hh
    obtain ⟨y', hy', hr2⟩ := key k' x' p2 r d hx' hr' hh
    exact hA1.own k y k' y' p1 p2 r d hy hy' hr1 hr2 hh
  · rcases upd_some _ _ _ _ _ hx with ⟨e, rfl⟩ | ⟨hne, hx⟩
    · rw [← e] at hf
      exact (hA1.env c hf).imp id fun e => ⟨e.1, ok.keeps _ _ _ e.2 hmv.toE⟩
    · exact (hA1.env x hx).imp id fun e => ⟨e.1, ok.keeps _ _ _ e.2 hmv.toE⟩
  · rcases upd_some _ _ _ _ _ hx with ⟨rfl, rfl⟩ | ⟨hne', hx⟩
    · exact h.nosrc k c hf hne
    · exact h.nosrc k x hx hne
  · rcases upd_some _ _ _ _ _ hx with ⟨rfl, rfl⟩ | ⟨hne', hx⟩
    · exact hinv
    · exact h.inv k x hx
  · unfold view
    congr 1
    funext r
    show pageOf (upd hm q (some (b, true))) (upd c.pg p (some q) r) = upd (fun p => pageOf hm (c.pg p)) p (some b) r
    rw [hvw]
    by_cases e : r = p
    · rw [e, upd_at, upd_at]
      show (hm q).map _ = _
      rw [hq]; rfl
    · rw [upd_ne _ _ _ _ e, upd_ne _ _ _ _ e]
  · unfold view
    congr 1
    funext r
    exact hvw _
end
end Go.Proofs.YtkoomlbnfhdhcaaGreatDoor

/-
  Walks: Fork.
-/
namespace Go.Proofs.YtkoomlbnfhdhcaaGreatDoor
open Go.RowKit
set_option linter.unusedVariables false

theorem child_none (x : AS) (k : Nat) (h : (needA x k).page k = none) : childA (needA x k) (k + 1) = { childA x k with known := upd (childA x k).known k true } := by
  unfold childA
  congr 1
  · funext p
    show decide (p < k + 1) = upd (fun p => decide (p < k)) k true p
    by_cases e : p = k
    · rw [e, upd_at]; simp
    · rw [upd_ne _ _ _ _ e]; simp; omega
  · funext p
    by_cases e : p = k
    · rw [e, h]; simp
    · rw [needA_page_ne _ _ _ e, show decide (p < k + 1) = decide (p < k) by simp; omega]
  · funext p
    by_cases e : p = k
    · rw [e, h]; simp
    · rw [needA_page_ne _ _ _ e]
      show _ = if p < k then x.page p else none
      by_cases h1 : p < k
      · rw [if_pos (by omega), if_pos h1]
      · rw [if_neg (by omega), if_neg h1]
theorem child_some (x : AS) (k : Nat) (b : List UInt8) (h : (needA x k).page k = some b) : childA (needA x k) (k + 1) = { childA x k with known := upd (childA x k).known k true, page := upd (childA x k).page k (some b), changed := upd (childA x k).changed k true } := by
  unfold childA
  congr 1
  · funext p
    show decide (p < k + 1) = upd (fun p => decide (p < k)) k true p
    by_cases e : p = k
    · rw [e, upd_at]; simp
    · rw [upd_ne _ _ _ _ e]; simp; omega
  · funext p
    by_cases e : p = k
    · rw [e, upd_at, h]; simp
    · rw [upd_ne _ _ _ _ e, needA_page_ne _ _ _ e, show decide (p < k + 1) = decide (p < k) by simp; omega]
  · funext p
    by_cases e : p = k
    · rw [e, upd_at, h]; simp
    · rw [upd_ne _ _ _ _ e, needA_page_ne _ _ _ e]
      show _ = if p < k then x.page p else none
      by_cases h1 : p < k
      · rw [if_pos (by omega), if_pos h1]
      · rw [if_neg (by omega), if_neg h1]
theorem child_zero (a : AS) (hm : Pages) (C : Source) : view C hm emptySp = childA a 0 := by
  unfold view childA emptySp
  congr 1

/-- The spaces behind a fork, the pages below k done. -/
def ForkI (C : Source) (B : Nat) (sps : Nat → Option Sp) (hm : Pages) (g f : Nat) (a : AS) (k : Nat) (w w' : World) : Prop :=
  ∃ s1 c1 hm1, All C B w' (upd (upd sps g (some s1)) f (some c1)) hm1 ∧ view C hm1 s1 = needUp k a ∧ view C hm1 c1 = childA (needUp k a) k ∧
    (∀ k' x, k' ≠ g → sps k' = some x → view C hm1 x = view C hm x) ∧ Mv B C.X w w' ∧ ∀ p, p < k → c1.pg p = s1.pg p ∧ ∀ q, s1.pg p = some q → ∃ b, hm1 q = some (b, true)

section
variable {C : Source} {B : Nat} {w w' : World} {sps : Nat → Option Sp} {hm : Pages} {g : Nat} {s : Sp}
end
end Go.Proofs.YtkoomlbnfhdhcaaGreatDoor
