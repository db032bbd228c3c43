/-
  Walks: Store.
-/
import Derived.Test.YtbppafbdmdbdiaaSpK
namespace Go.Proofs.Ytbppafbdmdbdiaa
open Go.RowKit
set_option linter.unusedVariables false

def OwnK (e : Ending) (p : Nat) (b : List UInt8) : Sp → Pages → Prop := fun s' hm' => ∃ q, e = .returned (ptrV (some q)) ∧ s'.pg p = some q ∧ hm' q = some (b, false)

/-- .. and which blocks stay. -/
def OwnKM (e : Ending) (p : Nat) (b : List UInt8) (s : Sp) (hm : Pages) : Sp → Pages → Prop := fun s' hm' => OwnK e p b s' hm' ∧ (∀ q, q ≠ p → s'.pg q = s.pg q) ∧ (s'.pg p = s.pg p ∨ ∃ n, s'.pg p = some n ∧ hm n = none) ∧ (∀ r c, hm r = some c → hm' r = some c) ∧ s'.known = s.known
/-- A byte is stored. -/
def storeStep (a : AS) (x : Nat) (v : UInt8) : AS := { a with page := upd a.page (x / 64) (some (((a.page (x / 64)).getD []).set (x % 64) v)), changed := upd a.changed (x / 64) true }
def storeGo (a : AS) (x : Nat) (l : List UInt8) : Nat → AS
  | 0 => a
  | k + 1 => storeStep (storeGo a x l k) (x + k) (l.getD k 0)
def storeA (a : AS) (at_ : Int) (l : List UInt8) : AS × Nat :=
  (if (accessA a at_ l.length).2 = 0 then storeGo (accessA a at_ l.length).1 at_.toNat l l.length else (accessA a at_ l.length).1, (accessA a at_ l.length).2)
theorem storeGo_some (a : AS) (x : Nat) (l : List UInt8) (p : Nat) (h : (a.page p).isSome = true) : ∀ k, ((storeGo a x l k).page p).isSome = true
  | 0 => h
  | k + 1 => by
    show (upd (storeGo a x l k).page ((x + k) / 64) _ p).isSome = true
    by_cases e : p = (x + k) / 64
    · rw [e, upd_at]; rfl
    · rw [upd_ne _ _ _ _ e]; exact storeGo_some a x l p h k

section
variable {C : Source} {B : Nat} {w w' : World} {sps : Nat → Option Sp} {hm : Pages} {g : Nat} {s : Sp}

theorem own_more (ok : SourceOk C B) (h : All C B w sps hm) (hg : sps g = some s) (p r : Nat) (b : List UInt8) (sh : Bool) (hp : p < 64) (hpg : s.pg p = some r) (hr : hm r = some (b, sh)) (hB : B ≤ w.heap.size) :
    Calls Try.prog 41 #[.pointer (some ⟨g, 0, none⟩), .int .i64 p] w fun e w' => Stp C B sps hm g (view C hm s) w w' (OwnKM e p b s hm) := by
  obtain ⟨hblk, hBg⟩ := h.blk g s hg
  obtain ⟨hl, hbr, hBr⟩ := h.mem r b sh hr
  cases sh with
  | false =>
    refine (own_keep w g p r s b hblk hp hpg hbr hl).mono ?_
    rintro e w' ⟨rfl, rfl⟩
    exact Stp.self h hg ⟨⟨r, rfl, hpg, hr⟩, fun _ _ => rfl, .inl rfl, fun _ _ h => h, rfl⟩
  | true =>
    refine (own_copy w g p r s b hblk hp hpg hbr hl).mono ?_
    rintro e w' ⟨rfl, hn, hb', hw⟩
    have hnew : ∀ c, hm w.heap.size ≠ some c := fun c hc => by
      obtain ⟨b1, sh1⟩ := c
      have := (h.mem w.heap.size b1 sh1 hc).2.1.lt
      omega
    refine ⟨_, _, h.put ok.keeps hg p { s with pg := upd s.pg p (some w.heap.size) } w.heap.size b rfl (fun _ h => h) rfl (fun q hq => ?_) hl hw hb' hnew hB hn, ?_, fun k x hne hx => ?_, (h.toRep.fr_sp hg hw).more, ⟨w.heap.size, rfl, upd_at _ _ _, upd_at _ _ _⟩, fun q hq => upd_ne _ _ _ _ hq, .inr ⟨w.heap.size, upd_at _ _ _, Option.eq_none_iff_forall_ne_some.2 hnew⟩, fun r c hr => ?_, rfl⟩
    · obtain ⟨i1, i2⟩ := h.inv g s hg q hq
      refine ⟨i1, ?_⟩
      show upd s.pg p _ q = none
      rw [upd_ne _ _ _ _ (fun e => by rw [e, hpg] at i2; cases i2)]
      exact i2
    · unfold view
      congr 1
      funext q
      show pageOf (upd hm w.heap.size _) (upd s.pg p (some w.heap.size) q) = pageOf hm (s.pg q)
      by_cases e : q = p
      · rw [e, upd_at, hpg]
        show (upd hm w.heap.size _ w.heap.size).map _ = (hm r).map _
        rw [upd_at, hr]
        rfl
      · rw [upd_ne _ _ _ _ e]
        exact view_new h.toRep w.heap.size hnew _ g s hg q
    · unfold view
      congr 1
      funext q
      exact view_new h.toRep w.heap.size hnew _ k x hx q
    · rw [upd_ne _ _ _ _ (fun e => hnew c (by rw [← e]; exact hr))]; exact hr

theorem own_all (ok : SourceOk C B) (h : All C B w sps hm) (hg : sps g = some s) (p r : Nat) (b : List UInt8) (sh : Bool) (hp : p < 64) (hpg : s.pg p = some r) (hr : hm r = some (b, sh)) (hB : B ≤ w.heap.size) :
    Calls Try.prog 41 #[.pointer (some ⟨g, 0, none⟩), .int .i64 p] w fun e w' => Stp C B sps hm g (view C hm s) w w' (OwnK e p b) :=
  (own_more ok h hg p r b sh hp hpg hr hB).mono fun e w' h => h.weak fun _ _ h => h.1

/-- How the spaces look behind a write to a page that only one of them holds. -/
theorem view_write (h : Rep B w sps hm) (hg : sps g = some s) (p q : Nat) (b b' : List UInt8) (hpg : s.pg p = some q) (hq : hm q = some (b, false)) (k : Nat) (x : Sp) (hx : sps k = some x) (r : Nat) (hne : k ≠ g ∨ r ≠ p) :
    pageOf (upd hm q (some (b', false))) (x.pg r) = pageOf hm (x.pg r) := by
  cases hxr : x.pg r with
  | none => rfl
  | some t =>
    have htq : t ≠ q := fun e => by
      subst e
      obtain ⟨e1, e2⟩ := h.own k x g s r p t b hx hg hxr hpg hq
      rcases hne with hne | hne
      · exact hne e1
      · exact hne e2
    show (upd hm q _ t).map _ = (hm t).map _
    rw [upd_ne _ _ _ _ htq]

/-- One byte. -/
theorem All.byte (h : All C B w sps hm) (ok : SourceOk C B) (hg : sps g = some s) (x : Nat) (q : Nat) (b : List UInt8) (v : UInt8) (hx : x < 4096) (hpg : s.pg (x / 64) = some q) (hq : hm q = some (b, false))
    (hw : w' = (w.setCell ⟨q, x % 64, none⟩ (.int .u8 v.toNat)).setCell ⟨g, 129 + x / 64, none⟩ (.bool true)) :
    ∃ s' hm', All C B w' (upd sps g (some s')) hm' ∧ view C hm' s' = storeStep (view C hm s) x v ∧ (∀ k y, k ≠ g → sps k = some y → view C hm' y = view C hm y) ∧ Mv B C.X w w' ∧ s'.pg = s.pg ∧ s'.known = s.known ∧ hm' = upd hm q (some (b.set (x % 64) v, false)) := by
  obtain ⟨hl, hbq, hBq⟩ := h.mem q b false hq
  have hset := hbq.set_ (x % 64) (.int .u8 v.toNat)
  rw [held_set b false (x % 64) v (by omega)] at hset
  have hf1 : Fr [q] w (w.setCell ⟨q, x % 64, none⟩ (.int .u8 v.toNat)) := (Fr.refl _ _).setCell (.inl (by simp)) _
  obtain ⟨hA1, hm1⟩ := h.write ok.keeps hq (b.set (x % 64) v) false (by rw [List.length_set]; exact hl) (fun _ => rfl) hf1 hset
  have hbg := (hA1.blk g s hg).1
  have hset2 := hbg.set_ (129 + x / 64) (.bool true)
  rw [sp_set_changed s (x / 64) true (by omega)] at hset2
  have hf2 : Fr [g] (w.setCell ⟨q, x % 64, none⟩ (.int .u8 v.toNat)) ((w.setCell ⟨q, x % 64, none⟩ (.int .u8 v.toNat)).setCell ⟨g, 129 + x / 64, none⟩ (.bool true)) := (Fr.refl _ _).setCell (.inl (by simp)) _
  have hA2 := hA1.flags ok.keeps hg { s with changed := upd s.changed (x / 64) true } rfl (fun _ h => h) rfl (h.inv g s hg) hf2 hset2
  subst hw
  refine ⟨_, _, hA2, ?_, fun k y hne hy => ?_, (hm1.trans (hA1.toRep.fr_sp hg hf2)).more, rfl, rfl, rfl⟩
  · unfold view storeStep
    congr 1
    funext r
    show pageOf (upd hm q _) (s.pg r) = upd _ (x / 64) _ r
    by_cases e : r = x / 64
    · subst e
      rw [upd_at]
      show pageOf (upd hm q _) (s.pg (x / 64)) = some (((pageOf hm (s.pg (x / 64))).getD []).set (x % 64) v)
      rw [hpg]
      show (upd hm q _ q).map _ = some ((((hm q).map _).getD []).set (x % 64) v)
      rw [upd_at, hq]
      rfl
    · rw [upd_ne _ _ _ _ e]
      exact view_write h.toRep hg (x / 64) q b _ hpg hq g s hg r (.inr e)
  · unfold view
    congr 1
    funext r
    exact view_write h.toRep hg (x / 64) q b _ hpg hq k y hy r (.inl hne)
end
end Go.Proofs.Ytbppafbdmdbdiaa
