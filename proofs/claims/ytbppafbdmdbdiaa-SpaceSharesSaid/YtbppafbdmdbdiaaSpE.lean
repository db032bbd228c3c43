/-
  How the words for all spaces follow a step: a space's flags, a page's bytes, a page put or taken.
-/
import Derived.Test.YtbppafbdmdbdiaaSpD
namespace Go.Proofs.Ytbppafbdmdbdiaa
open Go.RowKit
set_option linter.unusedVariables false

/-- Blocks that a space's functions may write: spaces, pages, rows of bytes, of numbers, of changes. -/
def OwnT (w : World) (k : Nat) : Prop := ∃ cs t fr, w.heap[k]? = some (.cells cs t fr) ∧ (t = 86 ∨ t = 91 ∨ t = 5 ∨ t = 3 ∨ t = 96)
structure MvE (w w' : World) : Prop where
  size : w.heap.size ≤ w'.heap.size
  block : ∀ k, k < w.heap.size → ¬ OwnT w k → w'.heap[k]? = w.heap[k]?
theorem Mv.toE {B : Nat} {w w' : World} (h : Mv B NoX w w') : MvE w w' := ⟨h.size, fun k hk hc => h.block k hk (.inr ⟨fun ⟨cs, t, fr, he, ht⟩ => hc ⟨cs, t, fr, he, ht.imp id .inl⟩, fun h => h⟩)⟩
/-- What stands for a source stays where only such blocks move. -/
def Keeps (C : Source) (B : Nat) : Prop := ∀ a w w', C.E a w → MvE w w' → C.E a w'

section
variable {C : Source} {B : Nat} {w w' : World} {sps : Nat → Option Sp} {hm : Pages} {g : Nat} {s : Sp}

theorem Rep.fr_sp (h : Rep B w sps hm) (hg : sps g = some s) (hw : Fr [g] w w') : Mv B NoX w w' :=
  Mv.fr hw fun k hk => by
    rw [List.mem_singleton.1 hk]
    exact ⟨(h.blk g s hg).2, .inl (spT_86 (h.blk g s hg).1)⟩
theorem Rep.page_ne (h : Rep B w sps hm) (hg : sps g = some s) {k : Nat} {c : List UInt8 × Bool} (hk : hm k = some c) : k ≠ g := by
  obtain ⟨b, sh⟩ := c
  exact (h.mem k b sh hk).2.1.ne_ (h.blk g s hg).1 (by decide)

/-- A space's flags. -/
theorem All.flags (h : All C B w sps hm) (hk : Keeps C B) (hg : sps g = some s) (s' : Sp) (h1 : s'.fetch = s.fetch) (h2 : ∀ W, C.E s.asked W → C.E s'.asked W) (h3 : s'.pg = s.pg) (h4 : ∀ p, s'.known p = false → s'.asked p = false ∧ s'.pg p = none) (hw : Fr [g] w w') (hb : Blk w' g 86 (spCells s')) :
    All C B w' (upd sps g (some s')) hm := by
  have hmv := h.toRep.fr_sp hg hw
  refine ⟨⟨fun k x hx => ?_, fun k b sh hx => ?_, fun k x hx p q hq => ?_, fun k x k' x' p q r b hx hx' hr hr' hh => ?_⟩, fun x hx => ?_, fun k x hx hne => ?_, fun k x hx => ?_⟩
  · rcases upd_some _ _ _ _ _ hx with ⟨rfl, rfl⟩ | ⟨hne, hx⟩
    · exact ⟨hb, (h.blk k s hg).2⟩
    · exact ⟨(h.blk k x hx).1.fr hw (by simpa using hne), (h.blk k x hx).2⟩
  · obtain ⟨m1, m2, m3⟩ := h.mem k b sh hx
    exact ⟨m1, m2.fr hw (by simpa using h.toRep.page_ne hg hx), m3⟩
  · rcases upd_some _ _ _ _ _ hx with ⟨rfl, rfl⟩ | ⟨hne, hx⟩
    · rw [h3] at hq; exact h.ref k s hg p q hq
    · exact h.ref k x hx p q hq
  · have key : ∀ k x, upd sps g (some s') k = some x → ∃ y, sps k = some y ∧ y.pg = x.pg := fun k x hx => by
      rcases upd_some _ _ _ _ _ hx with ⟨rfl, rfl⟩ | ⟨hne, hx⟩
      · exact ⟨s, hg, h3.symm⟩
      · exact ⟨x, hx, rfl⟩
    obtain ⟨y, hy, e1⟩ := key k x hx
    obtain ⟨y', hy', e2⟩ := key k' x' hx'
    rw [← e1] at hr
    rw [← e2] at hr'
    exact h.own k y k' y' p q r b hy hy' hr hr' hh
  · rcases upd_some _ _ _ _ _ hx with ⟨rfl, rfl⟩ | ⟨hne, hx⟩
    · rw [h1]
      exact (h.env s hg).imp id fun e => ⟨e.1, h2 _ (hk _ _ _ e.2 hmv.toE)⟩
    · exact (h.env x hx).imp id fun e => ⟨e.1, hk _ _ _ e.2 hmv.toE⟩
  · rcases upd_some _ _ _ _ _ hx with ⟨rfl, rfl⟩ | ⟨hne', hx⟩
    · rw [h1]; exact h.nosrc k s hg hne
    · exact h.nosrc k x hx hne
  · rcases upd_some _ _ _ _ _ hx with ⟨rfl, rfl⟩ | ⟨hne', hx⟩
    · exact h4
    · exact h.inv k x hx

/-- A page's bytes and its mark. -/
theorem All.write (h : All C B w sps hm) (hk : Keeps C B) {q : Nat} {b : List UInt8} {sh : Bool} (hq : hm q = some (b, sh)) (b' : List UInt8) (sh' : Bool) (hl : b'.length = 64) (hsh : sh' = false → sh = false) (hw : Fr [q] w w') (hb : Blk w' q 91 (heldCells b' sh')) :
    All C B w' sps (upd hm q (some (b', sh'))) ∧ Mv B NoX w w' := by
  have hmv : Mv B NoX w w' := Mv.fr hw fun k hk => by
    rw [List.mem_singleton.1 hk]
    exact ⟨(h.mem q b sh hq).2.2, .inl (spT_91 (h.mem q b sh hq).2.1)⟩
  refine ⟨⟨⟨fun k x hx => ?_, fun k c sc hx => ?_, fun k x hx p r hr => ?_, fun k x k' x' p p' r c hx hx' hr hr' hh => ?_⟩, fun x hx => ?_, h.nosrc, h.inv⟩, hmv⟩
  · exact ⟨(h.blk k x hx).1.fr hw (by have := h.toRep.page_ne hx hq; simpa using fun e => this e.symm), (h.blk k x hx).2⟩
  · rcases upd_some _ _ _ _ _ hx with ⟨rfl, he⟩ | ⟨hne, hx⟩
    · injection he with he1 he2
      subst he1 he2
      exact ⟨hl, hb, (h.mem k b sh hq).2.2⟩
    · obtain ⟨m1, m2, m3⟩ := h.mem k c sc hx
      exact ⟨m1, m2.fr hw (by simpa using hne), m3⟩
  · obtain ⟨c, hc⟩ := h.ref k x hx p r hr
    by_cases e : r = q
    · exact ⟨(b', sh'), by rw [e, upd_at]⟩
    · exact ⟨c, by rw [upd_ne _ _ _ _ e]; exact hc⟩
  · rcases upd_some _ _ _ _ _ hh with ⟨rfl, he⟩ | ⟨hne, hh⟩
    · injection he with he1 he2
      have := hsh he2.symm
      subst this
      exact h.own k x k' x' p p' r b hx hx' hr hr' hq
    · exact h.own k x k' x' p p' r c hx hx' hr hr' hh
  · exact (h.env x hx).imp id fun e => ⟨e.1, hk _ _ _ e.2 hmv.toE⟩

/-- A new page is put. -/
theorem All.put (h : All C B w sps hm) (hk : Keeps C B) (hg : sps g = some s) (p : Nat) (s' : Sp) (q : Nat) (b : List UInt8) (h1 : s'.fetch = s.fetch) (h2 : ∀ W, C.E s.asked W → C.E s'.asked W) (h3 : s'.pg = upd s.pg p (some q)) (h4 : ∀ p, s'.known p = false → s'.asked p = false ∧ s'.pg p = none) (hl : b.length = 64)
    (hw : Fr [g] w w') (hb : Blk w' g 86 (spCells s')) (hnew : ∀ c, hm q ≠ some c) (hBq : B ≤ q) (hbq : Blk w' q 91 (heldCells b false)) :
    All C B w' (upd sps g (some s')) (upd hm q (some (b, false))) := by
  have hmv := h.toRep.fr_sp hg hw
  have hold : ∀ k x, sps k = some x → ∀ p', x.pg p' ≠ some q := fun k x hx p' he => by
    obtain ⟨c, hc⟩ := h.ref k x hx p' q he
    exact hnew c hc
  have hpg : ∀ p' r, s'.pg p' = some r → (p' = p ∧ r = q) ∨ (p' ≠ p ∧ s.pg p' = some r) := fun p' r hr => by
    rw [h3] at hr
    exact upd_some _ _ _ _ _ hr
  refine ⟨⟨fun k x hx => ?_, fun k c sc hx => ?_, fun k x hx p' r hr => ?_, fun k x k' x' p1 p2 r c hx hx' hr hr' hh => ?_⟩, fun x hx => ?_, fun k x hx hne => ?_, fun k x hx => ?_⟩
  · rcases upd_some _ _ _ _ _ hx with ⟨rfl, rfl⟩ | ⟨hne, hx⟩
    · exact ⟨hb, (h.blk k s hg).2⟩
    · exact ⟨(h.blk k x hx).1.fr hw (by simpa using hne), (h.blk k x hx).2⟩
  · rcases upd_some _ _ _ _ _ hx with ⟨rfl, he⟩ | ⟨hne, hx⟩
    · injection he with he1 he2
      subst he1 he2
      exact ⟨hl, hbq, hBq⟩
    · obtain ⟨m1, m2, m3⟩ := h.mem k c sc hx
      exact ⟨m1, m2.fr hw (by simpa using h.toRep.page_ne hg hx), m3⟩
  · have hin : ∀ r, (∃ c, hm r = some c) → ∃ c, upd hm q (some (b, false)) r = some c := fun r ⟨c, hc⟩ => by
      by_cases e : r = q
      · exact ⟨_, by rw [e, upd_at]⟩
      · exact ⟨c, by rw [upd_ne _ _ _ _ e]; exact hc⟩
    rcases upd_some _ _ _ _ _ hx with ⟨rfl, rfl⟩ | ⟨hne, hx⟩
    · rcases hpg p' r hr with ⟨rfl, rfl⟩ | ⟨_, hr⟩
      · exact ⟨_, upd_at _ _ _⟩
      · exact hin r (h.ref k s hg p' r hr)
    · exact hin r (h.ref k x hx p' r hr)
  · by_cases e : r = q
    · subst e
      have key : ∀ k x p1, upd sps g (some s') k = some x → x.pg p1 = some r → k = g ∧ p1 = p := fun k x p1 hx hr => by
        rcases upd_some _ _ _ _ _ hx with ⟨rfl, rfl⟩ | ⟨hne, hx⟩
        · rcases hpg p1 r hr with ⟨rfl, _⟩ | ⟨_, hr⟩
          · exact ⟨rfl, rfl⟩
          · exact absurd hr (hold k s hg p1)
        · exact absurd hr (hold k x hx p1)
      obtain ⟨a1, a2⟩ := key k x p1 hx hr
      obtain ⟨b1, b2⟩ := key k' x' p2 hx' hr'
      exact ⟨a1.trans b1.symm, a2.trans b2.symm⟩
    · rw [upd_ne _ _ _ _ e] at hh
      have key : ∀ k x p1, upd sps g (some s') k = some x → x.pg p1 = some r → ∃ y, sps k = some y ∧ y.pg p1 = some r := fun k x p1 hx hr => by
        rcases upd_some _ _ _ _ _ hx with ⟨rfl, rfl⟩ | ⟨hne, hx⟩
        · rcases hpg p1 r hr with ⟨_, h5⟩ | ⟨_, hr⟩
          · exact absurd h5 e
          · exact ⟨s, hg, hr⟩
        · exact ⟨x, hx, hr⟩
      obtain ⟨y, hy, hr1⟩ := key k x p1 hx hr
      obtain ⟨y', hy', hr2⟩ := key k' x' p2 hx' hr'
      exact h.own k y k' y' p1 p2 r c hy hy' hr1 hr2 hh
  · rcases upd_some _ _ _ _ _ hx with ⟨rfl, rfl⟩ | ⟨hne, hx⟩
    · rw [h1]
      exact (h.env s hg).imp id fun e => ⟨e.1, h2 _ (hk _ _ _ e.2 hmv.toE)⟩
    · exact (h.env x hx).imp id fun e => ⟨e.1, hk _ _ _ e.2 hmv.toE⟩
  · rcases upd_some _ _ _ _ _ hx with ⟨rfl, rfl⟩ | ⟨hne', hx⟩
    · rw [h1]; exact h.nosrc k s hg hne
    · exact h.nosrc k x hx hne
  · rcases upd_some _ _ _ _ _ hx with ⟨rfl, rfl⟩ | ⟨hne', hx⟩
    · exact h4
    · exact h.inv k x hx

/-- A page is taken. -/
theorem All.take (h : All C B w sps hm) (hk : Keeps C B) (hg : sps g = some s) (p : Nat) (s' : Sp) (h1 : s'.fetch = s.fetch) (h2 : ∀ W, C.E s.asked W → C.E s'.asked W) (h3 : s'.pg = upd s.pg p none) (h4 : ∀ p, s'.known p = false → s'.asked p = false ∧ s'.pg p = none)
    (hw : Fr [g] w w') (hb : Blk w' g 86 (spCells s')) : All C B w' (upd sps g (some s')) hm := by
  have hmv := h.toRep.fr_sp hg hw
  have hpg : ∀ p' r, s'.pg p' = some r → s.pg p' = some r := fun p' r hr => by
    rw [h3] at hr
    unfold upd at hr
    split at hr
    · cases hr
    · exact hr
  have key : ∀ k x p1 r, upd sps g (some s') k = some x → x.pg p1 = some r → ∃ y, sps k = some y ∧ y.pg p1 = some r := fun k x p1 r hx hr => by
    rcases upd_some _ _ _ _ _ hx with ⟨rfl, rfl⟩ | ⟨hne, hx⟩
    · exact ⟨s, hg, hpg p1 r hr⟩
    · exact ⟨x, hx, hr⟩
  refine ⟨⟨fun k x hx => ?_, fun k b sh hx => ?_, fun k x hx p q hq => ?_, fun k x k' x' p q r b hx hx' hr hr' hh => ?_⟩, fun x hx => ?_, fun k x hx hne => ?_, fun k x hx => ?_⟩
  · rcases upd_some _ _ _ _ _ hx with ⟨rfl, rfl⟩ | ⟨hne, hx⟩
    · exact ⟨hb, (h.blk k s hg).2⟩
    · exact ⟨(h.blk k x hx).1.fr hw (by simpa using hne), (h.blk k x hx).2⟩
  · obtain ⟨m1, m2, m3⟩ := h.mem k b sh hx
    exact ⟨m1, m2.fr hw (by simpa using h.toRep.page_ne hg hx), m3⟩
  · obtain ⟨y, hy, hr⟩ := key k x p q hx hq
    exact h.ref k y hy p q hr
  · obtain ⟨y, hy, hr1⟩ := key k x p r hx hr
    obtain ⟨y', hy', hr2⟩ := key k' x' q r hx' hr'
    exact h.own k y k' y' p q r b hy hy' hr1 hr2 hh
  · rcases upd_some _ _ _ _ _ hx with ⟨rfl, rfl⟩ | ⟨hne, hx⟩
    · rw [h1]
      exact (h.env s hg).imp id fun e => ⟨e.1, h2 _ (hk _ _ _ e.2 hmv.toE)⟩
    · exact (h.env x hx).imp id fun e => ⟨e.1, hk _ _ _ e.2 hmv.toE⟩
  · rcases upd_some _ _ _ _ _ hx with ⟨rfl, rfl⟩ | ⟨hne', hx⟩
    · rw [h1]; exact h.nosrc k s hg hne
    · exact h.nosrc k x hx hne
  · rcases upd_some _ _ _ _ _ hx with ⟨rfl, rfl⟩ | ⟨hne', hx⟩
    · exact h4
    · exact h.inv k x hx
/-- Nothing but what X names, and new blocks, has moved. -/
structure Only (X : Nat → Prop) (w w' : World) : Prop where
  os : w'.os = w.os
  tape : w'.tape = w.tape
  output : w'.output = w.output
  size : w.heap.size ≤ w'.heap.size
  block : ∀ k, k < w.heap.size → ¬ X k → w'.heap[k]? = w.heap[k]?
theorem Only.mv {X : Nat → Prop} (h : Only X w w') (hX : ∀ k, X k → B ≤ k) : Mv B X w w' :=
  ⟨h.os, h.tape, h.output, h.size, fun k hk hc => h.block k hk (fun hx => by
    rcases hc with hc | hc
    · have := hX k hx; omega
    · exact hc.2 hx)⟩
theorem Only.blk {X : Nat → Prop} (h : Only X w w') {k : Nat} {t : TypeId} {cs : Array Value} (hb : Blk w k t cs) (hX : ¬ X k) : Blk w' k t cs := (h.block k hb.lt hX).trans hb

/-- The same source, nothing asked of what stands for it. -/
def bare (C : Source) : Source := { C with E := fun _ _ => True }
theorem All.bare_ (h : All C B w sps hm) : All (bare C) B w sps hm := ⟨h.toRep, fun s hs => (h.env s hs).imp id fun e => ⟨e.1, trivial⟩, h.nosrc, h.inv⟩
theorem bare_keeps (C : Source) (B : Nat) : Keeps (bare C) B := fun _ _ _ _ _ => trivial
theorem All.of_bare (h : All (bare C) B w sps hm) (he : ∀ s, sps C.root = some s → s.fetch = .nilFunc ∨ C.E s.asked w) : All C B w sps hm :=
  ⟨h.toRep, fun s hs => by
    rcases h.env s hs with e | e
    · exact .inl e
    · rcases he s hs with e2 | e2
      · exact .inl e2
      · exact .inr ⟨e.1, e2⟩, h.nosrc, h.inv⟩
/-- What only the source has moved. -/
theorem All.only (h : All (bare C) B w sps hm) {X : Nat → Prop} (hw : Only X w w') (hX : ∀ k, X k → ¬ SpT w k) : All (bare C) B w' sps hm :=
  ⟨⟨fun g s hs => ⟨hw.blk (h.blk g s hs).1 (fun hx => hX g hx (spT_86 (h.blk g s hs).1)), (h.blk g s hs).2⟩,
    fun q b sh hq => ⟨(h.mem q b sh hq).1, hw.blk (h.mem q b sh hq).2.1 (fun hx => hX q hx (spT_91 (h.mem q b sh hq).2.1)), (h.mem q b sh hq).2.2⟩, h.ref, h.own⟩, h.env, h.nosrc, h.inv⟩
end
end Go.Proofs.Ytbppafbdmdbdiaa
