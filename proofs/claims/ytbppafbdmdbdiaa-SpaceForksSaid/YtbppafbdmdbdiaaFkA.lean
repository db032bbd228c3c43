/-
  Words for the walk of SpaceForks: two pairs, what stays where nothing is changed.
-/
import Derived.Test.YtbppafbdmdbdiaaLawOps
namespace Go.Proofs.Ytbppafbdmdbdiaa
open Go.RowKit
set_option linter.unusedVariables false

section
variable {C : Source} {B : Nat} {W W' : World} {sps sps' : Nat → Option Sp} {hm hm' : Pages} {L M : List Pr}
theorem PlayI.sub (h : PlayI C B sps hm W L) (hs : ∀ q ∈ M, q ∈ L) : PlayI C B sps hm W M :=
  ⟨h.all, fun q hq => h.prs q (hs q hq), fun q h1 q' h2 => h.nb q (hs q h1) q' (hs q' h2), fun q h1 q' h2 => h.ng q (hs q h1) q' (hs q' h2), h.xw, h.leW⟩
/-- All spaces look as they did. -/
def SameV (C : Source) (sps : Nat → Option Sp) (hm : Pages) (sps' : Nat → Option Sp) (hm' : Pages) : Prop := ∀ k x, sps k = some x → ∃ x', sps' k = some x' ∧ view C hm' x' = view C hm x
theorem PlayI.same (h : PlayI C B sps hm W L) (hA : All C B W' sps' hm') (hv : SameV C sps hm sps' hm') (hmv : Mv B C.X W W') : PlayI C B sps' hm' W' L := by
  refine ⟨hA, fun q hq => ?_, h.nb, h.ng, fun k hk => Nat.lt_of_lt_of_le (h.xw k hk) hmv.size, Nat.le_trans h.leW hmv.size⟩
  have hp := h.prs q hq
  obtain ⟨s0, h1, h2, h3, h4⟩ := hp.ex
  obtain ⟨x', e1, e2⟩ := hv _ _ h1
  refine ⟨⟨x', e1, ?_, ?_, ?_⟩, hp.leB, hp.xb, hp.xm⟩
  · rw [e2]
    exact hmv.blk h2 (by decide) (by decide) hp.xb
  · rw [e2]
    exact h3.mv hmv hp.xm
  · intro hr p
    rw [e2]
    exact h4 hr p
theorem Stp.same {g : Nat} {s : Sp} {K : Sp → Pages → Prop} (hs : sps g = some s) (h : Stp C B sps hm g (view C hm s) W W' K) : ∃ sps' hm', All C B W' sps' hm' ∧ SameV C sps hm sps' hm' ∧ Mv B C.X W W' ∧ ∃ s', K s' hm' := by
  obtain ⟨s', hm', h1, h2, h3, h4, h5⟩ := h
  refine ⟨_, hm', h1, fun k x hk => ?_, h4, s', h5⟩
  by_cases e : k = g
  · subst e
    rw [hs] at hk
    injection hk with hk
    subst hk
    exact ⟨s', upd_at _ _ _, h2⟩
  · exact ⟨x, by rw [upd_ne _ _ _ _ e]; exact hk, h3 k x e hk⟩
theorem Stp2.same {g f : Nat} {s o : Sp} (hgf : g ≠ f) (hs : sps g = some s) (ho : sps f = some o) (h : Stp2 C B sps hm g f (view C hm s) (view C hm o) W W') : ∃ sps' hm', All C B W' sps' hm' ∧ SameV C sps hm sps' hm' ∧ Mv B C.X W W' := by
  obtain ⟨s', c', hm', h1, h2, h3, h4, h5⟩ := h
  refine ⟨_, hm', h1, fun k x hk => ?_, h5⟩
  by_cases e : k = f
  · subst e
    rw [ho] at hk
    injection hk with hk
    subst hk
    exact ⟨c', upd_at _ _ _, h3⟩
  · by_cases e2 : k = g
    · subst e2
      rw [hs] at hk
      injection hk with hk
      subst hk
      exact ⟨s', by rw [upd_ne _ _ _ _ e, upd_at], h2⟩
    · exact ⟨x, by rw [upd_ne _ _ _ _ e, upd_ne _ _ _ _ e2]; exact hk, h4 k x e2 e hk⟩
end
theorem Knows.doA (k : Nat) (x n : Int) (t : ByteArray) (a : AS) (h : Knows a) : Knows (doA k x n t a).1 :=
  doA_clo Knows (fun a p ha q hq => needA_known_mono a p q (ha q hq)) (fun a pg ch ha => ha) k x n t a h
theorem pageA_known (a : AS) (h : Knows a) (p : Nat) (hp : p < 64) : (pageA a p).1 = a ∧ ((pageA a p).2 = ((a.page p).getD [], if (a.page p).isSome then 0 else 8)) := by
  unfold pageA
  rw [if_neg (by omega)]
  have hk := needA_id a p (h p hp)
  simp only [Int.toNat_natCast]
  rw [hk]
  cases a.page p <;> exact ⟨rfl, rfl⟩

theorem PlayI.step_at {C : Source} {B : Nat} {W W' : World} {sps : Nat → Option Sp} {hm hm' : Pages} {s s' : Sp} {L : List Pr} (h : PlayI C B sps hm W L) {q : Pr} (hq : q ∈ L) (hs : sps q.g = some s) {k : Nat} {x n : Int} {t : ByteArray}
    (hA : All C B W' (upd sps q.g (some s')) hm') (hv : view C hm' s' = (doA k x n t (view C hm s)).1) (ho : ∀ k x, k ≠ q.g → sps k = some x → view C hm' x = view C hm x)
    (hpb : PB W' q.b q.g (rsOf q.m (doA k x n t (view C hm s)).1)) (hsrc : SrcIs W' q.m (view C hm s).src) (hmv : Mv B (fun k => C.X k ∨ k = q.b) W W') : PlayI C B (upd sps q.g (some s')) hm' W' L := by
  refine ⟨hA, fun q' hq' => ?_, h.nb, h.ng, fun k hk => Nat.lt_of_lt_of_le (h.xw k hk) hmv.size, Nat.le_trans h.leW hmv.size⟩
  obtain ⟨s0, h1, h2, h3, h4⟩ := (h.prs q hq).ex
  rw [hs] at h1
  injection h1 with h1
  subst h1
  by_cases e : q'.g = q.g
  · obtain rfl := h.ng q' hq' q hq e
    refine ⟨⟨s', upd_at _ _ _, by rw [hv]; exact hpb, ?_, fun hr p => ?_⟩, (h.prs q' hq).leB, (h.prs q' hq).xb, (h.prs q' hq).xm⟩
    · rw [hv, doA_src]
      exact hsrc
    · rw [hv]
      exact (doA_noask k x n t _ ⟨src_none h.all hs hr, h4 hr⟩).2 p
  · exact (h.prs q' hq').other h2 (fun eb => e (by rw [h.nb q' hq' q hq eb])) hmv (upd_ne _ _ _ _ e) (fun x hx => ho _ x e hx)
/-- Two pairs, their row; all pages known. -/
structure TwS (C : Source) (B gt : Nat) (w wr : World) (q0 q1 : Pr) (sps : Nat → Option Sp) (hm : Pages) : Prop where
  play : PlayI C B sps hm wr [q0, q1]
  row : Blk wr gt 64 #[.pointer (some ⟨q0.b, 0, none⟩), .pointer (some ⟨q1.b, 0, none⟩)]
  bel : Below w.heap.size w wr
  kn : ∀ q ∈ [q0, q1], ∀ s, sps q.g = some s → Knows (view C hm s)
  xt : ¬ C.X gt
  ne : q0.g ≠ q1.g
section
variable {C : Source} {gt : Nat} {w wr w9 : World} {q0 q1 : Pr} {sps sps' : Nat → Option Sp} {hm hm' : Pages}
theorem TwS.kept (h : TwS C w.heap.size gt w wr q0 q1 sps hm) (hA : All C w.heap.size w9 sps' hm') (hv : SameV C sps hm sps' hm') (hmv : Mv w.heap.size C.X wr w9) : TwS C w.heap.size gt w w9 q0 q1 sps' hm' := by
  refine ⟨h.play.same hA hv hmv, hmv.blk h.row (by decide) (by decide) h.xt, h.bel.trans (hmv.below h.bel.size), fun q hq s hs => ?_, h.xt, h.ne⟩
  obtain ⟨s0, h1, _⟩ := (h.play.prs q hq).ex
  obtain ⟨x', e1, e2⟩ := hv _ _ h1
  rw [e1] at hs
  injection hs with hs
  subst hs
  rw [e2]
  exact h.kn q hq _ h1
theorem TwS.below (h : TwS C w.heap.size gt w wr q0 q1 sps hm) (ok : SourceOk C w.heap.size) (hb : Below wr.heap.size wr w9) : TwS C w.heap.size gt w w9 q0 q1 sps hm :=
  ⟨h.play.below ok hb, h.row.below hb h.row.lt, h.bel.trans (hb.mono h.bel.size), h.kn, h.xt, h.ne⟩
theorem TwS.step (h : TwS C w.heap.size gt w wr q0 q1 sps hm) {q : Pr} (hq : q ∈ [q0, q1]) {s : Sp} (hs : sps q.g = some s) {k : Nat} {x n : Int} {t : ByteArray}
    (hd : DoR C w.heap.size sps hm q.g q.b q.m (view C hm s).src (doA k x n t (view C hm s)).1 (rsOf q.m (doA k x n t (view C hm s)).1) wr w9) : ∃ sps' hm', TwS C w.heap.size gt w w9 q0 q1 sps' hm' := by
  have hother : ∀ hm' s', (∀ k' x', k' ≠ q.g → sps k' = some x' → view C hm' x' = view C hm x') → view C hm' s' = (doA k x n t (view C hm s)).1 → ∀ q' ∈ [q0, q1], ∀ s'', upd sps q.g (some s') q'.g = some s'' → Knows (view C hm' s'') := by
    intro hm' s' hv hvs q' hq' s'' hs''
    rcases upd_some _ _ _ _ _ hs'' with ⟨_, rfl⟩ | ⟨e, h9⟩
    · rw [hvs]
      exact Knows.doA k x n t _ (h.kn q hq s hs)
    · rw [hv _ _ e h9]
      exact h.kn q' hq' _ h9
  have hpb : ∃ r, PB wr q.b q.g r := by
    obtain ⟨s0, h1, h2, _⟩ := (h.play.prs q hq).ex
    exact ⟨_, h2⟩
  obtain ⟨r, hpb⟩ := hpb
  obtain ⟨⟨s', hm', hA, hv, ho⟩, hrest⟩ := id hd
  refine ⟨upd sps q.g (some s'), hm', ?_, ?_, ?_, hother hm' s' ho hv, h.xt, h.ne⟩
  · obtain ⟨hpb2, hsrc, hmv⟩ := hrest
    exact h.play.step_at hq hs hA hv ho hpb2 hsrc hmv
  · exact hrest.2.2.blk h.row (by decide) (by decide) (fun hx => hx.elim h.xt (h.row.ne_ hpb (by decide)))
  · exact h.bel.trans (hrest.2.2.below h.bel.size)
theorem TwS.mem0 (h : TwS C w.heap.size gt w wr q0 q1 sps hm) : q0 ∈ [q0, q1] := by simp
theorem TwS.equal (h : TwS C w.heap.size gt w wr q0 q1 sps hm) (ok : SourceOk C w.heap.size) : ∃ s0 s1, sps q0.g = some s0 ∧ sps q1.g = some s1 ∧ PB wr q0.b q0.g (rsOf q0.m (view C hm s0)) ∧ PB wr q1.b q1.g (rsOf q1.m (view C hm s1)) ∧
    Calls Try.prog 21 #[.pointer (some ⟨q0.g, 0, none⟩), .pointer (some ⟨q1.g, 0, none⟩)] wr fun e w' => e = .returned (.bool (eqA (view C hm s0) (view C hm s1))) ∧ (∃ sps' hm', TwS C w.heap.size gt w w' q0 q1 sps' hm') ∧ Mv w.heap.size C.X wr w' := by
  obtain ⟨s0, h1, h2, _⟩ := (h.play.prs q0 (by simp)).ex
  obtain ⟨s1, k1, k2, _⟩ := (h.play.prs q1 (by simp)).ex
  have n0 := h.kn q0 (by simp) _ h1
  have n1 := h.kn q1 (by simp) _ k1
  refine ⟨s0, s1, h1, k1, h2, k2, (equal_all ok h.play.all h1 k1 h.ne h.play.leW h.play.xw).mono ?_⟩
  rw [needUp_id _ n0 64 (Nat.le_refl _), needUp_id _ n1 64 (Nat.le_refl _)]
  rintro e w' ⟨he, hst⟩
  obtain ⟨sps', hm', g1, g2, g3⟩ := Stp2.same h.ne h1 k1 hst
  exact ⟨he, ⟨sps', hm', h.kept g1 g2 g3⟩, g3⟩
theorem TwS.page (h : TwS C w.heap.size gt w wr q0 q1 sps hm) (ok : SourceOk C w.heap.size) {q : Pr} (hq : q ∈ [q0, q1]) (p : Nat) (hp : p < 64) : ∃ s, sps q.g = some s ∧ PB wr q.b q.g (rsOf q.m (view C hm s)) ∧
    Calls Try.prog 28 #[.pointer (some ⟨q.g, 0, none⟩), .int .i64 p] wr fun e w' => e = .returned (.tuple #[.string ⟨(((view C hm s).page p).getD []).toArray⟩, .int .i64 ((if ((view C hm s).page p).isSome then 0 else 8 : Nat) : Int)]) ∧ (∃ sps' hm', TwS C w.heap.size gt w w' q0 q1 sps' hm') ∧ Mv w.heap.size C.X wr w' := by
  obtain ⟨s, h1, h2, _⟩ := (h.play.prs q hq).ex
  have hk := pageA_known _ (h.kn q hq _ h1) p hp
  refine ⟨s, h1, h2, (page_all ok h.play.all h1 p h.play.leW).mono ?_⟩
  rw [hk.1, hk.2]
  rintro e w' hst
  obtain ⟨sps', hm', g1, g2, g3, s', he⟩ := Stp.same h1 hst
  exact ⟨he, ⟨sps', hm', h.kept g1 g2 g3⟩, g3⟩
end
end Go.Proofs.Ytbppafbdmdbdiaa
