/-
  Walks: Fork.
-/
import Derived.Test.YtbppafbdmdbdiaaSpS
namespace Go.Proofs.Ytbppafbdmdbdiaa
open Go.RowKit
set_option linter.unusedVariables false

def emptySp : Sp := ⟨.nilFunc, fun _ => false, fun _ => false, fun _ => false, fun _ => none⟩
theorem upd_comm {α : Type} (F : Nat → α) (f g : Nat) (x y : α) (h : g ≠ f) : upd (upd F f x) g y = upd (upd F g y) f x := by
  funext q
  unfold upd
  by_cases h1 : q = g
  · subst h1
    rw [if_pos rfl, if_neg h, if_pos rfl]
  · rw [if_neg h1]
    by_cases h2 : q = f
    · rw [if_pos h2, if_pos h2]
    · rw [if_neg h2, if_neg h2, if_neg h1]

/-- All pages below k are needed. -/
def needUp : Nat → AS → AS
  | 0, a => a
  | k + 1, a => needA (needUp k a) k
/-- The child of a fork, its pages below k done. -/
def childA (a : AS) (k : Nat) : AS := ⟨none, fun p => decide (p < k), fun _ => false, fun p => decide (p < k) && (a.page p).isSome, fun p => if p < k then a.page p else none⟩

section
variable {C : Source} {B : Nat} {w w' : World} {sps : Nat → Option Sp} {hm : Pages} {g : Nat} {s : Sp}
theorem All.fresh (h : All C B w sps hm) : sps w.heap.size = none := by
  cases hs : sps w.heap.size with
  | none => rfl
  | some s => have := (h.blk _ s hs).1.lt; omega
theorem All.newsp (h : All C B w sps hm) (hk : Keeps C B) (hB : B ≤ w.heap.size) : All C B (w.alloc (.cells (spCells emptySp) 86)) (upd sps w.heap.size (some emptySp)) hm := by
  have hb : Below w.heap.size w (w.alloc (.cells (spCells emptySp) 86)) := (Below.refl _ _).alloc (Nat.le_refl _) _
  have h1 := h.below hk hb
  refine ⟨⟨fun k x hx => ?_, h1.mem, fun k x hx p q hq => ?_, fun k x k' x' p q r b hx hx' hr hr' hh => ?_⟩, fun x hx => ?_, fun k x hx hne => ?_, fun k x hx p hp => ?_⟩
  · rcases upd_some _ _ _ _ _ hx with ⟨rfl, rfl⟩ | ⟨hne, hx⟩
    · exact ⟨Blk.new _ _ _, hB⟩
    · exact h1.blk k x hx
  · rcases upd_some _ _ _ _ _ hx with ⟨rfl, rfl⟩ | ⟨hne, hx⟩
    · cases hq
    · exact h1.ref k x hx p q hq
  · rcases upd_some _ _ _ _ _ hx with ⟨rfl, rfl⟩ | ⟨hne, hx⟩
    · cases hr
    · rcases upd_some _ _ _ _ _ hx' with ⟨rfl, rfl⟩ | ⟨hne', hx'⟩
      · cases hr'
      · exact h1.own k x k' x' p q r b hx hx' hr hr' hh
  · rcases upd_some _ _ _ _ _ hx with ⟨_, rfl⟩ | ⟨hne, hx⟩
    · exact .inl rfl
    · exact h1.env x hx
  · rcases upd_some _ _ _ _ _ hx with ⟨_, rfl⟩ | ⟨hne', hx⟩
    · rfl
    · exact h1.nosrc k x hx hne
  · rcases upd_some _ _ _ _ _ hx with ⟨_, rfl⟩ | ⟨hne', hx⟩
    · exact ⟨rfl, rfl⟩
    · exact h1.inv k x hx p hp

/-- A shared page is put into a space. -/
theorem All.share (h : All C B w sps hm) (ok : SourceOk C B) {f : Nat} {c : Sp} (hf : sps f = some c) (p : Nat) (hp : p < 64) (hk : c.known p = true) {q : Nat} {b : List UInt8} {sh : Bool} (hq : hm q = some (b, sh))
    (hw : w' = ((w.setCell ⟨q, 64, none⟩ (.bool true)).setCell ⟨f, 193 + p, none⟩ (ptrV (some q))).setCell ⟨f, 129 + p, none⟩ (.bool true)) :
    ∃ c' hm', All C B w' (upd sps f (some c')) hm' ∧ view C hm' c' = { view C hm c with page := upd (view C hm c).page p (some b), changed := upd (view C hm c).changed p true } ∧
      (∀ k y, k ≠ f → sps k = some y → view C hm' y = view C hm y) ∧ Mv B C.X w w' ∧ c'.pg = upd c.pg p (some q) ∧ hm' = upd hm q (some (b, true)) := by
  obtain ⟨hl, hbq, hBq⟩ := h.mem q b sh hq
  have hset := hbq.set_ 64 (.bool true)
  rw [held_share b sh true hl] at hset
  have hf1 : Fr [q] w (w.setCell ⟨q, 64, none⟩ (.bool true)) := (Fr.refl _ _).setCell (.inl (by simp)) _
  obtain ⟨hA1, hm1⟩ := h.write ok.keeps hq b true hl (fun h => by cases h) hf1 hset
  have hvw : ∀ o, pageOf (upd hm q (some (b, true))) o = pageOf hm o := fun o => by
    cases o with
    | none => rfl
    | some t =>
      show (upd hm q _ t).map _ = (hm t).map _
      by_cases e : t = q
      · rw [e, upd_at, hq]; rfl
      · rw [upd_ne _ _ _ _ e]
  generalize hWd : w.setCell ⟨q, 64, none⟩ (.bool true) = W1 at *
  have hbf := (hA1.blk f c hf).1
  have hs2 := hbf.set_ (193 + p) (ptrV (some q))
  rw [sp_set_pg c p _ hp] at hs2
  have hf2 : Fr [f] W1 (W1.setCell ⟨f, 193 + p, none⟩ (ptrV (some q))) := (Fr.refl _ _).setCell (.inl (by simp)) _
  have hs3 := hs2.set_ (129 + p) (.bool true)
  rw [sp_set_changed _ p true hp] at hs3
  have hf3 : Fr [f] W1 ((W1.setCell ⟨f, 193 + p, none⟩ (ptrV (some q))).setCell ⟨f, 129 + p, none⟩ (.bool true)) := hf2.setCell (.inl (by simp)) _
  subst hw
  have hmv := hA1.toRep.fr_sp hf hf3
  have hinv : ∀ r, c.known r = false → c.asked r = false ∧ upd c.pg p (some q) r = none := fun r hr => by
    obtain ⟨i1, i2⟩ := h.inv f c hf r hr
    exact ⟨i1, by rw [upd_ne _ _ _ _ (fun e => by rw [e, hk] at hr; cases hr)]; exact i2⟩
  have key : ∀ k x p1 r c', upd sps f (some { c with pg := upd c.pg p (some q), changed := upd c.changed p true }) k = some x → x.pg p1 = some r → upd hm q (some (b, true)) r = some (c', false) → ∃ y, sps k = some y ∧ y.pg p1 = some r := fun k x p1 r c' hx hr hh => by
    rcases upd_some _ _ _ _ _ hx with ⟨rfl, rfl⟩ | ⟨hne, hx⟩
    · rcases upd_some _ _ _ _ _ hr with ⟨_, e⟩ | ⟨_, hr⟩
      · subst e
        rw [upd_at] at hh
        injection hh with hh
        injection hh with _ hh
        cases hh
      · exact ⟨c, hf, hr⟩
    · exact ⟨x, hx, hr⟩
  refine ⟨{ c with pg := upd c.pg p (some q), changed := upd c.changed p true }, upd hm q (some (b, true)), ⟨⟨fun k x hx => ?_, fun k d sd hx => ?_, fun k x hx p1 r hr => ?_, fun k x k' x' p1 p2 r d hx hx' hr hr' hh => ?_⟩, fun x hx => ?_, fun k x hx hne => ?_, fun k x hx => ?_⟩, ?_, fun k y hne hy => ?_, (hm1.trans hmv).more, rfl, rfl⟩
  · rcases upd_some _ _ _ _ _ hx with ⟨rfl, rfl⟩ | ⟨hne, hx⟩
    · exact ⟨hs3, (h.blk k c hf).2⟩
    · exact ⟨(hA1.blk k x hx).1.fr hf3 (by simpa using hne), (h.blk k x hx).2⟩
  · obtain ⟨m1, m2, m3⟩ := hA1.mem k d sd hx
    exact ⟨m1, m2.fr hf3 (by simpa using hA1.toRep.page_ne hf hx), m3⟩
  · rcases upd_some _ _ _ _ _ hx with ⟨rfl, rfl⟩ | ⟨hne, hx⟩
    · rcases upd_some _ _ _ _ _ hr with ⟨_, e⟩ | ⟨_, hr⟩
      · subst e; exact ⟨_, upd_at _ _ _⟩
      · exact hA1.ref k c hf p1 r hr
    · exact hA1.ref k x hx p1 r hr
  · obtain ⟨y, hy, hr1⟩ := key k x p1 r d hx hr hh
    obtain ⟨y', hy', hr2⟩ := key k' x' p2 r d hx' hr' hh
    exact hA1.own k y k' y' p1 p2 r d hy hy' hr1 hr2 hh
  · rcases upd_some _ _ _ _ _ hx with ⟨e, rfl⟩ | ⟨hne, hx⟩
    · rw [← e] at hf
      exact (hA1.env c hf).imp id fun e => ⟨e.1, ok.keeps _ _ _ e.2 hmv.toE⟩
    · exact (hA1.env x hx).imp id fun e => ⟨e.1, ok.keeps _ _ _ e.2 hmv.toE⟩
  · rcases upd_some _ _ _ _ _ hx with ⟨rfl, rfl⟩ | ⟨hne', hx⟩
    · exact h.nosrc k c hf hne
    · exact h.nosrc k x hx hne
  · rcases upd_some _ _ _ _ _ hx with ⟨rfl, rfl⟩ | ⟨hne', hx⟩
    · exact hinv
    · exact h.inv k x hx
  · unfold view
    congr 1
    funext r
    show pageOf (upd hm q (some (b, true))) (upd c.pg p (some q) r) = upd (fun p => pageOf hm (c.pg p)) p (some b) r
    rw [hvw]
    by_cases e : r = p
    · rw [e, upd_at, upd_at]
      show (hm q).map _ = _
      rw [hq]; rfl
    · rw [upd_ne _ _ _ _ e, upd_ne _ _ _ _ e]
  · unfold view
    congr 1
    funext r
    exact hvw _
end
end Go.Proofs.Ytbppafbdmdbdiaa
