/-
  Words for the walk of play: operations read, pairs that a play holds.
-/
import Derived.Test.YtbppafbdmdbdiaaDoL
namespace Go.Proofs.Ytbppafbdmdbdiaa
open Go.RowKit
set_option linter.unusedVariables false

structure OpV where
  kd : Int
  wh : Int
  x : Int
  n : Int
  t : ByteArray
structure OpV.Ok (o : OpV) : Prop where
  k1 : 0 ≤ o.kd
  k2 : o.kd < 256
  w1 : 0 ≤ o.wh
  w2 : o.wh < 256
  x1 : -9223372036854775808 ≤ o.x
  x2 : o.x ≤ 9223372036854775807
  n1 : -9223372036854775808 ≤ o.n
  n2 : o.n ≤ 9223372036854775807
  t : o.t.size ≤ maxLen
def OpV.cells (o : OpV) : List Value := [.int .u8 o.kd, .int .u8 o.wh, .int .i64 o.x, .int .i64 o.n, .string o.t]
def OpV.k (o : OpV) : Nat := (o.kd % 11).toNat
/-- A slice of operations. -/
def RdO (w : World) (B : Nat) (v : Value) (l : List OpV) : Prop := ∃ A cap, v = .slice A l.length cap ∧ l.length ≤ maxLen ∧
  ∀ i (hi : i < l.length), l[i].Ok ∧ ∃ b off, A = some ⟨b, off, none⟩ ∧ b < B ∧ b < w.heap.size ∧ w.rangeAt b (off + i * 5) l[i].cells
theorem RdO.below {w w' : World} {B : Nat} {v : Value} {l : List OpV} (h : RdO w B v l) (hb : Below B w w') : RdO w' B v l := by
  obtain ⟨A, cap, h1, h2, h3⟩ := h
  refine ⟨A, cap, h1, h2, fun i hi => ?_⟩
  obtain ⟨h4, b, off, h5, h6, h8, h7⟩ := h3 i hi
  refine ⟨h4, b, off, h5, h6, Nat.lt_of_lt_of_le h8 hb.size, fun j u hu => ?_⟩
  rw [← h7 j u hu]
  exact hb.cell (by exact h6)

/-- What stands for a source stays where a row of pointers is written. -/
def RowOk (C : Source) : Prop := ∀ a w w' b cs, C.E a w → Blk w b 64 cs → Fr [b] w w' → C.E a w'
theorem row_ok (box a pm cm root : Nat) (M : List (Int × Value)) : RowOk (askedSrc box a pm cm root M) := fun asked w w' b cs ⟨e1, e2, e3, c, e4, e5⟩ hb hf =>
  ⟨e1.fr hf (by have := e1.ne_ hb (by decide); simpa using this), e2.fr hf (by have := e2.ne_ hb (by decide); simpa using this),
    e3.fr hf (by have := e3.ne_blk hb; simpa using this), c, e4.fr hf (by have := e4.ne_blk hb; simpa using this), e5⟩
section
variable {C : Source} {B : Nat} {w w' W W' : World} {sps : Nat → Option Sp} {hm : Pages} {g b q : Nat} {s : Sp} {cs : Array Value}
theorem All.row64 (h : All C B w sps hm) (hp : RowOk C) (hb : Blk w b 64 cs) (hf : Fr [b] w w') : All C B w' sps hm :=
  ⟨⟨fun k x hx => ⟨(h.blk k x hx).1.fr hf (by have := (h.blk k x hx).1.ne_ hb (by decide); simpa using this), (h.blk k x hx).2⟩,
    fun q b sh hq => ⟨(h.mem q b sh hq).1, (h.mem q b sh hq).2.1.fr hf (by have := (h.mem q b sh hq).2.1.ne_ hb (by decide); simpa using this), (h.mem q b sh hq).2.2⟩, h.ref, h.own⟩,
    fun x hx => (h.env x hx).imp id fun e => ⟨e.1, hp _ _ _ _ _ e.2 hb hf⟩, h.nosrc, h.inv⟩

/-- A pair: its block, its space's block, the map that the reference holds. -/
structure Pr where
  b : Nat
  g : Nat
  m : Value
structure PairI (C : Source) (B : Nat) (W : World) (sps : Nat → Option Sp) (hm : Pages) (q : Pr) : Prop where
  ex : ∃ s, sps q.g = some s ∧ PB W q.b q.g (rsOf q.m (view C hm s)) ∧ SrcIs W q.m (view C hm s).src ∧ (q.g ≠ C.root → ∀ p, (view C hm s).asked p = false)
  leB : B ≤ q.b
  xb : ¬ C.X q.b
  xm : ∀ pm, q.m = .map (some pm) → ¬ C.X pm
/-- The pairs of a play. -/
structure PlayI (C : Source) (B : Nat) (sps : Nat → Option Sp) (hm : Pages) (W : World) (L : List Pr) : Prop where
  all : All C B W sps hm
  prs : ∀ q ∈ L, PairI C B W sps hm q
  nb : ∀ q ∈ L, ∀ q' ∈ L, q.b = q'.b → q = q'
  ng : ∀ q ∈ L, ∀ q' ∈ L, q.g = q'.g → q = q'
  xw : ∀ k, C.X k → k < W.heap.size
  leW : B ≤ W.heap.size
theorem src_none (h : All C B w sps hm) (hg : sps g = some s) (hr : g ≠ C.root) : (view C hm s).src = none := by
  show srcOf C s.fetch = none
  rw [h.nosrc g s hg hr]
  rfl
theorem PlayI.dop {L : List Pr} (h : PlayI C B sps hm W L) {q : Pr} (hq : q ∈ L) : ∃ s, DoP C B sps hm q.g q.b q.m (view C hm s) s W := by
  obtain ⟨s, h1, h2, h3, h4⟩ := (h.prs q hq).ex
  exact ⟨s, h.all, h1, h2, (h.prs q hq).leB, h3, view_ok h.all h1, (h.prs q hq).xb, (h.prs q hq).xm, h.leW, h.xw⟩
/-- A pair that an operation does not touch. -/
theorem PairI.other {q q' : Pr} {sps' : Nat → Option Sp} {hm' : Pages} (h : PairI C B W sps hm q') (hb : PB W q.b q.g (rsOf q.m (view C hm s))) (hnb : q'.b ≠ q.b) (hmv : Mv B (fun k => C.X k ∨ k = q.b) W W')
    (hs : sps' q'.g = sps q'.g) (hv : ∀ x, sps q'.g = some x → view C hm' x = view C hm x) : PairI C B W' sps' hm' q' := by
  obtain ⟨s0, h1, h2, h3, h4⟩ := h.ex
  refine ⟨⟨s0, hs.trans h1, ?_, ?_, ?_⟩, h.leB, h.xb, h.xm⟩
  · rw [hv s0 h1]
    exact hmv.blk h2 (by decide) (by decide) (fun hx => hx.elim h.xb hnb)
  · rw [hv s0 h1]
    refine h3.mv hmv fun pm hpm hx => hx.elim (h.xm pm hpm) fun e => ?_
    rcases h3 with ⟨hm0, _⟩ | ⟨pm', M, hm1, hmi, _⟩
    · rw [hm0] at hpm; cases hpm
    · rw [hm1] at hpm
      injection hpm with hpm
      injection hpm with hpm
      subst hpm
      exact hmi.ne_blk hb e
  · intro hr p
    rw [hv s0 h1]
    exact h4 hr p
theorem PlayI.step {L : List Pr} (h : PlayI C B sps hm W L) {q : Pr} (hq : q ∈ L) (hs : sps q.g = some s) {k : Nat} {x n : Int} {t : ByteArray}
    (hd : DoR C B sps hm q.g q.b q.m (view C hm s).src (doA k x n t (view C hm s)).1 (rsOf q.m (doA k x n t (view C hm s)).1) W W') : ∃ s' hm', PlayI C B (upd sps q.g (some s')) hm' W' L ∧ view C hm' s' = (doA k x n t (view C hm s)).1 ∧ Mv B (fun k => C.X k ∨ k = q.b) W W' := by
  obtain ⟨⟨s', hm', hA, hv, ho⟩, hpb, hsrc, hmv⟩ := hd
  refine ⟨s', hm', ⟨hA, fun q' hq' => ?_, h.nb, h.ng, fun k hk => Nat.lt_of_lt_of_le (h.xw k hk) hmv.size, Nat.le_trans h.leW hmv.size⟩, hv, hmv⟩
  obtain ⟨s0, h1, h2, h3, h4⟩ := (h.prs q hq).ex
  rw [hs] at h1
  injection h1 with h1
  subst h1
  by_cases e : q'.g = q.g
  · obtain rfl := h.ng q' hq' q hq e
    refine ⟨⟨s', upd_at _ _ _, by rw [hv]; exact hpb, ?_, fun hr p => ?_⟩, (h.prs q' hq).leB, (h.prs q' hq).xb, (h.prs q' hq).xm⟩
    · rw [hv, doA_src]
      exact hsrc
    · rw [hv]
      exact (doA_noask k x n t _ ⟨src_none h.all hs hr, h4 hr⟩).2 p
  · exact (h.prs q' hq').other h2 (fun eb => e (by rw [h.nb q' hq' q hq eb])) hmv (upd_ne _ _ _ _ e) (fun x hx => ho _ x e hx)
theorem needUp_noask (a : AS) (h : a.src = none ∧ ∀ q, a.asked q = false) : ∀ k, (needUp k a).src = none ∧ ∀ q, (needUp k a).asked q = false
  | 0 => h
  | k + 1 => need_noask _ _ (needUp_noask a h k)
theorem child_ok (a : AS) (h : AOk a) (k : Nat) : AOk (childA a k) where
  unk := fun p hp => by
    have : ¬ p < k := by simpa [childA] using hp
    show (if p < k then a.page p else none) = none
    rw [if_neg this]
  len := fun p b hb => by
    replace hb : (if p < k then a.page p else none) = some b := hb
    split at hb
    · exact h.len p b hb
    · cases hb
theorem PlayI.forked {L : List Pr} (h : PlayI C B sps hm W L) (ok : SourceOk C B) {q : Pr} (hq : q ∈ L) (hs : sps q.g = some s) {f b2 : Nat}
    (hroot : C.root < W.heap.size) (hd : DoF C B sps hm q.g q.b q.m (view C hm s).src (view C hm s) (view C hm s) W f b2 W') :
    ∃ s' c' hm', PlayI C B (upd (upd sps f (some c')) q.g (some s')) hm' W' (L ++ [⟨b2, f, .map none⟩]) ∧ view C hm' s' = needUp 64 (view C hm s) ∧ view C hm' c' = childA (needUp 64 (view C hm s)) 64 ∧ Mv B (fun k => C.X k ∨ k = q.b) W W' ∧ W.heap.size ≤ b2 ∧ W.heap.size ≤ f := by
  obtain ⟨s', c', hm', hA, hv, hc, ho⟩ := hd.all
  have hgW : ∀ k x, sps k = some x → k < W.heap.size := fun k x hx => (h.all.blk k x hx).1.lt
  have hlf := hd.lf
  have hlb := hd.lb
  have hfg : f ≠ q.g := by have := hgW _ _ hs; omega
  have hold : ∀ q' ∈ L, q'.g < W.heap.size ∧ q'.b < W.heap.size := fun q' hq' => by
    obtain ⟨s0, h1, h2, _⟩ := (h.prs q' hq').ex
    exact ⟨hgW _ _ h1, h2.lt⟩
  have hb2 : b2 < W'.heap.size := hd.new.lt
  refine ⟨s', c', hm', ⟨hA, fun q' hq' => ?_, fun q1 h1 q2 h2 e => ?_, fun q1 h1 q2 h2 e => ?_, fun k hk => Nat.lt_of_lt_of_le (h.xw k hk) hd.mv.size, Nat.le_trans h.leW hd.mv.size⟩, hv, hc, hd.mv, hlb, hlf⟩
  · obtain ⟨s0, h1, h2, h3, h4⟩ := (h.prs q hq).ex
    rw [hs] at h1
    injection h1 with h1
    subst h1
    rcases List.mem_append.1 hq' with hq' | hq'
    · have hne : q'.g ≠ f := by have := (hold q' hq').1; omega
      by_cases e : q'.g = q.g
      · obtain rfl := h.ng q' hq' q hq e
        refine ⟨⟨s', upd_at _ _ _, by rw [hv]; exact hd.pair, ?_, fun hr p => ?_⟩, (h.prs q' hq).leB, (h.prs q' hq).xb, (h.prs q' hq).xm⟩
        · rw [hv, needUp_src]
          exact hd.src
        · rw [hv]
          exact (needUp_noask _ ⟨src_none h.all hs hr, h4 hr⟩ 64).2 p
      · exact (h.prs q' hq').other h2 (fun eb => e (by rw [h.nb q' hq' q hq eb])) hd.mv (by rw [upd_ne _ _ _ _ e, upd_ne _ _ _ _ hne]) (fun x hx => ho _ x e hx)
    · rw [List.mem_singleton.1 hq']
      have hsrc0 : (childA (needUp 64 (view C hm s)) 64).src = none := rfl
      refine ⟨⟨c', by show upd (upd sps f (some c')) q.g (some s') f = _; rw [upd_ne _ _ _ _ hfg, upd_at], by rw [hc]; exact hd.new, by rw [hc]; exact .inl ⟨rfl, rfl⟩, fun _ p => by rw [hc]; rfl⟩, by show B ≤ b2; have := h.leW; omega, fun hx => by have := h.xw _ hx; show False; have h9 : b2 < W.heap.size := this; omega, fun pm hpm => by cases hpm⟩
  · rcases List.mem_append.1 h1 with h1 | h1 <;> rcases List.mem_append.1 h2 with h2 | h2
    · exact h.nb q1 h1 q2 h2 e
    · rw [List.mem_singleton.1 h2] at e
      have := (hold q1 h1).2
      have e : q1.b = b2 := e
      omega
    · rw [List.mem_singleton.1 h1] at e
      have := (hold q2 h2).2
      have e : b2 = q2.b := e
      omega
    · rw [List.mem_singleton.1 h1, List.mem_singleton.1 h2]
  · rcases List.mem_append.1 h1 with h1 | h1 <;> rcases List.mem_append.1 h2 with h2 | h2
    · exact h.ng q1 h1 q2 h2 e
    · rw [List.mem_singleton.1 h2] at e
      have := (hold q1 h1).1
      have e : q1.g = f := e
      omega
    · rw [List.mem_singleton.1 h1] at e
      have := (hold q2 h2).1
      have e : f = q2.g := e
      omega
    · rw [List.mem_singleton.1 h1, List.mem_singleton.1 h2]
theorem PlayI.below {L : List Pr} (h : PlayI C B sps hm W L) (ok : SourceOk C B) (hb : Below W.heap.size W W') : PlayI C B sps hm W' L :=
  ⟨h.all.below ok.keeps hb, fun q hq => let ⟨s, h1, h2, h3, h4⟩ := (h.prs q hq).ex; ⟨⟨s, h1, h2.below hb h2.lt, h3.below hb, h4⟩, (h.prs q hq).leB, (h.prs q hq).xb, (h.prs q hq).xm⟩, h.nb, h.ng, fun k hk => Nat.lt_of_lt_of_le (h.xw k hk) hb.size, Nat.le_trans h.leW hb.size⟩
theorem SrcIs.row {m : Value} {o : Option (Nat → Option (List UInt8))} {t : TypeId} (h : SrcIs w m o) (hb : Blk w b t cs) (hf : Fr [b] w w') : SrcIs w' m o :=
  h.imp id fun ⟨pm, M, h1, h2, h3, h4⟩ => ⟨pm, M, h1, h2.fr hf (by have := h2.ne_blk hb; simpa using this), h3, h4⟩
theorem PlayI.row64 {L : List Pr} (h : PlayI C B sps hm W L) (hp : RowOk C) (hb : Blk W b 64 cs) (hf : Fr [b] W W') : PlayI C B sps hm W' L :=
  ⟨h.all.row64 hp hb hf, fun q hq => let ⟨s, h1, h2, h3, h4⟩ := (h.prs q hq).ex; ⟨⟨s, h1, h2.fr hf (by have := h2.ne_ hb (by decide); simpa using this), h3.row hb hf, h4⟩, (h.prs q hq).leB, (h.prs q hq).xb, (h.prs q hq).xm⟩, h.nb, h.ng, fun k hk => Nat.lt_of_lt_of_le (h.xw k hk) hf.size, Nat.le_trans h.leW hf.size⟩
end
/-- The pointers of pairs. -/
def prPs (L : List Pr) : List Value := L.map fun q => .pointer (some ⟨q.b, 0, none⟩)
theorem own_mvD {w1 w2 : World} {B base n : Nat} {X : Nat → Prop} {v : Value} {xs : List Value} {b : Nat} {cs : Array Value} (h : w1.ownsRow base 64 1 v n xs) (hm : Mv B (fun k => X k ∨ k = b) w1 w2) (hX : ∀ k, X k → k < base) (hb : Blk w1 b 63 cs) : w2.ownsRow base 64 1 v n xs := by
  refine ⟨h.1, ?_⟩
  rcases h.2 with h2 | ⟨g, cap, cur, hv, hg, hh, r⟩
  · exact .inl h2
  · exact .inr ⟨g, cap, cur, hv, hg, hm.blk hh (by decide) (by decide) (fun hx => hx.elim (fun hx => by have := hX _ hx; omega) fun e => (show Blk w1 g 64 cur from hh).ne_ hb (by decide) e), r⟩
end Go.Proofs.Ytbppafbdmdbdiaa
