/-
  Words for SpaceLocal: a source that is set up anywhere; a pair of a space and of the reference's.
-/
import Derived.Test.YtbppafbdmdbdiaaLcA
import Derived.Test.YtbppafbdmdbdiaaLawAsks
import Derived.Test.YtbppafbdmdbdiaaMapsR
namespace Go.Proofs.Ytbppafbdmdbdiaa
open Go.RowKit
set_option linter.unusedVariables false

theorem setup2 {w : World} {box a pm cm root B : Nat} {M : List (Int × Value)} (hB : B ≤ cm) (hBr : B ≤ root) (hne : pm ≠ cm) (hS : Strs M) (h1 : Blk w box 80 #[getV a]) (h2 : Blk w a 37 #[.map (some pm), .map (some cm)])
    (h3 : MI w pm M) (h4 : MI w cm []) (h5 : Blk w root 86 (spCells ⟨fetchV box, fun _ => false, fun _ => false, fun _ => false, fun _ => none⟩)) :
    SourceOk (askedSrc box a pm cm root M) B ∧ All (askedSrc box a pm cm root M) B w (one root ⟨fetchV box, fun _ => false, fun _ => false, fun _ => false, fun _ => none⟩) none_ := by
  refine ⟨asked_ok _ _ _ _ _ M B hB hne hS, ⟨⟨fun k x hx => ?_, fun k b sh hx => (by cases hx), fun k x hx p q hq => ?_, fun k x k' x' p q r b _ _ _ _ hh => (by cases hh)⟩, fun x hx => ?_, fun k x hx hne => ?_, fun k x hx p hp => ?_⟩⟩
  · rcases upd_some _ _ _ _ _ hx with ⟨rfl, rfl⟩ | ⟨_, hx⟩
    · exact ⟨h5, hBr⟩
    · cases hx
  · rcases upd_some _ _ _ _ _ hx with ⟨rfl, rfl⟩ | ⟨_, hx⟩
    · cases hq
    · cases hx
  · rcases upd_some _ _ _ _ _ hx with ⟨_, rfl⟩ | ⟨_, hx⟩
    · exact .inr ⟨rfl, h1, h2, h3, [], h4, fun p _ => by rw [mget_nil]; rfl⟩
    · cases hx
  · rcases upd_some _ _ _ _ _ hx with ⟨rfl, rfl⟩ | ⟨_, hx⟩
    · exact absurd rfl hne
    · cases hx
  · rcases upd_some _ _ _ _ _ hx with ⟨_, rfl⟩ | ⟨_, hx⟩
    · exact ⟨rfl, rfl⟩
    · cases hx

/-- A pair on its way: how the space looks (v), what the reference holds (r). -/
structure LcS (C : Source) (B g b pm cm : Nat) (v r : AS) (w W : World) (s : Sp) (sps : Nat → Option Sp) (hm : Pages) : Prop where
  dop : DoP C B sps hm g b (.map (some pm)) r s W
  vw : view C hm s = v
  bel : Below w.heap.size w W
  leB : w.heap.size ≤ B
  xc : ∀ k, C.X k ↔ k = cm
section
variable {C : Source} {B g b pm cm : Nat} {v r : AS} {w W W' : World} {s : Sp} {sps : Nat → Option Sp} {hm : Pages}
theorem LcS.below (h : LcS C B g b pm cm v r w W s sps hm) (ok : SourceOk C B) (hb : Below W.heap.size W W') : LcS C B g b pm cm v r w W' s sps hm := by
  obtain ⟨P, h2, h3, h4, h5⟩ := h
  have hle := hb.size
  exact ⟨⟨P.all.below ok.keeps hb, P.sp, P.pair.below hb P.pair.lt, P.leB, P.src.below hb, P.rok, P.xb, P.xm, Nat.le_trans P.leW hle, fun k hk => Nat.lt_of_lt_of_le (P.xw k hk) hle⟩, h2, h3.trans (hb.mono h3.size), h4, h5⟩
theorem LcS.step (h : LcS C B g b pm cm v r w W s sps hm) {v' r' : AS} (hr : AOk v' → AOk r') (hrs : r'.src = r.src) (hd : DoR C B sps hm g b (.map (some pm)) r.src v' (rsOf (.map (some pm)) r') W W') :
    ∃ s' sps' hm', LcS C B g b pm cm v' r' w W' s' sps' hm' := by
  obtain ⟨P, h2, h3, h4, h5⟩ := h
  obtain ⟨⟨s', hm', hA, hv, _⟩, hpb, hsrc, hmv⟩ := hd
  exact ⟨s', _, hm', ⟨hA, upd_at _ _ _, hpb, P.leB, by rw [hrs]; exact hsrc, hr (by rw [← hv]; exact view_ok hA (upd_at _ _ _)), P.xb, P.xm, Nat.le_trans P.leW hmv.size, fun k hk => Nat.lt_of_lt_of_le (P.xw k hk) hmv.size⟩, hv, h3.trans ((hmv.below P.leW).mono h4), h4, h5⟩
end
theorem reSrc_ok {g : Nat → Option (List UInt8)} {a : AS} (h : AOk (reSrc g a)) : AOk a := ⟨h.unk, h.len⟩
theorem reSrc_new (f g : Nat → Option (List UInt8)) : reSrc g (newS f) = newS g := rfl
theorem rsOf_re (m : Value) (g : Nat → Option (List UInt8)) (a : AS) : rsOf m (reSrc g a) = rsOf m a := rfl
theorem newS_ok (f : Nat → Option (List UInt8)) : AOk (newS f) := ⟨fun _ _ => rfl, fun p b h => by cases h⟩

theorem LcS.init {w W : World} {box a pm pm0 cm root b B : Nat} {M M0 : List (Int × Value)} (hB : B ≤ cm) (hBr : B ≤ root) (hBb : B ≤ b) (hw : w.heap.size ≤ B) (hne : pm ≠ cm) (hn0 : pm0 ≠ cm) (hS : Strs M) (hS0 : Strs M0)
    (h1 : Blk W box 80 #[getV a]) (h2 : Blk W a 37 #[.map (some pm), .map (some cm)]) (h3 : MI W pm M) (h4 : MI W cm []) (h5 : Blk W root 86 (spCells ⟨fetchV box, fun _ => false, fun _ => false, fun _ => false, fun _ => none⟩))
    (h6 : PB W b root { rs0 with src := .map (some pm0) }) (h7 : MI W pm0 M0) (hb : Below w.heap.size w W) :
    SourceOk (askedSrc box a pm cm root M) B ∧ ∃ s sps hm, LcS (askedSrc box a pm cm root M) B root b pm0 cm (newS (srcM M)) (newS (srcM M0)) w W s sps hm := by
  obtain ⟨ok, hA⟩ := setup2 hB hBr hne hS h1 h2 h3 h4 h5
  refine ⟨ok, _, _, _, ⟨hA, upd_at _ _ _, by rw [rs_new]; exact h6, hBb, .inr ⟨pm0, M0, rfl, h7, hS0, rfl⟩, newS_ok _, fun hx => ?_, fun q hq hx => ?_, ?_, fun k hk => ?_⟩, view_new_src _ _ _ _ _ _, hb, hw, fun k => Iff.rfl⟩
  · have hx : b = cm := hx
    exact h4.ne_blk h6 hx.symm
  · injection hq with hq
    injection hq with hq
    exact hn0 (by rw [hq]; exact hx)
  · have := h4.lt
    omega
  · rw [show k = cm from hk]
    exact h4.lt
theorem LcS.counts {w W : World} {box a pm pm0 cm root b B : Nat} {M : List (Int × Value)} {v r : AS} {s : Sp} {sps : Nat → Option Sp} {hm : Pages} (h : LcS (askedSrc box a pm cm root M) B root b pm0 cm v r w W s sps hm) (hv : v.src ≠ none) :
    Blk W a 37 #[.map (some pm), .map (some cm)] ∧ MI W pm M ∧ ∃ c, MI W cm c ∧ Counts c v.asked := by
  obtain ⟨P, h2, _⟩ := h
  rcases P.all.env s P.sp with e | ⟨_, _, q2, q3, c, hc, hcnt⟩
  · refine absurd ?_ hv
    rw [← h2]
    show srcOf _ s.fetch = none
    rw [e]
    rfl
  · exact ⟨q2, q3, c, hc, by rw [← h2]; exact hcnt⟩

/-! ### What the second source holds -/
/-- Behind a round of the loop over what was asked for. -/
def copyM (M N : List (Int × Value)) (x : Int) : List (Int × Value) := match mget M x with
  | none => mdel x N
  | some v => mput x v (mdel x N)
theorem copyM_get (M N : List (Int × Value)) (x y : Int) (hd : (N.map (·.1)).Nodup) : mget (copyM M N x) y = if y = x then mget M x else mget N y := by
  unfold copyM
  cases hm : mget M x with
  | none => exact mget_mdel x y N hd
  | some v =>
    rw [mget_mput, mget_mdel x y N hd]
    by_cases e : y = x
    · rw [if_pos e, if_pos e]
    · rw [if_neg e, if_neg e, if_neg e]
theorem copyM_strs {M N : List (Int × Value)} (hM : Strs M) (hN : Strs N) (x : Int) (hd : (N.map (·.1)).Nodup) : Strs (copyM M N x) := fun y v hv => by
  rw [copyM_get M N x y hd] at hv
  split at hv
  · exact hM _ _ hv
  · exact hN _ _ hv
/-- What holds at the head of a round of that loop. -/
structure CpI (M c : List (Int × Value)) (left : Int → Bool) (N : List (Int × Value)) : Prop where
  str : Strs N
  same : ∀ p ∈ c, left p.1 = false → mget N p.1 = mget M p.1
theorem CpI.step {M c N : List (Int × Value)} {left : Int → Bool} (h : CpI M c left N) (hM : Strs M) (x : Int) (hd : (N.map (·.1)).Nodup) : CpI M c (fun y => left y && !decide (y = x)) (copyM M N x) := by
  refine ⟨copyM_strs hM h.str x hd, fun p hp hl => ?_⟩
  rw [copyM_get M N x p.1 hd]
  by_cases e : p.1 = x
  · rw [if_pos e, e]
  · rw [if_neg e]
    refine h.same p hp ?_
    simpa [e] using hl
theorem CpI.src {M c N : List (Int × Value)} {left : Int → Bool} (h : CpI M c left N) {asked : Nat → Bool} (hc : Counts c asked) (hl : ∀ p ∈ c, left p.1 = false) (hM : ∀ q ∈ M, Pg q.1) (hN : ∀ q ∈ N, Pg q.1) : ∀ p, asked p = true → srcM M p = srcM N p := fun p hp => by
  by_cases hlt : p < 64
  case neg =>
    have hno : ∀ l : List (Int × Value), (∀ q ∈ l, Pg q.1) → mget l (p : Int) = none := fun l h => mget_none _ _ fun hx => by
      obtain ⟨q, hq, he⟩ := List.mem_map.1 hx
      have := h q hq
      unfold Pg at this
      omega
    unfold srcM
    rw [hno M hM, hno N hN]
  have h1 := hc p hlt
  rw [if_pos hp] at h1
  have hm : ∃ q ∈ c, q.1 = (p : Int) := by
    have : ∀ (l : List (Int × Value)) (x : Int) (v : Value), mget l x = some v → ∃ q ∈ l, q.1 = x := by
      intro l
      induction l with
      | nil => intro x v hx; rw [mget_nil] at hx; cases hx
      | cons a l ih =>
        intro x v hx
        rw [mget_cons] at hx
        by_cases e : x = a.1
        · exact ⟨a, by simp, e.symm⟩
        · rw [if_neg e] at hx
          obtain ⟨q, hq, hx⟩ := ih x v hx
          exact ⟨q, List.mem_cons_of_mem _ hq, hx⟩
    exact this c _ _ h1
  obtain ⟨q, hq, hqp⟩ := hm
  have := h.same q hq (hl q hq)
  unfold srcM
  rw [hqp] at this
  rw [this]
section
variable {κ : Type} {enc : κ → Value} {C : κ → Prop} {w : World} {b r q : Nat} {m N : List (κ × Value)} {left : κ → Bool} {cnt : Nat}
theorem Rng.ne_blk {t : TypeId} {cs : Array Value} (h : Rng enc C w b r m left cnt) (hb : Blk w q t cs) : q ≠ r := by
  rintro rfl
  obtain ⟨_, _, _, hr⟩ := h.iter
  unfold Blk at hb
  rw [hb] at hr
  cases hr
theorem Rng.ne_mi {κ' : Type} {enc' : κ' → Value} {C' : κ' → Prop} {N : List (κ' × Value)} (h : Rng enc C w b r m left cnt) (hb : MapIs enc' C' w q N) : q ≠ r := by
  rintro rfl
  obtain ⟨_, _, _, hr⟩ := h.iter
  obtain ⟨_, es, clock, h1, _⟩ := hb
  rw [h1] at hr
  cases hr
end
/-- .. and what stands in memory there. -/
structure CpS (wA W : World) (it cm abn pn cn : Nat) (M c N : List (Int × Value)) (left : Int → Bool) (cnt : Nat) : Prop where
  bel : Below wA.heap.size wA W
  rng : Rng encI Pg W cm it c left cnt
  mi : MI W pn N
  cp : CpI M c left N
  blk : Blk W abn 37 #[.map (some pn), .map (some cn)]
  cn_ : MI W cn []
theorem CpS.next {wA W w1 w2 : World} {it cm abn pn cn cnt cnt1 : Nat} {M c N N2 : List (Int × Value)} {left : Int → Bool} (h : CpS wA W it cm abn pn cn M c N left cnt) (hM : Strs M) (x : Int)
    (hr : Rng encI Pg w1 cm it c (fun y => left y && !decide (y = x)) cnt1) (hf1 : Fr [it] W w1) (hf2 : Fr [pn] w1 w2) (hm2 : MI w2 pn N2) (hN2 : N2 = copyM M N x) (hit : wA.heap.size ≤ it) (hpn : wA.heap.size ≤ pn) (hcm : cm ≠ pn) (hcn : cn ≠ pn) (hab : abn ≠ pn) :
    CpS wA w2 it cm abn pn cn M c N2 (fun y => left y && !decide (y = x)) cnt1 := by
  have e1 := h.rng.ne_blk h.blk
  have e2 := h.rng.ne_mi h.cn_
  have e3 := h.rng.ne_mi h.mi
  refine ⟨h.bel.trans ((hf1.below h.bel.size (by simp; omega)).trans (hf2.below (Nat.le_trans h.bel.size hf1.size) (by simp; omega))), hr.fr hf2 (by simpa using hcm) (by simpa using fun e => e3 e.symm), hm2, ?_, (h.blk.fr hf1 (by simpa using e1)).fr hf2 (by simpa using hab), (h.cn_.fr hf1 (by simpa using e2)).fr hf2 (by simpa using hcn)⟩
  rw [hN2]
  exact h.cp.step hM x h.mi.1.2
end Go.Proofs.Ytbppafbdmdbdiaa
