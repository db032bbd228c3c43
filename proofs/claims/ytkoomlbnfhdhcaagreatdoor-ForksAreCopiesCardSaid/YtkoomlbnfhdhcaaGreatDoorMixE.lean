/-
  A region that draws its order, where at one point two effects may come up in either order. Over any program.
-/
import Derived.Test.YtkoomlbnfhdhcaaGreatDoorMixS
namespace Go.Proofs.YtkoomlbnfhdhcaaGreatDoor

section
variable {P : Program} {ops : Array Oper} {Q : Exit → Act → World → Prop} {md : Region.Mode} {nl eff : List Nat}

/-- The first part of an order: an operation that is no effect is free when its turn comes; an effect is then the only one that may come up; at the end E holds of what is listed. -/
def mixPreB (md : Region.Mode) (ops : Array Oper) (eff : List Nat) (E : Array Bool → Bool) : List Nat → Array Bool → Bool
  | [], listed => E listed
  | i :: rest, listed => (if eff.contains i then decide (Region.ready md ops listed = [i]) else (Region.ready md ops listed).contains i && Region.free md ops listed i) && mixPreB md ops eff E rest (listed.setIfInBounds i true)

/-- Two effects may come up; behind each of them a list is an order. -/
def mixTwoB (md : Region.Mode) (ops : Array Oper) (eff : List Nat) (i j : Nat) (ra rb : List Nat) (listed : Array Bool) : Bool :=
  eff.contains i && eff.contains j && decide (Region.ready md ops listed = [i, j]) && mixB md ops eff ra (listed.setIfInBounds i true) && mixB md ops eff rb (listed.setIfInBounds j true)

/-- THE WALK over the first part, written out. -/
def wpMixE (P : Program) (ops : Array Oper) (Q : Exit → Act → World → Prop) (nl eff : List Nat) (E : (World → Prop) → Act → World → Prop) : (World → Prop) → List (Nat × Oper) → Act → World → Prop
  | S, [], a, w => E S a w
  | S, p :: rest, a, w => if eff.contains p.1 then (if Region.wanted p.2 (yielded ops a.tmps) then p.2.wp P a w (fun a' w' => ∃ S' : World → Prop, (∀ x, S' x → S x) ∧ (nl.contains p.1 = true → S' w') ∧ wpMixE P ops Q nl eff E S' rest a' w') Q ∨ (p.2.asks P a w ∧ LetsOut Q)
      else (nl.contains p.1 = true → S w) ∧ wpMixE P ops Q nl eff E S rest (a.put p.2.dst undef) w)
    else ∃ v, YieldsIf P ops (worldsOf S nl p.1) p.2 v a ∧ wpMixE P ops Q nl eff E S rest (a.put p.2.dst v) w

theorem wpAnyS_pre {l : List Oper} (hsel : Region.noSelect l.toArray = true) (hlate : lateB md l.toArray nl = true) (hQ : ∀ c a d v w, Q (.panic c) (a.put d v) w → Q (.panic c) a w)
    {EB : Array Bool → Bool} {E : (World → Prop) → Act → World → Prop} {n : Nat}
    (hE : ∀ (S : World → Prop) (listed : Array Bool) (a : Act) (w : World), EB listed = true → (pend nl listed = true → S w) → E S a w → wpAnyS P md l.toArray Q nl n S listed a w) :
    ∀ (is : List Nat) (S : World → Prop) (listed : Array Bool) (a : Act) (w : World), (∀ i ∈ is, i < l.length) → mixPreB md l.toArray eff EB is listed = true → (pend nl listed = true → S w) → wpMixE P l.toArray Q nl eff E S (inOrder l is) a w → wpAnyS P md l.toArray Q nl (is.length + n) S listed a w
  | [], S, listed, a, w, _, hB, hS, h => by
    rw [List.length_nil, Nat.zero_add]
    exact hE S listed a w hB hS h
  | i :: rest, S, listed, a, w, hin, hB, hS, h => by
    have ho : l.toArray[i]? = some (opAt l i) := by
      rw [List.getElem?_toArray]
      exact opAt_get l i (hin i List.mem_cons_self)
    have hin' : ∀ j ∈ rest, j < l.length := fun j hj => hin j (List.mem_cons_of_mem _ hj)
    have hlen : (i :: rest).length + n = (rest.length + n) + 1 := by rw [List.length_cons]; omega
    rw [hlen]
    unfold mixPreB at hB
    rw [Bool.and_eq_true] at hB
    unfold inOrder wpMixE at h
    by_cases he : eff.contains i = true
    · rw [if_pos he] at hB h
      obtain ⟨h1, h2⟩ := hB
      rw [decide_eq_true_eq] at h1
      refine ⟨fun h0 => (by rw [h1] at h0; cases h0), fun j hj => ?_⟩
      have hji : j = i := by rw [h1] at hj; simpa using hj
      subst hji
      have key : ∀ S' a' w', (∀ x, S' x → S x) → (nl.contains j = true → S' w') → wpMixE P l.toArray Q nl eff E S' (inOrder l rest) a' w' → ∃ S' : World → Prop, (∀ x, S' x → S x) ∧ (nl.contains j = true → S' w') ∧ wpAnyS P md l.toArray Q nl (rest.length + n) S' (listed.setIfInBounds j true) a' w' := by
        intro S' a' w' hsub hn hr
        refine ⟨S', hsub, hn, wpAnyS_pre hsel hlate hQ hE rest S' _ a' w' hin' h2 (fun hp => ?_) hr⟩
        cases hc : nl.contains j with
        | true => exact hn hc
        | false =>
          have := lateB_spec hlate hj hc
          rw [pend_mono hp] at this
          cases this
      unfold wpOp
      simp only [ho]
      by_cases hw : Region.wanted (opAt l j) (yielded l.toArray a.tmps) = true
      · rw [if_pos hw] at h ⊢
        rcases h with h | h
        · exact .inl (Oper.wp_mono (fun a' w' ⟨S', h3, h4, h5⟩ => key S' a' w' h3 h4 h5) h)
        · exact .inr h
      · rw [if_neg hw] at h ⊢
        exact key S _ _ (fun _ h => h) h.1 h.2
    · rw [if_neg he] at hB h
      obtain ⟨h1, h2⟩ := hB
      rw [Bool.and_eq_true] at h1
      obtain ⟨v, hy, hw⟩ := h
      exact wpAnyS_first ho (Region.noSelect_spec hsel) (fun c a w => hQ c a (opAt l i).dst v w) hlate (rest.length + n) S listed a w (Region.free_spec ho h1.2) (by simpa using h1.1) hy hS
        (wpAnyS_pre hsel hlate hQ hE rest S _ _ w hin' h2 (fun hp => hS (pend_mono hp)) hw)

/-- One effect out of two, and an order behind it. -/
theorem wpAnyS_one {l : List Oper} (hsel : Region.noSelect l.toArray = true) (hlate : lateB md l.toArray nl = true) (hQ : ∀ c a d v w, Q (.panic c) (a.put d v) w → Q (.panic c) a w)
    {i : Nat} {rest : List Nat} {S : World → Prop} {listed : Array Bool} {a : Act} {w : World} (he : eff.contains i = true) (hi : i < l.length) (hin' : ∀ j ∈ rest, j < l.length) (hr : i ∈ Region.ready md l.toArray listed)
    (h2 : mixB md l.toArray eff rest (listed.setIfInBounds i true) = true) (h : wpMixS P l.toArray Q nl eff S (inOrder l (i :: rest)) a w) :
    wpOp P l.toArray Q i (fun a' w' => ∃ S' : World → Prop, (∀ x, S' x → S x) ∧ (nl.contains i = true → S' w') ∧ wpAnyS P md l.toArray Q nl rest.length S' (listed.setIfInBounds i true) a' w') a w := by
  have ho : l.toArray[i]? = some (opAt l i) := by
    rw [List.getElem?_toArray]
    exact opAt_get l i hi
  unfold inOrder wpMixS at h
  rw [if_pos he] at h
  have key : ∀ S' a' w', (∀ x, S' x → S x) → (nl.contains i = true → S' w') → wpMixS P l.toArray Q nl eff S' (inOrder l rest) a' w' → ∃ S' : World → Prop, (∀ x, S' x → S x) ∧ (nl.contains i = true → S' w') ∧ wpAnyS P md l.toArray Q nl rest.length S' (listed.setIfInBounds i true) a' w' := by
    intro S' a' w' hsub hn hr'
    refine ⟨S', hsub, hn, wpAnyS_mix hsel hlate hQ rest S' _ a' w' hin' h2 (fun hp => ?_) hr'⟩
    cases hc : nl.contains i with
    | true => exact hn hc
    | false =>
      have := lateB_spec hlate hr hc
      rw [pend_mono hp] at this
      cases this
  unfold wpOp
  simp only [ho]
  by_cases hw : Region.wanted (opAt l i) (yielded l.toArray a.tmps) = true
  · rw [if_pos hw] at h ⊢
    rcases h with h | h
    · exact .inl (Oper.wp_mono (fun a' w' ⟨S', h3, h4, h5⟩ => key S' a' w' h3 h4 h5) h)
    · exact .inr h
  · rw [if_neg hw] at h ⊢
    exact key S _ _ (fun _ h => h) h.1 h.2

/-- THE BEGINNING: a first part, then i and ra, or j and rb. -/
theorem wp_region_mixE {id : Nat} {Q : Exit → Act → World → Prop} {a : Act} {w : World} {l : List Oper} (S : World → Prop) (nl eff pre : List Nat) (i j : Nat) (ra rb : List Nat) (hm : P.follows .mixedOrders = true)
    (hB : (Region.noSelect l.toArray && lateB .any l.toArray nl && decide (pre.length + (ra.length + 1) = l.length) && decide (ra.length = rb.length) && pre.all (fun i => decide (i < l.length)) && (i :: ra).all (fun i => decide (i < l.length)) && (j :: rb).all (fun i => decide (i < l.length)) && mixPreB .any l.toArray eff (mixTwoB .any l.toArray eff i j ra rb) pre (Array.replicate l.length false)) = true) (hS : S w.drew)
    (h : wpMixE P l.toArray (NoPanic Q) nl eff (fun S a w => wpMixS P l.toArray (NoPanic Q) nl eff S (inOrder l (i :: ra)) a w ∧ wpMixS P l.toArray (NoPanic Q) nl eff S (inOrder l (j :: rb)) a w) S (inOrder l pre) a w.drew) : (Code.region id l.toArray true).wp P Q a w := by
  simp only [Bool.and_eq_true, decide_eq_true_eq, List.all_eq_true] at hB
  obtain ⟨⟨⟨⟨⟨⟨⟨h1, h2⟩, h3⟩, h3'⟩, h5⟩, h6⟩, h7⟩, h4⟩ := hB
  refine wp_region_noPanic (wp_region_any hm (wpAny_of_mixS (nl := nl) _ S _ _ _ ?_))
  have := wpAnyS_pre (P := P) (Q := NoPanic Q) (eff := eff) (n := ra.length + 1) h1 h2 (fun _ _ _ _ _ h => h) (EB := mixTwoB .any l.toArray eff i j ra rb)
    (E := fun S a w => wpMixS P l.toArray (NoPanic Q) nl eff S (inOrder l (i :: ra)) a w ∧ wpMixS P l.toArray (NoPanic Q) nl eff S (inOrder l (j :: rb)) a w)
    (fun S listed a w hb _ he => by
      unfold mixTwoB at hb
      simp only [Bool.and_eq_true, decide_eq_true_eq] at hb
      obtain ⟨⟨⟨⟨b1, b2⟩, b3⟩, b4⟩, b5⟩ := hb
      refine ⟨fun h0 => (by rw [b3] at h0; cases h0), fun k hk => ?_⟩
      have hk2 : k = i ∨ k = j := by rw [b3] at hk; simpa using hk
      rcases hk2 with rfl | rfl
      · exact wpAnyS_one (P := P) h1 h2 (fun _ _ _ _ _ h => h) b1 (h6 _ List.mem_cons_self) (fun x hx => h6 x (List.mem_cons_of_mem _ hx)) hk b4 he.1
      · rw [h3']
        exact wpAnyS_one (P := P) h1 h2 (fun _ _ _ _ _ h => h) b2 (h7 _ List.mem_cons_self) (fun x hx => h7 x (List.mem_cons_of_mem _ hx)) hk b5 he.2)
    pre S (Array.replicate l.length false) a w.drew h5 h4 (fun _ => hS) h
  rw [h3] at this
  simpa using this

variable {S : World → Prop} {E : (World → Prop) → Act → World → Prop}
theorem wpMixE_nil {a : Act} {w : World} (h : E S a w) : wpMixE P ops Q nl eff E S [] a w := h

theorem wpMixE_read {i : Nat} {rest : List (Nat × Oper)} {o : Oper} {a : Act} {w : World} {v : Value} (he : eff.contains i = false) (hw : Region.wanted o (yielded ops a.tmps) = true)
    (hy : ∀ w', worldsOf S nl i w' → (execOp a.eval o).run P w' = .ok (.value v) w') (h : wpMixE P ops Q nl eff E S rest (a.put o.dst v) w) : wpMixE P ops Q nl eff E S ((i, o) :: rest) a w := by
  unfold wpMixE
  rw [he]
  exact ⟨v, .inl ⟨hw, hy⟩, h⟩

theorem wpMixE_skip {i : Nat} {rest : List (Nat × Oper)} {o : Oper} {a : Act} {w : World} (he : eff.contains i = false) (hw : Region.wanted o (yielded ops a.tmps) = false)
    (h : wpMixE P ops Q nl eff E S rest (a.put o.dst undef) w) : wpMixE P ops Q nl eff E S ((i, o) :: rest) a w := by
  unfold wpMixE
  rw [he]
  exact ⟨undef, .inr ⟨hw, rfl⟩, h⟩

theorem wpMixE_eff {i : Nat} {rest : List (Nat × Oper)} {o : Oper} {a : Act} {w : World} (he : eff.contains i = true) (hw : Region.wanted o (yielded ops a.tmps) = true)
    (h : ∀ K : Act → World → Prop, Shut (∀ (S' : World → Prop) a' w', (∀ x, S' x → S x) → (nl.contains i = true → S' w') → wpMixE P ops Q nl eff E S' rest a' w' → K a' w') → o.wp P a w K Q) : wpMixE P ops Q nl eff E S ((i, o) :: rest) a w := by
  unfold wpMixE
  rw [he, if_pos rfl, hw, if_pos rfl]
  exact .inl (h _ fun S' a' w' h0 h1 h2 => ⟨S', h0, h1, h2⟩)
end
end Go.Proofs.YtkoomlbnfhdhcaaGreatDoor
