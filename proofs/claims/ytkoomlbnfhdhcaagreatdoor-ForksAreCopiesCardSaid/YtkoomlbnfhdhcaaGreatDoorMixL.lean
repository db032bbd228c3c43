/-
  A region that draws its order, walked once: as MixS, but only effects have to wait for the first phase. Over any program.
-/
import Derived.Test.YtkoomlbnfhdhcaaGreatDoorMixS
namespace Go.Proofs.YtkoomlbnfhdhcaaGreatDoor

section
variable {P : Program} {ops : Array Oper} {Q : Exit → Act → World → Prop} {md : Region.Mode} {nl eff : List Nat}

/-- Every effect is one of the first phase, or waits for all of them. -/
def lateE (md : Region.Mode) (ops : Array Oper) (nl eff : List Nat) : Bool :=
  (List.range ops.size).all fun j => nl.contains j || !eff.contains j || nl.all fun r => match ops[j]? with | some o => o.after.any fun e => Region.binds md e && e.on == r | none => false

theorem lateE_spec (h : lateE md ops nl eff = true) {j : Nat} {listed : Array Bool} (hj : j ∈ Region.ready md ops listed) (hn : nl.contains j = false) (he : eff.contains j = true) : pend nl listed = false := by
  obtain ⟨_, o, ho, hall⟩ := mem_ready.1 hj
  unfold lateE at h
  rw [List.all_eq_true] at h
  have h1 := h j (List.mem_range.2 (Array.getElem?_eq_some_iff.1 ho).1)
  rw [hn, he, Bool.not_true, Bool.or_false, Bool.false_or, List.all_eq_true] at h1
  cases hp : pend nl listed with
  | false => rfl
  | true =>
    unfold pend at hp
    rw [List.any_eq_true] at hp
    obtain ⟨r, hr, hl⟩ := hp
    have h2 := h1 r hr
    simp only [ho] at h2
    obtain ⟨e, he, hb⟩ := Array.any_eq_true'.1 h2
    simp only [Bool.and_eq_true, beq_iff_eq] at hb
    have h3 := hall e he hb.1
    rw [hb.2] at h3
    rcases Nat.lt_or_ge r listed.size with hs | hs
    · simp [hs] at h3 hl; rw [h3] at hl; cases hl
    · simp [Array.getElem?_eq_none hs] at h3

def wpAnyL (P : Program) (md : Region.Mode) (ops : Array Oper) (Q : Exit → Act → World → Prop) (nl eff : List Nat) : Nat → (World → Prop) → Array Bool → Act → World → Prop
  | 0, _, listed, a, w => Region.ready md ops listed = [] ∧ Q .normal a w
  | fuel + 1, S, listed, a, w =>
    (Region.ready md ops listed = [] → Q .normal a w) ∧
    ∀ i ∈ Region.ready md ops listed, wpOp P ops Q i (fun a' w' => ∃ S' : World → Prop, (∀ x, S' x → S x) ∧ ((nl.contains i || !eff.contains i) = true → S w → S' w') ∧ wpAnyL P md ops Q nl eff fuel S' (listed.setIfInBounds i true) a' w') a w

theorem wpAny_of_mixL : ∀ (fuel : Nat) (S : World → Prop) (listed : Array Bool) (a : Act) (w : World), wpAnyL P md ops Q nl eff fuel S listed a w → wpAny P md ops Q fuel listed a w
  | 0, _, _, _, _, h => h
  | fuel + 1, _, _, _, _, h => ⟨h.1, fun i hi => wpOp_mono (fun a' w' ⟨_, _, _, h'⟩ => wpAny_of_mixL fuel _ _ a' w' h') (h.2 i hi)⟩

theorem wpAnyL_first {i : Nat} {oi : Oper} {v : Value} (hi : ops[i]? = some oi) (hsel : ∀ (j : Nat) (o : Oper) cs b, ops[j]? = some o → o.op ≠ .select cs b)
    (hQ : ∀ c a w, Q (.panic c) (a.put oi.dst v) w → Q (.panic c) a w) (hlate : lateE md ops nl eff = true) :
    ∀ (fuel : Nat) (S : World → Prop) (listed : Array Bool) (a : Act) (w : World),
      (∀ j oj, ops[j]? = some oj → j ≠ i → listed.getD j true = false → (∀ e ∈ oj.after, Region.binds md e = true → e.on ≠ i) → oi.apart ops oj = true) →
      i ∈ Region.ready md ops listed → YieldsIf P ops (worldsOf S nl i) oi v a → (pend nl listed = true → S w) →
      wpAnyL P md ops Q nl eff fuel S (listed.setIfInBounds i true) (a.put oi.dst v) w → wpAnyL P md ops Q nl eff (fuel + 1) S listed a w := by
  intro fuel
  have hat : ∀ (S : World → Prop) (listed : Array Bool) (w : World), i ∈ Region.ready md ops listed → (pend nl listed = true → S w) → worldsOf S nl i w :=
    fun S listed w hr hS hc => hS (pend_of hc (mem_ready.1 hr).1)
  induction fuel with
  | zero =>
    intro S listed a w _ hr hy hS H
    refine ⟨fun h => (by rw [h] at hr; cases hr), fun j hj => ?_⟩
    by_cases hji : j = i
    · subst hji; exact hy.wpOp hi (hat _ _ _ hr hS) ⟨S, fun _ h => h, fun _ h => h, H⟩
    · have := ready_mono hj hji
      rw [H.1] at this
      cases this
  | succ fuel ih =>
    intro S listed a w hfree hr hy hS H
    refine ⟨fun h => (by rw [h] at hr; cases hr), fun j hj => ?_⟩
    by_cases hji : j = i
    · subst hji; exact hy.wpOp hi (hat _ _ _ hr hS) ⟨S, fun _ h => h, fun _ h => h, H⟩
    · have h1 := H.2 j (ready_mono hj hji)
      obtain ⟨hjun, oj, hoj, hall⟩ := mem_ready.1 hj
      have hnot : ∀ e ∈ oj.after, Region.binds md e = true → e.on ≠ i := fun e he hb heq => by
        have h1 := hall e he hb
        have h0 := (mem_ready.1 hr).1
        rw [heq] at h1
        rcases Nat.lt_or_ge i listed.size with h' | h'
        · simp [h'] at h0 h1; rw [h0] at h1; cases h1
        · simp [Array.getElem?_eq_none h'] at h1
      have h2 := wpOp_putIf hoj (hfree j oj hoj hji hjun hnot) (fun cs b => hsel i oi cs b hi) (fun cs b => hsel j oj cs b hoj) hQ hy h1
      have hfree' : ∀ k ok, ops[k]? = some ok → k ≠ i → (listed.setIfInBounds j true).getD k true = false →
          (∀ e ∈ ok.after, Region.binds md e = true → e.on ≠ i) → oi.apart ops ok = true := fun k ok hk hki hun hno => by
        refine hfree k ok hk hki ?_ hno
        by_cases hjk : j = k
        · subst hjk; exact hjun
        · rw [getD_set_ne true hjk] at hun; exact hun
      refine wpOp_mono (fun a' w' h3 => ?_) h2
      obtain ⟨hya, S', hsub, hnl, hrest⟩ := h3
      refine ⟨S', hsub, hnl, ih S' (listed.setIfInBounds j true) a' w' hfree' (ready_mono hr (Ne.symm hji)) (YieldsIf_mono (fun x hx hc => hsub x (hx hc)) hya) (fun hp => ?_) ?_⟩
      · cases hc : (nl.contains j || !eff.contains j) with
        | true => exact hnl hc (hS (pend_mono hp))
        | false =>
          rw [Bool.or_eq_false_iff] at hc
          have := lateE_spec hlate hj hc.1 (by simpa using hc.2)
          rw [pend_mono hp] at this
          cases this
      · rw [Array.setIfInBounds_comm _ _ hji]
        exact hrest

theorem wpAnyL_mix {l : List Oper} (hsel : Region.noSelect l.toArray = true) (hlate : lateE md l.toArray nl eff = true) (hQ : ∀ c a d v w, Q (.panic c) (a.put d v) w → Q (.panic c) a w) :
    ∀ (is : List Nat) (S : World → Prop) (listed : Array Bool) (a : Act) (w : World), (∀ i ∈ is, i < l.length) → mixB md l.toArray eff is listed = true → (pend nl listed = true → S w) → wpMixS P l.toArray Q nl eff S (inOrder l is) a w → wpAnyL P md l.toArray Q nl eff is.length S listed a w
  | [], S, listed, a, w, _, hB, _, h => ⟨by simpa [mixB] using hB, h⟩
  | i :: rest, S, listed, a, w, hin, hB, hS, h => by
    have ho : l.toArray[i]? = some (opAt l i) := by
      rw [List.getElem?_toArray]
      exact opAt_get l i (hin i List.mem_cons_self)
    have hin' : ∀ j ∈ rest, j < l.length := fun j hj => hin j (List.mem_cons_of_mem _ hj)
    unfold mixB at hB
    rw [Bool.and_eq_true] at hB
    unfold inOrder wpMixS at h
    by_cases he : eff.contains i = true
    · rw [if_pos he] at hB h
      obtain ⟨h1, h2⟩ := hB
      rw [decide_eq_true_eq] at h1
      refine ⟨fun h0 => (by rw [h1] at h0; cases h0), fun j hj => ?_⟩
      have hji : j = i := by rw [h1] at hj; simpa using hj
      subst hji
      have key : ∀ S' a' w', (∀ x, S' x → S x) → (nl.contains j = true → S' w') → wpMixS P l.toArray Q nl eff S' (inOrder l rest) a' w' → ∃ S' : World → Prop, (∀ x, S' x → S x) ∧ ((nl.contains j || !eff.contains j) = true → S w → S' w') ∧ wpAnyL P md l.toArray Q nl eff rest.length S' (listed.setIfInBounds j true) a' w' := by
        intro S' a' w' hsub hn hr
        have hmid : pend nl listed = true → S' w' := fun hp => by
          cases hc : nl.contains j with
          | true => exact hn hc
          | false =>
            have := lateE_spec hlate hj hc he
            rw [hp] at this
            cases this
        exact ⟨S', hsub, fun hc _ => hn (by rw [he] at hc; simpa using hc), wpAnyL_mix hsel hlate hQ rest S' _ a' w' hin' h2 (fun hp => hmid (pend_mono hp)) hr⟩
      unfold wpOp
      simp only [ho]
      by_cases hw : Region.wanted (opAt l j) (yielded l.toArray a.tmps) = true
      · rw [if_pos hw] at h ⊢
        rcases h with h | h
        · exact .inl (Oper.wp_mono (fun a' w' ⟨S', h3, h4, h5⟩ => key S' a' w' h3 h4 h5) h)
        · exact .inr h
      · rw [if_neg hw] at h ⊢
        exact key S _ _ (fun _ h => h) h.1 h.2
    · rw [if_neg he] at hB h
      obtain ⟨h1, h2⟩ := hB
      rw [Bool.and_eq_true] at h1
      obtain ⟨v, hy, hw⟩ := h
      exact wpAnyL_first ho (Region.noSelect_spec hsel) (fun c a w => hQ c a (opAt l i).dst v w) hlate rest.length S listed a w (Region.free_spec ho h1.2) (by simpa using h1.1) hy hS
        (wpAnyL_mix hsel hlate hQ rest S _ _ w hin' h2 (fun hp => hS (pend_mono hp)) hw)

/-- THE BEGINNING. The region must be shown not to panic. -/
theorem wp_region_mixL {id : Nat} {Q : Exit → Act → World → Prop} {a : Act} {w : World} {l : List Oper} (S : World → Prop) (nl eff order : List Nat) (hm : P.follows .mixedOrders = true)
    (hB : (Region.noSelect l.toArray && lateE .any l.toArray nl eff && decide (order.length = l.length) && order.all (fun i => decide (i < l.length)) && mixB .any l.toArray eff order (Array.replicate l.length false)) = true) (hS : S w.drew)
    (h : wpMixS P l.toArray (NoPanic Q) nl eff S (inOrder l order) a w.drew) : (Code.region id l.toArray true).wp P Q a w := by
  simp only [Bool.and_eq_true, decide_eq_true_eq, List.all_eq_true] at hB
  obtain ⟨⟨⟨⟨h1, h2⟩, h3⟩, h5⟩, h4⟩ := hB
  refine wp_region_noPanic (wp_region_any hm (wpAny_of_mixL (nl := nl) (eff := eff) _ S _ _ _ ?_))
  have := wpAnyL_mix (Q := NoPanic Q) h1 h2 (fun _ _ _ _ _ h => h) order S (Array.replicate l.length false) a w.drew h5 h4 (fun _ => hS) h
  rw [h3] at this
  simpa using this

end
end Go.Proofs.YtkoomlbnfhdhcaaGreatDoor
