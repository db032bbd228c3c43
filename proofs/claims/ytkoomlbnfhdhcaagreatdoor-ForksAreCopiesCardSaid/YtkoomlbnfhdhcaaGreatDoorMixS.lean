/-
  A region that draws its order, walked once, where what holds of the world grows at each effect. Over any program.
-/
import Derived.Test.YtkoomlbnfhdhcaaGreatDoorMix
namespace Go.Proofs.YtkoomlbnfhdhcaaGreatDoor

section
variable {P : Program} {ops : Array Oper} {Q : Exit → Act → World → Prop} {md : Region.Mode} {nl eff : List Nat}

theorem YieldsIf_mono {S S' : World → Prop} {o : Oper} {v : Value} {a : Act} (h : ∀ w, S' w → S w) (hy : YieldsIf P ops S o v a) : YieldsIf P ops S' o v a := by
  rcases hy with ⟨h1, h2⟩ | h1
  · exact .inl ⟨h1, fun w hw => h2 w (h w hw)⟩
  · exact .inr h1

def wpAnyS (P : Program) (md : Region.Mode) (ops : Array Oper) (Q : Exit → Act → World → Prop) (nl : List Nat) : Nat → (World → Prop) → Array Bool → Act → World → Prop
  | 0, _, listed, a, w => Region.ready md ops listed = [] ∧ Q .normal a w
  | fuel + 1, S, listed, a, w =>
    (Region.ready md ops listed = [] → Q .normal a w) ∧
    ∀ i ∈ Region.ready md ops listed, wpOp P ops Q i (fun a' w' => ∃ S' : World → Prop, (∀ x, S' x → S x) ∧ (nl.contains i = true → S' w') ∧ wpAnyS P md ops Q nl fuel S' (listed.setIfInBounds i true) a' w') a w

theorem wpAny_of_mixS : ∀ (fuel : Nat) (S : World → Prop) (listed : Array Bool) (a : Act) (w : World), wpAnyS P md ops Q nl fuel S listed a w → wpAny P md ops Q fuel listed a w
  | 0, _, _, _, _, h => h
  | fuel + 1, _, _, _, _, h => ⟨h.1, fun i hi => wpOp_mono (fun a' w' ⟨_, _, _, h'⟩ => wpAny_of_mixS fuel _ _ a' w' h') (h.2 i hi)⟩

theorem wpAnyS_first {i : Nat} {oi : Oper} {v : Value} (hi : ops[i]? = some oi) (hsel : ∀ (j : Nat) (o : Oper) cs b, ops[j]? = some o → o.op ≠ .select cs b)
    (hQ : ∀ c a w, Q (.panic c) (a.put oi.dst v) w → Q (.panic c) a w) (hlate : lateB md ops nl = true) :
    ∀ (fuel : Nat) (S : World → Prop) (listed : Array Bool) (a : Act) (w : World),
      (∀ j oj, ops[j]? = some oj → j ≠ i → listed.getD j true = false → (∀ e ∈ oj.after, Region.binds md e = true → e.on ≠ i) → oi.apart ops oj = true) →
      i ∈ Region.ready md ops listed → YieldsIf P ops (worldsOf S nl i) oi v a → (pend nl listed = true → S w) →
      wpAnyS P md ops Q nl fuel S (listed.setIfInBounds i true) (a.put oi.dst v) w → wpAnyS P md ops Q nl (fuel + 1) S listed a w := by
  intro fuel
  have hat : ∀ (S : World → Prop) (listed : Array Bool) (w : World), i ∈ Region.ready md ops listed → (pend nl listed = true → S w) → worldsOf S nl i w :=
    fun S listed w hr hS hc => hS (pend_of hc (mem_ready.1 hr).1)
  induction fuel with
  | zero =>
    intro S listed a w _ hr hy hS H
    refine ⟨fun h => (by rw [h] at hr; cases hr), fun j hj => ?_⟩
    by_cases hji : j = i
    · subst hji; exact hy.wpOp hi (hat _ _ _ hr hS) ⟨S, fun _ h => h, hat _ _ _ hr hS, H⟩
    · have := ready_mono hj hji
      rw [H.1] at this
      cases this
  | succ fuel ih =>
    intro S listed a w hfree hr hy hS H
    refine ⟨fun h => (by rw [h] at hr; cases hr), fun j hj => ?_⟩
    by_cases hji : j = i
    · subst hji; exact hy.wpOp hi (hat _ _ _ hr hS) ⟨S, fun _ h => h, hat _ _ _ hr hS, H⟩
    · have h1 := H.2 j (ready_mono hj hji)
      obtain ⟨hjun, oj, hoj, hall⟩ := mem_ready.1 hj
      have hnot : ∀ e ∈ oj.after, Region.binds md e = true → e.on ≠ i := fun e he hb heq => by
        have h1 := hall e he hb
        have h0 := (mem_ready.1 hr).1
        rw [heq] at h1
        rcases Nat.lt_or_ge i listed.size with h' | h'
        · simp [h'] at h0 h1; rw [h0] at h1; cases h1
        · simp [Array.getElem?_eq_none h'] at h1
      have h2 := wpOp_putIf hoj (hfree j oj hoj hji hjun hnot) (fun cs b => hsel i oi cs b hi) (fun cs b => hsel j oj cs b hoj) hQ hy h1
      have hfree' : ∀ k ok, ops[k]? = some ok → k ≠ i → (listed.setIfInBounds j true).getD k true = false →
          (∀ e ∈ ok.after, Region.binds md e = true → e.on ≠ i) → oi.apart ops ok = true := fun k ok hk hki hun hno => by
        refine hfree k ok hk hki ?_ hno
        by_cases hjk : j = k
        · subst hjk; exact hjun
        · rw [getD_set_ne true hjk] at hun; exact hun
      refine wpOp_mono (fun a' w' h3 => ?_) h2
      obtain ⟨hya, S', hsub, hnl, hrest⟩ := h3
      refine ⟨S', hsub, hnl, ih S' (listed.setIfInBounds j true) a' w' hfree' (ready_mono hr (Ne.symm hji)) (YieldsIf_mono (fun x hx hc => hsub x (hx hc)) hya) (fun hp => ?_) ?_⟩
      · cases hc : nl.contains j with
        | true => exact hnl hc
        | false =>
          have := lateB_spec hlate hj hc
          rw [pend_mono hp] at this
          cases this
      · rw [Array.setIfInBounds_comm _ _ hji]
        exact hrest

/-- THE WALK over operations written out. -/
def wpMixS (P : Program) (ops : Array Oper) (Q : Exit → Act → World → Prop) (nl eff : List Nat) : (World → Prop) → List (Nat × Oper) → Act → World → Prop
  | _, [], a, w => Q .normal a w
  | S, p :: rest, a, w => if eff.contains p.1 then (if Region.wanted p.2 (yielded ops a.tmps) then p.2.wp P a w (fun a' w' => ∃ S' : World → Prop, (∀ x, S' x → S x) ∧ (nl.contains p.1 = true → S' w') ∧ wpMixS P ops Q nl eff S' rest a' w') Q ∨ (p.2.asks P a w ∧ LetsOut Q)
      else (nl.contains p.1 = true → S w) ∧ wpMixS P ops Q nl eff S rest (a.put p.2.dst undef) w)
    else ∃ v, YieldsIf P ops (worldsOf S nl p.1) p.2 v a ∧ wpMixS P ops Q nl eff S rest (a.put p.2.dst v) w

theorem wpAnyS_mix {l : List Oper} (hsel : Region.noSelect l.toArray = true) (hlate : lateB md l.toArray nl = true) (hQ : ∀ c a d v w, Q (.panic c) (a.put d v) w → Q (.panic c) a w) :
    ∀ (is : List Nat) (S : World → Prop) (listed : Array Bool) (a : Act) (w : World), (∀ i ∈ is, i < l.length) → mixB md l.toArray eff is listed = true → (pend nl listed = true → S w) → wpMixS P l.toArray Q nl eff S (inOrder l is) a w → wpAnyS P md l.toArray Q nl is.length S listed a w
  | [], S, listed, a, w, _, hB, _, h => ⟨by simpa [mixB] using hB, h⟩
  | i :: rest, S, listed, a, w, hin, hB, hS, h => by
    have ho : l.toArray[i]? = some (opAt l i) := by
      rw [List.getElem?_toArray]
      exact opAt_get l i (hin i List.mem_cons_self)
    have hin' : ∀ j ∈ rest, j < l.length := fun j hj => hin j (List.mem_cons_of_mem _ hj)
    unfold mixB at hB
    rw [Bool.and_eq_true] at hB
    unfold inOrder wpMixS at h
    by_cases he : eff.contains i = true
    · rw [if_pos he] at hB h
      obtain ⟨h1, h2⟩ := hB
      rw [decide_eq_true_eq] at h1
      refine ⟨fun h0 => (by rw [h1] at h0; cases h0), fun j hj => ?_⟩
      have hji : j = i := by rw [h1] at hj; simpa using hj
      subst hji
      have key : ∀ S' a' w', (∀ x, S' x → S x) → (nl.contains j = true → S' w') → wpMixS P l.toArray Q nl eff S' (inOrder l rest) a' w' → ∃ S' : World → Prop, (∀ x, S' x → S x) ∧ (nl.contains j = true → S' w') ∧ wpAnyS P md l.toArray Q nl rest.length S' (listed.setIfInBounds j true) a' w' := by
        intro S' a' w' hsub hn hr
        refine ⟨S', hsub, hn, wpAnyS_mix hsel hlate hQ rest S' _ a' w' hin' h2 (fun hp => ?_) hr⟩
        cases hc : nl.contains j with
        | true => exact hn hc
        | false =>
          have := lateB_spec hlate hj hc
          rw [pend_mono hp] at this
          cases this
      unfold wpOp
      simp only [ho]
      by_cases hw : Region.wanted (opAt l j) (yielded l.toArray a.tmps) = true
      · rw [if_pos hw] at h ⊢
        rcases h with h | h
        · exact .inl (Oper.wp_mono (fun a' w' ⟨S', h3, h4, h5⟩ => key S' a' w' h3 h4 h5) h)
        · exact .inr h
      · rw [if_neg hw] at h ⊢
        exact key S _ _ (fun _ h => h) h.1 h.2
    · rw [if_neg he] at hB h
      obtain ⟨h1, h2⟩ := hB
      rw [Bool.and_eq_true] at h1
      obtain ⟨v, hy, hw⟩ := h
      exact wpAnyS_first ho (Region.noSelect_spec hsel) (fun c a w => hQ c a (opAt l i).dst v w) hlate rest.length S listed a w (Region.free_spec ho h1.2) (by simpa using h1.1) hy hS
        (wpAnyS_mix hsel hlate hQ rest S _ _ w hin' h2 (fun hp => hS (pend_mono hp)) hw)

/-- THE BEGINNING. The region must be shown not to panic. -/
theorem wp_region_mixS {id : Nat} {Q : Exit → Act → World → Prop} {a : Act} {w : World} {l : List Oper} (S : World → Prop) (nl eff order : List Nat) (hm : P.follows .mixedOrders = true)
    (hB : (Region.noSelect l.toArray && lateB .any l.toArray nl && decide (order.length = l.length) && order.all (fun i => decide (i < l.length)) && mixB .any l.toArray eff order (Array.replicate l.length false)) = true) (hS : S w.drew)
    (h : wpMixS P l.toArray (NoPanic Q) nl eff S (inOrder l order) a w.drew) : (Code.region id l.toArray true).wp P Q a w := by
  simp only [Bool.and_eq_true, decide_eq_true_eq, List.all_eq_true] at hB
  obtain ⟨⟨⟨⟨h1, h2⟩, h3⟩, h5⟩, h4⟩ := hB
  refine wp_region_noPanic (wp_region_any hm (wpAny_of_mixS (nl := nl) _ S _ _ _ ?_))
  have := wpAnyS_mix (Q := NoPanic Q) h1 h2 (fun _ _ _ _ _ h => h) order S (Array.replicate l.length false) a w.drew h5 h4 (fun _ => hS) h
  rw [h3] at this
  simpa using this

variable {S : World → Prop}
theorem wpMixS_nil {a : Act} {w : World} (h : Q .normal a w) : wpMixS P ops (NoPanic Q) nl eff S [] a w := h

theorem wpMixS_read {i : Nat} {rest : List (Nat × Oper)} {o : Oper} {a : Act} {w : World} {v : Value} (he : eff.contains i = false) (hw : Region.wanted o (yielded ops a.tmps) = true)
    (hy : ∀ w', worldsOf S nl i w' → (execOp a.eval o).run P w' = .ok (.value v) w') (h : wpMixS P ops Q nl eff S rest (a.put o.dst v) w) : wpMixS P ops Q nl eff S ((i, o) :: rest) a w := by
  unfold wpMixS
  rw [he]
  exact ⟨v, .inl ⟨hw, hy⟩, h⟩

theorem wpMixS_skip {i : Nat} {rest : List (Nat × Oper)} {o : Oper} {a : Act} {w : World} (he : eff.contains i = false) (hw : Region.wanted o (yielded ops a.tmps) = false)
    (h : wpMixS P ops Q nl eff S rest (a.put o.dst undef) w) : wpMixS P ops Q nl eff S ((i, o) :: rest) a w := by
  unfold wpMixS
  rw [he]
  exact ⟨undef, .inr ⟨hw, rfl⟩, h⟩

theorem wpMixS_skipe {i : Nat} {rest : List (Nat × Oper)} {o : Oper} {a : Act} {w : World} (he : eff.contains i = true) (hw : Region.wanted o (yielded ops a.tmps) = false)
    (hS : nl.contains i = true → S w) (h : wpMixS P ops Q nl eff S rest (a.put o.dst undef) w) : wpMixS P ops Q nl eff S ((i, o) :: rest) a w := by
  unfold wpMixS
  rw [he, if_pos rfl, hw, if_neg (by simp)]
  exact ⟨hS, h⟩

/-- An effect: what holds of the world may grow. -/
theorem wpMixS_eff {i : Nat} {rest : List (Nat × Oper)} {o : Oper} {a : Act} {w : World} (he : eff.contains i = true) (hw : Region.wanted o (yielded ops a.tmps) = true)
    (h : ∀ K : Act → World → Prop, Shut (∀ (S' : World → Prop) a' w', (∀ x, S' x → S x) → (nl.contains i = true → S' w') → wpMixS P ops Q nl eff S' rest a' w' → K a' w') → o.wp P a w K Q) : wpMixS P ops Q nl eff S ((i, o) :: rest) a w := by
  unfold wpMixS
  rw [he, if_pos rfl, hw, if_pos rfl]
  exact .inl (h _ fun S' a' w' h0 h1 h2 => ⟨S', h0, h1, h2⟩)
end
end Go.Proofs.YtkoomlbnfhdhcaaGreatDoor
