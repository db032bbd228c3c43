/-
  A region that draws its order, walked once: operations that only read or reckon are taken ahead of those that change the world; the latter come in one forced order. Over any program.
-/
import Derived.OrdersHeld
import Derived.Deep.RegionHeld3
namespace Go.Proofs.YtkoomlbnfhdhcaaGreatDoor

section
variable {P : Program} {ops : Array Oper} {Q : Exit → Act → World → Prop} {md : Region.Mode} {S : World → Prop} {nl eff : List Nat}

/-- Is there an operation of the first phase that has not come up yet? -/
def pend (nl : List Nat) (listed : Array Bool) : Bool := nl.any fun i => !listed.getD i true

theorem pend_mono {i : Nat} {listed : Array Bool} (h : pend nl (listed.setIfInBounds i true) = true) : pend nl listed = true := by
  unfold pend at *
  rw [List.any_eq_true] at *
  obtain ⟨j, hj, h⟩ := h
  refine ⟨j, hj, ?_⟩
  by_cases e : i = j
  · subst e
    rcases Nat.lt_or_ge i listed.size with hl | hl
    · simp [hl] at h
    · simp at h
  · rw [getD_set_ne true e] at h
    exact h

theorem pend_of {i : Nat} {listed : Array Bool} (hi : nl.contains i = true) (h : listed.getD i true = false) : pend nl listed = true := by
  unfold pend
  rw [List.any_eq_true]
  exact ⟨i, by simpa using hi, by rw [h]; rfl⟩

/-- Every operation is one of the first phase, or waits for all of them. -/
def lateB (md : Region.Mode) (ops : Array Oper) (nl : List Nat) : Bool :=
  (List.range ops.size).all fun j => nl.contains j || nl.all fun r => match ops[j]? with | some o => o.after.any fun e => Region.binds md e && e.on == r | none => false

theorem lateB_spec (h : lateB md ops nl = true) {j : Nat} {listed : Array Bool} (hj : j ∈ Region.ready md ops listed) (hn : nl.contains j = false) : pend nl listed = false := by
  obtain ⟨_, o, ho, hall⟩ := mem_ready.1 hj
  unfold lateB at h
  rw [List.all_eq_true] at h
  have h1 := h j (List.mem_range.2 (Array.getElem?_eq_some_iff.1 ho).1)
  rw [hn, Bool.false_or, List.all_eq_true] at h1
  cases hp : pend nl listed with
  | false => rfl
  | true =>
    unfold pend at hp
    rw [List.any_eq_true] at hp
    obtain ⟨r, hr, hl⟩ := hp
    have h2 := h1 r hr
    simp only [ho] at h2
    obtain ⟨e, he, hb⟩ := Array.any_eq_true'.1 h2
    simp only [Bool.and_eq_true, beq_iff_eq] at hb
    have h3 := hall e he hb.1
    rw [hb.2] at h3
    rcases Nat.lt_or_ge r listed.size with hs | hs
    · simp [hs] at h3 hl; rw [h3] at hl; cases hl
    · simp [Array.getElem?_eq_none hs] at h3

/-- Whatever order is picked from here on, and S holds behind every operation of the first phase. -/
def wpAnyM (P : Program) (md : Region.Mode) (ops : Array Oper) (Q : Exit → Act → World → Prop) (S : World → Prop) (nl : List Nat) : Nat → Array Bool → Act → World → Prop
  | 0, listed, a, w => Region.ready md ops listed = [] ∧ Q .normal a w
  | fuel + 1, listed, a, w =>
    (Region.ready md ops listed = [] → Q .normal a w) ∧
    ∀ i ∈ Region.ready md ops listed, wpOp P ops Q i (fun a' w' => (nl.contains i = true → S w') ∧ wpAnyM P md ops Q S nl fuel (listed.setIfInBounds i true) a' w') a w

theorem wpAny_of_mix : ∀ (fuel : Nat) (listed : Array Bool) (a : Act) (w : World), wpAnyM P md ops Q S nl fuel listed a w → wpAny P md ops Q fuel listed a w
  | 0, _, _, _, h => h
  | fuel + 1, _, _, _, h => ⟨h.1, fun i hi => wpOp_mono (fun a' w' h' => wpAny_of_mix fuel _ a' w' h'.2) (h.2 i hi)⟩

/-- The worlds in which an operation is looked at: those of S, if it is of the first phase. -/
def worldsOf (S : World → Prop) (nl : List Nat) (i : Nat) : World → Prop := fun w => nl.contains i = true → S w

theorem wpAnyM_first {i : Nat} {oi : Oper} {v : Value} (hi : ops[i]? = some oi) (hsel : ∀ (j : Nat) (o : Oper) cs b, ops[j]? = some o → o.op ≠ .select cs b)
    (hQ : ∀ c a w, Q (.panic c) (a.put oi.dst v) w → Q (.panic c) a w) (hlate : lateB md ops nl = true) :
    ∀ (fuel : Nat) (listed : Array Bool) (a : Act) (w : World),
      (∀ j oj, ops[j]? = some oj → j ≠ i → listed.getD j true = false → (∀ e ∈ oj.after, Region.binds md e = true → e.on ≠ i) → oi.apart ops oj = true) →
      i ∈ Region.ready md ops listed → YieldsIf P ops (worldsOf S nl i) oi v a → (pend nl listed = true → S w) →
      wpAnyM P md ops Q S nl fuel (listed.setIfInBounds i true) (a.put oi.dst v) w → wpAnyM P md ops Q S nl (fuel + 1) listed a w := by
  intro fuel
  have hat : ∀ (listed : Array Bool) (w : World), i ∈ Region.ready md ops listed → (pend nl listed = true → S w) → worldsOf S nl i w :=
    fun listed w hr hS hc => hS (pend_of hc (mem_ready.1 hr).1)
  induction fuel with
  | zero =>
    intro listed a w _ hr hy hS H
    refine ⟨fun h => (by rw [h] at hr; cases hr), fun j hj => ?_⟩
    by_cases hji : j = i
    · subst hji; exact hy.wpOp hi (hat _ _ hr hS) ⟨hat _ _ hr hS, H⟩
    · have := ready_mono hj hji
      rw [H.1] at this
      cases this
  | succ fuel ih =>
    intro listed a w hfree hr hy hS H
    refine ⟨fun h => (by rw [h] at hr; cases hr), fun j hj => ?_⟩
    by_cases hji : j = i
    · subst hji; exact hy.wpOp hi (hat _ _ hr hS) ⟨hat _ _ hr hS, H⟩
    · have h1 := H.2 j (ready_mono hj hji)
      obtain ⟨hjun, oj, hoj, hall⟩ := mem_ready.1 hj
      have hnot : ∀ e ∈ oj.after, Region.binds md e = true → e.on ≠ i := fun e he hb heq => by
        have h1 := hall e he hb
        have h0 := (mem_ready.1 hr).1
        rw [heq] at h1
        rcases Nat.lt_or_ge i listed.size with h' | h'
        · simp [h'] at h0 h1; rw [h0] at h1; cases h1
        · simp [Array.getElem?_eq_none h'] at h1
      have h2 := wpOp_putIf hoj (hfree j oj hoj hji hjun hnot) (fun cs b => hsel i oi cs b hi) (fun cs b => hsel j oj cs b hoj) hQ hy h1
      have hfree' : ∀ k ok, ops[k]? = some ok → k ≠ i → (listed.setIfInBounds j true).getD k true = false →
          (∀ e ∈ ok.after, Region.binds md e = true → e.on ≠ i) → oi.apart ops ok = true := fun k ok hk hki hun hno => by
        refine hfree k ok hk hki ?_ hno
        by_cases hjk : j = k
        · subst hjk; exact hjun
        · rw [getD_set_ne true hjk] at hun; exact hun
      refine wpOp_mono (fun a' w' h3 => ⟨h3.2.1, ih (listed.setIfInBounds j true) a' w' hfree' (ready_mono hr (Ne.symm hji)) h3.1 (fun hp => ?_) ?_⟩) h2
      · cases hc : nl.contains j with
        | true => exact h3.2.1 hc
        | false =>
          have := lateB_spec hlate hj hc
          rw [pend_mono hp] at this
          cases this
      · rw [Array.setIfInBounds_comm _ _ hji]
        exact h3.2.2

/-- The order in which the region is walked: an operation that is no effect is free when its turn comes; an effect is then the only one that may come up. -/
def mixB (md : Region.Mode) (ops : Array Oper) (eff : List Nat) : List Nat → Array Bool → Bool
  | [], listed => (Region.ready md ops listed).isEmpty
  | i :: rest, listed => (if eff.contains i then decide (Region.ready md ops listed = [i]) else (Region.ready md ops listed).contains i && Region.free md ops listed i) && mixB md ops eff rest (listed.setIfInBounds i true)

/-- THE WALK, in that order. -/
def wpMix (P : Program) (ops : Array Oper) (Q : Exit → Act → World → Prop) (S : World → Prop) (nl eff : List Nat) : List Nat → Act → World → Prop
  | [], a, w => Q .normal a w
  | i :: rest, a, w => if eff.contains i then wpOp P ops Q i (fun a' w' => (nl.contains i = true → S w') ∧ wpMix P ops Q S nl eff rest a' w') a w
    else ∃ o v, ops[i]? = some o ∧ YieldsIf P ops (worldsOf S nl i) o v a ∧ wpMix P ops Q S nl eff rest (a.put o.dst v) w

theorem wpAnyM_mix (hsel : Region.noSelect ops = true) (hlate : lateB md ops nl = true) (hQ : ∀ c a d v w, Q (.panic c) (a.put d v) w → Q (.panic c) a w) :
    ∀ (l : List Nat) (listed : Array Bool) (a : Act) (w : World), mixB md ops eff l listed = true → (pend nl listed = true → S w) → wpMix P ops Q S nl eff l a w → wpAnyM P md ops Q S nl l.length listed a w
  | [], listed, a, w, hB, _, h => ⟨by simpa [mixB] using hB, h⟩
  | i :: rest, listed, a, w, hB, hS, h => by
    unfold mixB at hB
    rw [Bool.and_eq_true] at hB
    unfold wpMix at h
    by_cases he : eff.contains i = true
    · rw [if_pos he] at hB h
      obtain ⟨h1, h2⟩ := hB
      rw [decide_eq_true_eq] at h1
      refine ⟨fun h0 => (by rw [h1] at h0; cases h0), fun j hj => ?_⟩
      have hji : j = i := by rw [h1] at hj; simpa using hj
      subst hji
      refine wpOp_mono (fun a' w' h3 => ⟨h3.1, wpAnyM_mix hsel hlate hQ rest _ a' w' h2 (fun hp => ?_) h3.2⟩) h
      cases hc : nl.contains j with
      | true => exact h3.1 hc
      | false =>
        have := lateB_spec hlate hj hc
        rw [pend_mono hp] at this
        cases this
    · rw [if_neg he] at hB h
      obtain ⟨h1, h2⟩ := hB
      rw [Bool.and_eq_true] at h1
      obtain ⟨o, v, ho, hy, hw⟩ := h
      exact wpAnyM_first ho (Region.noSelect_spec hsel) (fun c a w => hQ c a o.dst v w) hlate rest.length listed a w (Region.free_spec ho h1.2) (by simpa using h1.1) hy hS
        (wpAnyM_mix hsel hlate hQ rest _ _ w h2 (fun hp => hS (pend_mono hp)) hw)

/-- Operation number i of a list. -/
def opAt : List Oper → Nat → Oper
  | [], _ => default
  | o :: _, 0 => o
  | _ :: l, n + 1 => opAt l n
theorem opAt_get : ∀ (l : List Oper) (i : Nat), i < l.length → l[i]? = some (opAt l i)
  | [], _, h => by simp at h
  | _ :: _, 0, _ => rfl
  | _ :: l, n + 1, h => by
    rw [List.getElem?_cons_succ]
    exact opAt_get l n (by simpa using h)

/-- The operations in the walk's order, written out. -/
def inOrder (l : List Oper) : List Nat → List (Nat × Oper)
  | [] => []
  | i :: is => (i, opAt l i) :: inOrder l is

/-- THE WALK over operations written out. -/
def wpMixL (P : Program) (ops : Array Oper) (Q : Exit → Act → World → Prop) (S : World → Prop) (nl eff : List Nat) : List (Nat × Oper) → Act → World → Prop
  | [], a, w => Q .normal a w
  | p :: rest, a, w => if eff.contains p.1 then (if Region.wanted p.2 (yielded ops a.tmps) then p.2.wp P a w (fun a' w' => (nl.contains p.1 = true → S w') ∧ wpMixL P ops Q S nl eff rest a' w') Q ∨ (p.2.asks P a w ∧ LetsOut Q)
      else (nl.contains p.1 = true → S w) ∧ wpMixL P ops Q S nl eff rest (a.put p.2.dst undef) w)
    else ∃ v, YieldsIf P ops (worldsOf S nl p.1) p.2 v a ∧ wpMixL P ops Q S nl eff rest (a.put p.2.dst v) w

theorem wpMix_of_L {l : List Oper} : ∀ (is : List Nat) (a : Act) (w : World), (∀ i ∈ is, i < l.length) → wpMixL P l.toArray Q S nl eff (inOrder l is) a w → wpMix P l.toArray Q S nl eff is a w
  | [], _, _, _, h => h
  | i :: is, a, w, hi, h => by
    have ho : l.toArray[i]? = some (opAt l i) := by
      rw [List.getElem?_toArray]
      exact opAt_get l i (hi i List.mem_cons_self)
    have ih := fun a w => wpMix_of_L is a w (fun j hj => hi j (List.mem_cons_of_mem _ hj))
    unfold inOrder wpMixL at h
    unfold wpMix
    by_cases he : eff.contains i = true
    · rw [if_pos he] at h ⊢
      unfold wpOp
      simp only [ho]
      by_cases hw : Region.wanted (opAt l i) (yielded l.toArray a.tmps) = true
      · rw [if_pos hw] at h ⊢
        rcases h with h | h
        · exact .inl (Oper.wp_mono (fun a' w' h3 => ⟨h3.1, ih a' w' h3.2⟩) h)
        · exact .inr h
      · rw [if_neg hw] at h ⊢
        exact ⟨h.1, ih _ _ h.2⟩
    · rw [if_neg he] at h ⊢
      obtain ⟨v, hy, hr⟩ := h
      exact ⟨_, v, ho, hy, ih _ _ hr⟩

/-- THE BEGINNING. The region must be shown not to panic. -/
theorem wp_region_mix {id : Nat} {Q : Exit → Act → World → Prop} {a : Act} {w : World} {l : List Oper} (S : World → Prop) (nl eff order : List Nat) (hm : P.follows .mixedOrders = true)
    (hB : (Region.noSelect l.toArray && lateB .any l.toArray nl && decide (order.length = l.length) && order.all (fun i => decide (i < l.length)) && mixB .any l.toArray eff order (Array.replicate l.length false)) = true) (hS : S w.drew)
    (h : wpMixL P l.toArray (NoPanic Q) S nl eff (inOrder l order) a w.drew) : (Code.region id l.toArray true).wp P Q a w := by
  simp only [Bool.and_eq_true, decide_eq_true_eq, List.all_eq_true] at hB
  obtain ⟨⟨⟨⟨h1, h2⟩, h3⟩, h5⟩, h4⟩ := hB
  refine wp_region_noPanic (wp_region_any hm (wpAny_of_mix (S := S) (nl := nl) _ _ _ _ ?_))
  have := wpAnyM_mix (Q := NoPanic Q) h1 h2 (fun _ _ _ _ _ h => h) order (Array.replicate l.length false) a w.drew h4 (fun _ => hS) (wpMix_of_L order a w.drew h5 h)
  rw [h3] at this
  simpa using this

/-- The end. -/
theorem wpMix_nil {a : Act} {w : World} (h : Q .normal a w) : wpMixL P ops (NoPanic Q) S nl eff [] a w := h

/-- An operation that reads or reckons, and runs. -/
theorem wpMix_read {i : Nat} {rest : List (Nat × Oper)} {o : Oper} {a : Act} {w : World} {v : Value} (he : eff.contains i = false) (hw : Region.wanted o (yielded ops a.tmps) = true)
    (hy : ∀ w', worldsOf S nl i w' → (execOp a.eval o).run P w' = .ok (.value v) w') (h : wpMixL P ops Q S nl eff rest (a.put o.dst v) w) : wpMixL P ops Q S nl eff ((i, o) :: rest) a w := by
  unfold wpMixL
  rw [he]
  exact ⟨v, .inl ⟨hw, hy⟩, h⟩

/-- An operation that its guard passes over. -/
theorem wpMix_skip {i : Nat} {rest : List (Nat × Oper)} {o : Oper} {a : Act} {w : World} (he : eff.contains i = false) (hw : Region.wanted o (yielded ops a.tmps) = false)
    (h : wpMixL P ops Q S nl eff rest (a.put o.dst undef) w) : wpMixL P ops Q S nl eff ((i, o) :: rest) a w := by
  unfold wpMixL
  rw [he]
  exact ⟨undef, .inr ⟨hw, rfl⟩, h⟩

/-- An effect that is passed over by its guard. -/
theorem wpMix_skipe {i : Nat} {rest : List (Nat × Oper)} {o : Oper} {a : Act} {w : World} (he : eff.contains i = true) (hw : Region.wanted o (yielded ops a.tmps) = false)
    (hS : nl.contains i = true → S w) (h : wpMixL P ops Q S nl eff rest (a.put o.dst undef) w) : wpMixL P ops Q S nl eff ((i, o) :: rest) a w := by
  unfold wpMixL
  rw [he, if_pos rfl, hw, if_neg (by simp)]
  exact ⟨hS, h⟩

/-- An effect. -/
theorem wpMix_eff {i : Nat} {rest : List (Nat × Oper)} {o : Oper} {a : Act} {w : World} (he : eff.contains i = true) (hw : Region.wanted o (yielded ops a.tmps) = true)
    (h : ∀ K : Act → World → Prop, Shut (∀ a' w', (nl.contains i = true → S w') → wpMixL P ops Q S nl eff rest a' w' → K a' w') → o.wp P a w K Q) : wpMixL P ops Q S nl eff ((i, o) :: rest) a w := by
  unfold wpMixL
  rw [he, if_pos rfl, hw, if_pos rfl]
  exact .inl (h _ fun a' w' h1 h2 => ⟨h1, h2⟩)
end
end Go.Proofs.YtkoomlbnfhdhcaaGreatDoor
