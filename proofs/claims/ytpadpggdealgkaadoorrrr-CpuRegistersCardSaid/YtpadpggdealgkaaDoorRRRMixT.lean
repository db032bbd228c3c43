/-
  A region that draws its order, where several effects may come up in any order: walked as a tree. Over any program.
-/
import Derived.Test.YtpadpggdealgkaaDoorRRRMixS
namespace Go.Proofs.YtpadpggdealgkaaDoorRRR

def wpT (P : Program) (l : List Oper) (Q : Exit → Act → World → Prop) (nl : List Nat) (fuel : Nat) (S : World → Prop) (listed : Array Bool) (a : Act) (w : World) : Prop :=
  (pend nl listed = true → S w) → wpAnyS P .any l.toArray Q nl fuel S listed a w
def TOk (l : List Oper) (nl : List Nat) : Prop := Region.noSelect l.toArray = true ∧ lateB .any l.toArray nl = true
def EffT (P : Program) (l : List Oper) (Q : Exit → Act → World → Prop) (nl : List Nat) (fuel : Nat) (S : World → Prop) (listed : Array Bool) (a : Act) (w : World) (i : Nat) : Prop :=
  wpOp P l.toArray Q i (fun a' w' => ∃ S' : World → Prop, (∀ x, S' x → S x) ∧ (nl.contains i = true → S' w') ∧ wpAnyS P .any l.toArray Q nl fuel S' (listed.setIfInBounds i true) a' w') a w
section
variable {P : Program} {l : List Oper} {Q : Exit → Act → World → Prop} {nl : List Nat} {fuel : Nat} {S : World → Prop} {listed : Array Bool} {a : Act} {w : World}
theorem wpT_read (hk : TOk l nl) (i : Nat) (hi : i < l.length) (hB : ((Region.ready .any l.toArray listed).contains i && Region.free .any l.toArray listed i) = true) {o : Oper} (ho : opAt l i = o) {v : Value} (hw : Region.wanted o (yielded l.toArray a.tmps) = true)
    (hy : ∀ w', worldsOf S nl i w' → (execOp a.eval o).run P w' = .ok (.value v) w')
    (h : wpT P l (NoPanic Q) nl fuel S (listed.setIfInBounds i true) (a.put o.dst v) w) : wpT P l (NoPanic Q) nl (fuel + 1) S listed a w := by
  subst ho
  intro hS
  have ho : l.toArray[i]? = some (opAt l i) := by
    rw [List.getElem?_toArray]
    exact opAt_get l i hi
  rw [Bool.and_eq_true] at hB
  exact wpAnyS_first ho (Region.noSelect_spec hk.1) (fun _ _ _ h => h) hk.2 fuel S listed a w (Region.free_spec ho hB.2) (by simpa using hB.1) (.inl ⟨hw, hy⟩) hS (h fun hp => hS (pend_mono hp))
theorem wpT_eff (hk : TOk l nl) (i : Nat) (hi : i < l.length) (hB : (Region.ready .any l.toArray listed).contains i = true) {o : Oper} (ho : opAt l i = o) (hw : Region.wanted o (yielded l.toArray a.tmps) = true)
    (h : ∀ K : Act → World → Prop, Shut (∀ (S' : World → Prop) a' w', (∀ x, S' x → S x) → (nl.contains i = true → S' w') → wpT P l (NoPanic Q) nl fuel S' (listed.setIfInBounds i true) a' w' → K a' w') → o.wp P a w K (NoPanic Q)) : EffT P l (NoPanic Q) nl fuel S listed a w i := by
  subst ho
  have ho : l.toArray[i]? = some (opAt l i) := by
    rw [List.getElem?_toArray]
    exact opAt_get l i hi
  unfold EffT wpOp
  simp only [ho]
  rw [if_pos hw]
  refine .inl (h _ fun S' a' w' h0 h1 h2 => ⟨S', h0, h1, h2 fun hp => ?_⟩)
  cases hc : nl.contains i with
  | true => exact h1 hc
  | false =>
    have := lateB_spec hk.2 (by simpa using hB) hc
    rw [pend_mono hp] at this
    cases this
theorem wpT_br (r : List Nat) (hr : Region.ready .any l.toArray listed = r) (hne : r.isEmpty = false) (h : ∀ i ∈ r, EffT P l Q nl fuel S listed a w i) : wpT P l Q nl (fuel + 1) S listed a w := by
  subst hr
  exact fun _ => ⟨fun h0 => (by rw [h0] at hne; cases hne), fun i hi => h i hi⟩
theorem wpT_nil (hr : Region.ready .any l.toArray listed = []) (h : Q .normal a w) : wpT P l (NoPanic Q) nl 0 S listed a w := fun _ => ⟨hr, h⟩
theorem wp_region_T {id : Nat} (S : World → Prop) (nl : List Nat) (n : Nat) (hn : l.length = n) (hm : P.follows .mixedOrders = true) (hk : (Region.noSelect l.toArray && lateB .any l.toArray nl) = true) (hS : S w.drew)
    (h : TOk l nl → wpT P l (NoPanic Q) nl n S (Array.replicate n false) a w.drew) : (Code.region id l.toArray true).wp P Q a w := by
  subst hn
  refine wp_region_noPanic (wp_region_any hm (wpAny_of_mixS (nl := nl) _ S _ _ _ ?_))
  rw [Bool.and_eq_true] at hk
  have := h ⟨hk.1, hk.2⟩ fun _ => hS
  simpa using this
end
/-- What a piece of code leaves, told apart from what follows. -/
theorem wp_cutR {P : Program} {c : Code} {Q : Exit → Act → World → Prop} {a : Act} {W : World} (R : Act → World → Prop) (h1 : Code.wp P c (fun e a w => e = .normal ∧ R a w) a W) (h2 : ∀ a w, R a w → Q .normal a w) : Code.wp P c Q a W :=
  Code.wp_mono (fun e a w ⟨he, hr⟩ => by subst he; exact h2 a w hr) h1
end Go.Proofs.YtpadpggdealgkaaDoorRRR
