/-
  A space with a source that counts, made by a law; plain laws of spaces whose pages are all known.
-/
import Derived.Test.YtbppafbdmdbdiaaSpY
import Derived.Test.YtbppafbdmdbdiaaFills
namespace Go.Proofs.Ytbppafbdmdbdiaa
open Go.RowKit
set_option linter.unusedVariables false

def newS (f : Nat → Option (List UInt8)) : AS := ⟨some f, fun _ => false, fun _ => false, fun _ => false, fun _ => none⟩
def one (g : Nat) (s : Sp) : Nat → Option Sp := upd (fun _ => none) g (some s)
def none_ : Pages := fun _ => none
theorem setup {w2 w5 : World} {pm B : Nat} {M : List (Int × Value)} (hB : B ≤ pm) (hM : MI w2 pm M) (hS : Strs M)
    (h1 : Blk w5 (w2.heap.size + 2) 80 #[getV (w2.heap.size + 1)]) (h2 : Blk w5 (w2.heap.size + 3) 86 (spCells ⟨fetchV (w2.heap.size + 2), fun _ => false, fun _ => false, fun _ => false, fun _ => none⟩))
    (h3 : Below (w2.heap.size + 2) ((w2.alloc (.map #[] 0)).alloc (.cells #[.map (some pm), .map (some w2.heap.size)] 37)) w5) :
    SourceOk (askedSrc (w2.heap.size + 2) (w2.heap.size + 1) pm w2.heap.size (w2.heap.size + 3) M) B ∧
    All (askedSrc (w2.heap.size + 2) (w2.heap.size + 1) pm w2.heap.size (w2.heap.size + 3) M) B w5 (one (w2.heap.size + 3) ⟨fetchV (w2.heap.size + 2), fun _ => false, fun _ => false, fun _ => false, fun _ => none⟩) none_ ∧
    Below w2.heap.size w2 w5 := by
  have hpm := hM.lt
  have hb0 : Below w2.heap.size w2 ((w2.alloc (.map #[] 0)).alloc (.cells #[.map (some pm), .map (some w2.heap.size)] 37)) := ((Below.refl _ _).alloc (Nat.le_refl _) _).alloc (by simp) _
  have hb := hb0.trans (h3.mono (by omega))
  have hc0 : MI ((w2.alloc (.map #[] 0)).alloc (.cells #[.map (some pm), .map (some w2.heap.size)] 37)) w2.heap.size [] := (MapIs.new w2).alloc _
  have ha0 : Blk ((w2.alloc (.map #[] 0)).alloc (.cells #[.map (some pm), .map (some w2.heap.size)] 37)) (w2.heap.size + 1) 37 #[.map (some pm), .map (some w2.heap.size)] := Blk.new_ _ _ _ (by simp)
  refine ⟨asked_ok _ _ _ _ _ M B (by omega) (by omega) hS, ⟨⟨fun k x hx => ?_, fun k b sh hx => (by cases hx), fun k x hx p q hq => ?_, fun k x k' x' p q r b _ _ _ _ hh => (by cases hh)⟩, fun x hx => ?_, fun k x hx hne => ?_, fun k x hx p hp => ?_⟩, hb⟩
  · rcases upd_some _ _ _ _ _ hx with ⟨rfl, rfl⟩ | ⟨_, hx⟩
    · exact ⟨h2, by omega⟩
    · cases hx
  · rcases upd_some _ _ _ _ _ hx with ⟨rfl, rfl⟩ | ⟨_, hx⟩
    · cases hq
    · cases hx
  · rcases upd_some _ _ _ _ _ hx with ⟨_, rfl⟩ | ⟨_, hx⟩
    · refine .inr ⟨rfl, h1, ha0.below h3 (by omega), hM.keep (hb.block pm hpm), [], hc0.keep (h3.block _ (by omega)), fun p _ => by rw [mget_nil]; rfl⟩
    · cases hx
  · rcases upd_some _ _ _ _ _ hx with ⟨rfl, rfl⟩ | ⟨_, hx⟩
    · exact absurd rfl hne
    · cases hx
  · rcases upd_some _ _ _ _ _ hx with ⟨_, rfl⟩ | ⟨_, hx⟩
    · exact ⟨rfl, rfl⟩
    · cases hx
theorem view_new_src (box a pm cm root : Nat) (M : List (Int × Value)) : view (askedSrc box a pm cm root M) none_ ⟨fetchV box, fun _ => false, fun _ => false, fun _ => false, fun _ => none⟩ = newS (srcM M) := by
  unfold view newS srcOf fetchV
  rfl

/-! ### All pages known -/
def Knows (a : AS) : Prop := ∀ p, p < 64 → a.known p = true
theorem needA_id (a : AS) (p : Nat) (h : a.known p = true) : needA a p = a := by unfold needA; rw [if_pos h]
theorem reachA_id (a : AS) (h : Knows a) : ∀ (c p : Nat), c + p ≤ 64 → (reachA c p a).1 = a
  | 0, p, _ => rfl
  | c + 1, p, hp => by
    unfold reachA
    rw [needA_id a p (h p (by omega))]
    split
    · exact reachA_id a h c (p + 1) (by omega)
    · rfl
theorem accessA_id (a : AS) (h : Knows a) (x n : Int) (hn : 0 ≤ n) : (accessA a x n).1 = a := by
  unfold accessA
  split
  · rfl
  · split
    · rfl
    · exact reachA_id a h _ _ (by omega)
theorem storeA_err (a : AS) (h : Knows a) (x : Int) (l : List UInt8) (he : (storeA a x l).2 ≠ 0) : (storeA a x l).1 = a := by
  unfold storeA at *
  rw [if_neg he]
  exact accessA_id a h x _ (by omega)
theorem mapA_err (a : AS) (h : Knows a) (p : Int) (l : List UInt8) (he : (mapA a p l).2 ≠ 0) : (mapA a p l).1 = a := by
  unfold mapA at *
  by_cases h1 : p < 0 ∨ 64 ≤ p
  · rw [if_pos h1]
  · rw [if_neg h1] at he ⊢
    have hk := needA_id a p.toNat (h _ (by omega))
    rw [hk] at he ⊢
    by_cases h2 : 64 < l.length
    · rw [if_pos h2]
    · rw [if_neg h2] at he ⊢
      by_cases h3 : (a.page p.toNat).isSome = true
      · rw [if_pos h3]
      · rw [if_neg h3] at he
        exact absurd rfl he
theorem unmapA_err (a : AS) (h : Knows a) (p : Int) (he : (unmapA a p).2 ≠ 0) : (unmapA a p).1 = a := by
  unfold unmapA at *
  by_cases h1 : p < 0 ∨ 64 ≤ p
  · rw [if_pos h1]
  · rw [if_neg h1] at he ⊢
    have hk := needA_id a p.toNat (h _ (by omega))
    rw [hk] at he ⊢
    by_cases h3 : (a.page p.toNat).isSome = true
    · rw [if_pos h3] at he
      exact absurd rfl he
    · rw [if_neg h3]
theorem needUp_id (a : AS) (h : Knows a) : ∀ k, k ≤ 64 → needUp k a = a
  | 0, _ => rfl
  | k + 1, hk => by
    show needA (needUp k a) k = a
    rw [needUp_id a h k (by omega), needA_id a k (h k (by omega))]
theorem needA_known_mono (a : AS) (p q : Nat) (h : a.known q = true) : (needA a p).known q = true := by
  unfold needA
  split
  · exact h
  · have : upd a.known p true q = true := by
      by_cases e : q = p
      · rw [e, upd_at]
      · rw [upd_ne _ _ _ _ e]; exact h
    split <;> exact this
theorem needUp_known (a : AS) : ∀ k p, p < k → (needUp k a).known p = true
  | k + 1, p, hp => by
    show (needA (needUp k a) k).known p = true
    by_cases e : p = k
    · rw [e]; exact needA_known _ _
    · exact needA_known_mono _ _ _ (needUp_known a k p (by omega))
theorem needUp_knows (a : AS) : Knows (needUp 64 a) := fun p hp => needUp_known a 64 p hp
theorem child_knows (a : AS) : Knows (childA a 64) := fun p hp => by simp [childA, hp]
theorem needA_changed (a : AS) (p : Nat) : (needA a p).changed = a.changed := by
  unfold needA
  split
  · rfl
  · split <;> rfl
theorem needUp_changed (a : AS) : ∀ k, (needUp k a).changed = a.changed
  | 0 => rfl
  | k + 1 => by
    show (needA (needUp k a) k).changed = _
    rw [needA_changed, needUp_changed a k]
theorem eqA_child (a : AS) : eqA a (childA a 64) = true := by
  unfold eqA eqUp
  rw [List.all_eq_true]
  intro p hp
  have := List.mem_range.1 hp
  simp [childA, this]
theorem chL_nil (a : AS) (h : ∀ p, p < 64 → a.changed p = false) : chL a 64 = [] := by
  unfold chL
  rw [List.filter_eq_nil_iff.2 (fun p hp => by rw [h p (List.mem_range.1 hp)]; simp)]
  rfl
end Go.Proofs.Ytbppafbdmdbdiaa
