/-
  Plain: the change of two changes.
-/
import Derived.Test.YtemcabepbncicaaDoorAccM
namespace Go.Proofs.YtemcabepbncicaaDoor
open Go.RowKit

theorem lead_join (f : UInt8 → Bool) (h : f 44 = false) (y : List UInt8) : ∀ x, lead f (x ++ 44 :: y) = lead f x
  | [] => by simp [lead, h]
  | b :: l => by simp only [List.cons_append, lead, lead_join f h y l]
theorem getD_left (x y : List UInt8) (n : Nat) (h : n < x.length) : (x ++ y).getD n 0 = x.getD n 0 := by
  rw [List.getD_eq_getElem?_getD, List.getD_eq_getElem?_getD, List.getElem?_append_left h]
theorem getD_at (x y : List UInt8) : (x ++ 44 :: y).getD x.length 0 = 44 := by
  rw [List.getD_eq_getElem?_getD, List.getElem?_append_right (Nat.le_refl _)]
  simp
theorem noClause_join (x y : List UInt8) : noClause (x ++ 44 :: y) = noClause x := by
  unfold noClause
  rw [lead_join isCls (by decide)]
  have h1 := lead_le isCls x
  by_cases h : lead isCls x = x.length
  · rw [h, getD_at]
    have : signB 44 = false := by decide
    simp [this]
  · rw [getD_left _ _ _ (by omega)]
    have e1 : (lead isCls x == (x ++ 44 :: y).length) = false := beq_eq_false_iff_ne.2 (by simp; omega)
    have e2 : (lead isCls x == x.length) = false := beq_eq_false_iff_ne.2 h
    rw [e1, e2]
theorem clLen_join (x y : List UInt8) (h : ¬ noClause x = true) : clLen (x ++ 44 :: y) = clLen x ∧ stepN (x ++ 44 :: y) = stepN x := by
  have h1 := clLen_le x h
  have h0 := lead_le isCls x
  have hl : lead isCls x < x.length := by
    have := lead_le isBit (x.drop (lead isCls x + 1))
    unfold noClause at h
    simp at h
    omega
  have hd : (x ++ 44 :: y).drop (lead isCls x + 1) = x.drop (lead isCls x + 1) ++ 44 :: y := by
    rw [List.drop_append_of_le_length (by omega)]
  have hb := lead_le isBit (x.drop (lead isCls x + 1))
  have hc : clCls (x ++ 44 :: y) = clCls x := by
    unfold clCls
    rw [lead_join isCls (by decide), List.take_append_of_le_length h0]
  refine ⟨?_, ?_⟩
  · unfold clLen
    rw [lead_join isCls (by decide), hd, lead_join isBit (by decide)]
  · funext m
    unfold stepN clBits
    rw [hc, lead_join isCls (by decide), hd, lead_join isBit (by decide), List.take_append_of_le_length hb, getD_left _ _ _ hl]

/-- What a run answers, without the offset. -/
def two (r : Nat × Nat × Nat) : Nat × Nat := (r.1, r.2.2)

theorem go_free : ∀ (f g : Nat) (a b : Nat) (l : List UInt8) (m : Nat), l.length < f → l.length < g → two (applyGo f a l m) = two (applyGo g b l m)
  | 0, _, _, _, _, _, h, _ => by omega
  | _ + 1, 0, _, _, _, _, _, h => by omega
  | f + 1, g + 1, a, b, l, m, hf, hg => by
    unfold applyGo
    by_cases h1 : noClause l = true
    · rw [if_pos h1, if_pos h1]; rfl
    rw [if_neg h1, if_neg h1]
    have hle := clLen_le l h1
    by_cases h2 : clLen l = l.length
    · rw [if_pos h2, if_pos h2]
    rw [if_neg h2, if_neg h2]
    by_cases h3 : l.getD (clLen l) 0 = 44
    · rw [if_pos h3, if_pos h3]
      exact go_free f g _ _ _ _ (by rw [List.length_drop]; omega) (by rw [List.length_drop]; omega)
    · rw [if_neg h3, if_neg h3]; rfl

theorem go_kind : ∀ (f : Nat) (a : Nat) (l : List UInt8) (m : Nat), l.length < f → m < 2048 → ((applyGo f a l m).2.2 = 0 ∧ (applyGo f a l m).1 < 2048) ∨ ((applyGo f a l m).2.2 = 30 ∧ (applyGo f a l m).1 = 0)
  | 0, _, _, _, h, _ => by omega
  | f + 1, a, l, m, hf, hm => by
    unfold applyGo
    by_cases h1 : noClause l = true
    · rw [if_pos h1]; exact .inr ⟨rfl, rfl⟩
    rw [if_neg h1]
    have hle := clLen_le l h1
    have hst := stepN_lt l m hm
    by_cases h2 : clLen l = l.length
    · rw [if_pos h2]; exact .inl ⟨rfl, hst⟩
    rw [if_neg h2]
    by_cases h3 : l.getD (clLen l) 0 = 44
    · rw [if_pos h3]
      exact go_kind f _ _ _ (by rw [List.length_drop]; omega) hst
    · rw [if_neg h3]; exact .inr ⟨rfl, rfl⟩

theorem applyGo_succ (f a : Nat) (l : List UInt8) (m : Nat) : applyGo (f + 1) a l m = (if noClause l = true then (0, a + lead isCls l, 30)
    else if clLen l = l.length then (stepN l m, 0, 0)
    else if l.getD (clLen l) 0 = 44 then applyGo f (a + clLen l + 1) (l.drop (clLen l + 1)) (stepN l m)
    else (0, a + clLen l, 30)) := rfl

theorem go_join (y : List UInt8) : ∀ (f a : Nat) (x : List UInt8) (m : Nat) (g b : Nat), x.length < f → (x ++ 44 :: y).length < g → m < 2048 →
    ((applyGo f a x m).2.2 = 0 ∧ two (applyGo g b (x ++ 44 :: y) m) = two (applyGo (y.length + 1) 0 y (applyGo f a x m).1)) ∨ (¬ (applyGo f a x m).2.2 = 0 ∧ two (applyGo g b (x ++ 44 :: y) m) = (0, 30))
  | 0, _, _, _, _, _, h, _, _ => by omega
  | _ + 1, _, _, _, 0, _, _, h, _ => by omega
  | f + 1, a, x, m, g + 1, b, hf, hg, hm => by
    rw [applyGo_succ f a x m, applyGo_succ g b (x ++ 44 :: y) m, noClause_join]
    have hlen : (x ++ 44 :: y).length = x.length + (y.length + 1) := by simp
    by_cases h1 : noClause x = true
    · rw [if_pos h1, if_pos h1]; exact .inr ⟨by simp, rfl⟩
    rw [if_neg h1, if_neg h1]
    have hle := clLen_le x h1
    have hst := stepN_lt x m hm
    obtain ⟨e1, e2⟩ := clLen_join x y h1
    rw [e1, e2]
    have h2' : ¬ clLen x = (x ++ 44 :: y).length := by omega
    by_cases h2 : clLen x = x.length
    · rw [if_pos h2, if_neg h2', h2, getD_at, if_pos rfl]
      refine .inl ⟨rfl, ?_⟩
      have hd : (x ++ 44 :: y).drop (x.length + 1) = y := by rw [List.drop_append]; simp
      rw [hd]
      exact go_free _ _ _ _ _ _ (by omega) (by omega)
    rw [if_neg h2, if_neg h2', getD_left _ _ _ (by omega)]
    by_cases h3 : x.getD (clLen x) 0 = 44
    · rw [if_pos h3, if_pos h3]
      have hd : (x ++ 44 :: y).drop (clLen x + 1) = x.drop (clLen x + 1) ++ 44 :: y := by rw [List.drop_append_of_le_length (by omega)]
      rw [hd]
      exact go_join y f _ _ _ g _ (by rw [List.length_drop]; omega) (by simp; omega) hst
    · rw [if_neg h3, if_neg h3]; exact .inr ⟨by simp, rfl⟩

theorem applyV_go (m : Nat) (l : List UInt8) (hm : m < 2048) (hl : l.length ≤ 100) : applyV m l = applyGo (l.length + 1) 0 l m := by
  unfold applyV
  rw [if_neg (by omega), if_neg (by omega)]
  rfl

/-- The law, without the program. -/
theorem joins_plain (m : Nat) (x y : List UInt8) (hm : m < 2048) (hl : (x ++ 44 :: y).length ≤ 100) :
    (applyV m x).1 < 2048 ∧
    (((applyV m x).2.2 = 0 ∧ (applyV ((applyV m x).1 : Nat) y).2.2 = 0 ∧ (applyV m (x ++ 44 :: y)).2.2 = 0 ∧ (applyV m (x ++ 44 :: y)).1 = (applyV ((applyV m x).1 : Nat) y).1) ∨
     ((¬ (applyV m x).2.2 = 0 ∨ ((applyV m x).2.2 = 0 ∧ ¬ (applyV ((applyV m x).1 : Nat) y).2.2 = 0)) ∧ (applyV m (x ++ 44 :: y)).2.2 = 30 ∧ (applyV m (x ++ 44 :: y)).1 = 0)) := by
  have hlen : (x ++ 44 :: y).length = x.length + (y.length + 1) := by simp
  have hk := go_kind (x.length + 1) 0 x m (by omega) hm
  have hj := go_join y (x.length + 1) 0 x m ((x ++ 44 :: y).length + 1) 0 (by omega) (by omega) hm
  rw [applyV_go m x hm (by omega), applyV_go m _ hm hl]
  generalize applyGo (x.length + 1) 0 x m = A at *
  generalize applyGo ((x ++ 44 :: y).length + 1) 0 (x ++ 44 :: y) m = C at *
  have hA : A.1 < 2048 := by omega
  refine ⟨hA, ?_⟩
  rw [applyV_go A.1 y hA (by omega)]
  have hk2 := go_kind (y.length + 1) 0 y A.1 (by omega) hA
  generalize applyGo (y.length + 1) 0 y A.1 = B at *
  unfold two at hj
  simp only [Prod.mk.injEq] at hj
  omega
end Go.Proofs.YtemcabepbncicaaDoor
