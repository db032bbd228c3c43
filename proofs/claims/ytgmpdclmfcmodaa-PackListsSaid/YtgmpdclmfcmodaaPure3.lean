/-
  The plain laws of unpacking.
-/
import Derived.Test.YtgmpdclmfcmodaaPure2
namespace Go.Proofs.Ytgmpdclmfcmodaa.Pk

/-- The token at the beginning of a packed form, and how many bytes it has; or the number of the error. -/
def tokenOf (p : List UInt8) : Except Nat (Tok × Nat) :=
  if (p.getD 0 0).toNat < 128 then
    if p.length < (p.getD 0 0).toNat + 2 then .error 28 else .ok (⟨(p.take ((p.getD 0 0).toNat + 2)).drop 1, 0, 0⟩, (p.getD 0 0).toNat + 2)
  else if p.length < 3 then .error 28
  else if 4096 < (p.getD 1 0).toNat * 256 + (p.getD 2 0).toNat + 1 then .error 2
  else .ok (⟨[], (p.getD 1 0).toNat * 256 + (p.getD 2 0).toNat + 1, (p.getD 0 0).toNat - 124⟩, 3)

theorem tokenOf_ok {p : List UInt8} {t : Tok} {s : Nat} (h : tokenOf p = .ok (t, s)) : 2 ≤ s ∧ s ≤ p.length ∧ t.dist ≤ 4096 ∧ t.len ≤ 131 ∧ t.lit.length ≤ 128 ∧ (0 < t.len → 0 < t.dist) := by
  unfold tokenOf at h
  have := (p.getD 0 0).toNat_lt
  split at h
  · split at h
    · cases h
    · injection h with h
      injection h with h1 h2
      subst h1 h2
      refine ⟨by omega, by omega, by simp, by simp, ?_, by simp⟩
      simp only [List.length_drop, List.length_take]
      omega
  · split at h
    · cases h
    · split at h
      · cases h
      · injection h with h
        injection h with h1 h2
        subst h1 h2
        exact ⟨by omega, by omega, by simp only; omega, by simp only; omega, by simp, by simp⟩

theorem tokenOf_err {p : List UInt8} {n : Nat} (h : tokenOf p = .error n) : n = 28 ∨ n = 2 := by
  unfold tokenOf at h
  split at h
  · split at h
    · injection h with h; exact .inl h.symm
    · cases h
  · split at h
    · injection h with h; exact .inl h.symm
    · split at h
      · injection h with h; exact .inr h.symm
      · cases h

/-- The bytes behind a match are copied one by one. -/
def copyN (d : Nat) : Nat → List UInt8 → List UInt8
  | 0, t => t
  | n + 1, t => copyN d n t ++ [(copyN d n t).getD ((copyN d n t).length - d) 0]
theorem copyN_length (d : Nat) : ∀ n t, (copyN d n t).length = t.length + n
  | 0, _ => rfl
  | n + 1, t => by simp [copyN, copyN_length d n t]; omega

/-- What unpacking does from a token on. -/
def unpackGo (bg most : Nat) : Nat → Nat → List UInt8 → List UInt8 → Except (Nat × Nat) (List UInt8)
  | 0, _, _, text => .ok (text.drop bg)
  | f + 1, at_, rest, text =>
    if rest = [] then .ok (text.drop bg) else
    match tokenOf rest with
    | .error n => .error (at_, n)
    | .ok (t, s) => if text.length < t.dist then .error (at_, 2)
      else if most < text.length - bg + t.lit.length + t.len then .error (at_, 5)
      else unpackGo bg most f (at_ + s) (rest.drop s) (copyN t.dist t.len (text ++ t.lit))

def unpack (dict p : List UInt8) (most : Int) : Except (Nat × Nat) (List UInt8) :=
  if most < 0 ∨ 1048576 < most then .error (0, 2) else if 1048576 < dict.length then .error (0, 5) else unpackGo dict.length most.toNat p.length 0 p dict

theorem unpackGo_nil (bg most f at_ : Nat) (text : List UInt8) : unpackGo bg most f at_ [] text = .ok (text.drop bg) := by
  cases f <;> simp [unpackGo]

theorem unpackGo_more (bg most : Nat) : ∀ f at_ rest text g, rest.length ≤ f → unpackGo bg most (f + g) at_ rest text = unpackGo bg most f at_ rest text
  | 0, at_, rest, text, g, h => by
    have : rest = [] := List.eq_nil_of_length_eq_zero (by omega)
    subst this
    rw [unpackGo_nil, unpackGo_nil]
  | f + 1, at_, rest, text, g, h => by
    rw [show f + 1 + g = (f + g) + 1 by omega]
    unfold unpackGo
    by_cases hr : rest = []
    · rw [if_pos hr, if_pos hr]
    · rw [if_neg hr, if_neg hr]
      cases ht : tokenOf rest with
      | error n => rfl
      | ok x =>
        obtain ⟨t, s⟩ := x
        have := tokenOf_ok ht
        simp only
        rw [unpackGo_more bg most f _ (rest.drop s) _ g (by rw [List.length_drop]; omega)]

theorem unpackGo_step (bg most at_ : Nat) (rest text : List UInt8) (hr : rest ≠ []) : unpackGo bg most rest.length at_ rest text =
    match tokenOf rest with
    | .error n => .error (at_, n)
    | .ok (t, s) => if text.length < t.dist then .error (at_, 2)
      else if most < text.length - bg + t.lit.length + t.len then .error (at_, 5)
      else unpackGo bg most (rest.drop s).length (at_ + s) (rest.drop s) (copyN t.dist t.len (text ++ t.lit)) := by
  have hl : rest.length = (rest.length - 1) + 1 := by
    have := List.length_pos_iff.2 hr
    omega
  conv => lhs; rw [hl]; unfold unpackGo
  rw [if_neg hr]
  cases ht : tokenOf rest with
  | error n => rfl
  | ok x =>
    obtain ⟨t, s⟩ := x
    have := tokenOf_ok ht
    simp only
    have e : rest.length - 1 = (rest.drop s).length + (s - 1) := by rw [List.length_drop]; omega
    rw [e, unpackGo_more bg most _ _ _ _ _ (Nat.le_refl _)]

/-- Texts stay within their limits. -/
theorem unpackGo_length (bg most : Nat) : ∀ f at_ rest text l, bg ≤ text.length → text.length ≤ bg + most → unpackGo bg most f at_ rest text = .ok l → l.length ≤ most
  | 0, _, _, text, l, h1, h2, h => by
    injection h with h
    subst h
    rw [List.length_drop]; omega
  | f + 1, at_, rest, text, l, h1, h2, h => by
    unfold unpackGo at h
    by_cases hr : rest = []
    · rw [if_pos hr] at h
      injection h with h
      subst h
      rw [List.length_drop]; omega
    · rw [if_neg hr] at h
      cases ht : tokenOf rest with
      | error n => rw [ht] at h; cases h
      | ok x =>
        obtain ⟨t, s⟩ := x
        rw [ht] at h
        simp only at h
        by_cases h3 : text.length < t.dist
        · rw [if_pos h3] at h; cases h
        · rw [if_neg h3] at h
          by_cases h4 : most < text.length - bg + t.lit.length + t.len
          · rw [if_pos h4] at h; cases h
          · rw [if_neg h4] at h
            refine unpackGo_length bg most f _ _ _ l ?_ ?_ h
            · rw [copyN_length, List.length_append]; omega
            · rw [copyN_length, List.length_append]; omega
theorem unpack_length (dict p : List UInt8) (most : Int) (l : List UInt8) (h : unpack dict p most = .ok l) : (l.length : Int) ≤ most := by
  unfold unpack at h
  split at h
  · cases h
  · split at h
    · cases h
    · have := unpackGo_length dict.length most.toNat _ _ _ _ _ (Nat.le_refl _) (by omega) h
      omega
end Go.Proofs.Ytgmpdclmfcmodaa.Pk
