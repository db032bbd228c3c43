/-
  The plain law: the tokens of a packed form.
-/
import Derived.Test.YtgmpdclmfcmodaaPure3
namespace Go.Proofs.Ytgmpdclmfcmodaa.Pk

/-- The tokens from a place on. -/
def tokGo : Nat → Nat → List UInt8 → List Tok → Except (Nat × Nat) (List Tok)
  | 0, _, _, acc => .ok acc
  | f + 1, at_, rest, acc =>
    if rest = [] then .ok acc else
    match tokenOf rest with
    | .error n => .error (at_, n)
    | .ok (t, s) => tokGo f (at_ + s) (rest.drop s) (acc ++ [t])

def tokens (p : List UInt8) : Except (Nat × Nat) (List Tok) := tokGo p.length 0 p []

theorem tokGo_nil (f at_ : Nat) (acc : List Tok) : tokGo f at_ [] acc = .ok acc := by
  cases f <;> simp [tokGo]

theorem tokGo_more : ∀ f at_ rest acc g, rest.length ≤ f → tokGo (f + g) at_ rest acc = tokGo f at_ rest acc
  | 0, at_, rest, acc, g, h => by
    have : rest = [] := List.eq_nil_of_length_eq_zero (by omega)
    subst this
    rw [tokGo_nil, tokGo_nil]
  | f + 1, at_, rest, acc, g, h => by
    rw [show f + 1 + g = (f + g) + 1 by omega]
    unfold tokGo
    by_cases hr : rest = []
    · rw [if_pos hr, if_pos hr]
    · rw [if_neg hr, if_neg hr]
      cases ht : tokenOf rest with
      | error n => rfl
      | ok x =>
        obtain ⟨t, s⟩ := x
        have := tokenOf_ok ht
        simp only
        rw [tokGo_more f _ (rest.drop s) _ g (by rw [List.length_drop]; omega)]

theorem tokGo_step (at_ : Nat) (rest : List UInt8) (acc : List Tok) (hr : rest ≠ []) : tokGo rest.length at_ rest acc =
    match tokenOf rest with
    | .error n => .error (at_, n)
    | .ok (t, s) => tokGo (rest.drop s).length (at_ + s) (rest.drop s) (acc ++ [t]) := by
  have hl : rest.length = (rest.length - 1) + 1 := by
    have := List.length_pos_iff.2 hr
    omega
  conv => lhs; rw [hl]; unfold tokGo
  rw [if_neg hr]
  cases ht : tokenOf rest with
  | error n => rfl
  | ok x =>
    obtain ⟨t, s⟩ := x
    have := tokenOf_ok ht
    simp only
    have e : rest.length - 1 = (rest.drop s).length + (s - 1) := by rw [List.length_drop]; omega
    rw [e, tokGo_more _ _ _ _ _ (Nat.le_refl _)]
end Go.Proofs.Ytgmpdclmfcmodaa.Pk
