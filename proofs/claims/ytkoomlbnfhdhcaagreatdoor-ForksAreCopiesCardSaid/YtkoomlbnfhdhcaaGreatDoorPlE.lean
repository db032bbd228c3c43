/-
  Plain: two spaces that show the same pages are equal.
-/
import Derived.Test.YtkoomlbnfhdhcaaGreatDoorPlM
import Derived.Test.YtkoomlbnfhdhcaaGreatDoorMSg
namespace Go.Proofs.YtkoomlbnfhdhcaaGreatDoor
open Go.RowKit
set_option linter.unusedVariables false

theorem needUp_unk {a : AS} (h : Unk a) : ∀ k, Unk (needUp k a)
  | 0 => h
  | k + 1 => (needUp_unk h k).need k
theorem needUp_eff {a : AS} (h : Unk a) : ∀ k, effP (needUp k a) = effP a
  | 0 => rfl
  | k + 1 => (need_eff (needUp_unk h k) k).trans (needUp_eff h k)
theorem needUp_kn (a : AS) : ∀ k p, p < k → (needUp k a).known p = true
  | 0, p, h => absurd h (by omega)
  | k + 1, p, h => by
    refine needE_known (needUp k a) k p ?_
    by_cases e : p = k
    · exact .inr e
    · exact .inl (needUp_kn a k p (by omega))
theorem eqA_eff {a b : AS} (ha : Unk a) (hb : Unk b) (h : effP a = effP b) : eqA (needUp 64 a) (needUp 64 b) = true := by
  unfold eqA eqUp
  rw [List.all_eq_true]
  intro p hp
  have hp := List.mem_range.1 hp
  rw [decide_eq_true_eq, ← eff_known (needUp_kn a 64 p hp), ← eff_known (needUp_kn b 64 p hp), needUp_eff ha, needUp_eff hb, h]
end Go.Proofs.YtkoomlbnfhdhcaaGreatDoor
