/-
  Plain: two runs, one after the other, against one.
-/
import Derived.Test.YtkoomlbnfhdhcaaGreatDoorPlE
import Derived.Test.YtkoomlbnfhdhcaaGreatDoorCpL
namespace Go.Proofs.YtkoomlbnfhdhcaaGreatDoor
open Go.RowKit
set_option linter.unusedVariables false

theorem runA_unk (m : Nat) (g : Rg) {a : AS} (h : Unk a) : Unk (runA m g a).a := (loopA_M m 0 g h).2.2.2.2
theorem bud_go (i k : Nat) (g : Rg) {a : AS} (h : Unk a) (hw : (runA i g a).e.why = 1) :
    (runA (i + k) g a).g = (runA k (runA i g a).g (runA i g a).a).g ∧ (runA (i + k) g a).e = (runA k (runA i g a).g (runA i g a).a).e ∧
      (runA (i + k) g a).n = (runA k (runA i g a).g (runA i g a).a).n + (runA i g a).n ∧ effP (runA (i + k) g a).a = effP (runA k (runA i g a).g (runA i g a).a).a := by
  obtain ⟨x1, x2, x3, x4, x5⟩ := loopA_M i 0 g h
  obtain ⟨y1, y2, y3, y4, y5⟩ := loopA_M k 0 (loopA i 0 g a).g x5
  obtain ⟨z1, z2, z3, z4, z5⟩ := loopA_M (i + k) 0 g h
  unfold runA at hw ⊢
  have hb := ((loopM_add i k 0 g (effP a)).1 (by rw [← x3]; exact hw)).1
  obtain ⟨n1, n2, n3, n4⟩ := loopM_n k 0 (loopM i 0 g (effP a)).n (loopM i 0 g (effP a)).g (loopM i 0 g (effP a)).m
  rw [Nat.zero_add] at n1 n2 n3 n4
  have e1 : loopM k 0 (loopA i 0 g a).g (effP (loopA i 0 g a).a) = loopM k 0 (loopM i 0 g (effP a)).g (loopM i 0 g (effP a)).m := by rw [x1, x2]
  rw [e1] at y1 y2 y3 y4
  rw [hb] at z1 z2 z3 z4
  exact ⟨z1.trans (n1.trans y1.symm), z3.trans (n3.trans y3.symm), z4.trans (n4.trans (by rw [y4, x4])), z2.trans (n2.trans y2.symm)⟩
theorem bud_end (i k : Nat) (g : Rg) {a : AS} (h : Unk a) (hw : (runA i g a).e.why ≠ 1) :
    ((runA k (runA i g a).g (runA i g a).a).g = (runA i g a).g ∧ (runA k (runA i g a).g (runA i g a).a).n = 0 ∧ (k = 0 → (runA k (runA i g a).g (runA i g a).a).e = ⟨1, 0, 0⟩) ∧ (k ≠ 0 → (runA k (runA i g a).g (runA i g a).a).e = (runA i g a).e)) ∧
      ((runA (i + k) g a).g = (runA i g a).g ∧ (runA (i + k) g a).e = (runA i g a).e ∧ (runA (i + k) g a).n = (runA i g a).n) ∧ effP (runA (i + k) g a).a = effP (runA k (runA i g a).g (runA i g a).a).a := by
  obtain ⟨x1, x2, x3, x4, x5⟩ := loopA_M i 0 g h
  obtain ⟨y1, y2, y3, y4, y5⟩ := loopA_M k 0 (loopA i 0 g a).g x5
  obtain ⟨z1, z2, z3, z4, z5⟩ := loopA_M (i + k) 0 g h
  unfold runA at hw ⊢
  obtain ⟨hb, hs, h0⟩ := (loopM_add i k 0 g (effP a)).2 (by rw [← x3]; exact hw)
  have e1 : loopM k 0 (loopA i 0 g a).g (effP (loopA i 0 g a).a) = loopM k 0 (loopM i 0 g (effP a)).g (loopM i 0 g (effP a)).m := by rw [x1, x2]
  rw [e1] at y1 y2 y3 y4
  rw [hb] at z1 z2 z3 z4
  have e2 : ∀ k, k ≠ 0 → loopM k 0 (loopM i 0 g (effP a)).g (loopM i 0 g (effP a)).m = ⟨(loopM i 0 g (effP a)).g, (loopM i 0 g (effP a)).m, (loopM i 0 g (effP a)).e, 0⟩ := fun k hk => by
    obtain ⟨j, rfl⟩ : ∃ j, k = j + 1 := ⟨k - 1, by omega⟩
    rw [loopM_s, hs, if_neg h0]
  refine ⟨?_, ⟨z1.trans x1.symm, z3.trans x3.symm, z4.trans x4.symm⟩, ?_⟩
  · by_cases hk : k = 0
    · subst hk
      exact ⟨y1.trans x1.symm, y4, fun _ => y3, fun h => absurd rfl h⟩
    · rw [e2 k hk] at y1 y3 y4
      exact ⟨y1.trans x1.symm, y4, fun h => absurd h hk, fun _ => y3.trans x3.symm⟩
  · by_cases hk : k = 0
    · subst hk
      exact z2.trans y2.symm
    · rw [e2 k hk] at y2
      exact z2.trans y2.symm
end Go.Proofs.YtkoomlbnfhdhcaaGreatDoor
