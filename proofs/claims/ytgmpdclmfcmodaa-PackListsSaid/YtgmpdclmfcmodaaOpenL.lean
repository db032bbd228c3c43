/-
  From what a law is handed to words for memory: slices of byte strings.
-/
import Derived.Test.YtgmpdclmfcmodaaRow
import Derived.Test.YtgmpdclmfcmodaaLists
import Derived.Deep.Matrix
namespace Go.Proofs.Ytgmpdclmfcmodaa
open Go.RowKit

theorem rdl_of_rows {w : World} {base len cap : Nat} {a : Addr} {AA : Nat → Option Addr} {L C : Nat → Nat} {Z : Nat → List Int} (hl : len ≤ cap) (hm : cap ≤ maxLen)
    (hx : ∀ r, r < cap → w.cell? (a.add r) = some (.slice (AA r) (L r) (C r)) ∧ L r ≤ C r ∧ C r ≤ maxLen ∧ (Z r).length = C r ∧ (∀ n ∈ Z r, (Lit.int .u8 n).wf = true) ∧ (AA r = none → C r = 0) ∧
      ∀ a', AA r = some a' → base ≤ a'.block ∧ ∀ c, c < C r → w.cell? (a'.add c) = some (.int .u8 ((Z r).getD c 0))) :
    ∃ ls, RdL w w.heap.size (.slice (some a) len cap) ls := by
  have each : ∀ r, ∃ l : List UInt8, r < cap → RdB w w.heap.size (.slice (AA r) (L r) (C r)) l := by
    intro r
    by_cases hr : r < cap
    · obtain ⟨_, h1, h2, h3, h4, h5, h6⟩ := hx r hr
      have : IsRow .u8 w (AA r) (L r) (C r) (Z r) := by
        cases hA : AA r with
        | none =>
          have := h5 hA
          exact .inl ⟨rfl, by omega, this, List.eq_nil_of_length_eq_zero (by omega)⟩
        | some x => exact .inr ⟨x, rfl, h1, h2, h3, fun i hi => (h6 x hA).2 i (by omega), h4⟩
      obtain ⟨l, hl⟩ := rdb_of_row this
      exact ⟨l, fun _ => hl⟩
    · exact ⟨[], fun h => absurd h hr⟩
  obtain ⟨f, hf⟩ : ∃ f : Nat → List UInt8, ∀ r, r < cap → RdB w w.heap.size (.slice (AA r) (L r) (C r)) (f r) := ⟨fun r => Classical.choose (each r), fun r => Classical.choose_spec (each r)⟩
  refine ⟨(List.range len).map f, some a, cap, (List.range len).map fun r => .slice (AA r) (L r) (C r), by simp, by simpa using hl, hm, ⟨by simp, fun h0 => ⟨a, rfl, ?_, fun j u hu => ?_⟩⟩, fun j lv l h1 h2 => ?_⟩
  · simp at h0
    have h1 := (hx 0 (by omega)).1
    rcases Nat.lt_or_ge a.block w.heap.size with h2 | h2
    · exact h2
    · unfold World.cell? at h1
      rw [block_of_add, Array.getElem?_eq_none h2] at h1
      simp at h1
  · rw [List.getElem?_map] at hu
    cases hr : (List.range len)[j]? with
    | none => rw [hr] at hu; cases hu
    | some r =>
      rw [hr] at hu
      simp only [Option.map_some, Option.some.injEq] at hu
      subst hu
      obtain ⟨hj, hrj⟩ := List.getElem?_eq_some_iff.1 hr
      simp at hj hrj
      subst hrj
      exact (hx j (by omega)).1
  · rw [List.getElem?_map] at h1 h2
    cases hr : (List.range len)[j]? with
    | none => rw [hr] at h1; cases h1
    | some r =>
      rw [hr] at h1 h2
      simp only [Option.map_some, Option.some.injEq] at h1 h2
      subst h1 h2
      obtain ⟨hj, hrj⟩ := List.getElem?_eq_some_iff.1 hr
      simp at hj hrj
      subst hrj
      exact hf j (by omega)
end Go.Proofs.Ytgmpdclmfcmodaa
