/-
  Walks: letters, inClasses, allOf.
-/
import Derived.Test.YtemcabepbncicaaDoorAccB
namespace Go.Proofs.YtemcabepbncicaaDoor
open Go.RowKit

/-- Three classes. -/
def clsV (c : Nat → Bool) : Value := .agg #[.bool (c 0), .bool (c 1), .bool (c 2)]
def shAt : Nat → Nat
  | 0 => 64
  | 1 => 8
  | _ => 1
/-- The bits of a mode that are given bits of each of some classes. -/
def inC (v : Nat) (c : Nat → Bool) : Nat → Nat
  | 0 => 0
  | j + 1 => if c j then inC v c j ||| (v * shAt j) else inC v c j
theorem inC_lt (v : Nat) (hv : v < 8) (c : Nat → Bool) : ∀ j, inC v c j < 512
  | 0 => by simp [inC]
  | j + 1 => by
    unfold inC
    have ih := inC_lt v hv c j
    split
    · refine Nat.or_lt_two_pow (n := 9) ih ?_
      have : shAt j ≤ 64 := by unfold shAt; split <;> omega
      exact Nat.lt_of_le_of_lt (Nat.mul_le_mul_left v this) (by omega)
    · exact ih

theorem idx49 (a b c : Value) (W : World) : (Instr.index 49 (.agg #[a, b, c]) (.int .i64 0)).run Tryd.prog W = .ok a W ∧ (Instr.index 49 (.agg #[a, b, c]) (.int .i64 1)).run Tryd.prog W = .ok b W ∧ (Instr.index 49 (.agg #[a, b, c]) (.int .i64 2)).run Tryd.prog W = .ok c W := by
  refine ⟨?_, ?_, ?_⟩ <;> kernel_rfl

set_option maxHeartbeats 1000000 in
theorem inClasses_any (w : World) (v : Nat) (c : Nat → Bool) (hv : v < 8) (hs : Sh w) :
    Calls Tryd.prog 50 #[.int .i64 v, clsV c] w fun e w' => e = .returned (.int .i64 (inC v c 3)) ∧ Below w.heap.size w w' := by
  obtain ⟨h0, s0, s1, s2⟩ := hs
  have ha : Below w.heap.size w (w.alloc (.cells #[.bool (c 0), .bool (c 1), .bool (c 2)] 49)) := (Below.refl _ _).alloc (Nat.le_refl _) _
  have i0 := fun W => (idx49 (.bool (c 0)) (.bool (c 1)) (.bool (c 2)) W).1
  have i1 := fun W => (idx49 (.bool (c 0)) (.bool (c 1)) (.bool (c 2)) W).2.1
  have i2 := fun W => (idx49 (.bool (c 0)) (.bool (c 1)) (.bool (c 2)) W).2.2
  unfold clsV
  go_enter Tryd.func50, Tryd.ntmps50
  go_wp2_with fail
  go_loopg [5, 9] 3 (fun q bv iv wr => wr = w.alloc (.cells #[.bool (c 0), .bool (c 1), .bool (c 2)] 49) ∧ ∃ (j b : Nat), iv = .int .i64 j ∧ q = 3 - j ∧ j ≤ 3 ∧ b = inC v c j ∧ bv = .int .i64 b)
  case atStart => exact ⟨rfl, 0, 0, rfl, rfl, by omega, rfl, rfl⟩
  case round =>
    obtain ⟨rfl, j, b, rfl, rfl, hj, hb, rfl⟩ := hrel
    have hbl : b < 512 := by rw [hb]; exact inC_lt v hv c j
    by_cases hlt : j < 3
    · have hor := i64_or_nat b (v * shAt j) (by omega) (by
        have : shAt j ≤ 64 := by unfold shAt; split <;> omega
        exact Nat.lt_of_le_of_lt (Nat.mul_le_mul_left v this) (by omega))
      have hnext : inC v c (j + 1) = if c j then b ||| (v * shAt j) else b := by rw [hb]; rfl
      have HN := Lib.hid hnext
      clear hnext hb
      match j, hlt with
      | 0, _ =>
        have ho : bits .or .i64 (b : Int) ((v : Int) * 64) = ((b ||| (v * shAt 0) : Nat) : Int) := by rw [← hor]; congr 1
        clear hor
        go_wp2_with fail
        · go_roundg (3 - (0 + 1))
          case measure => omega
          case rel => exact ⟨by simp [*], 0 + 1, _, by go_num, rfl, by omega, by rw [HN.out]; simp [*], rfl⟩
        · go_roundg (3 - (0 + 1))
          case measure => omega
          case rel => exact ⟨by simp [*], 0 + 1, b, by go_num, rfl, by omega, by rw [HN.out]; simp [*], rfl⟩
      | 1, _ =>
        have ho : bits .or .i64 (b : Int) ((v : Int) * 8) = ((b ||| (v * shAt 1) : Nat) : Int) := by rw [← hor]; congr 1
        clear hor
        go_wp2_with fail
        · go_roundg (3 - (1 + 1))
          case measure => omega
          case rel => exact ⟨by simp [*], 1 + 1, _, by go_num, rfl, by omega, by rw [HN.out]; simp [*], rfl⟩
        · go_roundg (3 - (1 + 1))
          case measure => omega
          case rel => exact ⟨by simp [*], 1 + 1, b, by go_num, rfl, by omega, by rw [HN.out]; simp [*], rfl⟩
      | 2, _ =>
        have ho : bits .or .i64 (b : Int) ((v : Int)) = ((b ||| (v * shAt 2) : Nat) : Int) := by rw [← hor]; rw [show shAt 2 = 1 from rfl, Nat.mul_one]
        clear hor
        go_wp2_with fail
        · go_roundg (3 - (2 + 1))
          case measure => omega
          case rel => exact ⟨by simp [*], 2 + 1, _, by go_num, rfl, by omega, by rw [HN.out]; simp [*], rfl⟩
        · go_roundg (3 - (2 + 1))
          case measure => omega
          case rel => exact ⟨by simp [*], 2 + 1, b, by go_num, rfl, by omega, by rw [HN.out]; simp [*], rfl⟩
    · obtain rfl : j = 3 := by omega
      have HB := Lib.hid hb
      clear hb
      go_wp2_with fail
      go_ret
      exact ⟨by rw [← HB.out]; rfl, ha⟩
end Go.Proofs.YtemcabepbncicaaDoor
