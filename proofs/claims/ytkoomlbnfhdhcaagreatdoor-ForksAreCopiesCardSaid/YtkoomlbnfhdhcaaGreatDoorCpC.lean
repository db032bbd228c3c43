/-
  Walks: Check of an instruction.
-/
import Derived.Test.YtkoomlbnfhdhcaaGreatDoorMCa
namespace Go.Proofs.YtkoomlbnfhdhcaaGreatDoor
open Go.RowKit
set_option linter.unusedVariables false

theorem range_alloc {w : World} {b o : Nat} {l : List Value} (h : w.rangeAt b o l) (hb : b < w.heap.size) (x : Obj) : (w.alloc x).rangeAt b o l := fun j v hv => by
  rw [← h j v hv]
  exact World.cell?_alloc_lt w x ⟨b, o + j, none⟩ hb

set_option maxRecDepth 100000 in
set_option maxHeartbeats 4000000 in
theorem check0 (w : World) (k : Nat) (a b c lo hi : Int) (s : ByteArray) (u v : Bool) (h1 : k < 27) (hw : 0 < w.heap.size) (hr : w.rangeAt 0 (k * 6) [.string s, .int .i64 0, .int .i64 lo, .int .i64 hi, .bool u, .bool v]) :
    Calls Tryz.prog 136 #[insV k a b c] w fun e w' => e = .returned (.int .i64 (chkF 0 lo hi a b c)) ∧ Below w.heap.size w w' := by
  have HR := Lib.hid (range_alloc hr hw (.cells #[.int .i64 k, .int .i64 a, .int .i64 b, .int .i64 c] 109))
  have hop : decide (0 ≤ (k : Int) ∧ (k : Int) < 27) = true := decide_eq_true ⟨by omega, by omega⟩
  have k1 : (k : Int) < 27 := by omega
  clear hr
  unfold insV
  by_cases ha : a = 0
  · by_cases hb : b = 0
    · by_cases hc : c = 0
      · cases hRa : isR a with
        | false =>
          have HL : Hid (chkF 0 lo hi a b c = 2) := Lib.hid (by simp only [chkF, hRa]; simp [fA, fB, fN, ha, hb, hc])
          have ea : (a != 0) = false := by simpa using ha
          have eb : (b != 0) = false := by simpa using hb
          have ec : (c != 0) = false := by simpa using hc
          clear ha hb hc
          go_enter Tryz.func136, Tryz.ntmps136
          go_wp2_with fail
          refine (isOp_any _ _).mono ?_
          rintro e w' ⟨rfl, rfl⟩
          rw [hop]
          dsimp only
          go_wp2_with (refine wpList_load_mid rfl 205 (.tmp 11) rfl 0 (k * 6) rfl [.string s, .int .i64 0, .int .i64 lo, .int .i64 hi, .bool u, .bool v] _ HR.out Tryz.underlying205 rfl info124 ?_)
          refine (hasN_any _ 0 (by omega)).mono ?_
          rintro e w' ⟨rfl, rfl⟩
          rw [show fN 0 = false from rfl]
          dsimp only
          go_wp2_with fail
          refine (hasA_any _ 0 (by omega)).mono ?_
          rintro e w' ⟨rfl, rfl⟩
          rw [show fA 0 = false from rfl]
          dsimp only
          go_wp2_with fail
          refine (hasB_any _ 0 (by omega)).mono ?_
          rintro e w' ⟨rfl, rfl⟩
          rw [show fB 0 = false from rfl]
          dsimp only
          go_wp2_with fail
          refine (isReg_any _ _).mono ?_
          rintro e w' ⟨rfl, rfl⟩
          rw [hRa]
          dsimp only
          go_wp2_with fail
          go_ret
          exact ⟨by rw [HL.out]; rfl, ((Below.refl _ _).alloc (Nat.le_refl _) _).alloc (by simp) _⟩
        | true =>
          cases hRb : isR b with
          | false =>
            have HL : Hid (chkF 0 lo hi a b c = 2) := Lib.hid (by simp only [chkF, hRa, hRb]; simp [fA, fB, fN, ha, hb, hc])
            have ea : (a != 0) = false := by simpa using ha
            have eb : (b != 0) = false := by simpa using hb
            have ec : (c != 0) = false := by simpa using hc
            clear ha hb hc
            go_enter Tryz.func136, Tryz.ntmps136
            go_wp2_with fail
            refine (isOp_any _ _).mono ?_
            rintro e w' ⟨rfl, rfl⟩
            rw [hop]
            dsimp only
            go_wp2_with (refine wpList_load_mid rfl 205 (.tmp 11) rfl 0 (k * 6) rfl [.string s, .int .i64 0, .int .i64 lo, .int .i64 hi, .bool u, .bool v] _ HR.out Tryz.underlying205 rfl info124 ?_)
            refine (hasN_any _ 0 (by omega)).mono ?_
            rintro e w' ⟨rfl, rfl⟩
            rw [show fN 0 = false from rfl]
            dsimp only
            go_wp2_with fail
            refine (hasA_any _ 0 (by omega)).mono ?_
            rintro e w' ⟨rfl, rfl⟩
            rw [show fA 0 = false from rfl]
            dsimp only
            go_wp2_with fail
            refine (hasB_any _ 0 (by omega)).mono ?_
            rintro e w' ⟨rfl, rfl⟩
            rw [show fB 0 = false from rfl]
            dsimp only
            go_wp2_with fail
            refine (isReg_any _ _).mono ?_
            rintro e w' ⟨rfl, rfl⟩
            rw [hRa]
            dsimp only
            go_wp2_with fail
            refine (isReg_any _ _).mono ?_
            rintro e w' ⟨rfl, rfl⟩
            rw [hRb]
            dsimp only
            go_wp2_with fail
            go_ret
            exact ⟨by rw [HL.out]; rfl, ((Below.refl _ _).alloc (Nat.le_refl _) _).alloc (by simp) _⟩
          | true =>
            have HL : Hid (chkF 0 lo hi a b c = 0) := Lib.hid (by simp only [chkF, hRa, hRb]; simp [fA, fB, fN, ha, hb, hc])
            have ea : (a != 0) = false := by simpa using ha
            have eb : (b != 0) = false := by simpa using hb
            have ec : (c != 0) = false := by simpa using hc
            clear ha hb hc
            go_enter Tryz.func136, Tryz.ntmps136
            go_wp2_with fail
            refine (isOp_any _ _).mono ?_
            rintro e w' ⟨rfl, rfl⟩
            rw [hop]
            dsimp only
            go_wp2_with (refine wpList_load_mid rfl 205 (.tmp 11) rfl 0 (k * 6) rfl [.string s, .int .i64 0, .int .i64 lo, .int .i64 hi, .bool u, .bool v] _ HR.out Tryz.underlying205 rfl info124 ?_)
            refine (hasN_any _ 0 (by omega)).mono ?_
            rintro e w' ⟨rfl, rfl⟩
            rw [show fN 0 = false from rfl]
            dsimp only
            go_wp2_with fail
            refine (hasA_any _ 0 (by omega)).mono ?_
            rintro e w' ⟨rfl, rfl⟩
            rw [show fA 0 = false from rfl]
            dsimp only
            go_wp2_with fail
            refine (hasB_any _ 0 (by omega)).mono ?_
            rintro e w' ⟨rfl, rfl⟩
            rw [show fB 0 = false from rfl]
            dsimp only
            go_wp2_with fail
            refine (isReg_any _ _).mono ?_
            rintro e w' ⟨rfl, rfl⟩
            rw [hRa]
            dsimp only
            go_wp2_with fail
            refine (isReg_any _ _).mono ?_
            rintro e w' ⟨rfl, rfl⟩
            rw [hRb]
            dsimp only
            go_wp2_with fail
            refine (hasN_any _ 0 (by omega)).mono ?_
            rintro e w' ⟨rfl, rfl⟩
            rw [show fN 0 = false from rfl]
            dsimp only
            go_wp2_with fail
            go_ret
            exact ⟨by rw [HL.out]; rfl, ((Below.refl _ _).alloc (Nat.le_refl _) _).alloc (by simp) _⟩
      · have HL : Hid (chkF 0 lo hi a b c = 1) := Lib.hid (by simp only [chkF]; simp [fA, fB, fN, ha, hb, hc])
        have ea : (a != 0) = false := by simpa using ha
        have eb : (b != 0) = false := by simpa using hb
        have ec : (c != 0) = true := by simpa using hc
        clear ha hb hc
        go_enter Tryz.func136, Tryz.ntmps136
        go_wp2_with fail
        refine (isOp_any _ _).mono ?_
        rintro e w' ⟨rfl, rfl⟩
        rw [hop]
        dsimp only
        go_wp2_with (refine wpList_load_mid rfl 205 (.tmp 11) rfl 0 (k * 6) rfl [.string s, .int .i64 0, .int .i64 lo, .int .i64 hi, .bool u, .bool v] _ HR.out Tryz.underlying205 rfl info124 ?_)
        refine (hasN_any _ 0 (by omega)).mono ?_
        rintro e w' ⟨rfl, rfl⟩
        rw [show fN 0 = false from rfl]
        dsimp only
        go_wp2_with fail
        refine (hasA_any _ 0 (by omega)).mono ?_
        rintro e w' ⟨rfl, rfl⟩
        rw [show fA 0 = false from rfl]
        dsimp only
        go_wp2_with fail
        refine (hasB_any _ 0 (by omega)).mono ?_
        rintro e w' ⟨rfl, rfl⟩
        rw [show fB 0 = false from rfl]
        dsimp only
        go_wp2_with fail
        go_ret
        exact ⟨by rw [HL.out]; rfl, ((Below.refl _ _).alloc (Nat.le_refl _) _).alloc (by simp) _⟩
    · have HL : Hid (chkF 0 lo hi a b c = 1) := Lib.hid (by simp only [chkF]; simp [fA, fB, fN, ha, hb])
      have ea : (a != 0) = false := by simpa using ha
      have eb : (b != 0) = true := by simpa using hb
      clear ha hb
      go_enter Tryz.func136, Tryz.ntmps136
      go_wp2_with fail
      refine (isOp_any _ _).mono ?_
      rintro e w' ⟨rfl, rfl⟩
      rw [hop]
      dsimp only
      go_wp2_with (refine wpList_load_mid rfl 205 (.tmp 11) rfl 0 (k * 6) rfl [.string s, .int .i64 0, .int .i64 lo, .int .i64 hi, .bool u, .bool v] _ HR.out Tryz.underlying205 rfl info124 ?_)
      refine (hasN_any _ 0 (by omega)).mono ?_
      rintro e w' ⟨rfl, rfl⟩
      rw [show fN 0 = false from rfl]
      dsimp only
      go_wp2_with fail
      refine (hasA_any _ 0 (by omega)).mono ?_
      rintro e w' ⟨rfl, rfl⟩
      rw [show fA 0 = false from rfl]
      dsimp only
      go_wp2_with fail
      refine (hasB_any _ 0 (by omega)).mono ?_
      rintro e w' ⟨rfl, rfl⟩
      rw [show fB 0 = false from rfl]
      dsimp only
      go_wp2_with fail
      go_ret
      exact ⟨by rw [HL.out]; rfl, ((Below.refl _ _).alloc (Nat.le_refl _) _).alloc (by simp) _⟩
  · have HL : Hid (chkF 0 lo hi a b c = 1) := Lib.hid (by simp only [chkF]; simp [fA, fB, fN, ha])
    have ea : (a != 0) = true := by simpa using ha
    clear ha
    go_enter Tryz.func136, Tryz.ntmps136
    go_wp2_with fail
    refine (isOp_any _ _).mono ?_
    rintro e w' ⟨rfl, rfl⟩
    rw [hop]
    dsimp only
    go_wp2_with (refine wpList_load_mid rfl 205 (.tmp 11) rfl 0 (k * 6) rfl [.string s, .int .i64 0, .int .i64 lo, .int .i64 hi, .bool u, .bool v] _ HR.out Tryz.underlying205 rfl info124 ?_)
    refine (hasN_any _ 0 (by omega)).mono ?_
    rintro e w' ⟨rfl, rfl⟩
    rw [show fN 0 = false from rfl]
    dsimp only
    go_wp2_with fail
    refine (hasA_any _ 0 (by omega)).mono ?_
    rintro e w' ⟨rfl, rfl⟩
    rw [show fA 0 = false from rfl]
    dsimp only
    go_wp2_with fail
    go_ret
    exact ⟨by rw [HL.out]; rfl, ((Below.refl _ _).alloc (Nat.le_refl _) _).alloc (by simp) _⟩

set_option maxRecDepth 100000 in
set_option maxHeartbeats 4000000 in
theorem check1 (w : World) (k : Nat) (a b c lo hi : Int) (s : ByteArray) (u v : Bool) (h1 : k < 27) (hw : 0 < w.heap.size) (hr : w.rangeAt 0 (k * 6) [.string s, .int .i64 1, .int .i64 lo, .int .i64 hi, .bool u, .bool v]) :
    Calls Tryz.prog 136 #[insV k a b c] w fun e w' => e = .returned (.int .i64 (chkF 1 lo hi a b c)) ∧ Below w.heap.size w w' := by
  have HR := Lib.hid (range_alloc hr hw (.cells #[.int .i64 k, .int .i64 a, .int .i64 b, .int .i64 c] 109))
  have hop : decide (0 ≤ (k : Int) ∧ (k : Int) < 27) = true := decide_eq_true ⟨by omega, by omega⟩
  have k1 : (k : Int) < 27 := by omega
  clear hr
  unfold insV
  by_cases hb : b = 0
  · by_cases hc : c = 0
    · cases hRa : isR a with
      | false =>
        have HL : Hid (chkF 1 lo hi a b c = 2) := Lib.hid (by simp only [chkF, hRa]; simp [fA, fB, fN, hb, hc])
        have eb : (b != 0) = false := by simpa using hb
        have ec : (c != 0) = false := by simpa using hc
        clear hb hc
        go_enter Tryz.func136, Tryz.ntmps136
        go_wp2_with fail
        refine (isOp_any _ _).mono ?_
        rintro e w' ⟨rfl, rfl⟩
        rw [hop]
        dsimp only
        go_wp2_with (refine wpList_load_mid rfl 205 (.tmp 11) rfl 0 (k * 6) rfl [.string s, .int .i64 1, .int .i64 lo, .int .i64 hi, .bool u, .bool v] _ HR.out Tryz.underlying205 rfl info124 ?_)
        refine (hasN_any _ 1 (by omega)).mono ?_
        rintro e w' ⟨rfl, rfl⟩
        rw [show fN 1 = false from rfl]
        dsimp only
        go_wp2_with fail
        refine (hasA_any _ 1 (by omega)).mono ?_
        rintro e w' ⟨rfl, rfl⟩
        rw [show fA 1 = true from rfl]
        dsimp only
        go_wp2_with fail
        refine (hasB_any _ 1 (by omega)).mono ?_
        rintro e w' ⟨rfl, rfl⟩
        rw [show fB 1 = false from rfl]
        dsimp only
        go_wp2_with fail
        refine (isReg_any _ _).mono ?_
        rintro e w' ⟨rfl, rfl⟩
        rw [hRa]
        dsimp only
        go_wp2_with fail
        go_ret
        exact ⟨by rw [HL.out]; rfl, ((Below.refl _ _).alloc (Nat.le_refl _) _).alloc (by simp) _⟩
      | true =>
        cases hRb : isR b with
        | false =>
          have HL : Hid (chkF 1 lo hi a b c = 2) := Lib.hid (by simp only [chkF, hRa, hRb]; simp [fA, fB, fN, hb, hc])
          have eb : (b != 0) = false := by simpa using hb
          have ec : (c != 0) = false := by simpa using hc
          clear hb hc
          go_enter Tryz.func136, Tryz.ntmps136
          go_wp2_with fail
          refine (isOp_any _ _).mono ?_
          rintro e w' ⟨rfl, rfl⟩
          rw [hop]
          dsimp only
          go_wp2_with (refine wpList_load_mid rfl 205 (.tmp 11) rfl 0 (k * 6) rfl [.string s, .int .i64 1, .int .i64 lo, .int .i64 hi, .bool u, .bool v] _ HR.out Tryz.underlying205 rfl info124 ?_)
          refine (hasN_any _ 1 (by omega)).mono ?_
          rintro e w' ⟨rfl, rfl⟩
          rw [show fN 1 = false from rfl]
          dsimp only
          go_wp2_with fail
          refine (hasA_any _ 1 (by omega)).mono ?_
          rintro e w' ⟨rfl, rfl⟩
          rw [show fA 1 = true from rfl]
          dsimp only
          go_wp2_with fail
          refine (hasB_any _ 1 (by omega)).mono ?_
          rintro e w' ⟨rfl, rfl⟩
          rw [show fB 1 = false from rfl]
          dsimp only
          go_wp2_with fail
          refine (isReg_any _ _).mono ?_
          rintro e w' ⟨rfl, rfl⟩
          rw [hRa]
          dsimp only
          go_wp2_with fail
          refine (isReg_any _ _).mono ?_
          rintro e w' ⟨rfl, rfl⟩
          rw [hRb]
          dsimp only
          go_wp2_with fail
          go_ret
          exact ⟨by rw [HL.out]; rfl, ((Below.refl _ _).alloc (Nat.le_refl _) _).alloc (by simp) _⟩
        | true =>
          have HL : Hid (chkF 1 lo hi a b c = 0) := Lib.hid (by simp only [chkF, hRa, hRb]; simp [fA, fB, fN, hb, hc])
          have eb : (b != 0) = false := by simpa using hb
          have ec : (c != 0) = false := by simpa using hc
          clear hb hc
          go_enter Tryz.func136, Tryz.ntmps136
          go_wp2_with fail
          refine (isOp_any _ _).mono ?_
          rintro e w' ⟨rfl, rfl⟩
          rw [hop]
          dsimp only
          go_wp2_with (refine wpList_load_mid rfl 205 (.tmp 11) rfl 0 (k * 6) rfl [.string s, .int .i64 1, .int .i64 lo, .int .i64 hi, .bool u, .bool v] _ HR.out Tryz.underlying205 rfl info124 ?_)
          refine (hasN_any _ 1 (by omega)).mono ?_
          rintro e w' ⟨rfl, rfl⟩
          rw [show fN 1 = false from rfl]
          dsimp only
          go_wp2_with fail
          refine (hasA_any _ 1 (by omega)).mono ?_
          rintro e w' ⟨rfl, rfl⟩
          rw [show fA 1 = true from rfl]
          dsimp only
          go_wp2_with fail
          refine (hasB_any _ 1 (by omega)).mono ?_
          rintro e w' ⟨rfl, rfl⟩
          rw [show fB 1 = false from rfl]
          dsimp only
          go_wp2_with fail
          refine (isReg_any _ _).mono ?_
          rintro e w' ⟨rfl, rfl⟩
          rw [hRa]
          dsimp only
          go_wp2_with fail
          refine (isReg_any _ _).mono ?_
          rintro e w' ⟨rfl, rfl⟩
          rw [hRb]
          dsimp only
          go_wp2_with fail
          refine (hasN_any _ 1 (by omega)).mono ?_
          rintro e w' ⟨rfl, rfl⟩
          rw [show fN 1 = false from rfl]
          dsimp only
          go_wp2_with fail
          go_ret
          exact ⟨by rw [HL.out]; rfl, ((Below.refl _ _).alloc (Nat.le_refl _) _).alloc (by simp) _⟩
    · have HL : Hid (chkF 1 lo hi a b c = 1) := Lib.hid (by simp only [chkF]; simp [fA, fB, fN, hb, hc])
      have eb : (b != 0) = false := by simpa using hb
      have ec : (c != 0) = true := by simpa using hc
      clear hb hc
      go_enter Tryz.func136, Tryz.ntmps136
      go_wp2_with fail
      refine (isOp_any _ _).mono ?_
      rintro e w' ⟨rfl, rfl⟩
      rw [hop]
      dsimp only
      go_wp2_with (refine wpList_load_mid rfl 205 (.tmp 11) rfl 0 (k * 6) rfl [.string s, .int .i64 1, .int .i64 lo, .int .i64 hi, .bool u, .bool v] _ HR.out Tryz.underlying205 rfl info124 ?_)
      refine (hasN_any _ 1 (by omega)).mono ?_
      rintro e w' ⟨rfl, rfl⟩
      rw [show fN 1 = false from rfl]
      dsimp only
      go_wp2_with fail
      refine (hasA_any _ 1 (by omega)).mono ?_
      rintro e w' ⟨rfl, rfl⟩
      rw [show fA 1 = true from rfl]
      dsimp only
      go_wp2_with fail
      refine (hasB_any _ 1 (by omega)).mono ?_
      rintro e w' ⟨rfl, rfl⟩
      rw [show fB 1 = false from rfl]
      dsimp only
      go_wp2_with fail
      go_ret
      exact ⟨by rw [HL.out]; rfl, ((Below.refl _ _).alloc (Nat.le_refl _) _).alloc (by simp) _⟩
  · have HL : Hid (chkF 1 lo hi a b c = 1) := Lib.hid (by simp only [chkF]; simp [fA, fB, fN, hb])
    have eb : (b != 0) = true := by simpa using hb
    clear hb
    go_enter Tryz.func136, Tryz.ntmps136
    go_wp2_with fail
    refine (isOp_any _ _).mono ?_
    rintro e w' ⟨rfl, rfl⟩
    rw [hop]
    dsimp only
    go_wp2_with (refine wpList_load_mid rfl 205 (.tmp 11) rfl 0 (k * 6) rfl [.string s, .int .i64 1, .int .i64 lo, .int .i64 hi, .bool u, .bool v] _ HR.out Tryz.underlying205 rfl info124 ?_)
    refine (hasN_any _ 1 (by omega)).mono ?_
    rintro e w' ⟨rfl, rfl⟩
    rw [show fN 1 = false from rfl]
    dsimp only
    go_wp2_with fail
    refine (hasA_any _ 1 (by omega)).mono ?_
    rintro e w' ⟨rfl, rfl⟩
    rw [show fA 1 = true from rfl]
    dsimp only
    go_wp2_with fail
    refine (hasB_any _ 1 (by omega)).mono ?_
    rintro e w' ⟨rfl, rfl⟩
    rw [show fB 1 = false from rfl]
    dsimp only
    go_wp2_with fail
    go_ret
    exact ⟨by rw [HL.out]; rfl, ((Below.refl _ _).alloc (Nat.le_refl _) _).alloc (by simp) _⟩

set_option maxRecDepth 100000 in
set_option maxHeartbeats 4000000 in
theorem check2 (w : World) (k : Nat) (a b c lo hi : Int) (s : ByteArray) (u v : Bool) (h1 : k < 27) (hw : 0 < w.heap.size) (hr : w.rangeAt 0 (k * 6) [.string s, .int .i64 2, .int .i64 lo, .int .i64 hi, .bool u, .bool v]) :
    Calls Tryz.prog 136 #[insV k a b c] w fun e w' => e = .returned (.int .i64 (chkF 2 lo hi a b c)) ∧ Below w.heap.size w w' := by
  have HR := Lib.hid (range_alloc hr hw (.cells #[.int .i64 k, .int .i64 a, .int .i64 b, .int .i64 c] 109))
  have hop : decide (0 ≤ (k : Int) ∧ (k : Int) < 27) = true := decide_eq_true ⟨by omega, by omega⟩
  have k1 : (k : Int) < 27 := by omega
  clear hr
  unfold insV
  by_cases hc : c = 0
  · cases hRa : isR a with
    | false =>
      have HL : Hid (chkF 2 lo hi a b c = 2) := Lib.hid (by simp only [chkF, hRa]; simp [fA, fB, fN, hc])
      have ec : (c != 0) = false := by simpa using hc
      clear hc
      go_enter Tryz.func136, Tryz.ntmps136
      go_wp2_with fail
      refine (isOp_any _ _).mono ?_
      rintro e w' ⟨rfl, rfl⟩
      rw [hop]
      dsimp only
      go_wp2_with (refine wpList_load_mid rfl 205 (.tmp 11) rfl 0 (k * 6) rfl [.string s, .int .i64 2, .int .i64 lo, .int .i64 hi, .bool u, .bool v] _ HR.out Tryz.underlying205 rfl info124 ?_)
      refine (hasN_any _ 2 (by omega)).mono ?_
      rintro e w' ⟨rfl, rfl⟩
      rw [show fN 2 = false from rfl]
      dsimp only
      go_wp2_with fail
      refine (hasA_any _ 2 (by omega)).mono ?_
      rintro e w' ⟨rfl, rfl⟩
      rw [show fA 2 = true from rfl]
      dsimp only
      go_wp2_with fail
      refine (hasB_any _ 2 (by omega)).mono ?_
      rintro e w' ⟨rfl, rfl⟩
      rw [show fB 2 = true from rfl]
      dsimp only
      go_wp2_with fail
      refine (isReg_any _ _).mono ?_
      rintro e w' ⟨rfl, rfl⟩
      rw [hRa]
      dsimp only
      go_wp2_with fail
      go_ret
      exact ⟨by rw [HL.out]; rfl, ((Below.refl _ _).alloc (Nat.le_refl _) _).alloc (by simp) _⟩
    | true =>
      cases hRb : isR b with
      | false =>
        have HL : Hid (chkF 2 lo hi a b c = 2) := Lib.hid (by simp only [chkF, hRa, hRb]; simp [fA, fB, fN, hc])
        have ec : (c != 0) = false := by simpa using hc
        clear hc
        go_enter Tryz.func136, Tryz.ntmps136
        go_wp2_with fail
        refine (isOp_any _ _).mono ?_
        rintro e w' ⟨rfl, rfl⟩
        rw [hop]
        dsimp only
        go_wp2_with (refine wpList_load_mid rfl 205 (.tmp 11) rfl 0 (k * 6) rfl [.string s, .int .i64 2, .int .i64 lo, .int .i64 hi, .bool u, .bool v] _ HR.out Tryz.underlying205 rfl info124 ?_)
        refine (hasN_any _ 2 (by omega)).mono ?_
        rintro e w' ⟨rfl, rfl⟩
        rw [show fN 2 = false from rfl]
        dsimp only
        go_wp2_with fail
        refine (hasA_any _ 2 (by omega)).mono ?_
        rintro e w' ⟨rfl, rfl⟩
        rw [show fA 2 = true from rfl]
        dsimp only
        go_wp2_with fail
        refine (hasB_any _ 2 (by omega)).mono ?_
        rintro e w' ⟨rfl, rfl⟩
        rw [show fB 2 = true from rfl]
        dsimp only
        go_wp2_with fail
        refine (isReg_any _ _).mono ?_
        rintro e w' ⟨rfl, rfl⟩
        rw [hRa]
        dsimp only
        go_wp2_with fail
        refine (isReg_any _ _).mono ?_
        rintro e w' ⟨rfl, rfl⟩
        rw [hRb]
        dsimp only
        go_wp2_with fail
        go_ret
        exact ⟨by rw [HL.out]; rfl, ((Below.refl _ _).alloc (Nat.le_refl _) _).alloc (by simp) _⟩
      | true =>
        have HL : Hid (chkF 2 lo hi a b c = 0) := Lib.hid (by simp only [chkF, hRa, hRb]; simp [fA, fB, fN, hc])
        have ec : (c != 0) = false := by simpa using hc
        clear hc
        go_enter Tryz.func136, Tryz.ntmps136
        go_wp2_with fail
        refine (isOp_any _ _).mono ?_
        rintro e w' ⟨rfl, rfl⟩
        rw [hop]
        dsimp only
        go_wp2_with (refine wpList_load_mid rfl 205 (.tmp 11) rfl 0 (k * 6) rfl [.string s, .int .i64 2, .int .i64 lo, .int .i64 hi, .bool u, .bool v] _ HR.out Tryz.underlying205 rfl info124 ?_)
        refine (hasN_any _ 2 (by omega)).mono ?_
        rintro e w' ⟨rfl, rfl⟩
        rw [show fN 2 = false from rfl]
        dsimp only
        go_wp2_with fail
        refine (hasA_any _ 2 (by omega)).mono ?_
        rintro e w' ⟨rfl, rfl⟩
        rw [show fA 2 = true from rfl]
        dsimp only
        go_wp2_with fail
        refine (hasB_any _ 2 (by omega)).mono ?_
        rintro e w' ⟨rfl, rfl⟩
        rw [show fB 2 = true from rfl]
        dsimp only
        go_wp2_with fail
        refine (isReg_any _ _).mono ?_
        rintro e w' ⟨rfl, rfl⟩
        rw [hRa]
        dsimp only
        go_wp2_with fail
        refine (isReg_any _ _).mono ?_
        rintro e w' ⟨rfl, rfl⟩
        rw [hRb]
        dsimp only
        go_wp2_with fail
        refine (hasN_any _ 2 (by omega)).mono ?_
        rintro e w' ⟨rfl, rfl⟩
        rw [show fN 2 = false from rfl]
        dsimp only
        go_wp2_with fail
        go_ret
        exact ⟨by rw [HL.out]; rfl, ((Below.refl _ _).alloc (Nat.le_refl _) _).alloc (by simp) _⟩
  · have HL : Hid (chkF 2 lo hi a b c = 1) := Lib.hid (by simp only [chkF]; simp [fA, fB, fN, hc])
    have ec : (c != 0) = true := by simpa using hc
    clear hc
    go_enter Tryz.func136, Tryz.ntmps136
    go_wp2_with fail
    refine (isOp_any _ _).mono ?_
    rintro e w' ⟨rfl, rfl⟩
    rw [hop]
    dsimp only
    go_wp2_with (refine wpList_load_mid rfl 205 (.tmp 11) rfl 0 (k * 6) rfl [.string s, .int .i64 2, .int .i64 lo, .int .i64 hi, .bool u, .bool v] _ HR.out Tryz.underlying205 rfl info124 ?_)
    refine (hasN_any _ 2 (by omega)).mono ?_
    rintro e w' ⟨rfl, rfl⟩
    rw [show fN 2 = false from rfl]
    dsimp only
    go_wp2_with fail
    refine (hasA_any _ 2 (by omega)).mono ?_
    rintro e w' ⟨rfl, rfl⟩
    rw [show fA 2 = true from rfl]
    dsimp only
    go_wp2_with fail
    refine (hasB_any _ 2 (by omega)).mono ?_
    rintro e w' ⟨rfl, rfl⟩
    rw [show fB 2 = true from rfl]
    dsimp only
    go_wp2_with fail
    go_ret
    exact ⟨by rw [HL.out]; rfl, ((Below.refl _ _).alloc (Nat.le_refl _) _).alloc (by simp) _⟩

set_option maxRecDepth 100000 in
set_option maxHeartbeats 4000000 in
theorem check3 (w : World) (k : Nat) (a b c lo hi : Int) (s : ByteArray) (u v : Bool) (h1 : k < 27) (hw : 0 < w.heap.size) (hr : w.rangeAt 0 (k * 6) [.string s, .int .i64 3, .int .i64 lo, .int .i64 hi, .bool u, .bool v]) :
    Calls Tryz.prog 136 #[insV k a b c] w fun e w' => e = .returned (.int .i64 (chkF 3 lo hi a b c)) ∧ Below w.heap.size w w' := by
  have HR := Lib.hid (range_alloc hr hw (.cells #[.int .i64 k, .int .i64 a, .int .i64 b, .int .i64 c] 109))
  have hop : decide (0 ≤ (k : Int) ∧ (k : Int) < 27) = true := decide_eq_true ⟨by omega, by omega⟩
  have k1 : (k : Int) < 27 := by omega
  clear hr
  unfold insV
  cases hRa : isR a with
  | false =>
    have HL : Hid (chkF 3 lo hi a b c = 2) := Lib.hid (by simp only [chkF, hRa]; simp [fA, fB, fN])
    go_enter Tryz.func136, Tryz.ntmps136
    go_wp2_with fail
    refine (isOp_any _ _).mono ?_
    rintro e w' ⟨rfl, rfl⟩
    rw [hop]
    dsimp only
    go_wp2_with (refine wpList_load_mid rfl 205 (.tmp 11) rfl 0 (k * 6) rfl [.string s, .int .i64 3, .int .i64 lo, .int .i64 hi, .bool u, .bool v] _ HR.out Tryz.underlying205 rfl info124 ?_)
    refine (hasA_any _ 3 (by omega)).mono ?_
    rintro e w' ⟨rfl, rfl⟩
    rw [show fA 3 = true from rfl]
    dsimp only
    go_wp2_with fail
    refine (hasB_any _ 3 (by omega)).mono ?_
    rintro e w' ⟨rfl, rfl⟩
    rw [show fB 3 = true from rfl]
    dsimp only
    go_wp2_with fail
    refine (isReg_any _ _).mono ?_
    rintro e w' ⟨rfl, rfl⟩
    rw [hRa]
    dsimp only
    go_wp2_with fail
    go_ret
    exact ⟨by rw [HL.out]; rfl, ((Below.refl _ _).alloc (Nat.le_refl _) _).alloc (by simp) _⟩
  | true =>
    cases hRb : isR b with
    | false =>
      have HL : Hid (chkF 3 lo hi a b c = 2) := Lib.hid (by simp only [chkF, hRa, hRb]; simp [fA, fB, fN])
      go_enter Tryz.func136, Tryz.ntmps136
      go_wp2_with fail
      refine (isOp_any _ _).mono ?_
      rintro e w' ⟨rfl, rfl⟩
      rw [hop]
      dsimp only
      go_wp2_with (refine wpList_load_mid rfl 205 (.tmp 11) rfl 0 (k * 6) rfl [.string s, .int .i64 3, .int .i64 lo, .int .i64 hi, .bool u, .bool v] _ HR.out Tryz.underlying205 rfl info124 ?_)
      refine (hasA_any _ 3 (by omega)).mono ?_
      rintro e w' ⟨rfl, rfl⟩
      rw [show fA 3 = true from rfl]
      dsimp only
      go_wp2_with fail
      refine (hasB_any _ 3 (by omega)).mono ?_
      rintro e w' ⟨rfl, rfl⟩
      rw [show fB 3 = true from rfl]
      dsimp only
      go_wp2_with fail
      refine (isReg_any _ _).mono ?_
      rintro e w' ⟨rfl, rfl⟩
      rw [hRa]
      dsimp only
      go_wp2_with fail
      refine (isReg_any _ _).mono ?_
      rintro e w' ⟨rfl, rfl⟩
      rw [hRb]
      dsimp only
      go_wp2_with fail
      go_ret
      exact ⟨by rw [HL.out]; rfl, ((Below.refl _ _).alloc (Nat.le_refl _) _).alloc (by simp) _⟩
    | true =>
      cases hRc : isR c with
      | false =>
        have HL : Hid (chkF 3 lo hi a b c = 2) := Lib.hid (by simp only [chkF, hRa, hRb, hRc]; simp [fA, fB, fN])
        go_enter Tryz.func136, Tryz.ntmps136
        go_wp2_with fail
        refine (isOp_any _ _).mono ?_
        rintro e w' ⟨rfl, rfl⟩
        rw [hop]
        dsimp only
        go_wp2_with (refine wpList_load_mid rfl 205 (.tmp 11) rfl 0 (k * 6) rfl [.string s, .int .i64 3, .int .i64 lo, .int .i64 hi, .bool u, .bool v] _ HR.out Tryz.underlying205 rfl info124 ?_)
        refine (hasA_any _ 3 (by omega)).mono ?_
        rintro e w' ⟨rfl, rfl⟩
        rw [show fA 3 = true from rfl]
        dsimp only
        go_wp2_with fail
        refine (hasB_any _ 3 (by omega)).mono ?_
        rintro e w' ⟨rfl, rfl⟩
        rw [show fB 3 = true from rfl]
        dsimp only
        go_wp2_with fail
        refine (isReg_any _ _).mono ?_
        rintro e w' ⟨rfl, rfl⟩
        rw [hRa]
        dsimp only
        go_wp2_with fail
        refine (isReg_any _ _).mono ?_
        rintro e w' ⟨rfl, rfl⟩
        rw [hRb]
        dsimp only
        go_wp2_with fail
        refine (isReg_any _ _).mono ?_
        rintro e w' ⟨rfl, rfl⟩
        rw [hRc]
        dsimp only
        go_wp2_with fail
        go_ret
        exact ⟨by rw [HL.out]; rfl, ((Below.refl _ _).alloc (Nat.le_refl _) _).alloc (by simp) _⟩
      | true =>
        have HL : Hid (chkF 3 lo hi a b c = 0) := Lib.hid (by simp only [chkF, hRa, hRb, hRc]; simp [fA, fB, fN])
        go_enter Tryz.func136, Tryz.ntmps136
        go_wp2_with fail
        refine (isOp_any _ _).mono ?_
        rintro e w' ⟨rfl, rfl⟩
        rw [hop]
        dsimp only
        go_wp2_with (refine wpList_load_mid rfl 205 (.tmp 11) rfl 0 (k * 6) rfl [.string s, .int .i64 3, .int .i64 lo, .int .i64 hi, .bool u, .bool v] _ HR.out Tryz.underlying205 rfl info124 ?_)
        refine (hasA_any _ 3 (by omega)).mono ?_
        rintro e w' ⟨rfl, rfl⟩
        rw [show fA 3 = true from rfl]
        dsimp only
        go_wp2_with fail
        refine (hasB_any _ 3 (by omega)).mono ?_
        rintro e w' ⟨rfl, rfl⟩
        rw [show fB 3 = true from rfl]
        dsimp only
        go_wp2_with fail
        refine (isReg_any _ _).mono ?_
        rintro e w' ⟨rfl, rfl⟩
        rw [hRa]
        dsimp only
        go_wp2_with fail
        refine (isReg_any _ _).mono ?_
        rintro e w' ⟨rfl, rfl⟩
        rw [hRb]
        dsimp only
        go_wp2_with fail
        refine (isReg_any _ _).mono ?_
        rintro e w' ⟨rfl, rfl⟩
        rw [hRc]
        dsimp only
        go_wp2_with fail
        refine (hasN_any _ 3 (by omega)).mono ?_
        rintro e w' ⟨rfl, rfl⟩
        rw [show fN 3 = false from rfl]
        dsimp only
        go_wp2_with fail
        go_ret
        exact ⟨by rw [HL.out]; rfl, ((Below.refl _ _).alloc (Nat.le_refl _) _).alloc (by simp) _⟩

set_option maxRecDepth 100000 in
set_option maxHeartbeats 4000000 in
theorem check4 (w : World) (k : Nat) (a b c lo hi : Int) (s : ByteArray) (u v : Bool) (h1 : k < 27) (hw : 0 < w.heap.size) (hr : w.rangeAt 0 (k * 6) [.string s, .int .i64 4, .int .i64 lo, .int .i64 hi, .bool u, .bool v]) :
    Calls Tryz.prog 136 #[insV k a b c] w fun e w' => e = .returned (.int .i64 (chkF 4 lo hi a b c)) ∧ Below w.heap.size w w' := by
  have HR := Lib.hid (range_alloc hr hw (.cells #[.int .i64 k, .int .i64 a, .int .i64 b, .int .i64 c] 109))
  have hop : decide (0 ≤ (k : Int) ∧ (k : Int) < 27) = true := decide_eq_true ⟨by omega, by omega⟩
  have k1 : (k : Int) < 27 := by omega
  clear hr
  unfold insV
  by_cases hb : b = 0
  · cases hRa : isR a with
    | false =>
      have HL : Hid (chkF 4 lo hi a b c = 2) := Lib.hid (by simp only [chkF, hRa]; simp [fA, fB, fN, hb])
      have eb : (b != 0) = false := by simpa using hb
      clear hb
      go_enter Tryz.func136, Tryz.ntmps136
      go_wp2_with fail
      refine (isOp_any _ _).mono ?_
      rintro e w' ⟨rfl, rfl⟩
      rw [hop]
      dsimp only
      go_wp2_with (refine wpList_load_mid rfl 205 (.tmp 11) rfl 0 (k * 6) rfl [.string s, .int .i64 4, .int .i64 lo, .int .i64 hi, .bool u, .bool v] _ HR.out Tryz.underlying205 rfl info124 ?_)
      refine (hasN_any _ 4 (by omega)).mono ?_
      rintro e w' ⟨rfl, rfl⟩
      rw [show fN 4 = true from rfl]
      dsimp only
      go_wp2_with fail
      refine (hasA_any _ 4 (by omega)).mono ?_
      rintro e w' ⟨rfl, rfl⟩
      rw [show fA 4 = true from rfl]
      dsimp only
      go_wp2_with fail
      refine (hasB_any _ 4 (by omega)).mono ?_
      rintro e w' ⟨rfl, rfl⟩
      rw [show fB 4 = false from rfl]
      dsimp only
      go_wp2_with fail
      refine (isReg_any _ _).mono ?_
      rintro e w' ⟨rfl, rfl⟩
      rw [hRa]
      dsimp only
      go_wp2_with fail
      go_ret
      exact ⟨by rw [HL.out]; rfl, ((Below.refl _ _).alloc (Nat.le_refl _) _).alloc (by simp) _⟩
    | true =>
      cases hRb : isR b with
      | false =>
        have HL : Hid (chkF 4 lo hi a b c = 2) := Lib.hid (by simp only [chkF, hRa, hRb]; simp [fA, fB, fN, hb])
        have eb : (b != 0) = false := by simpa using hb
        clear hb
        go_enter Tryz.func136, Tryz.ntmps136
        go_wp2_with fail
        refine (isOp_any _ _).mono ?_
        rintro e w' ⟨rfl, rfl⟩
        rw [hop]
        dsimp only
        go_wp2_with (refine wpList_load_mid rfl 205 (.tmp 11) rfl 0 (k * 6) rfl [.string s, .int .i64 4, .int .i64 lo, .int .i64 hi, .bool u, .bool v] _ HR.out Tryz.underlying205 rfl info124 ?_)
        refine (hasN_any _ 4 (by omega)).mono ?_
        rintro e w' ⟨rfl, rfl⟩
        rw [show fN 4 = true from rfl]
        dsimp only
        go_wp2_with fail
        refine (hasA_any _ 4 (by omega)).mono ?_
        rintro e w' ⟨rfl, rfl⟩
        rw [show fA 4 = true from rfl]
        dsimp only
        go_wp2_with fail
        refine (hasB_any _ 4 (by omega)).mono ?_
        rintro e w' ⟨rfl, rfl⟩
        rw [show fB 4 = false from rfl]
        dsimp only
        go_wp2_with fail
        refine (isReg_any _ _).mono ?_
        rintro e w' ⟨rfl, rfl⟩
        rw [hRa]
        dsimp only
        go_wp2_with fail
        refine (isReg_any _ _).mono ?_
        rintro e w' ⟨rfl, rfl⟩
        rw [hRb]
        dsimp only
        go_wp2_with fail
        go_ret
        exact ⟨by rw [HL.out]; rfl, ((Below.refl _ _).alloc (Nat.le_refl _) _).alloc (by simp) _⟩
      | true =>
        by_cases hlo : c < lo
        · have HL : Hid (chkF 4 lo hi a b c = 2) := Lib.hid (by simp only [chkF, hRa, hRb]; simp [fA, fB, fN, hb, hlo])
          have eb : (b != 0) = false := by simpa using hb
          have elo : decide (c < lo) = true := by simpa using hlo
          clear hb hlo
          go_enter Tryz.func136, Tryz.ntmps136
          go_wp2_with fail
          refine (isOp_any _ _).mono ?_
          rintro e w' ⟨rfl, rfl⟩
          rw [hop]
          dsimp only
          go_wp2_with (refine wpList_load_mid rfl 205 (.tmp 11) rfl 0 (k * 6) rfl [.string s, .int .i64 4, .int .i64 lo, .int .i64 hi, .bool u, .bool v] _ HR.out Tryz.underlying205 rfl info124 ?_)
          refine (hasN_any _ 4 (by omega)).mono ?_
          rintro e w' ⟨rfl, rfl⟩
          rw [show fN 4 = true from rfl]
          dsimp only
          go_wp2_with fail
          refine (hasA_any _ 4 (by omega)).mono ?_
          rintro e w' ⟨rfl, rfl⟩
          rw [show fA 4 = true from rfl]
          dsimp only
          go_wp2_with fail
          refine (hasB_any _ 4 (by omega)).mono ?_
          rintro e w' ⟨rfl, rfl⟩
          rw [show fB 4 = false from rfl]
          dsimp only
          go_wp2_with fail
          refine (isReg_any _ _).mono ?_
          rintro e w' ⟨rfl, rfl⟩
          rw [hRa]
          dsimp only
          go_wp2_with fail
          refine (isReg_any _ _).mono ?_
          rintro e w' ⟨rfl, rfl⟩
          rw [hRb]
          dsimp only
          go_wp2_with fail
          refine (hasN_any _ 4 (by omega)).mono ?_
          rintro e w' ⟨rfl, rfl⟩
          rw [show fN 4 = true from rfl]
          dsimp only
          go_wp2_with fail
          go_ret
          exact ⟨by rw [HL.out]; rfl, ((Below.refl _ _).alloc (Nat.le_refl _) _).alloc (by simp) _⟩
        · by_cases hhi : hi < c
          · have HL : Hid (chkF 4 lo hi a b c = 2) := Lib.hid (by simp only [chkF, hRa, hRb]; simp [fA, fB, fN, hb, hlo, hhi])
            have eb : (b != 0) = false := by simpa using hb
            have elo : decide (c < lo) = false := by simpa using hlo
            have ehi : decide (hi < c) = true := by simpa using hhi
            clear hb hlo hhi
            go_enter Tryz.func136, Tryz.ntmps136
            go_wp2_with fail
            refine (isOp_any _ _).mono ?_
            rintro e w' ⟨rfl, rfl⟩
            rw [hop]
            dsimp only
            go_wp2_with (refine wpList_load_mid rfl 205 (.tmp 11) rfl 0 (k * 6) rfl [.string s, .int .i64 4, .int .i64 lo, .int .i64 hi, .bool u, .bool v] _ HR.out Tryz.underlying205 rfl info124 ?_)
            refine (hasN_any _ 4 (by omega)).mono ?_
            rintro e w' ⟨rfl, rfl⟩
            rw [show fN 4 = true from rfl]
            dsimp only
            go_wp2_with fail
            refine (hasA_any _ 4 (by omega)).mono ?_
            rintro e w' ⟨rfl, rfl⟩
            rw [show fA 4 = true from rfl]
            dsimp only
            go_wp2_with fail
            refine (hasB_any _ 4 (by omega)).mono ?_
            rintro e w' ⟨rfl, rfl⟩
            rw [show fB 4 = false from rfl]
            dsimp only
            go_wp2_with fail
            refine (isReg_any _ _).mono ?_
            rintro e w' ⟨rfl, rfl⟩
            rw [hRa]
            dsimp only
            go_wp2_with fail
            refine (isReg_any _ _).mono ?_
            rintro e w' ⟨rfl, rfl⟩
            rw [hRb]
            dsimp only
            go_wp2_with fail
            refine (hasN_any _ 4 (by omega)).mono ?_
            rintro e w' ⟨rfl, rfl⟩
            rw [show fN 4 = true from rfl]
            dsimp only
            go_wp2_with fail
            go_ret
            exact ⟨by rw [HL.out]; rfl, ((Below.refl _ _).alloc (Nat.le_refl _) _).alloc (by simp) _⟩
          · have HL : Hid (chkF 4 lo hi a b c = 0) := Lib.hid (by simp only [chkF, hRa, hRb]; simp [fA, fB, fN, hb, hlo, hhi])
            have eb : (b != 0) = false := by simpa using hb
            have elo : decide (c < lo) = false := by simpa using hlo
            have ehi : decide (hi < c) = false := by simpa using hhi
            clear hb hlo hhi
            go_enter Tryz.func136, Tryz.ntmps136
            go_wp2_with fail
            refine (isOp_any _ _).mono ?_
            rintro e w' ⟨rfl, rfl⟩
            rw [hop]
            dsimp only
            go_wp2_with (refine wpList_load_mid rfl 205 (.tmp 11) rfl 0 (k * 6) rfl [.string s, .int .i64 4, .int .i64 lo, .int .i64 hi, .bool u, .bool v] _ HR.out Tryz.underlying205 rfl info124 ?_)
            refine (hasN_any _ 4 (by omega)).mono ?_
            rintro e w' ⟨rfl, rfl⟩
            rw [show fN 4 = true from rfl]
            dsimp only
            go_wp2_with fail
            refine (hasA_any _ 4 (by omega)).mono ?_
            rintro e w' ⟨rfl, rfl⟩
            rw [show fA 4 = true from rfl]
            dsimp only
            go_wp2_with fail
            refine (hasB_any _ 4 (by omega)).mono ?_
            rintro e w' ⟨rfl, rfl⟩
            rw [show fB 4 = false from rfl]
            dsimp only
            go_wp2_with fail
            refine (isReg_any _ _).mono ?_
            rintro e w' ⟨rfl, rfl⟩
            rw [hRa]
            dsimp only
            go_wp2_with fail
            refine (isReg_any _ _).mono ?_
            rintro e w' ⟨rfl, rfl⟩
            rw [hRb]
            dsimp only
            go_wp2_with fail
            refine (hasN_any _ 4 (by omega)).mono ?_
            rintro e w' ⟨rfl, rfl⟩
            rw [show fN 4 = true from rfl]
            dsimp only
            go_wp2_with fail
            go_ret
            exact ⟨by rw [HL.out]; rfl, ((Below.refl _ _).alloc (Nat.le_refl _) _).alloc (by simp) _⟩
  · have HL : Hid (chkF 4 lo hi a b c = 1) := Lib.hid (by simp only [chkF]; simp [fA, fB, fN, hb])
    have eb : (b != 0) = true := by simpa using hb
    clear hb
    go_enter Tryz.func136, Tryz.ntmps136
    go_wp2_with fail
    refine (isOp_any _ _).mono ?_
    rintro e w' ⟨rfl, rfl⟩
    rw [hop]
    dsimp only
    go_wp2_with (refine wpList_load_mid rfl 205 (.tmp 11) rfl 0 (k * 6) rfl [.string s, .int .i64 4, .int .i64 lo, .int .i64 hi, .bool u, .bool v] _ HR.out Tryz.underlying205 rfl info124 ?_)
    refine (hasN_any _ 4 (by omega)).mono ?_
    rintro e w' ⟨rfl, rfl⟩
    rw [show fN 4 = true from rfl]
    dsimp only
    go_wp2_with fail
    refine (hasA_any _ 4 (by omega)).mono ?_
    rintro e w' ⟨rfl, rfl⟩
    rw [show fA 4 = true from rfl]
    dsimp only
    go_wp2_with fail
    refine (hasB_any _ 4 (by omega)).mono ?_
    rintro e w' ⟨rfl, rfl⟩
    rw [show fB 4 = false from rfl]
    dsimp only
    go_wp2_with fail
    go_ret
    exact ⟨by rw [HL.out]; rfl, ((Below.refl _ _).alloc (Nat.le_refl _) _).alloc (by simp) _⟩

set_option maxRecDepth 100000 in
set_option maxHeartbeats 4000000 in
theorem check5 (w : World) (k : Nat) (a b c lo hi : Int) (s : ByteArray) (u v : Bool) (h1 : k < 27) (hw : 0 < w.heap.size) (hr : w.rangeAt 0 (k * 6) [.string s, .int .i64 5, .int .i64 lo, .int .i64 hi, .bool u, .bool v]) :
    Calls Tryz.prog 136 #[insV k a b c] w fun e w' => e = .returned (.int .i64 (chkF 5 lo hi a b c)) ∧ Below w.heap.size w w' := by
  have HR := Lib.hid (range_alloc hr hw (.cells #[.int .i64 k, .int .i64 a, .int .i64 b, .int .i64 c] 109))
  have hop : decide (0 ≤ (k : Int) ∧ (k : Int) < 27) = true := decide_eq_true ⟨by omega, by omega⟩
  have k1 : (k : Int) < 27 := by omega
  clear hr
  unfold insV
  cases hRa : isR a with
  | false =>
    have HL : Hid (chkF 5 lo hi a b c = 2) := Lib.hid (by simp only [chkF, hRa]; simp [fA, fB, fN])
    go_enter Tryz.func136, Tryz.ntmps136
    go_wp2_with fail
    refine (isOp_any _ _).mono ?_
    rintro e w' ⟨rfl, rfl⟩
    rw [hop]
    dsimp only
    go_wp2_with (refine wpList_load_mid rfl 205 (.tmp 11) rfl 0 (k * 6) rfl [.string s, .int .i64 5, .int .i64 lo, .int .i64 hi, .bool u, .bool v] _ HR.out Tryz.underlying205 rfl info124 ?_)
    refine (hasN_any _ 5 (by omega)).mono ?_
    rintro e w' ⟨rfl, rfl⟩
    rw [show fN 5 = true from rfl]
    dsimp only
    go_wp2_with fail
    refine (hasA_any _ 5 (by omega)).mono ?_
    rintro e w' ⟨rfl, rfl⟩
    rw [show fA 5 = true from rfl]
    dsimp only
    go_wp2_with fail
    refine (hasB_any _ 5 (by omega)).mono ?_
    rintro e w' ⟨rfl, rfl⟩
    rw [show fB 5 = true from rfl]
    dsimp only
    go_wp2_with fail
    refine (isReg_any _ _).mono ?_
    rintro e w' ⟨rfl, rfl⟩
    rw [hRa]
    dsimp only
    go_wp2_with fail
    go_ret
    exact ⟨by rw [HL.out]; rfl, ((Below.refl _ _).alloc (Nat.le_refl _) _).alloc (by simp) _⟩
  | true =>
    cases hRb : isR b with
    | false =>
      have HL : Hid (chkF 5 lo hi a b c = 2) := Lib.hid (by simp only [chkF, hRa, hRb]; simp [fA, fB, fN])
      go_enter Tryz.func136, Tryz.ntmps136
      go_wp2_with fail
      refine (isOp_any _ _).mono ?_
      rintro e w' ⟨rfl, rfl⟩
      rw [hop]
      dsimp only
      go_wp2_with (refine wpList_load_mid rfl 205 (.tmp 11) rfl 0 (k * 6) rfl [.string s, .int .i64 5, .int .i64 lo, .int .i64 hi, .bool u, .bool v] _ HR.out Tryz.underlying205 rfl info124 ?_)
      refine (hasN_any _ 5 (by omega)).mono ?_
      rintro e w' ⟨rfl, rfl⟩
      rw [show fN 5 = true from rfl]
      dsimp only
      go_wp2_with fail
      refine (hasA_any _ 5 (by omega)).mono ?_
      rintro e w' ⟨rfl, rfl⟩
      rw [show fA 5 = true from rfl]
      dsimp only
      go_wp2_with fail
      refine (hasB_any _ 5 (by omega)).mono ?_
      rintro e w' ⟨rfl, rfl⟩
      rw [show fB 5 = true from rfl]
      dsimp only
      go_wp2_with fail
      refine (isReg_any _ _).mono ?_
      rintro e w' ⟨rfl, rfl⟩
      rw [hRa]
      dsimp only
      go_wp2_with fail
      refine (isReg_any _ _).mono ?_
      rintro e w' ⟨rfl, rfl⟩
      rw [hRb]
      dsimp only
      go_wp2_with fail
      go_ret
      exact ⟨by rw [HL.out]; rfl, ((Below.refl _ _).alloc (Nat.le_refl _) _).alloc (by simp) _⟩
    | true =>
      by_cases hlo : c < lo
      · have HL : Hid (chkF 5 lo hi a b c = 2) := Lib.hid (by simp only [chkF, hRa, hRb]; simp [fA, fB, fN, hlo])
        have elo : decide (c < lo) = true := by simpa using hlo
        clear hlo
        go_enter Tryz.func136, Tryz.ntmps136
        go_wp2_with fail
        refine (isOp_any _ _).mono ?_
        rintro e w' ⟨rfl, rfl⟩
        rw [hop]
        dsimp only
        go_wp2_with (refine wpList_load_mid rfl 205 (.tmp 11) rfl 0 (k * 6) rfl [.string s, .int .i64 5, .int .i64 lo, .int .i64 hi, .bool u, .bool v] _ HR.out Tryz.underlying205 rfl info124 ?_)
        refine (hasN_any _ 5 (by omega)).mono ?_
        rintro e w' ⟨rfl, rfl⟩
        rw [show fN 5 = true from rfl]
        dsimp only
        go_wp2_with fail
        refine (hasA_any _ 5 (by omega)).mono ?_
        rintro e w' ⟨rfl, rfl⟩
        rw [show fA 5 = true from rfl]
        dsimp only
        go_wp2_with fail
        refine (hasB_any _ 5 (by omega)).mono ?_
        rintro e w' ⟨rfl, rfl⟩
        rw [show fB 5 = true from rfl]
        dsimp only
        go_wp2_with fail
        refine (isReg_any _ _).mono ?_
        rintro e w' ⟨rfl, rfl⟩
        rw [hRa]
        dsimp only
        go_wp2_with fail
        refine (isReg_any _ _).mono ?_
        rintro e w' ⟨rfl, rfl⟩
        rw [hRb]
        dsimp only
        go_wp2_with fail
        refine (hasN_any _ 5 (by omega)).mono ?_
        rintro e w' ⟨rfl, rfl⟩
        rw [show fN 5 = true from rfl]
        dsimp only
        go_wp2_with fail
        go_ret
        exact ⟨by rw [HL.out]; rfl, ((Below.refl _ _).alloc (Nat.le_refl _) _).alloc (by simp) _⟩
      · by_cases hhi : hi < c
        · have HL : Hid (chkF 5 lo hi a b c = 2) := Lib.hid (by simp only [chkF, hRa, hRb]; simp [fA, fB, fN, hlo, hhi])
          have elo : decide (c < lo) = false := by simpa using hlo
          have ehi : decide (hi < c) = true := by simpa using hhi
          clear hlo hhi
          go_enter Tryz.func136, Tryz.ntmps136
          go_wp2_with fail
          refine (isOp_any _ _).mono ?_
          rintro e w' ⟨rfl, rfl⟩
          rw [hop]
          dsimp only
          go_wp2_with (refine wpList_load_mid rfl 205 (.tmp 11) rfl 0 (k * 6) rfl [.string s, .int .i64 5, .int .i64 lo, .int .i64 hi, .bool u, .bool v] _ HR.out Tryz.underlying205 rfl info124 ?_)
          refine (hasN_any _ 5 (by omega)).mono ?_
          rintro e w' ⟨rfl, rfl⟩
          rw [show fN 5 = true from rfl]
          dsimp only
          go_wp2_with fail
          refine (hasA_any _ 5 (by omega)).mono ?_
          rintro e w' ⟨rfl, rfl⟩
          rw [show fA 5 = true from rfl]
          dsimp only
          go_wp2_with fail
          refine (hasB_any _ 5 (by omega)).mono ?_
          rintro e w' ⟨rfl, rfl⟩
          rw [show fB 5 = true from rfl]
          dsimp only
          go_wp2_with fail
          refine (isReg_any _ _).mono ?_
          rintro e w' ⟨rfl, rfl⟩
          rw [hRa]
          dsimp only
          go_wp2_with fail
          refine (isReg_any _ _).mono ?_
          rintro e w' ⟨rfl, rfl⟩
          rw [hRb]
          dsimp only
          go_wp2_with fail
          refine (hasN_any _ 5 (by omega)).mono ?_
          rintro e w' ⟨rfl, rfl⟩
          rw [show fN 5 = true from rfl]
          dsimp only
          go_wp2_with fail
          go_ret
          exact ⟨by rw [HL.out]; rfl, ((Below.refl _ _).alloc (Nat.le_refl _) _).alloc (by simp) _⟩
        · have HL : Hid (chkF 5 lo hi a b c = 0) := Lib.hid (by simp only [chkF, hRa, hRb]; simp [fA, fB, fN, hlo, hhi])
          have elo : decide (c < lo) = false := by simpa using hlo
          have ehi : decide (hi < c) = false := by simpa using hhi
          clear hlo hhi
          go_enter Tryz.func136, Tryz.ntmps136
          go_wp2_with fail
          refine (isOp_any _ _).mono ?_
          rintro e w' ⟨rfl, rfl⟩
          rw [hop]
          dsimp only
          go_wp2_with (refine wpList_load_mid rfl 205 (.tmp 11) rfl 0 (k * 6) rfl [.string s, .int .i64 5, .int .i64 lo, .int .i64 hi, .bool u, .bool v] _ HR.out Tryz.underlying205 rfl info124 ?_)
          refine (hasN_any _ 5 (by omega)).mono ?_
          rintro e w' ⟨rfl, rfl⟩
          rw [show fN 5 = true from rfl]
          dsimp only
          go_wp2_with fail
          refine (hasA_any _ 5 (by omega)).mono ?_
          rintro e w' ⟨rfl, rfl⟩
          rw [show fA 5 = true from rfl]
          dsimp only
          go_wp2_with fail
          refine (hasB_any _ 5 (by omega)).mono ?_
          rintro e w' ⟨rfl, rfl⟩
          rw [show fB 5 = true from rfl]
          dsimp only
          go_wp2_with fail
          refine (isReg_any _ _).mono ?_
          rintro e w' ⟨rfl, rfl⟩
          rw [hRa]
          dsimp only
          go_wp2_with fail
          refine (isReg_any _ _).mono ?_
          rintro e w' ⟨rfl, rfl⟩
          rw [hRb]
          dsimp only
          go_wp2_with fail
          refine (hasN_any _ 5 (by omega)).mono ?_
          rintro e w' ⟨rfl, rfl⟩
          rw [show fN 5 = true from rfl]
          dsimp only
          go_wp2_with fail
          go_ret
          exact ⟨by rw [HL.out]; rfl, ((Below.refl _ _).alloc (Nat.le_refl _) _).alloc (by simp) _⟩

set_option maxRecDepth 100000 in
set_option maxHeartbeats 4000000 in
theorem check6 (w : World) (k : Nat) (a b c lo hi : Int) (s : ByteArray) (u v : Bool) (h1 : k < 27) (hw : 0 < w.heap.size) (hr : w.rangeAt 0 (k * 6) [.string s, .int .i64 6, .int .i64 lo, .int .i64 hi, .bool u, .bool v]) :
    Calls Tryz.prog 136 #[insV k a b c] w fun e w' => e = .returned (.int .i64 (chkF 6 lo hi a b c)) ∧ Below w.heap.size w w' := by
  have HR := Lib.hid (range_alloc hr hw (.cells #[.int .i64 k, .int .i64 a, .int .i64 b, .int .i64 c] 109))
  have hop : decide (0 ≤ (k : Int) ∧ (k : Int) < 27) = true := decide_eq_true ⟨by omega, by omega⟩
  have k1 : (k : Int) < 27 := by omega
  clear hr
  unfold insV
  by_cases ha : a = 0
  · by_cases hb : b = 0
    · cases hRa : isR a with
      | false =>
        have HL : Hid (chkF 6 lo hi a b c = 2) := Lib.hid (by simp only [chkF, hRa]; simp [fA, fB, fN, ha, hb])
        have ea : (a != 0) = false := by simpa using ha
        have eb : (b != 0) = false := by simpa using hb
        clear ha hb
        go_enter Tryz.func136, Tryz.ntmps136
        go_wp2_with fail
        refine (isOp_any _ _).mono ?_
        rintro e w' ⟨rfl, rfl⟩
        rw [hop]
        dsimp only
        go_wp2_with (refine wpList_load_mid rfl 205 (.tmp 11) rfl 0 (k * 6) rfl [.string s, .int .i64 6, .int .i64 lo, .int .i64 hi, .bool u, .bool v] _ HR.out Tryz.underlying205 rfl info124 ?_)
        refine (hasN_any _ 6 (by omega)).mono ?_
        rintro e w' ⟨rfl, rfl⟩
        rw [show fN 6 = true from rfl]
        dsimp only
        go_wp2_with fail
        refine (hasA_any _ 6 (by omega)).mono ?_
        rintro e w' ⟨rfl, rfl⟩
        rw [show fA 6 = false from rfl]
        dsimp only
        go_wp2_with fail
        refine (hasB_any _ 6 (by omega)).mono ?_
        rintro e w' ⟨rfl, rfl⟩
        rw [show fB 6 = false from rfl]
        dsimp only
        go_wp2_with fail
        refine (isReg_any _ _).mono ?_
        rintro e w' ⟨rfl, rfl⟩
        rw [hRa]
        dsimp only
        go_wp2_with fail
        go_ret
        exact ⟨by rw [HL.out]; rfl, ((Below.refl _ _).alloc (Nat.le_refl _) _).alloc (by simp) _⟩
      | true =>
        cases hRb : isR b with
        | false =>
          have HL : Hid (chkF 6 lo hi a b c = 2) := Lib.hid (by simp only [chkF, hRa, hRb]; simp [fA, fB, fN, ha, hb])
          have ea : (a != 0) = false := by simpa using ha
          have eb : (b != 0) = false := by simpa using hb
          clear ha hb
          go_enter Tryz.func136, Tryz.ntmps136
          go_wp2_with fail
          refine (isOp_any _ _).mono ?_
          rintro e w' ⟨rfl, rfl⟩
          rw [hop]
          dsimp only
          go_wp2_with (refine wpList_load_mid rfl 205 (.tmp 11) rfl 0 (k * 6) rfl [.string s, .int .i64 6, .int .i64 lo, .int .i64 hi, .bool u, .bool v] _ HR.out Tryz.underlying205 rfl info124 ?_)
          refine (hasN_any _ 6 (by omega)).mono ?_
          rintro e w' ⟨rfl, rfl⟩
          rw [show fN 6 = true from rfl]
          dsimp only
          go_wp2_with fail
          refine (hasA_any _ 6 (by omega)).mono ?_
          rintro e w' ⟨rfl, rfl⟩
          rw [show fA 6 = false from rfl]
          dsimp only
          go_wp2_with fail
          refine (hasB_any _ 6 (by omega)).mono ?_
          rintro e w' ⟨rfl, rfl⟩
          rw [show fB 6 = false from rfl]
          dsimp only
          go_wp2_with fail
          refine (isReg_any _ _).mono ?_
          rintro e w' ⟨rfl, rfl⟩
          rw [hRa]
          dsimp only
          go_wp2_with fail
          refine (isReg_any _ _).mono ?_
          rintro e w' ⟨rfl, rfl⟩
          rw [hRb]
          dsimp only
          go_wp2_with fail
          go_ret
          exact ⟨by rw [HL.out]; rfl, ((Below.refl _ _).alloc (Nat.le_refl _) _).alloc (by simp) _⟩
        | true =>
          by_cases hlo : c < lo
          · have HL : Hid (chkF 6 lo hi a b c = 2) := Lib.hid (by simp only [chkF, hRa, hRb]; simp [fA, fB, fN, ha, hb, hlo])
            have ea : (a != 0) = false := by simpa using ha
            have eb : (b != 0) = false := by simpa using hb
            have elo : decide (c < lo) = true := by simpa using hlo
            clear ha hb hlo
            go_enter Tryz.func136, Tryz.ntmps136
            go_wp2_with fail
            refine (isOp_any _ _).mono ?_
            rintro e w' ⟨rfl, rfl⟩
            rw [hop]
            dsimp only
            go_wp2_with (refine wpList_load_mid rfl 205 (.tmp 11) rfl 0 (k * 6) rfl [.string s, .int .i64 6, .int .i64 lo, .int .i64 hi, .bool u, .bool v] _ HR.out Tryz.underlying205 rfl info124 ?_)
            refine (hasN_any _ 6 (by omega)).mono ?_
            rintro e w' ⟨rfl, rfl⟩
            rw [show fN 6 = true from rfl]
            dsimp only
            go_wp2_with fail
            refine (hasA_any _ 6 (by omega)).mono ?_
            rintro e w' ⟨rfl, rfl⟩
            rw [show fA 6 = false from rfl]
            dsimp only
            go_wp2_with fail
            refine (hasB_any _ 6 (by omega)).mono ?_
            rintro e w' ⟨rfl, rfl⟩
            rw [show fB 6 = false from rfl]
            dsimp only
            go_wp2_with fail
            refine (isReg_any _ _).mono ?_
            rintro e w' ⟨rfl, rfl⟩
            rw [hRa]
            dsimp only
            go_wp2_with fail
            refine (isReg_any _ _).mono ?_
            rintro e w' ⟨rfl, rfl⟩
            rw [hRb]
            dsimp only
            go_wp2_with fail
            refine (hasN_any _ 6 (by omega)).mono ?_
            rintro e w' ⟨rfl, rfl⟩
            rw [show fN 6 = true from rfl]
            dsimp only
            go_wp2_with fail
            go_ret
            exact ⟨by rw [HL.out]; rfl, ((Below.refl _ _).alloc (Nat.le_refl _) _).alloc (by simp) _⟩
          · by_cases hhi : hi < c
            · have HL : Hid (chkF 6 lo hi a b c = 2) := Lib.hid (by simp only [chkF, hRa, hRb]; simp [fA, fB, fN, ha, hb, hlo, hhi])
              have ea : (a != 0) = false := by simpa using ha
              have eb : (b != 0) = false := by simpa using hb
              have elo : decide (c < lo) = false := by simpa using hlo
              have ehi : decide (hi < c) = true := by simpa using hhi
              clear ha hb hlo hhi
              go_enter Tryz.func136, Tryz.ntmps136
              go_wp2_with fail
              refine (isOp_any _ _).mono ?_
              rintro e w' ⟨rfl, rfl⟩
              rw [hop]
              dsimp only
              go_wp2_with (refine wpList_load_mid rfl 205 (.tmp 11) rfl 0 (k * 6) rfl [.string s, .int .i64 6, .int .i64 lo, .int .i64 hi, .bool u, .bool v] _ HR.out Tryz.underlying205 rfl info124 ?_)
              refine (hasN_any _ 6 (by omega)).mono ?_
              rintro e w' ⟨rfl, rfl⟩
              rw [show fN 6 = true from rfl]
              dsimp only
              go_wp2_with fail
              refine (hasA_any _ 6 (by omega)).mono ?_
              rintro e w' ⟨rfl, rfl⟩
              rw [show fA 6 = false from rfl]
              dsimp only
              go_wp2_with fail
              refine (hasB_any _ 6 (by omega)).mono ?_
              rintro e w' ⟨rfl, rfl⟩
              rw [show fB 6 = false from rfl]
              dsimp only
              go_wp2_with fail
              refine (isReg_any _ _).mono ?_
              rintro e w' ⟨rfl, rfl⟩
              rw [hRa]
              dsimp only
              go_wp2_with fail
              refine (isReg_any _ _).mono ?_
              rintro e w' ⟨rfl, rfl⟩
              rw [hRb]
              dsimp only
              go_wp2_with fail
              refine (hasN_any _ 6 (by omega)).mono ?_
              rintro e w' ⟨rfl, rfl⟩
              rw [show fN 6 = true from rfl]
              dsimp only
              go_wp2_with fail
              go_ret
              exact ⟨by rw [HL.out]; rfl, ((Below.refl _ _).alloc (Nat.le_refl _) _).alloc (by simp) _⟩
            · have HL : Hid (chkF 6 lo hi a b c = 0) := Lib.hid (by simp only [chkF, hRa, hRb]; simp [fA, fB, fN, ha, hb, hlo, hhi])
              have ea : (a != 0) = false := by simpa using ha
              have eb : (b != 0) = false := by simpa using hb
              have elo : decide (c < lo) = false := by simpa using hlo
              have ehi : decide (hi < c) = false := by simpa using hhi
              clear ha hb hlo hhi
              go_enter Tryz.func136, Tryz.ntmps136
              go_wp2_with fail
              refine (isOp_any _ _).mono ?_
              rintro e w' ⟨rfl, rfl⟩
              rw [hop]
              dsimp only
              go_wp2_with (refine wpList_load_mid rfl 205 (.tmp 11) rfl 0 (k * 6) rfl [.string s, .int .i64 6, .int .i64 lo, .int .i64 hi, .bool u, .bool v] _ HR.out Tryz.underlying205 rfl info124 ?_)
              refine (hasN_any _ 6 (by omega)).mono ?_
              rintro e w' ⟨rfl, rfl⟩
              rw [show fN 6 = true from rfl]
              dsimp only
              go_wp2_with fail
              refine (hasA_any _ 6 (by omega)).mono ?_
              rintro e w' ⟨rfl, rfl⟩
              rw [show fA 6 = false from rfl]
              dsimp only
              go_wp2_with fail
              refine (hasB_any _ 6 (by omega)).mono ?_
              rintro e w' ⟨rfl, rfl⟩
              rw [show fB 6 = false from rfl]
              dsimp only
              go_wp2_with fail
              refine (isReg_any _ _).mono ?_
              rintro e w' ⟨rfl, rfl⟩
              rw [hRa]
              dsimp only
              go_wp2_with fail
              refine (isReg_any _ _).mono ?_
              rintro e w' ⟨rfl, rfl⟩
              rw [hRb]
              dsimp only
              go_wp2_with fail
              refine (hasN_any _ 6 (by omega)).mono ?_
              rintro e w' ⟨rfl, rfl⟩
              rw [show fN 6 = true from rfl]
              dsimp only
              go_wp2_with fail
              go_ret
              exact ⟨by rw [HL.out]; rfl, ((Below.refl _ _).alloc (Nat.le_refl _) _).alloc (by simp) _⟩
    · have HL : Hid (chkF 6 lo hi a b c = 1) := Lib.hid (by simp only [chkF]; simp [fA, fB, fN, ha, hb])
      have ea : (a != 0) = false := by simpa using ha
      have eb : (b != 0) = true := by simpa using hb
      clear ha hb
      go_enter Tryz.func136, Tryz.ntmps136
      go_wp2_with fail
      refine (isOp_any _ _).mono ?_
      rintro e w' ⟨rfl, rfl⟩
      rw [hop]
      dsimp only
      go_wp2_with (refine wpList_load_mid rfl 205 (.tmp 11) rfl 0 (k * 6) rfl [.string s, .int .i64 6, .int .i64 lo, .int .i64 hi, .bool u, .bool v] _ HR.out Tryz.underlying205 rfl info124 ?_)
      refine (hasN_any _ 6 (by omega)).mono ?_
      rintro e w' ⟨rfl, rfl⟩
      rw [show fN 6 = true from rfl]
      dsimp only
      go_wp2_with fail
      refine (hasA_any _ 6 (by omega)).mono ?_
      rintro e w' ⟨rfl, rfl⟩
      rw [show fA 6 = false from rfl]
      dsimp only
      go_wp2_with fail
      refine (hasB_any _ 6 (by omega)).mono ?_
      rintro e w' ⟨rfl, rfl⟩
      rw [show fB 6 = false from rfl]
      dsimp only
      go_wp2_with fail
      go_ret
      exact ⟨by rw [HL.out]; rfl, ((Below.refl _ _).alloc (Nat.le_refl _) _).alloc (by simp) _⟩
  · have HL : Hid (chkF 6 lo hi a b c = 1) := Lib.hid (by simp only [chkF]; simp [fA, fB, fN, ha])
    have ea : (a != 0) = true := by simpa using ha
    clear ha
    go_enter Tryz.func136, Tryz.ntmps136
    go_wp2_with fail
    refine (isOp_any _ _).mono ?_
    rintro e w' ⟨rfl, rfl⟩
    rw [hop]
    dsimp only
    go_wp2_with (refine wpList_load_mid rfl 205 (.tmp 11) rfl 0 (k * 6) rfl [.string s, .int .i64 6, .int .i64 lo, .int .i64 hi, .bool u, .bool v] _ HR.out Tryz.underlying205 rfl info124 ?_)
    refine (hasN_any _ 6 (by omega)).mono ?_
    rintro e w' ⟨rfl, rfl⟩
    rw [show fN 6 = true from rfl]
    dsimp only
    go_wp2_with fail
    refine (hasA_any _ 6 (by omega)).mono ?_
    rintro e w' ⟨rfl, rfl⟩
    rw [show fA 6 = false from rfl]
    dsimp only
    go_wp2_with fail
    go_ret
    exact ⟨by rw [HL.out]; rfl, ((Below.refl _ _).alloc (Nat.le_refl _) _).alloc (by simp) _⟩

theorem check_any (w : World) (ho : Ops w) (op a b c : Int) : Calls Tryz.prog 136 #[insV op a b c] w fun e w' => e = .returned (.int .i64 (checkI op a b c)) ∧ Below w.heap.size w w' := by
  unfold checkI
  by_cases h : op < 0 ∨ 27 ≤ op
  · rw [if_pos h]
    have hop : decide (0 ≤ op ∧ op < 27) = false := decide_eq_false (by omega)
    clear h
    unfold insV
    go_enter Tryz.func136, Tryz.ntmps136
    go_wp2_with fail
    refine (isOp_any _ _).mono ?_
    rintro e w' ⟨rfl, rfl⟩
    rw [hop]
    dsimp only
    go_wp2_with fail
    go_ret
    exact ⟨rfl, (Below.refl _ _).alloc (Nat.le_refl _) _⟩
  · rw [if_neg h]
    obtain ⟨k, rfl⟩ : ∃ k : Nat, op = k := ⟨op.toNat, by omega⟩
    rw [Int.toNat_natCast]
    obtain ⟨s, u, v, hr⟩ := ho.2 k (by omega)
    have hf := opT_lt k
    unfold opCells at hr
    generalize (opT k).1 = f at *
    generalize (opT k).2.1 = lo at *
    generalize (opT k).2.2 = hi at *
    match f, hf with
    | 0, _ => exact check0 w k a b c lo hi s u v (by omega) ho.1 hr
    | 1, _ => exact check1 w k a b c lo hi s u v (by omega) ho.1 hr
    | 2, _ => exact check2 w k a b c lo hi s u v (by omega) ho.1 hr
    | 3, _ => exact check3 w k a b c lo hi s u v (by omega) ho.1 hr
    | 4, _ => exact check4 w k a b c lo hi s u v (by omega) ho.1 hr
    | 5, _ => exact check5 w k a b c lo hi s u v (by omega) ho.1 hr
    | 6, _ => exact check6 w k a b c lo hi s u v (by omega) ho.1 hr
end Go.Proofs.YtkoomlbnfhdhcaaGreatDoor
