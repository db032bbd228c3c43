/-
  Walks: bits of a mode; Require, and the reference's.
-/
import Derived.Test.YtemcabepbncicaaDoorAccA
namespace Go.Proofs.YtemcabepbncicaaDoor
open Go.RowKit

/-! ### Bits of numbers that are not negative -/
theorem ofInt_i64 (a : Nat) (ha : a < 9223372036854775808) : (BitVec.ofInt 64 (a : Int)).toNat = a := by
  rw [BitVec.ofInt_natCast, BitVec.toNat_ofNat]; exact Nat.mod_eq_of_lt (by omega)
theorem wrap_nat (x : Nat) (h : x < 9223372036854775808) : IntKind.i64.wrap (x : Int) = (x : Int) := by rw [IntKind.wrap_i64]; omega
theorem i64_and_nat (a b : Nat) (ha : a < 9223372036854775808) (hb : b < 9223372036854775808) : bits .and .i64 (a : Int) (b : Int) = ((a &&& b : Nat) : Int) := by
  show IntKind.i64.wrap ((BitVec.ofInt 64 (a : Int) &&& BitVec.ofInt 64 (b : Int)).toNat : Int) = _
  rw [BitVec.toNat_and, ofInt_i64 a ha, ofInt_i64 b hb]
  exact wrap_nat _ (Nat.lt_of_le_of_lt Nat.and_le_left ha)
theorem i64_or_nat (a b : Nat) (ha : a < 9223372036854775808) (hb : b < 9223372036854775808) : bits .or .i64 (a : Int) (b : Int) = ((a ||| b : Nat) : Int) := by
  show IntKind.i64.wrap ((BitVec.ofInt 64 (a : Int) ||| BitVec.ofInt 64 (b : Int)).toNat : Int) = _
  rw [BitVec.toNat_or, ofInt_i64 a ha, ofInt_i64 b hb]
  exact wrap_nat _ (Nat.or_lt_two_pow (n := 63) ha hb)
/-- A number without the bits of another. -/
def clr (a b : Nat) : Nat := a ^^^ (a &&& b)
theorem clr_bit (a b i : Nat) : (clr a b).testBit i = (a.testBit i && !b.testBit i) := by
  unfold clr
  rw [Nat.testBit_xor, Nat.testBit_and]
  cases a.testBit i <;> cases b.testBit i <;> rfl
theorem clr_lt (a b k : Nat) (h : a < 2 ^ k) : clr a b < 2 ^ k := Nat.xor_lt_two_pow h (Nat.lt_of_le_of_lt Nat.and_le_left h)
theorem i64_andNot_nat (a b : Nat) (ha : a < 9223372036854775808) (hb : b < 9223372036854775808) : bits .andNot .i64 (a : Int) (b : Int) = ((clr a b : Nat) : Int) := by
  show IntKind.i64.wrap ((BitVec.ofInt 64 (a : Int) &&& ~~~BitVec.ofInt 64 (b : Int)).toNat : Int) = _
  have e : (BitVec.ofInt 64 (a : Int) &&& ~~~BitVec.ofInt 64 (b : Int)).toNat = clr a b := by
    apply Nat.eq_of_testBit_eq
    intro i
    rw [clr_bit, BitVec.toNat_and, BitVec.toNat_not, ofInt_i64 a ha, ofInt_i64 b hb, Nat.testBit_and, show 2 ^ 64 - 1 - b = 2 ^ 64 - (b + 1) by omega, Nat.testBit_two_pow_sub_succ (by omega)]
    by_cases hi : i < 64
    · simp [hi]
    · have : a.testBit i = false := Nat.testBit_lt_two_pow (Nat.lt_of_lt_of_le ha (Nat.pow_le_pow_right (n := 2) (by omega) (show 63 ≤ i by omega)))
      simp [this]
  rw [e]
  exact wrap_nat _ (clr_lt a b 63 ha)

/-! ### Bits -/
/-- The bits of a class. -/
def bitsN (n c : Nat) : Nat := n / 8 ^ (2 - c) % 8
def bitsV (x c : Int) : Nat := if 0 ≤ x ∧ x ≤ 2047 ∧ 0 ≤ c ∧ c ≤ 2 then bitsN x.toNat c.toNat else 0
theorem bitsN_lt (n c : Nat) : bitsN n c < 8 := Nat.mod_lt _ (by omega)
theorem bitsV_lt (x c : Int) : bitsV x c < 8 := by unfold bitsV; split; exact bitsN_lt _ _; omega

theorem bits_ok (n c : Nat) (hn : n ≤ 2047) (hc : c ≤ 2) (w : World) (hs : Sh w) : Calls Tryd.prog 16 #[.int .i64 n, .int .i64 c] w fun e w' => e = .returned (.int .i64 (bitsN n c)) ∧ w = w' := by
  obtain ⟨_, s0, s1, s2⟩ := hs
  have hmb := Lib.hid (modeB_yes (x := (n : Int)) (by omega) (by omega))
  have ha := fun k : Nat => i64_and_nat (n / k) 7 (Nat.lt_of_le_of_lt (Nat.div_le_self _ _) (by omega)) (by omega)
  have hm := fun k : Nat => show (n / k) &&& 7 = n / k % 8 from Nat.and_two_pow_sub_one_eq_mod _ 3
  have e1 : decide ((c : Int) < 0) = false := decide_eq_false (by omega)
  have e2 : decide ((2 : Int) < c) = false := decide_eq_false (by omega)
  match c, hc with
  | 0, _ =>
    have hr : Hid (bitsN n 0 = n / 64 % 8) := Lib.hid rfl
    have a1 : bits .and .i64 ((n : Int) / 64) 7 = ((n / 64 % 8 : Nat) : Int) := by rw [← hm 64]; exact ha 64
    clear ha hm s1 s2
    go_enter Tryd.func16, Tryd.ntmps16
    go_wp2_with fail
    refine (isMode_any _ w).mono ?_
    rintro e w' ⟨rfl, rfl⟩
    rw [hmb.out]
    dsimp only
    go_wp2_with fail
    go_ret
    exact ⟨by rw [hr.out]; rfl, rfl⟩
  | 1, _ =>
    have hr : Hid (bitsN n 1 = n / 8 % 8) := Lib.hid rfl
    have a1 : bits .and .i64 ((n : Int) / 8) 7 = ((n / 8 % 8 : Nat) : Int) := by rw [← hm 8]; exact ha 8
    clear ha hm s0 s2
    go_enter Tryd.func16, Tryd.ntmps16
    go_wp2_with fail
    refine (isMode_any _ w).mono ?_
    rintro e w' ⟨rfl, rfl⟩
    rw [hmb.out]
    dsimp only
    go_wp2_with fail
    go_ret
    exact ⟨by rw [hr.out]; rfl, rfl⟩
  | 2, _ =>
    have hr : Hid (bitsN n 2 = n % 8) := Lib.hid (by unfold bitsN; simp)
    have a1 : bits .and .i64 ((n : Int)) 7 = ((n % 8 : Nat) : Int) := by
      have := hm 1
      have h2 := ha 1
      rw [Nat.div_one] at this h2
      rw [← this]; exact h2
    clear ha hm s0 s1
    go_enter Tryd.func16, Tryd.ntmps16
    go_wp2_with fail
    refine (isMode_any _ w).mono ?_
    rintro e w' ⟨rfl, rfl⟩
    rw [hmb.out]
    dsimp only
    go_wp2_with fail
    go_ret
    exact ⟨by rw [hr.out]; rfl, rfl⟩

theorem bits_any (x c : Int) (w : World) (hs : Sh w) : Calls Tryd.prog 16 #[.int .i64 x, .int .i64 c] w fun e w' => e = .returned (.int .i64 (bitsV x c)) ∧ w = w' := by
  by_cases h : 0 ≤ x ∧ x ≤ 2047
  · have hmb := Lib.hid (modeB_yes h.1 h.2)
    by_cases h0 : c < 0
    · have hr : Hid (bitsV x c = 0) := Lib.hid (by unfold bitsV; rw [if_neg (by omega)])
      have e1 : decide (c < 0) = true := decide_eq_true h0
      go_enter Tryd.func16, Tryd.ntmps16
      go_wp2_with fail
      refine (isMode_any _ w).mono ?_
      rintro e w' ⟨rfl, rfl⟩
      rw [hmb.out]
      dsimp only
      go_wp2_with fail
      go_ret
      exact ⟨by rw [hr.out]; rfl, rfl⟩
    · by_cases h2 : 2 < c
      · have hr : Hid (bitsV x c = 0) := Lib.hid (by unfold bitsV; rw [if_neg (by omega)])
        have e1 : decide (c < 0) = false := decide_eq_false h0
        have e2 : decide (2 < c) = true := decide_eq_true h2
        go_enter Tryd.func16, Tryd.ntmps16
        go_wp2_with fail
        refine (isMode_any _ w).mono ?_
        rintro e w' ⟨rfl, rfl⟩
        rw [hmb.out]
        dsimp only
        go_wp2_with fail
        go_ret
        exact ⟨by rw [hr.out]; rfl, rfl⟩
      · obtain ⟨n, rfl⟩ : ∃ n : Nat, x = n := ⟨x.toNat, by omega⟩
        obtain ⟨k, rfl⟩ : ∃ k : Nat, c = k := ⟨c.toNat, by omega⟩
        have hr : bitsV n k = bitsN n k := by unfold bitsV; rw [if_pos (by omega)]; rfl
        rw [hr]
        exact bits_ok n k (by omega) (by omega) w hs
  · have hmb := Lib.hid (modeB_no (x := x) (by omega))
    have hr : Hid (bitsV x c = 0) := Lib.hid (by unfold bitsV; rw [if_neg (by omega)])
    clear h
    go_enter Tryd.func16, Tryd.ntmps16
    go_wp2_with fail
    refine (isMode_any _ w).mono ?_
    rintro e w' ⟨rfl, rfl⟩
    rw [hmb.out]
    dsimp only
    go_wp2_with fail
    go_ret
    exact ⟨by rw [hr.out]; rfl, rfl⟩

theorem rbits_any (x c : Int) (w : World) : Calls Tryd.prog 17 #[.int .i64 x, .int .i64 c] w fun e w' => e = .returned (.int .i64 (bitsV x c)) ∧ w = w' := by
  by_cases h : 0 ≤ x ∧ x ≤ 2047
  · have hmb := Lib.hid (modeB_yes h.1 h.2)
    by_cases h0 : c < 0
    · have hr : Hid (bitsV x c = 0) := Lib.hid (by unfold bitsV; rw [if_neg (by omega)])
      have e1 : decide (c < 0) = true := decide_eq_true h0
      go_enter Tryd.func17, Tryd.ntmps17
      go_wp2_with fail
      refine (valid_any _ w).mono ?_
      rintro e w' ⟨rfl, rfl⟩
      rw [hmb.out]
      dsimp only
      go_wp2_with fail
      go_ret
      exact ⟨by rw [hr.out]; rfl, rfl⟩
    · by_cases h2 : 2 < c
      · have hr : Hid (bitsV x c = 0) := Lib.hid (by unfold bitsV; rw [if_neg (by omega)])
        have e1 : decide (c < 0) = false := decide_eq_false h0
        have e2 : decide (2 < c) = true := decide_eq_true h2
        go_enter Tryd.func17, Tryd.ntmps17
        go_wp2_with fail
        refine (valid_any _ w).mono ?_
        rintro e w' ⟨rfl, rfl⟩
        rw [hmb.out]
        dsimp only
        go_wp2_with fail
        go_ret
        exact ⟨by rw [hr.out]; rfl, rfl⟩
      · obtain ⟨n, rfl⟩ : ∃ n : Nat, x = n := ⟨x.toNat, by omega⟩
        obtain ⟨k, rfl⟩ : ∃ k : Nat, c = k := ⟨c.toNat, by omega⟩
        have hk : k ≤ 2 := by omega
        have hn : n ≤ 2047 := by omega
        have hr : Hid (bitsV n k = bitsN n k) := Lib.hid (by unfold bitsV; rw [if_pos (by omega)]; rfl)
        have e1 : decide ((k : Int) < 0) = false := decide_eq_false (by omega)
        have e2 : decide ((2 : Int) < k) = false := decide_eq_false (by omega)
        clear h h0 h2
        go_enter Tryd.func17, Tryd.ntmps17
        go_wp2_with fail
        refine (valid_any _ w).mono ?_
        rintro e w' ⟨rfl, rfl⟩
        rw [hmb.out]
        dsimp only
        go_wp2_with fail
        go_loopg [0, 5] (2 - k) (fun q mv iv wr => wr = w ∧ ∃ (j X : Nat), iv = .int .i64 j ∧ q = 2 - j ∧ k ≤ j ∧ j ≤ 2 ∧ X = n / 8 ^ (j - k) ∧ mv = .int .i64 X)
        case atStart => exact ⟨rfl, k, n, rfl, rfl, by omega, by omega, by simp, rfl⟩
        case round =>
          obtain ⟨rfl, j, X, rfl, rfl, hj1, hj2, hX, rfl⟩ := hrel
          have hXl : X ≤ 2047 := by rw [hX]; exact Nat.le_trans (Nat.div_le_self _ _) hn
          by_cases hlt : j < 2
          · have j1 : (j : Int) < 2 := by omega
            have hX2 : X / 8 = n / 8 ^ (j + 1 - k) := by rw [hX, Nat.div_div_eq_div_mul, ← Nat.pow_succ, show (j - k).succ = j + 1 - k by omega]
            have HX := Lib.hid hX2
            clear hX hX2
            go_wp2_with fail
            go_roundg (2 - (j + 1))
            case measure => omega
            case rel => exact ⟨rfl, j + 1, X / 8, by go_num, rfl, by omega, by omega, HX.out, rfl⟩
          · obtain rfl : j = 2 := by omega
            have hX3 : Hid (X % 8 = bitsN n k) := Lib.hid (by unfold bitsN; rw [hX])
            clear hX
            go_wp2_with fail
            go_ret
            exact ⟨by rw [hr.out, ← hX3.out]; rfl, rfl⟩
  · have hmb := Lib.hid (modeB_no (x := x) (by omega))
    have hr : Hid (bitsV x c = 0) := Lib.hid (by unfold bitsV; rw [if_neg (by omega)])
    clear h
    go_enter Tryd.func17, Tryd.ntmps17
    go_wp2_with fail
    refine (valid_any _ w).mono ?_
    rintro e w' ⟨rfl, rfl⟩
    rw [hmb.out]
    dsimp only
    go_wp2_with fail
    go_ret
    exact ⟨by rw [hr.out]; rfl, rfl⟩
end Go.Proofs.YtemcabepbncicaaDoor
