/-
  Walks: the reference's Calculate.
-/
import Derived.Test.YtpadpggdealgkaaDoorRRRPlC
import Derived.Laws.Bits64b
namespace Go.Proofs.YtpadpggdealgkaaDoorRRR
open Go.RowKit
set_option linter.unusedVariables false
set_option linter.unusedSectionVars false
set_option linter.unusedSimpArgs false

theorem ofi (a : Nat) (ha : a < 4294967296) : (BitVec.ofInt 32 (a : Int)).toNat = a := by
  rw [BitVec.ofInt_natCast, BitVec.toNat_ofNat]; exact Nat.mod_eq_of_lt (by omega)
theorem bits_and32 (a b : Nat) (ha : a < 4294967296) (hb : b < 4294967296) : bits .and .u32 (a : Int) (b : Int) = ((a &&& b : Nat) : Int) := by
  have hx : a &&& b < 2 ^ 32 := Nat.and_lt_two_pow _ (by omega)
  show IntKind.u32.wrap ((BitVec.ofInt 32 (a : Int) &&& BitVec.ofInt 32 (b : Int)).toNat : Int) = _
  rw [BitVec.toNat_and, ofi a ha, ofi b hb, IntKind.wrap_u32]
  omega
theorem bits_or32 (a b : Nat) (ha : a < 4294967296) (hb : b < 4294967296) : bits .or .u32 (a : Int) (b : Int) = ((a ||| b : Nat) : Int) := by
  have hx : a ||| b < 2 ^ 32 := Nat.or_lt_two_pow (by omega) (by omega)
  show IntKind.u32.wrap ((BitVec.ofInt 32 (a : Int) ||| BitVec.ofInt 32 (b : Int)).toNat : Int) = _
  rw [BitVec.toNat_or, ofi a ha, ofi b hb, IntKind.wrap_u32]
  omega
theorem bits_xor32 (a b : Nat) (ha : a < 4294967296) (hb : b < 4294967296) : bits .xor .u32 (a : Int) (b : Int) = ((a ^^^ b : Nat) : Int) := by
  have hx : a ^^^ b < 2 ^ 32 := Nat.xor_lt_two_pow (by omega) (by omega)
  show IntKind.u32.wrap ((BitVec.ofInt 32 (a : Int) ^^^ BitVec.ofInt 32 (b : Int)).toNat : Int) = _
  rw [BitVec.toNat_xor, ofi a ha, ofi b hb, IntKind.wrap_u32]
  omega
def btN (x i : Nat) : Nat := x / 2 ^ i % 2
theorem btN_le (x i : Nat) : btN x i ≤ 1 := by unfold btN; omega
theorem and_bt (a b i : Nat) : btN (a &&& b) i = if btN a i + btN b i = 2 then 1 else 0 := by
  have h := Nat.testBit_and a b i
  simp only [Nat.testBit_eq_decide_div_mod_eq] at h
  have h0 := btN_le a i
  have h1 := btN_le b i
  have h2 := btN_le (a &&& b) i
  unfold btN at *
  generalize a / 2 ^ i % 2 = p at *
  generalize b / 2 ^ i % 2 = q at *
  generalize (a &&& b) / 2 ^ i % 2 = r at *
  by_cases hp : p = 1 <;> by_cases hq : q = 1 <;> simp [hp, hq] at h <;> split <;> omega
theorem or_bt (a b i : Nat) : btN (a ||| b) i = if 0 < btN a i + btN b i then 1 else 0 := by
  have h := Nat.testBit_or a b i
  simp only [Nat.testBit_eq_decide_div_mod_eq] at h
  have h0 := btN_le a i
  have h1 := btN_le b i
  have h2 := btN_le (a ||| b) i
  unfold btN at *
  generalize a / 2 ^ i % 2 = p at *
  generalize b / 2 ^ i % 2 = q at *
  generalize (a ||| b) / 2 ^ i % 2 = r at *
  by_cases hp : p = 1 <;> by_cases hq : q = 1 <;> simp [hp, hq] at h <;> split <;> omega
theorem xor_bt (a b i : Nat) : btN (a ^^^ b) i = if btN a i + btN b i = 1 then 1 else 0 := by
  have h := Nat.testBit_xor a b i
  simp only [Nat.testBit_eq_decide_div_mod_eq] at h
  have h0 := btN_le a i
  have h1 := btN_le b i
  have h2 := btN_le (a ^^^ b) i
  unfold btN at *
  generalize a / 2 ^ i % 2 = p at *
  generalize b / 2 ^ i % 2 = q at *
  generalize (a ^^^ b) / 2 ^ i % 2 = r at *
  by_cases hp : p = 1 <;> by_cases hq : q = 1 <;> simp [hp, hq] at h <;> split <;> omega
theorem half_bt (V i : Nat) : V / 2 ^ i = 2 * (V / 2 ^ (i + 1)) + btN V i := by
  unfold btN
  rw [Nat.pow_succ, ← Nat.div_div_eq_div_mul]
  omega
theorem refUnsigned_pos (w : World) (n : Int) (h0 : 0 ≤ n) (h1 : n ≤ 9223372036854775807) : Calls Tryd.prog 33 #[.int .i64 n] w fun e w' => e = .returned (.int .u32 (n % 4294967296)) ∧ w = w' := by
  have g0 : decide (n % 4294967296 < 0) = false := decide_eq_false (by omega)
  go_enter Tryd.func33, Tryd.ntmps33
  go_wp2_with fail
  go_ret
  exact ⟨rfl, rfl⟩
theorem refUnsigned_neg (w : World) (n : Int) (h0 : n < 0) (h1 : -4294967296 < n) : Calls Tryd.prog 33 #[.int .i64 n] w fun e w' => e = .returned (.int .u32 (n % 4294967296)) ∧ w = w' := by
  have e1 : n.tmod 4294967296 = n := by
    rw [← Int.neg_neg n, Int.neg_tmod, Int.tmod_eq_emod_of_nonneg (by omega), Int.emod_eq_of_lt (by omega) (by omega)]
  have e2 : n % 4294967296 = n + 4294967296 := by omega
  rw [e2]
  have g0 : decide (n < 0) = true := decide_eq_true h0
  have g1 : 0 ≤ n + 4294967296 := by omega
  have g2 : n + 4294967296 < 4294967296 := by omega
  clear e2
  go_enter Tryd.func33, Tryd.ntmps33
  go_wp2_with fail
  go_ret
  exact ⟨rfl, rfl⟩
theorem refUnsigned_any (w : World) (n : Int) (h0 : -4294967296 < n) (h1 : n ≤ 9223372036854775807) : Calls Tryd.prog 33 #[.int .i64 n] w fun e w' => e = .returned (.int .u32 (n % 4294967296)) ∧ w = w' := by
  by_cases h : 0 ≤ n
  · exact refUnsigned_pos w n h h1
  · exact refUnsigned_neg w n (by omega) h0
theorem refSigned_any (w : World) (x : Int) (h0 : 0 ≤ x) (h1 : x < 4294967296) : Calls Tryd.prog 31 #[.int .u32 x] w fun e w' => e = .returned (.int .i64 (sgn x)) ∧ w = w' := by
  unfold sgn
  by_cases h : x < 2147483648
  · rw [if_pos h]
    have g0 : decide (2147483648 ≤ x) = false := decide_eq_false (by omega)
    go_enter Tryd.func31, Tryd.ntmps31
    go_wp2_with fail
    go_ret
    exact ⟨rfl, rfl⟩
  · rw [if_neg h]
    have g0 : decide (2147483648 ≤ x) = true := decide_eq_true (by omega)
    go_enter Tryd.func31, Tryd.ntmps31
    go_wp2_with fail
    go_ret
    exact ⟨rfl, rfl⟩
theorem refBit_any (w : World) (x i : Nat) (hx : x < 4294967296) (hi : i < 32) : Calls Tryd.prog 32 #[.int .u32 x, .int .i64 i] w fun e w' => e = .returned (.int .i64 (btN x i)) ∧ w = w' := by
  have h0 : (0 : Int) ≤ i := by omega
  have h1 : (i : Int) < 32 := by omega
  have hp : 0 < 2 ^ i := Nat.pow_pos (by omega)
  have hb : bits .and .u32 ((x / 2 ^ i : Nat) : Int) ((1 : Nat) : Int) = ((btN x i : Nat) : Int) := by
    rw [bits_and32 _ _ (Nat.lt_of_le_of_lt (Nat.div_le_self _ _) hx) (by omega), Nat.and_one_is_mod]
    rfl
  rw [Int.natCast_ediv, Int.natCast_pow] at hb
  simp only [Int.natCast_one, Int.cast_ofNat_Int] at hb
  have hl := btN_le x i
  generalize btN x i = r at *
  have hl : (r : Int) ≤ 1 := by omega
  go_enter Tryd.func32, Tryd.ntmps32
  go_wp2_with fail
  go_ret
  exact ⟨rfl, rfl⟩
section
variable (w : World) (x y : Nat) (hx : x < 4294967296) (hy : y < 4294967296)
include hx hy
set_option maxRecDepth 100000 in
set_option maxHeartbeats 4000000 in
theorem refCalc4 : Calls Tryd.prog 10 #[.int .i64 4, .int .u32 x, .int .u32 y] w fun e w' => e = .returned (.tuple #[.int .u32 (calcV 4 x y), .int .i64 0]) ∧ w = w' := by
  have x0 : (0 : Int) ≤ x := by omega
  have x1 : (x : Int) < 4294967296 := by omega
  have y0 : (0 : Int) ≤ y := by omega
  have y1 : (y : Int) < 4294967296 := by omega
  have HX := Lib.hid hx
  have HY := Lib.hid hy
  clear hx hy
  go_enter Tryd.func10, Tryd.ntmps10
  go_wp2_with fail
  refine (refSigned_any w x x0 x1).mono ?_
  rintro e w' ⟨rfl, rfl⟩
  dsimp only
  go_wp2_with fail
  refine (refSigned_any w y y0 y1).mono ?_
  rintro e w' ⟨rfl, rfl⟩
  dsimp only
  go_wp2_with fail
  refine (refUnsigned_any w ((x : Int) + y) (by omega) (by omega)).mono ?_
  rintro e w' ⟨rfl, rfl⟩
  dsimp only
  go_wp2_with fail
  go_ret2
  exact ⟨rfl, rfl⟩

set_option maxRecDepth 100000 in
set_option maxHeartbeats 4000000 in
theorem refCalc5 : Calls Tryd.prog 10 #[.int .i64 5, .int .u32 x, .int .u32 y] w fun e w' => e = .returned (.tuple #[.int .u32 (calcV 5 x y), .int .i64 0]) ∧ w = w' := by
  have x0 : (0 : Int) ≤ x := by omega
  have x1 : (x : Int) < 4294967296 := by omega
  have y0 : (0 : Int) ≤ y := by omega
  have y1 : (y : Int) < 4294967296 := by omega
  have HX := Lib.hid hx
  have HY := Lib.hid hy
  clear hx hy
  go_enter Tryd.func10, Tryd.ntmps10
  go_wp2_with fail
  refine (refSigned_any w x x0 x1).mono ?_
  rintro e w' ⟨rfl, rfl⟩
  dsimp only
  go_wp2_with fail
  refine (refSigned_any w y y0 y1).mono ?_
  rintro e w' ⟨rfl, rfl⟩
  dsimp only
  go_wp2_with fail
  refine (refUnsigned_any w ((x : Int) - y) (by omega) (by omega)).mono ?_
  rintro e w' ⟨rfl, rfl⟩
  dsimp only
  go_wp2_with fail
  go_ret2
  exact ⟨rfl, rfl⟩

set_option maxRecDepth 100000 in
set_option maxHeartbeats 4000000 in
theorem refCalc6 : Calls Tryd.prog 10 #[.int .i64 6, .int .u32 x, .int .u32 y] w fun e w' => e = .returned (.tuple #[.int .u32 (calcV 6 x y), .int .i64 0]) ∧ w = w' := by
  have x0 : (0 : Int) ≤ x := by omega
  have x1 : (x : Int) < 4294967296 := by omega
  have y0 : (0 : Int) ≤ y := by omega
  have y1 : (y : Int) < 4294967296 := by omega
  have HX := Lib.hid hx
  have HY := Lib.hid hy
  obtain ⟨h, hh⟩ : ∃ h : Nat, h = x / 65536 := ⟨_, rfl⟩
  obtain ⟨l, hl⟩ : ∃ l : Nat, l = x % 65536 := ⟨_, rfl⟩
  have hh1 : h < 65536 := by omega
  have hl1 : l < 65536 := by omega
  have q0 : h * y ≤ 65535 * 4294967295 := Nat.mul_le_mul (by omega) (by omega)
  have q1 : l * y ≤ 65535 * 4294967295 := Nat.mul_le_mul (by omega) (by omega)
  have e1 : (x : Int) % 65536 = l := by omega
  have e2 : (x : Int) / 65536 = h := by omega
  have e3 : (l : Int) * y = ((l * y : Nat) : Int) := by rw [Int.natCast_mul]
  have e4 : (h : Int) * y = ((h * y : Nat) : Int) := by rw [Int.natCast_mul]
  have e5 : x * y = 65536 * (h * y) + l * y := by rw [← Nat.mul_assoc, ← Nat.add_mul]; congr 1; omega
  have e6 : calcV 6 x y = (((l * y : Nat) : Int) % 4294967296 + ((h * y : Nat) : Int) % 65536 * 65536) % 4294967296 := by
    show (x : Int) * y % 4294967296 = _
    rw [← Int.natCast_mul, e5]
    omega
  have HE6 := Lib.hid e6
  clear e5 e6 hh hl hh1 hl1
  have a0 : (l : Int) * y ≤ 65535 * 4294967295 := by rw [e3]; omega
  have a1 : (h : Int) * y ≤ 65535 * 4294967295 := by rw [e4]; omega
  have a2 : 0 ≤ (l : Int) * y := by rw [e3]; omega
  have a3 : 0 ≤ (h : Int) * y := by rw [e4]; omega
  have HE3 := Lib.hid e3
  have HE4 := Lib.hid e4
  clear e3 e4
  clear hx hy
  go_enter Tryd.func10, Tryd.ntmps10
  go_wp2_with fail
  refine (refSigned_any w x x0 x1).mono ?_
  rintro e w' ⟨rfl, rfl⟩
  dsimp only
  go_wp2_with fail
  refine (refSigned_any w y y0 y1).mono ?_
  rintro e w' ⟨rfl, rfl⟩
  dsimp only
  go_wp2_with fail
  rw [HE3.out, HE4.out]
  refine (refUnsigned_any w (((l * y : Nat) : Int) % 4294967296 + ((h * y : Nat) : Int) % 65536 * 65536) (by omega) (by omega)).mono ?_
  rintro e w' ⟨rfl, rfl⟩
  dsimp only
  go_wp2_with fail
  go_ret2
  rw [HE6.out]
  exact ⟨rfl, rfl⟩

set_option maxRecDepth 100000 in
set_option maxHeartbeats 4000000 in
theorem refCalc9 : Calls Tryd.prog 10 #[.int .i64 9, .int .u32 x, .int .u32 y] w fun e w' => e = .returned (.tuple #[.int .u32 (calcV 9 x y), .int .i64 0]) ∧ w = w' := by
  have x0 : (0 : Int) ≤ x := by omega
  have x1 : (x : Int) < 4294967296 := by omega
  have y0 : (0 : Int) ≤ y := by omega
  have y1 : (y : Int) < 4294967296 := by omega
  have HX := Lib.hid hx
  have HY := Lib.hid hy
  have hV : calcV 9 x y = ((x &&& y : Nat) : Int) := bits_and32 x y hx hy
  have hV1 : (x &&& y) < 4294967296 := by have : x &&& y < 2 ^ 32 := Nat.and_lt_two_pow _ (by omega); omega
  have HB := Lib.hid (fun i => and_bt x y i)
  rw [hV]
  generalize hVV : x &&& y = V at *
  have HH := Lib.hid (fun i => half_bt V i)
  have h32 : V / 2 ^ 32 = 0 := Nat.div_eq_of_lt (by omega)
  have H32 := Lib.hid h32
  have HV1 := Lib.hid hV1
  clear hV hVV h32 hV1
  clear hx hy
  go_enter Tryd.func10, Tryd.ntmps10
  go_wp2_with fail
  refine (refSigned_any w x x0 x1).mono ?_
  rintro e w' ⟨rfl, rfl⟩
  dsimp only
  go_wp2_with fail
  refine (refSigned_any w y y0 y1).mono ?_
  rintro e w' ⟨rfl, rfl⟩
  dsimp only
  go_wp2_with fail
  go_loopg [12, 13] (32) (fun q ov iv wr => ∃ (j : Nat) (z : Int), j = q ∧ j ≤ 32 ∧ z = (j : Int) - 1 ∧ iv = .int .i64 z ∧ ov = .int .i64 ((V / 2 ^ j : Nat) : Int) ∧ wr = w)
  case atStart => exact ⟨32, 31, rfl, Nat.le_refl _, rfl, rfl, by rw [H32.out]; rfl, rfl⟩
  case round =>
    obtain ⟨j, z, rfl, hj, hz, rfl, rfl, rfl⟩ := hrel
    cases j with
    | zero =>
      obtain rfl : z = -1 := by omega
      have hv : ((V / 2 ^ 0 : Nat) : Int) = V := by rw [Nat.pow_zero, Nat.div_one]
      rw [hv]
      have hv1 : (V : Int) < 4294967296 := by have := HV1.out; omega
      clear hv hz
      go_wp2_with fail
      have hun := refUnsigned_any wr (V : Int) (by omega) (by omega)
      rw [Int.emod_eq_of_lt (by omega) hv1] at hun
      refine hun.mono ?_
      clear hun
      rintro e w' ⟨rfl, rfl⟩
      dsimp only
      go_wp2_with fail
      go_ret2
      exact ⟨rfl, rfl⟩
    | succ i =>
      obtain rfl : z = (i : Int) := by omega
      have i0 : (0 : Int) ≤ i := by omega
      have i1 : (i : Int) < 32 := by omega
      have hs := HH.out i
      have hb := HB.out i
      have l1 := btN_le x i
      have l2 := btN_le y i
      have l3 := btN_le V i
      have hle : V / 2 ^ i ≤ V := Nat.div_le_self _ _
      have hv1 := HV1.out
      have HC1 := Lib.hid (refBit_any wr x i HX.out (by omega))
      have HC2 := Lib.hid (refBit_any wr y i HY.out (by omega))
      generalize btN x i = p at *
      generalize btN y i = r at *
      generalize btN V i = t at *
      generalize V / 2 ^ (i + 1) = u at *
      obtain ⟨u', hu'⟩ : ∃ u', V / 2 ^ i = u' := ⟨_, rfl⟩
      rw [hu'] at hs hle
      have HU := Lib.hid hu'
      clear hu'
      have u0 : (0 : Int) ≤ u := by omega
      have u1 : (u : Int) ≤ 4294967296 := by omega
      have p1 : (p : Int) ≤ 1 := by omega
      have r1 : (r : Int) ≤ 1 := by omega
      have p0 : (0 : Int) ≤ p := by omega
      have r0 : (0 : Int) ≤ r := by omega
      by_cases hc : p + r = 2
      · rw [if_pos hc] at hb
        have hs2 : (u' : Int) = 2 * (u : Int) + 1 := by omega
        have HS := Lib.hid hs2
        have hj2 := hj
        have d1 : ((p : Int) + r == 2) = true := beq_iff_eq.2 (by omega)
        clear hs hb hs2 hz hle l1 l2 l3 hc hj
        go_wp2_with fail
        refine HC1.out.mono ?_
        rintro e w' ⟨rfl, rfl⟩
        dsimp only
        go_wp2_with fail
        refine HC2.out.mono ?_
        rintro e w' ⟨rfl, rfl⟩
        dsimp only
        go_wp2_with fail
        go_roundg (i)
        case measure => omega
        case rel => exact ⟨i, (i : Int) - 1, rfl, by omega, rfl, by go_num, by rw [HU.out, HS.out], rfl⟩
      · rw [if_neg hc] at hb
        have hs2 : (u' : Int) = 2 * (u : Int) := by omega
        have HS := Lib.hid hs2
        have hj2 := hj
        have d1 : ((p : Int) + r == 2) = false := beq_eq_false_iff_ne.2 (by omega)
        clear hs hb hs2 hz hle l1 l2 l3 hc hj
        go_wp2_with fail
        refine HC1.out.mono ?_
        rintro e w' ⟨rfl, rfl⟩
        dsimp only
        go_wp2_with fail
        refine HC2.out.mono ?_
        rintro e w' ⟨rfl, rfl⟩
        dsimp only
        go_wp2_with fail
        go_roundg (i)
        case measure => omega
        case rel => exact ⟨i, (i : Int) - 1, rfl, by omega, rfl, by go_num, by rw [HU.out, HS.out], rfl⟩

set_option maxRecDepth 100000 in
set_option maxHeartbeats 4000000 in
theorem refCalc10 : Calls Tryd.prog 10 #[.int .i64 10, .int .u32 x, .int .u32 y] w fun e w' => e = .returned (.tuple #[.int .u32 (calcV 10 x y), .int .i64 0]) ∧ w = w' := by
  have x0 : (0 : Int) ≤ x := by omega
  have x1 : (x : Int) < 4294967296 := by omega
  have y0 : (0 : Int) ≤ y := by omega
  have y1 : (y : Int) < 4294967296 := by omega
  have HX := Lib.hid hx
  have HY := Lib.hid hy
  have hV : calcV 10 x y = ((x ||| y : Nat) : Int) := bits_or32 x y hx hy
  have hV1 : (x ||| y) < 4294967296 := by have : x ||| y < 2 ^ 32 := Nat.or_lt_two_pow (by omega) (by omega); omega
  have HB := Lib.hid (fun i => or_bt x y i)
  rw [hV]
  generalize hVV : x ||| y = V at *
  have HH := Lib.hid (fun i => half_bt V i)
  have h32 : V / 2 ^ 32 = 0 := Nat.div_eq_of_lt (by omega)
  have H32 := Lib.hid h32
  have HV1 := Lib.hid hV1
  clear hV hVV h32 hV1
  clear hx hy
  go_enter Tryd.func10, Tryd.ntmps10
  go_wp2_with fail
  refine (refSigned_any w x x0 x1).mono ?_
  rintro e w' ⟨rfl, rfl⟩
  dsimp only
  go_wp2_with fail
  refine (refSigned_any w y y0 y1).mono ?_
  rintro e w' ⟨rfl, rfl⟩
  dsimp only
  go_wp2_with fail
  go_loopg [12, 13] (32) (fun q ov iv wr => ∃ (j : Nat) (z : Int), j = q ∧ j ≤ 32 ∧ z = (j : Int) - 1 ∧ iv = .int .i64 z ∧ ov = .int .i64 ((V / 2 ^ j : Nat) : Int) ∧ wr = w)
  case atStart => exact ⟨32, 31, rfl, Nat.le_refl _, rfl, rfl, by rw [H32.out]; rfl, rfl⟩
  case round =>
    obtain ⟨j, z, rfl, hj, hz, rfl, rfl, rfl⟩ := hrel
    cases j with
    | zero =>
      obtain rfl : z = -1 := by omega
      have hv : ((V / 2 ^ 0 : Nat) : Int) = V := by rw [Nat.pow_zero, Nat.div_one]
      rw [hv]
      have hv1 : (V : Int) < 4294967296 := by have := HV1.out; omega
      clear hv hz
      go_wp2_with fail
      have hun := refUnsigned_any wr (V : Int) (by omega) (by omega)
      rw [Int.emod_eq_of_lt (by omega) hv1] at hun
      refine hun.mono ?_
      clear hun
      rintro e w' ⟨rfl, rfl⟩
      dsimp only
      go_wp2_with fail
      go_ret2
      exact ⟨rfl, rfl⟩
    | succ i =>
      obtain rfl : z = (i : Int) := by omega
      have i0 : (0 : Int) ≤ i := by omega
      have i1 : (i : Int) < 32 := by omega
      have hs := HH.out i
      have hb := HB.out i
      have l1 := btN_le x i
      have l2 := btN_le y i
      have l3 := btN_le V i
      have hle : V / 2 ^ i ≤ V := Nat.div_le_self _ _
      have hv1 := HV1.out
      have HC1 := Lib.hid (refBit_any wr x i HX.out (by omega))
      have HC2 := Lib.hid (refBit_any wr y i HY.out (by omega))
      generalize btN x i = p at *
      generalize btN y i = r at *
      generalize btN V i = t at *
      generalize V / 2 ^ (i + 1) = u at *
      obtain ⟨u', hu'⟩ : ∃ u', V / 2 ^ i = u' := ⟨_, rfl⟩
      rw [hu'] at hs hle
      have HU := Lib.hid hu'
      clear hu'
      have u0 : (0 : Int) ≤ u := by omega
      have u1 : (u : Int) ≤ 4294967296 := by omega
      have p1 : (p : Int) ≤ 1 := by omega
      have r1 : (r : Int) ≤ 1 := by omega
      have p0 : (0 : Int) ≤ p := by omega
      have r0 : (0 : Int) ≤ r := by omega
      by_cases hc : 0 < p + r
      · rw [if_pos hc] at hb
        have hs2 : (u' : Int) = 2 * (u : Int) + 1 := by omega
        have HS := Lib.hid hs2
        have hj2 := hj
        have d1 : decide ((0 : Int) < (p : Int) + r) = true := decide_eq_true (by omega)
        clear hs hb hs2 hz hle l1 l2 l3 hc hj
        go_wp2_with fail
        refine HC1.out.mono ?_
        rintro e w' ⟨rfl, rfl⟩
        dsimp only
        go_wp2_with fail
        refine HC2.out.mono ?_
        rintro e w' ⟨rfl, rfl⟩
        dsimp only
        go_wp2_with fail
        go_roundg (i)
        case measure => omega
        case rel => exact ⟨i, (i : Int) - 1, rfl, by omega, rfl, by go_num, by rw [HU.out, HS.out], rfl⟩
      · rw [if_neg hc] at hb
        have hs2 : (u' : Int) = 2 * (u : Int) := by omega
        have HS := Lib.hid hs2
        have hj2 := hj
        have d1 : decide ((0 : Int) < (p : Int) + r) = false := decide_eq_false (by omega)
        clear hs hb hs2 hz hle l1 l2 l3 hc hj
        go_wp2_with fail
        refine HC1.out.mono ?_
        rintro e w' ⟨rfl, rfl⟩
        dsimp only
        go_wp2_with fail
        refine HC2.out.mono ?_
        rintro e w' ⟨rfl, rfl⟩
        dsimp only
        go_wp2_with fail
        go_roundg (i)
        case measure => omega
        case rel => exact ⟨i, (i : Int) - 1, rfl, by omega, rfl, by go_num, by rw [HU.out, HS.out], rfl⟩

set_option maxRecDepth 100000 in
set_option maxHeartbeats 4000000 in
theorem refCalc11 : Calls Tryd.prog 10 #[.int .i64 11, .int .u32 x, .int .u32 y] w fun e w' => e = .returned (.tuple #[.int .u32 (calcV 11 x y), .int .i64 0]) ∧ w = w' := by
  have x0 : (0 : Int) ≤ x := by omega
  have x1 : (x : Int) < 4294967296 := by omega
  have y0 : (0 : Int) ≤ y := by omega
  have y1 : (y : Int) < 4294967296 := by omega
  have HX := Lib.hid hx
  have HY := Lib.hid hy
  have hV : calcV 11 x y = ((x ^^^ y : Nat) : Int) := bits_xor32 x y hx hy
  have hV1 : (x ^^^ y) < 4294967296 := by have : x ^^^ y < 2 ^ 32 := Nat.xor_lt_two_pow (by omega) (by omega); omega
  have HB := Lib.hid (fun i => xor_bt x y i)
  rw [hV]
  generalize hVV : x ^^^ y = V at *
  have HH := Lib.hid (fun i => half_bt V i)
  have h32 : V / 2 ^ 32 = 0 := Nat.div_eq_of_lt (by omega)
  have H32 := Lib.hid h32
  have HV1 := Lib.hid hV1
  clear hV hVV h32 hV1
  clear hx hy
  go_enter Tryd.func10, Tryd.ntmps10
  go_wp2_with fail
  refine (refSigned_any w x x0 x1).mono ?_
  rintro e w' ⟨rfl, rfl⟩
  dsimp only
  go_wp2_with fail
  refine (refSigned_any w y y0 y1).mono ?_
  rintro e w' ⟨rfl, rfl⟩
  dsimp only
  go_wp2_with fail
  go_loopg [12, 13] (32) (fun q ov iv wr => ∃ (j : Nat) (z : Int), j = q ∧ j ≤ 32 ∧ z = (j : Int) - 1 ∧ iv = .int .i64 z ∧ ov = .int .i64 ((V / 2 ^ j : Nat) : Int) ∧ wr = w)
  case atStart => exact ⟨32, 31, rfl, Nat.le_refl _, rfl, rfl, by rw [H32.out]; rfl, rfl⟩
  case round =>
    obtain ⟨j, z, rfl, hj, hz, rfl, rfl, rfl⟩ := hrel
    cases j with
    | zero =>
      obtain rfl : z = -1 := by omega
      have hv : ((V / 2 ^ 0 : Nat) : Int) = V := by rw [Nat.pow_zero, Nat.div_one]
      rw [hv]
      have hv1 : (V : Int) < 4294967296 := by have := HV1.out; omega
      clear hv hz
      go_wp2_with fail
      have hun := refUnsigned_any wr (V : Int) (by omega) (by omega)
      rw [Int.emod_eq_of_lt (by omega) hv1] at hun
      refine hun.mono ?_
      clear hun
      rintro e w' ⟨rfl, rfl⟩
      dsimp only
      go_wp2_with fail
      go_ret2
      exact ⟨rfl, rfl⟩
    | succ i =>
      obtain rfl : z = (i : Int) := by omega
      have i0 : (0 : Int) ≤ i := by omega
      have i1 : (i : Int) < 32 := by omega
      have hs := HH.out i
      have hb := HB.out i
      have l1 := btN_le x i
      have l2 := btN_le y i
      have l3 := btN_le V i
      have hle : V / 2 ^ i ≤ V := Nat.div_le_self _ _
      have hv1 := HV1.out
      have HC1 := Lib.hid (refBit_any wr x i HX.out (by omega))
      have HC2 := Lib.hid (refBit_any wr y i HY.out (by omega))
      generalize btN x i = p at *
      generalize btN y i = r at *
      generalize btN V i = t at *
      generalize V / 2 ^ (i + 1) = u at *
      obtain ⟨u', hu'⟩ : ∃ u', V / 2 ^ i = u' := ⟨_, rfl⟩
      rw [hu'] at hs hle
      have HU := Lib.hid hu'
      clear hu'
      have u0 : (0 : Int) ≤ u := by omega
      have u1 : (u : Int) ≤ 4294967296 := by omega
      have p1 : (p : Int) ≤ 1 := by omega
      have r1 : (r : Int) ≤ 1 := by omega
      have p0 : (0 : Int) ≤ p := by omega
      have r0 : (0 : Int) ≤ r := by omega
      by_cases hc : p + r = 1
      · rw [if_pos hc] at hb
        have hs2 : (u' : Int) = 2 * (u : Int) + 1 := by omega
        have HS := Lib.hid hs2
        have hj2 := hj
        have d1 : ((p : Int) + r == 1) = true := beq_iff_eq.2 (by omega)
        clear hs hb hs2 hz hle l1 l2 l3 hc hj
        go_wp2_with fail
        refine HC1.out.mono ?_
        rintro e w' ⟨rfl, rfl⟩
        dsimp only
        go_wp2_with fail
        refine HC2.out.mono ?_
        rintro e w' ⟨rfl, rfl⟩
        dsimp only
        go_wp2_with fail
        go_roundg (i)
        case measure => omega
        case rel => exact ⟨i, (i : Int) - 1, rfl, by omega, rfl, by go_num, by rw [HU.out, HS.out], rfl⟩
      · rw [if_neg hc] at hb
        have hs2 : (u' : Int) = 2 * (u : Int) := by omega
        have HS := Lib.hid hs2
        have hj2 := hj
        have d1 : ((p : Int) + r == 1) = false := beq_eq_false_iff_ne.2 (by omega)
        clear hs hb hs2 hz hle l1 l2 l3 hc hj
        go_wp2_with fail
        refine HC1.out.mono ?_
        rintro e w' ⟨rfl, rfl⟩
        dsimp only
        go_wp2_with fail
        refine HC2.out.mono ?_
        rintro e w' ⟨rfl, rfl⟩
        dsimp only
        go_wp2_with fail
        go_roundg (i)
        case measure => omega
        case rel => exact ⟨i, (i : Int) - 1, rfl, by omega, rfl, by go_num, by rw [HU.out, HS.out], rfl⟩

set_option maxRecDepth 100000 in
set_option maxHeartbeats 4000000 in
theorem refCalc12 : Calls Tryd.prog 10 #[.int .i64 12, .int .u32 x, .int .u32 y] w fun e w' => e = .returned (.tuple #[.int .u32 (calcV 12 x y), .int .i64 0]) ∧ w = w' := by
  have x0 : (0 : Int) ≤ x := by omega
  have x1 : (x : Int) < 4294967296 := by omega
  have y0 : (0 : Int) ≤ y := by omega
  have y1 : (y : Int) < 4294967296 := by omega
  have HX := Lib.hid hx
  have HY := Lib.hid hy
  obtain ⟨n, hn⟩ : ∃ n : Nat, n = y % 32 := ⟨_, rfl⟩
  have hn1 : ((y : Int)).tmod 32 = (n : Int) := by rw [Int.tmod_eq_emod_of_nonneg y0]; omega
  have hn3 : (y : Int) % 32 = (n : Int) := by omega
  have hn2 : n < 32 := by omega
  have hv : calcV 12 x y = ((x * 2 ^ n % 4294967296 : Nat) : Int) := by
    show (x : Int) * 2 ^ ((y : Int) % 32).toNat % 4294967296 = _
    rw [hn3, Int.toNat_natCast]
    simp
  obtain ⟨R, hR⟩ : ∃ R : Nat, R = x * 2 ^ n % 4294967296 := ⟨_, rfl⟩
  rw [hv, ← hR]
  have HRR := Lib.hid hR
  clear hv hn hR
  clear hx hy
  go_enter Tryd.func10, Tryd.ntmps10
  go_wp2_with fail
  refine (refSigned_any w x x0 x1).mono ?_
  rintro e w' ⟨rfl, rfl⟩
  dsimp only
  go_wp2_with fail
  refine (refSigned_any w y y0 y1).mono ?_
  rintro e w' ⟨rfl, rfl⟩
  dsimp only
  go_wp2_with fail
  go_loopg [12, 15] (n) (fun q ov iv wr => ∃ (k : Nat), q = n - k ∧ k ≤ n ∧ iv = .int .i64 k ∧ ov = .int .i64 ((x * 2 ^ k % 4294967296 : Nat) : Int) ∧ wr = w)
  case atStart => exact ⟨0, rfl, Nat.zero_le _, rfl, by simp; omega, rfl⟩
  case round =>
    obtain ⟨k, rfl, hk, rfl, rfl, rfl⟩ := hrel
    have hb : (x * 2 ^ k % 4294967296) < 4294967296 := Nat.mod_lt _ (by omega)
    have hnx : x * 2 ^ (k + 1) % 4294967296 = x * 2 ^ k % 4294967296 * 2 % 4294967296 := by rw [Nat.pow_succ, ← Nat.mul_assoc]; omega
    by_cases hlt : k < n
    · have i1 : (k : Int) < n := by omega
      have HN := Lib.hid hnx
      generalize hu : x * 2 ^ k % 4294967296 = u at *
      have HUU := Lib.hid hu
      have u1 : (u : Int) < 4294967296 := by omega
      clear hnx hu hlt
      go_wp2_with fail
      go_roundg (n - (k + 1))
      case measure => omega
      case rel => exact ⟨k + 1, rfl, by omega, by go_num, by rw [HN.out]; go_num, rfl⟩
    · obtain rfl : k = n := by omega
      have i1 : decide ((k : Int) < k) = false := decide_eq_false (by omega)
      clear hnx
      generalize hu : x * 2 ^ k % 4294967296 = u at *
      obtain rfl : R = u := by first | exact HRR.out | exact HRR.out.trans hu
      have u1 : (R : Int) < 4294967296 := by omega
      clear hu HRR
      go_wp2_with fail
      have hun := refUnsigned_any wr (R : Int) (by omega) (by omega)
      rw [Int.emod_eq_of_lt (by omega) u1] at hun
      refine hun.mono ?_
      clear hun
      rintro e w' ⟨rfl, rfl⟩
      dsimp only
      go_wp2_with fail
      go_ret2
      exact ⟨rfl, rfl⟩

set_option maxRecDepth 100000 in
set_option maxHeartbeats 4000000 in
theorem refCalc13 : Calls Tryd.prog 10 #[.int .i64 13, .int .u32 x, .int .u32 y] w fun e w' => e = .returned (.tuple #[.int .u32 (calcV 13 x y), .int .i64 0]) ∧ w = w' := by
  have x0 : (0 : Int) ≤ x := by omega
  have x1 : (x : Int) < 4294967296 := by omega
  have y0 : (0 : Int) ≤ y := by omega
  have y1 : (y : Int) < 4294967296 := by omega
  have HX := Lib.hid hx
  have HY := Lib.hid hy
  obtain ⟨n, hn⟩ : ∃ n : Nat, n = y % 32 := ⟨_, rfl⟩
  have hn1 : ((y : Int)).tmod 32 = (n : Int) := by rw [Int.tmod_eq_emod_of_nonneg y0]; omega
  have hn3 : (y : Int) % 32 = (n : Int) := by omega
  have hn2 : n < 32 := by omega
  have hv : calcV 13 x y = ((x / 2 ^ n : Nat) : Int) := by
    show (x : Int) / 2 ^ ((y : Int) % 32).toNat = _
    rw [hn3, Int.toNat_natCast]
    simp
  obtain ⟨R, hR⟩ : ∃ R : Nat, R = x / 2 ^ n := ⟨_, rfl⟩
  rw [hv, ← hR]
  have HRR := Lib.hid hR
  clear hv hn hR
  clear hx hy
  go_enter Tryd.func10, Tryd.ntmps10
  go_wp2_with fail
  refine (refSigned_any w x x0 x1).mono ?_
  rintro e w' ⟨rfl, rfl⟩
  dsimp only
  go_wp2_with fail
  refine (refSigned_any w y y0 y1).mono ?_
  rintro e w' ⟨rfl, rfl⟩
  dsimp only
  go_wp2_with fail
  go_loopg [12, 16] (n) (fun q ov iv wr => ∃ (k : Nat), q = n - k ∧ k ≤ n ∧ iv = .int .i64 k ∧ ov = .int .i64 ((x / 2 ^ k : Nat) : Int) ∧ wr = w)
  case atStart => exact ⟨0, rfl, Nat.zero_le _, rfl, by simp, rfl⟩
  case round =>
    obtain ⟨k, rfl, hk, rfl, rfl, rfl⟩ := hrel
    have hb : (x / 2 ^ k) < 4294967296 := Nat.lt_of_le_of_lt (Nat.div_le_self _ _) HX.out
    have hnx : x / 2 ^ (k + 1) = x / 2 ^ k / 2 := by rw [Nat.pow_succ, ← Nat.div_div_eq_div_mul]
    by_cases hlt : k < n
    · have i1 : (k : Int) < n := by omega
      have HN := Lib.hid hnx
      generalize hu : x / 2 ^ k = u at *
      have HUU := Lib.hid hu
      have u1 : (u : Int) < 4294967296 := by omega
      clear hnx hu hlt
      go_wp2_with fail
      go_roundg (n - (k + 1))
      case measure => omega
      case rel => exact ⟨k + 1, rfl, by omega, by go_num, by rw [HN.out]; go_num, rfl⟩
    · obtain rfl : k = n := by omega
      have i1 : decide ((k : Int) < k) = false := decide_eq_false (by omega)
      clear hnx
      generalize hu : x / 2 ^ k = u at *
      obtain rfl : R = u := by first | exact HRR.out | exact HRR.out.trans hu
      have u1 : (R : Int) < 4294967296 := by omega
      clear hu HRR
      go_wp2_with fail
      have hun := refUnsigned_any wr (R : Int) (by omega) (by omega)
      rw [Int.emod_eq_of_lt (by omega) u1] at hun
      refine hun.mono ?_
      clear hun
      rintro e w' ⟨rfl, rfl⟩
      dsimp only
      go_wp2_with fail
      go_ret2
      exact ⟨rfl, rfl⟩

set_option maxRecDepth 100000 in
set_option maxHeartbeats 4000000 in
theorem refCalc14a (p r : Int) (hs : sgn (x : Int) = p) (ht : sgn (y : Int) = r) (hc : p < r) : Calls Tryd.prog 10 #[.int .i64 14, .int .u32 x, .int .u32 y] w fun e w' => e = .returned (.tuple #[.int .u32 1, .int .i64 0]) ∧ w = w' := by
  have HS := Lib.hid (hs ▸ refSigned_any w x (by omega) (by omega))
  have HT := Lib.hid (ht ▸ refSigned_any w y (by omega) (by omega))
  have d1 : decide (p < r) = true := decide_eq_true hc
  clear hc hx hy hs ht
  go_enter Tryd.func10, Tryd.ntmps10
  go_wp2_with fail
  refine HS.out.mono ?_
  rintro e w' ⟨rfl, rfl⟩
  dsimp only
  go_wp2_with fail
  refine HT.out.mono ?_
  rintro e w' ⟨rfl, rfl⟩
  dsimp only
  go_wp2_with fail
  refine (refUnsigned_any w 1 (by omega) (by omega)).mono ?_
  rintro e w' ⟨rfl, rfl⟩
  dsimp only
  go_wp2_with fail
  go_ret2
  exact ⟨rfl, rfl⟩
set_option maxRecDepth 100000 in
set_option maxHeartbeats 4000000 in
theorem refCalc14b (p r : Int) (hs : sgn (x : Int) = p) (ht : sgn (y : Int) = r) (hc : ¬ p < r) : Calls Tryd.prog 10 #[.int .i64 14, .int .u32 x, .int .u32 y] w fun e w' => e = .returned (.tuple #[.int .u32 0, .int .i64 0]) ∧ w = w' := by
  have HS := Lib.hid (hs ▸ refSigned_any w x (by omega) (by omega))
  have HT := Lib.hid (ht ▸ refSigned_any w y (by omega) (by omega))
  have d1 : decide (p < r) = false := decide_eq_false hc
  clear hc hx hy hs ht
  go_enter Tryd.func10, Tryd.ntmps10
  go_wp2_with fail
  refine HS.out.mono ?_
  rintro e w' ⟨rfl, rfl⟩
  dsimp only
  go_wp2_with fail
  refine HT.out.mono ?_
  rintro e w' ⟨rfl, rfl⟩
  dsimp only
  go_wp2_with fail
  refine (refUnsigned_any w 0 (by omega) (by omega)).mono ?_
  rintro e w' ⟨rfl, rfl⟩
  dsimp only
  go_wp2_with fail
  go_ret2
  exact ⟨rfl, rfl⟩
theorem refCalc14 : Calls Tryd.prog 10 #[.int .i64 14, .int .u32 x, .int .u32 y] w fun e w' => e = .returned (.tuple #[.int .u32 (calcV 14 x y), .int .i64 0]) ∧ w = w' := by
  have e : calcV 14 x y = tru (decide (sgn x < sgn y)) := by simp only [calcV]
  rw [e]
  by_cases hc : sgn (x : Int) < sgn y
  · rw [decide_eq_true hc]
    exact refCalc14a w x y hx hy _ _ rfl rfl hc
  · rw [decide_eq_false hc]
    exact refCalc14b w x y hx hy _ _ rfl rfl hc

set_option maxRecDepth 100000 in
set_option maxHeartbeats 4000000 in
theorem refCalc15 : Calls Tryd.prog 10 #[.int .i64 15, .int .u32 x, .int .u32 y] w fun e w' => e = .returned (.tuple #[.int .u32 (calcV 15 x y), .int .i64 0]) ∧ w = w' := by
  have x0 : (0 : Int) ≤ x := by omega
  have x1 : (x : Int) < 4294967296 := by omega
  have y0 : (0 : Int) ≤ y := by omega
  have y1 : (y : Int) < 4294967296 := by omega
  have HX := Lib.hid hx
  have HY := Lib.hid hy
  have e : calcV 15 x y = tru ((x : Int) == y) := by simp only [calcV]
  rw [e]
  clear e
  by_cases hc : x = y
  · have d1 : ((x : Int) == y) = true := beq_iff_eq.2 (by omega)
    have d2 : ((x : Nat) == y) = true := beq_iff_eq.2 hc
    rw [d1]
    clear hc
    clear hx hy
    go_enter Tryd.func10, Tryd.ntmps10
    go_wp2_with fail
    refine (refSigned_any w x x0 x1).mono ?_
    rintro e w' ⟨rfl, rfl⟩
    dsimp only
    go_wp2_with fail
    refine (refSigned_any w y y0 y1).mono ?_
    rintro e w' ⟨rfl, rfl⟩
    dsimp only
    go_wp2_with fail
    refine (refUnsigned_any w 1 (by omega) (by omega)).mono ?_
    rintro e w' ⟨rfl, rfl⟩
    dsimp only
    go_wp2_with fail
    go_ret2
    exact ⟨rfl, rfl⟩
  · have d1 : ((x : Int) == y) = false := beq_eq_false_iff_ne.2 (by omega)
    have d2 : ((x : Nat) == y) = false := beq_eq_false_iff_ne.2 hc
    rw [d1]
    clear hc
    clear hx hy
    go_enter Tryd.func10, Tryd.ntmps10
    go_wp2_with fail
    refine (refSigned_any w x x0 x1).mono ?_
    rintro e w' ⟨rfl, rfl⟩
    dsimp only
    go_wp2_with fail
    refine (refSigned_any w y y0 y1).mono ?_
    rintro e w' ⟨rfl, rfl⟩
    dsimp only
    go_wp2_with fail
    refine (refUnsigned_any w 0 (by omega) (by omega)).mono ?_
    rintro e w' ⟨rfl, rfl⟩
    dsimp only
    go_wp2_with fail
    go_ret2
    exact ⟨rfl, rfl⟩

theorem refCalc_any (op : Nat) (h4 : 4 ≤ op) (h15 : op ≤ 15) (h7 : op ≠ 7) (h8 : op ≠ 8) : Calls Tryd.prog 10 #[.int .i64 op, .int .u32 x, .int .u32 y] w fun e w' => e = .returned (.tuple #[.int .u32 (calcV op x y), .int .i64 0]) ∧ w = w' := by
  have h : op = 4 ∨ op = 5 ∨ op = 6 ∨ op = 9 ∨ op = 10 ∨ op = 11 ∨ op = 12 ∨ op = 13 ∨ op = 14 ∨ op = 15 := by omega
  rcases h with rfl | rfl | rfl | rfl | rfl | rfl | rfl | rfl | rfl | rfl
  · exact refCalc4 w x y hx hy
  · exact refCalc5 w x y hx hy
  · exact refCalc6 w x y hx hy
  · exact refCalc9 w x y hx hy
  · exact refCalc10 w x y hx hy
  · exact refCalc11 w x y hx hy
  · exact refCalc12 w x y hx hy
  · exact refCalc13 w x y hx hy
  · exact refCalc14 w x y hx hy
  · exact refCalc15 w x y hx hy

end
end Go.Proofs.YtpadpggdealgkaaDoorRRR
