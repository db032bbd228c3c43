/-
  Walks: Parse.
-/
import Derived.Test.YtemcabepbncicaaDoorAccP
namespace Go.Proofs.YtemcabepbncicaaDoor
open Go.RowKit

/-- What stands behind the nine letters. -/
def parseTail (t : List UInt8) (m : Nat) : Nat × Nat × Nat :=
  if t = [] then (m, 0, 0) else if t = [43, 115] then (m ||| 512, 0, 0) else if t = [43, 116] then (m ||| 1024, 0, 0) else if t = [43, 115, 116] then (m ||| 1536, 0, 0) else (0, 9, 3)
def parseEnd (l : List UInt8) (m : Nat) : Nat × Nat × Nat := if l.length < 9 then (0, l.length, 4) else parseTail (l.drop 9) m
/-- What Parse does from a place on. -/
def parseGo (l : List UInt8) : Nat → Nat → Nat → Nat × Nat × Nat
  | 0, _, m => parseEnd l m
  | f + 1, k, m => if k < l.length then (if l.getD k 0 = letterN k then parseGo l f (k + 1) (m ||| 2 ^ (8 - k)) else if l.getD k 0 = 45 then parseGo l f (k + 1) m else (0, k, 6)) else parseEnd l m
def parseV (l : List UInt8) : Nat × Nat × Nat := parseGo l 9 0 0

theorem bl_inj {s t : ByteArray} (h : bl s = bl t) : s = t := by
  unfold bl at h
  apply ByteArray.ext
  exact Array.toList_inj.1 h

set_option maxRecDepth 10000 in
set_option maxHeartbeats 8000000 in
theorem parse_any (w : World) (s : ByteArray) (hs : s.size ≤ 1000000) :
    Calls Tryd.prog 28 #[.string s] w fun e w' => AppRet (parseV (bl s)) e ∧ w = w' := by
  have hlen := bl_length s
  have HLEN := Lib.hid hlen
  obtain ⟨q, hq⟩ : ∃ q : Nat, q = min 9 s.size := ⟨_, rfl⟩
  have e1 : min (9 : Int) (s.size : Int) = (q : Int) := by omega
  have hq9 : q ≤ 9 ∧ q ≤ s.size := by omega
  have HQ := Lib.hid hq
  have hR : Hid (parseGo (bl s) 9 0 0 = parseV (bl s)) := Lib.hid rfl
  generalize parseV (bl s) = R at *
  clear hlen hq
  go_enter Tryd.func28, Tryd.ntmps28
  go_wp2_with fail
  go_loopg [5, 10] q (fun r mv iv wr => wr = w ∧ ∃ (k m : Nat), iv = .int .i64 k ∧ mv = .int .i64 m ∧ r = q - k ∧ k ≤ q ∧ m < 512 ∧ parseGo (bl s) (9 - k) k m = R)
  case atStart => exact ⟨rfl, 0, 0, rfl, rfl, by omega, by omega, by omega, hR.out⟩
  case round =>
    clear hR
    obtain ⟨rfl, k, m, rfl, rfl, rfl, hk, hm, hgo⟩ := hrel
    have HGO := Lib.hid hgo
    clear hgo
    by_cases hlt : k < q
    · have i1 : (k : Int) < q := by omega
      have hks : k < s.size := by omega
      have hgd := bl_get s k hks
      have hstep : parseGo (bl s) (9 - k) k m = if k < (bl s).length then (if (bl s).getD k 0 = letterN k then parseGo (bl s) (9 - (k + 1)) (k + 1) (m ||| 2 ^ (8 - k)) else if (bl s).getD k 0 = 45 then parseGo (bl s) (9 - (k + 1)) (k + 1) m else (0, k, 6)) else parseEnd (bl s) m := by
        rw [show 9 - k = (9 - (k + 1)) + 1 by omega]; rfl
      rw [HGO.out, hgd, HLEN.out, if_pos hks] at hstep
      have HST := Lib.hid hstep
      clear hstep hgd HGO
      have hxl := (letterN k).toNat_lt
      rcases Decidable.em (s[k] = letterN k) with h | h
      · have HN : Hid (R = parseGo (bl s) (9 - (k + 1)) (k + 1) (m ||| 2 ^ (8 - k))) := Lib.hid (by rw [HST.out, if_pos h])
        have e2 : ((s[k]).toNat : Int) = ((letterN k).toNat : Int) := by rw [h]
        have hp : 2 ^ (8 - k) < 512 := Nat.pow_lt_pow_right (show 1 < 2 by omega) (show 8 - k < 9 by omega)
        have hw : wrap64 (2 ^ (8 - k)) = ((2 ^ (8 - k) : Nat) : Int) := by
          rw [show ((2 : Int) ^ (8 - k)) = ((2 ^ (8 - k) : Nat) : Int) by rw [Int.natCast_pow]; rfl]
          exact IntWalk.wrap64_in _ (by generalize 2 ^ (8 - k) = z at hp; omega)
        have ho : bits .or .i64 (m : Int) (wrap64 (2 ^ (8 - k))) = ((m ||| 2 ^ (8 - k) : Nat) : Int) := by rw [hw]; exact i64_or_nat m (2 ^ (8 - k)) (by omega) (Nat.lt_trans hp (by omega))
        have hm2 : m ||| 2 ^ (8 - k) < 512 := Nat.or_lt_two_pow (n := 9) hm hp
        clear h HST hw hp
        go_wp2_with fail
        refine (letterAt_any _ k (by omega)).mono ?_
        rintro e w' ⟨rfl, rfl⟩
        dsimp only
        generalize (letterN k).toNat = x at *
        go_wp2_with fail
        go_roundg (q - (k + 1))
        case measure => omega
        case rel => exact ⟨rfl, k + 1, m ||| 2 ^ (8 - k), by go_num, rfl, rfl, by omega, hm2, HN.out.symm⟩
      · have e2 : (((s[k]).toNat : Int) == ((letterN k).toNat : Int)) = false := beq_eq_false_iff_ne.2 (fun hh => h (UInt8.toNat_inj.1 (by omega)))
        rcases Decidable.em (s[k] = 45) with h45 | h45
        · have HN : Hid (R = parseGo (bl s) (9 - (k + 1)) (k + 1) m) := Lib.hid (by rw [HST.out, if_neg h, if_pos h45])
          have e3 : ((s[k]).toNat : Int) = 45 := by rw [h45]; rfl
          rw [e3] at e2
          clear h HST h45
          go_wp2_with fail
          refine (letterAt_any _ k (by omega)).mono ?_
          rintro e w' ⟨rfl, rfl⟩
          dsimp only
          generalize (letterN k).toNat = x at *
          go_wp2_with fail
          go_roundg (q - (k + 1))
          case measure => omega
          case rel => exact ⟨rfl, k + 1, m, by go_num, rfl, rfl, by omega, hm, HN.out.symm⟩
        · have HN : Hid (AppRet R (.returned (.tuple #[.int .i64 0, .int .i64 k, .int .i64 6]))) := Lib.hid (by rw [HST.out, if_neg h, if_neg h45]; rfl)
          have e3 : (((s[k]).toNat : Int) == 45) = false := u8_ne (c := 45) (by omega) h45
          clear h HST h45
          go_wp2_with fail
          refine (letterAt_any _ k (by omega)).mono ?_
          rintro e w' ⟨rfl, rfl⟩
          dsimp only
          generalize (letterN k).toNat = x at *
          go_wp2_with fail
          go_ret3
          exact ⟨HN.out, rfl⟩
    · obtain rfl : k = q := by omega
      have hend : parseEnd (bl s) m = R := by
        have := HGO.out
        rcases Nat.lt_or_ge s.size 9 with h9 | h9
        · rw [show 9 - k = (9 - (k + 1)) + 1 by have := HQ.out; omega] at this
          unfold parseGo at this
          rw [if_neg (by rw [HLEN.out]; have := HQ.out; omega)] at this
          exact this
        · rw [show 9 - k = 0 by have := HQ.out; omega] at this
          exact this
      have HE := Lib.hid hend
      clear hend HGO
      by_cases h9 : s.size < 9
      · have hr : Hid (AppRet R (.returned (.tuple #[.int .i64 0, .int .i64 s.size, .int .i64 4]))) := Lib.hid (by rw [← HE.out]; unfold parseEnd; rw [HLEN.out, if_pos h9]; rfl)
        have e9 : decide ((s.size : Int) < 9) = true := decide_eq_true (by omega)
        clear h9
        go_wp2_with fail
        go_ret3
        exact ⟨hr.out, rfl⟩
      · have e9 : decide ((s.size : Int) < 9) = false := decide_eq_false (by omega)
        have hbe : bl (s.extract 9 s.size) = (bl s).drop 9 := Lib.extract_to_end s 9
        have hpt : parseTail (bl (s.extract 9 s.size)) m = R := by
          have := HE.out
          unfold parseEnd at this
          rw [HLEN.out, if_neg h9] at this
          rw [hbe]; exact this
        have h92 : 9 ≤ s.size := by omega
        have HPT := Lib.hid hpt
        obtain ⟨t, ht⟩ : ∃ t, t = bl (s.extract 9 s.size) := ⟨_, rfl⟩
        have hT : (s.extract 9 s.size).toList = t := by rw [ht]; exact Lib.toList_data _
        rw [← ht] at HPT
        clear hbe hpt h9 ht
        rcases Decidable.em (t = []) with h | h0
        focus
          have hr : Hid (AppRet R (.returned (.tuple #[.int .i64 m, .int .i64 0, .int .i64 0]))) := Lib.hid (by rw [← HPT.out]; unfold parseTail; rw [if_pos h]; rfl)
          rw [h] at hT
          clear h
          go_wp2_with fail
          go_ret3
          exact ⟨hr.out, rfl⟩
        rcases Decidable.em (t = [43, 115]) with h | h512
        focus
          have hr : Hid (AppRet R (.returned (.tuple #[.int .i64 ((m ||| 512 : Nat) : Int), .int .i64 0, .int .i64 0]))) := Lib.hid (by rw [← HPT.out, h]; rfl)
          have ho : bits .or .i64 (m : Int) 512 = ((m ||| 512 : Nat) : Int) := i64_or_nat m 512 (by omega) (by omega)
          rw [h] at hT
          clear h h0
          go_wp2_with fail
          go_ret3
          exact ⟨hr.out, rfl⟩
        rcases Decidable.em (t = [43, 116]) with h | h1024
        focus
          have hr : Hid (AppRet R (.returned (.tuple #[.int .i64 ((m ||| 1024 : Nat) : Int), .int .i64 0, .int .i64 0]))) := Lib.hid (by rw [← HPT.out, h]; rfl)
          have ho : bits .or .i64 (m : Int) 1024 = ((m ||| 1024 : Nat) : Int) := i64_or_nat m 1024 (by omega) (by omega)
          rw [h] at hT
          clear h h0 h512
          go_wp2_with fail
          go_ret3
          exact ⟨hr.out, rfl⟩
        rcases Decidable.em (t = [43, 115, 116]) with h | h1536
        focus
          have hr : Hid (AppRet R (.returned (.tuple #[.int .i64 ((m ||| 1536 : Nat) : Int), .int .i64 0, .int .i64 0]))) := Lib.hid (by rw [← HPT.out, h]; rfl)
          have ho : bits .or .i64 (m : Int) 1536 = ((m ||| 1536 : Nat) : Int) := i64_or_nat m 1536 (by omega) (by omega)
          rw [h] at hT
          clear h h0 h512 h1024
          go_wp2_with fail
          go_ret3
          exact ⟨hr.out, rfl⟩
        have hr : Hid (AppRet R (.returned (.tuple #[.int .i64 0, .int .i64 9, .int .i64 3]))) := Lib.hid (by rw [← HPT.out]; unfold parseTail; rw [if_neg h0, if_neg h512, if_neg h1024, if_neg h1536]; rfl)
        have z0 : t.isEmpty = false := by cases t with
          | nil => exact absurd rfl h0
          | cons a l => rfl
        have z1 : (t == [43, 115]) = false := beq_eq_false_iff_ne.2 h512
        have z2 : (t == [43, 116]) = false := beq_eq_false_iff_ne.2 h1024
        have z3 : (t == [43, 115, 116]) = false := beq_eq_false_iff_ne.2 h1536
        clear h0 h512 h1024 h1536
        go_wp2_with fail
        go_ret3
        exact ⟨hr.out, rfl⟩
end Go.Proofs.YtemcabepbncicaaDoor
