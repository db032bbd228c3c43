/-
  The law PackBounds, walked.
-/
import Derived.Test.YtgmpdclmfcmodaaUnpacks
import Derived.Test.YtgmpdclmfcmodaaPure6
namespace Go.Proofs.Ytgmpdclmfcmodaa
open Go.RowKit

theorem bound_bad (w : World) (n : Int) (h : n < 0 ∨ 1048576 < n) : Calls Try.prog 22 #[.int .i64 n] w fun e w' => e = .returned (.tuple #[.int .i64 0, .int .i64 2]) ∧ w = w' := by
  by_cases h0 : n < 0
  · have e1 : decide (n < 0) = true := decide_eq_true h0
    go_enter Try.func22, Try.ntmps22
    go_wp2_with fail
    go_ret2
    exact ⟨rfl, rfl⟩
  · have e1 : decide (n < 0) = false := decide_eq_false h0
    have e2 : decide ((1048576 : Int) < n) = true := decide_eq_true (by omega)
    go_enter Try.func22, Try.ntmps22
    go_wp2_with fail
    go_ret2
    exact ⟨rfl, rfl⟩

theorem bound_ok (w : World) (n : Nat) (h : n ≤ 1048576) : Calls Try.prog 22 #[.int .i64 n] w fun e w' => e = .returned (.tuple #[.int .i64 ((n + (n + 127) / 128 : Nat) : Int), .int .i64 0]) ∧ w = w' := by
  have e1 : decide ((n : Int) < 0) = false := decide_eq_false (by omega)
  have e2 : decide ((1048576 : Int) < n) = false := decide_eq_false (by omega)
  go_enter Try.func22, Try.ntmps22
  go_wp2_with fail
  go_ret2
  rw [show ((n + (n + 127) / 128 : Nat) : Int) = (n : Int) + ((n : Int) + 128 - 1) / 128 by omega]
  exact ⟨rfl, rfl⟩

theorem rbound_ok (w : World) (n : Nat) (h : n ≤ 1048576) : Calls Try.prog 23 #[.int .i64 n] w fun e w' => e = .returned (.int .i64 ((n + (n + 127) / 128 : Nat) : Int)) ∧ w = w' := by
  go_enter Try.func23, Try.ntmps23
  go_wp2_with fail
  go_ret
  rw [show ((n + (n + 127) / 128 : Nat) : Int) = (n : Int) + ((n : Int) + 128 - 1) / 128 by omega]
  exact ⟨rfl, rfl⟩

set_option maxRecDepth 100000 in
set_option maxHeartbeats 8000000 in
theorem bounds_walk (w : World) (vd vb : Value) (n : Int) (dict b : List UInt8) (hd : RdB w w.heap.size vd dict) (hb : RdB w w.heap.size vb b) (hm : (Lit.int .i64 n).wf = true) :
    Calls Try.prog 8 #[vd, vb, .int .i64 n] w fun e w' => e = .returned (.bool true) ∧ Below w.heap.size w w' := by
  obtain ⟨hm1, hm2⟩ := int_wf hm
  have hbn : ∃ m r : Nat, (∀ w : World, Calls Try.prog 22 #[.int .i64 n] w fun e w' => e = .returned (.tuple #[.int .i64 m, .int .i64 r]) ∧ w = w') ∧ (((n < 0 ∨ 1048576 < n) ∧ m = 0 ∧ r = 2) ∨ ∃ k : Nat, n = k ∧ k ≤ 1048576 ∧ r = 0 ∧ ∀ w : World, Calls Try.prog 23 #[.int .i64 n] w fun e w' => e = .returned (.int .i64 m) ∧ w = w') := by
    by_cases h : n < 0 ∨ 1048576 < n
    · exact ⟨0, 2, fun w => bound_bad w n h, .inl ⟨h, rfl, rfl⟩⟩
    · obtain ⟨k, rfl⟩ : ∃ k : Nat, n = k := ⟨n.toNat, by omega⟩
      exact ⟨_, 0, fun w => bound_ok w k (by omega), .inr ⟨k, rfl, by omega, rfl, fun w => rbound_ok w k (by omega)⟩⟩
  obtain ⟨m, r, hc1, hc2⟩ := hbn
  go_enter Try.func8, Try.ntmps8
  go_wp2_with fail
  refine (cut_any w w.heap.size vd dict hd).mono ?_
  rintro e w1 ⟨v1, rfl, hd1, rfl⟩
  dsimp only
  go_wp2_with fail
  refine (cut_any w w.heap.size vb b hb).mono ?_
  rintro e w1 ⟨v2, rfl, hb1, rfl⟩
  dsimp only
  have hdl : (dict.take 400).length ≤ 400 := by rw [List.length_take]; omega
  have hbl : (b.take 400).length ≤ 400 := by rw [List.length_take]; omega
  generalize dict.take 400 = d at *
  generalize b.take 400 = b' at *
  obtain ⟨A2, c2, rfl, _, _, _⟩ := id hb1
  have hp1 := Pk.pack_bound d b'
  have hp2 := Pk.pack_bound [] b'
  have hk := bound_ok w b'.length (by omega)
  generalize b'.length + (b'.length + 127) / 128 = K at *
  have hbl2 : b'.length ≤ 1048576 := by omega
  have hdl2 : d.length ≤ 1048576 := by omega
  clear hbl hdl
  go_wp2_with fail
  refine (hc1 w).mono ?_
  rintro e w1 ⟨rfl, rfl⟩
  dsimp only
  go_wp2_with fail
  refine hk.mono ?_
  rintro e w1 ⟨rfl, rfl⟩
  dsimp only
  clear hk hc1
  go_wp2_with fail
  refine (packWith_any w _ v1 _ d b' hd1 hb1 (Nat.le_refl _) hdl2 hbl2).mono ?_
  rintro e w1 ⟨v3, rfl, h3, bl1⟩
  obtain ⟨A3, c3, rfl, _, _, _⟩ := id h3
  dsimp only
  go_wp2_with fail
  refine (pack_any w1 _ _ b' (hb1.below bl1) bl1.size hbl2).mono ?_
  rintro e w2 ⟨v4, rfl, h4, nb⟩
  obtain ⟨A4, c4, rfl, _, _, _⟩ := id h4
  have bl2 := bl1.trans (nb.mono bl1.size)
  clear bl1 nb h3 h4
  dsimp only
  go_wp2_with fail
  refine (known_any w2).mono ?_
  rintro e w3 ⟨rfl, nb⟩
  have bl3 := bl2.trans (nb.mono bl2.size)
  clear bl2 nb hd1 hb1 hd hb
  have e1 : decide ((K : Int) < (Pk.pack d b').length) = false := decide_eq_false (by omega)
  have e2 : decide ((K : Int) < (Pk.pack [] b').length) = false := decide_eq_false (by omega)
  generalize (Pk.pack d b').length = L1 at *
  generalize (Pk.pack [] b').length = L2 at *
  dsimp only
  rcases hc2 with ⟨h, rfl, rfl⟩ | ⟨k, rfl, hk, rfl, hc⟩
  · by_cases h0 : n < 0
    · have e3 : decide (n < 0) = true := decide_eq_true h0
      go_wp2_with fail
      go_ret
      exact ⟨rfl, bl3⟩
    · have e3 : decide (n < 0) = false := decide_eq_false h0
      have e4 : decide ((1048576 : Int) < n) = true := decide_eq_true (by omega)
      go_wp2_with fail
      go_ret
      exact ⟨rfl, bl3⟩
  · have e3 : decide ((k : Int) < 0) = false := decide_eq_false (by omega)
    have e4 : decide ((1048576 : Int) < k) = false := decide_eq_false (by omega)
    have HC := Lib.hid hc
    clear hc hk hbl2 hdl2 hm hm1 hm2
    simp only [Int.natCast_zero, Int.cast_ofNat_Int] at *
    go_wp2_with fail
    refine (HC.out w3).mono ?_
    rintro e w4 ⟨rfl, rfl⟩
    dsimp only
    go_wp2_with fail
    go_ret
    exact ⟨rfl, bl3⟩
end Go.Proofs.Ytgmpdclmfcmodaa
