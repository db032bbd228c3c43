/-
  Walks: Require, Change, Remove, and the reference's.
-/
import Derived.Test.YtemcabepbncicaaDoorAccB
namespace Go.Proofs.YtemcabepbncicaaDoor
open Go.RowKit

def requireV (u : Int) (gs : List Int) (owner group mode want : Int) : Nat :=
  if mode < 0 ∨ 2047 < mode ∨ want < 0 ∨ 7 < want then 2
  else if u ≠ 0 ∧ bitsV mode (classV u gs owner group) &&& want.toNat ≠ want.toNat then 14 else 0

theorem requireV_range {u : Int} {gs : List Int} {owner group mode want : Int} (h : mode < 0 ∨ 2047 < mode ∨ want < 0 ∨ 7 < want) : requireV u gs owner group mode want = 2 := by
  unfold requireV; rw [if_pos h]

theorem bel_alloc (w : World) (o : Obj) : Below w.heap.size w (w.alloc o) := (Below.refl _ _).alloc (Nat.le_refl _) _

set_option maxHeartbeats 1000000 in
theorem require_any (w : World) (B : Nat) (v : Value) (gs : List Int) (u owner group mode want : Int) (h : RdI w B v gs) (hB : B ≤ w.heap.size) (hs : Sh w) :
    Calls Tryd.prog 18 #[.agg #[.int .i64 u, v], .int .i64 owner, .int .i64 group, .int .i64 mode, .int .i64 want] w fun e w' => e = .returned (.int .i64 (requireV u gs owner group mode want)) ∧ Below w.heap.size w w' := by
  obtain ⟨A, cap, rfl, _, _, _⟩ := id h
  have ha : Below w.heap.size w (w.alloc (.cells #[.int .i64 u, .slice A gs.length cap] 27)) := bel_alloc _ _
  by_cases hm : 0 ≤ mode ∧ mode ≤ 2047
  · have hmb := Lib.hid (modeB_yes hm.1 hm.2)
    by_cases h0 : want < 0
    · have hr : Hid (requireV u gs owner group mode want = 2) := Lib.hid (requireV_range (by omega))
      have e1 : decide (want < 0) = true := decide_eq_true h0
      go_enter Tryd.func18, Tryd.ntmps18
      go_wp2_with fail
      refine (isMode_any _ _).mono ?_
      rintro e w' ⟨rfl, rfl⟩
      rw [hmb.out]
      dsimp only
      go_wp2_with fail
      go_ret
      exact ⟨by rw [hr.out]; rfl, ha⟩
    · have e1 : decide (want < 0) = false := decide_eq_false h0
      by_cases h7 : 7 < want
      · have hr : Hid (requireV u gs owner group mode want = 2) := Lib.hid (requireV_range (by omega))
        have e2 : decide (7 < want) = true := decide_eq_true h7
        go_enter Tryd.func18, Tryd.ntmps18
        go_wp2_with fail
        refine (isMode_any _ _).mono ?_
        rintro e w' ⟨rfl, rfl⟩
        rw [hmb.out]
        dsimp only
        go_wp2_with fail
        go_ret
        exact ⟨by rw [hr.out]; rfl, ha⟩
      · have e2 : decide (7 < want) = false := decide_eq_false h7
        obtain ⟨wn, rfl⟩ : ∃ n : Nat, want = n := ⟨want.toNat, by omega⟩
        have hrd : requireV u gs owner group mode wn = if u ≠ 0 ∧ bitsV mode (classV u gs owner group) &&& wn ≠ wn then 14 else 0 := by unfold requireV; rw [if_neg (by omega)]; rfl
        have HR := Lib.hid hrd
        clear hrd
        by_cases hu : u = 0
        · subst hu
          have hr : Hid (requireV 0 gs owner group mode wn = 0) := Lib.hid (by rw [HR.out, if_neg (fun h => h.1 rfl)])
          clear h0 h7 hm
          go_enter Tryd.func18, Tryd.ntmps18
          go_wp2_with fail
          refine (isMode_any _ _).mono ?_
          rintro e w' ⟨rfl, rfl⟩
          rw [hmb.out]
          dsimp only
          go_wp2_with fail
          go_ret
          exact ⟨by rw [hr.out]; rfl, ha⟩
        · have e3 : (u == 0) = false := beq_eq_false_iff_ne.2 hu
          have e3' : (u != 0) = true := bne_iff_ne.2 hu
          have hbl := bitsV_lt mode (classV u gs owner group)
          have hand := i64_and_nat (bitsV mode (classV u gs owner group)) wn (by omega) (by omega)
          have hall : ∃ r : Nat, requireV u gs owner group mode wn = r ∧ ((r = 14 ∧ ¬ (bitsV mode (classV u gs owner group) &&& wn) = wn) ∨ (r = 0 ∧ (bitsV mode (classV u gs owner group) &&& wn) = wn)) := by
            by_cases he : bitsV mode (classV u gs owner group) &&& wn = wn
            · exact ⟨0, by rw [HR.out, if_neg (fun h => h.2 he)], .inr ⟨rfl, he⟩⟩
            · exact ⟨14, by rw [HR.out, if_pos ⟨hu, he⟩], .inl ⟨rfl, he⟩⟩
          obtain ⟨r, hr, hcase⟩ := hall
          have HRR := Lib.hid hr
          clear hr HR h0 h7 hm
          have hcl := class_any (w.alloc (.cells #[.int .i64 u, .slice A gs.length cap] 27)) B _ gs u owner group (h.below (ha.mono hB)) (by simp; omega)
          have HCL := Lib.hid hcl
          clear hcl
          generalize hbits : bitsV mode (classV u gs owner group) = bt at *
          have HBT := Lib.hid hbits
          clear hbits
          have han : (bt &&& wn) ≤ 7 := Nat.le_trans Nat.and_le_left (by omega)
          generalize bt &&& wn = bw at *
          rcases hcase with ⟨rfl, e4⟩ | ⟨rfl, rfl⟩
          have e5 : ((bw : Int) != (wn : Int)) = true := bne_iff_ne.2 (by omega)
          have e6 : ((bw : Int) == (wn : Int)) = false := beq_eq_false_iff_ne.2 (by omega)
          all_goals
            go_enter Tryd.func18, Tryd.ntmps18
            go_wp2_with fail
            refine (isMode_any _ _).mono ?_
            rintro e w' ⟨rfl, rfl⟩
            rw [hmb.out]
            dsimp only
            go_wp2_with fail
            refine HCL.out.mono ?_
            rintro e w2 ⟨rfl, nb⟩
            have hb2 := ha.trans (nb.mono (by simp))
            dsimp only
            go_wp2_with fail
            refine (bits_any _ _ w2 (hs.belowS hb2)).mono ?_
            rintro e w3 ⟨rfl, rfl⟩
            rw [HBT.out]
            dsimp only
            go_wp2_with fail
            go_ret
            exact ⟨by rw [HRR.out]; rfl, hb2⟩
  · have hmb := Lib.hid (modeB_no (x := mode) (by omega))
    have hr : Hid (requireV u gs owner group mode want = 2) := Lib.hid (requireV_range (by omega))
    clear hm
    go_enter Tryd.func18, Tryd.ntmps18
    go_wp2_with fail
    refine (isMode_any _ _).mono ?_
    rintro e w' ⟨rfl, rfl⟩
    rw [hmb.out]
    dsimp only
    go_wp2_with fail
    go_ret
    exact ⟨by rw [hr.out]; rfl, ha⟩
end Go.Proofs.YtemcabepbncicaaDoor
