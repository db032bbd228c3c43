/-
  The law AccessApplies, walked.
-/
import Derived.Test.YtemcabepbncicaaDoorAccO
import Derived.Test.YtemcabepbncicaaDoorAccY
namespace Go.Proofs.YtemcabepbncicaaDoor
open Go.RowKit
set_option linter.unusedVariables false

theorem upto120 (s : ByteArray) : ∃ p : Nat, p ≤ s.size ∧ p ≤ 120 ∧ (if (120 : Int) < (s.size : Int) then (120 : Int) else (s.size : Int)) = p ∧ (min (s.size : Int) 120) = p ∧ (s.extract 0 p).size = p := by
  refine ⟨min s.size 120, by omega, by omega, by split <;> omega, by omega, ?_⟩
  rw [ByteArray.size_extract]
  omega

set_option maxHeartbeats 4000000 in
theorem applies_walk (w : World) (x : Int) (x0 : ByteArray) (hx : (Lit.int .i64 x).wf = true) (hx0 : x0.size ≤ maxLen) (hs : Sh w) :
    Calls Tryd.prog 5 #[.int .i64 x, .string x0] w fun e w' => e = .returned (.bool true) ∧ Below w.heap.size w w' := by
  unfold maxLen at hx0
  obtain ⟨p, p1, p2, p3, p4, p5⟩ := upto120 x0
  clear hx
  generalize hX : x0.extract 0 p = X at *
  have HA := Lib.hid (apply_any w x X (by omega) hs)
  have HB := Lib.hid (fun W => rapply_any W x X (by omega))
  generalize applyV x (bl X) = R at *
  obtain ⟨r1, r2, r3⟩ := R
  unfold AppRet at HA HB
  dsimp only at HA HB
  go_enter Tryd.func5, Tryd.ntmps5
  go_wp2_with fail
  refine HA.out.mono ?_
  rintro e w1 ⟨rfl, b1⟩
  clear HA
  dsimp only
  go_wp2_with fail
  refine (HB.out w1).mono ?_
  rintro e w2 ⟨rfl, nb⟩
  clear HB
  have b2 := b1.trans (nb.mono b1.size)
  clear nb b1
  dsimp only
  go_wp2_with fail
  refine (known_any w2 (hs.belowS b2)).mono ?_
  rintro e w3 ⟨rfl, nb⟩
  have b3 := b2.trans (nb.mono b2.size)
  dsimp only
  go_wp2_with fail
  go_ret
  exact ⟨by first | rfl | simp, b3⟩
end Go.Proofs.YtemcabepbncicaaDoor
