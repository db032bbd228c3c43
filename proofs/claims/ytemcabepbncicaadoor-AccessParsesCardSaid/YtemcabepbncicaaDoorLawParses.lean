/-
  The law AccessParses, walked.
-/
import Derived.Test.YtemcabepbncicaaDoorAccO
import Derived.Test.YtemcabepbncicaaDoorAccS
namespace Go.Proofs.YtemcabepbncicaaDoor
open Go.RowKit
set_option linter.unusedVariables false

theorem upto30 (s : ByteArray) : ∃ p : Nat, p ≤ s.size ∧ p ≤ 30 ∧ (if (30 : Int) < (s.size : Int) then (30 : Int) else (s.size : Int)) = p ∧ (min (s.size : Int) 30) = p ∧ (s.extract 0 p).size = p := by
  refine ⟨min s.size 30, by omega, by omega, by split <;> omega, by omega, ?_⟩
  rw [ByteArray.size_extract]
  omega

set_option maxHeartbeats 4000000 in
theorem parses_walk (w : World) (x0 : ByteArray) (hx0 : x0.size ≤ maxLen) (hs : Sh w) :
    Calls Tryd.prog 11 #[.string x0] w fun e w' => e = .returned (.bool true) ∧ Below w.heap.size w w' := by
  unfold maxLen at hx0
  obtain ⟨p, p1, p2, p3, p4, p5⟩ := upto30 x0
  generalize hX : x0.extract 0 p = X at *
  go_enter Tryd.func11, Tryd.ntmps11
  go_wp2_with fail
  have hp := parses_plain (bl X)
  have HP := Lib.hid hp
  clear hp hX
  refine (parse_any _ X (by omega)).mono ?_
  rintro e w1 ⟨hr1, rfl⟩
  have HRP := Lib.hid (fun W => rparse_any W X (by omega))
  generalize parseV (bl X) = A at *
  unfold AppRet at hr1
  subst hr1
  dsimp only
  go_wp2_with fail
  refine (HRP.out _).mono ?_
  rintro e w2 ⟨hr2, b2⟩
  clear HRP
  unfold AppRet at hr2
  subst hr2
  dsimp only
  obtain ⟨a1, a2, a3⟩ := A
  have hq := HP.out
  simp only at hq
  clear HP
  simp only
  have HK := Lib.hid (known_any w2 (hs.belowS b2))
  clear hs p3 p4 p1
  rcases Decidable.em (a3 = 0) with h | h
  focus
    obtain ⟨q1, q2⟩ := hq h
    have f1 : ((a3 : Int) != 0) = false := by rw [h]; rfl
    have hT : X = ⟨(textN a1).toArray⟩ := by rw [q2]; exact ByteArray.ext (by simp [bl])
    have HT := Lib.hid hT
    have HRT := Lib.hid (fun W => rtext_any W a1 (by omega))
    clear h hq q2 hT
    go_wp2_with fail
    refine HK.out.mono ?_
    rintro e w3 ⟨rfl, nb⟩
    have b3 := b2.trans (nb.mono b2.size)
    dsimp only
    go_wp2_with fail
    refine (HRT.out w3).mono ?_
    rintro e w4 ⟨rfl, nb4⟩
    have b4 := b3.trans (nb4.mono b3.size)
    dsimp only
    rw [HT.out]
    go_wp2_with fail
    go_ret
    exact ⟨by first | rfl | simp, b4⟩
  focus
    have f1 : ((a3 : Int) != 0) = true := bne_iff_ne.2 (by omega)
    clear h hq
    go_wp2_with fail
    refine HK.out.mono ?_
    rintro e w3 ⟨rfl, nb⟩
    have b3 := b2.trans (nb.mono b2.size)
    dsimp only
    go_wp2_with fail
    go_ret
    exact ⟨by first | rfl | simp, b3⟩
end Go.Proofs.YtemcabepbncicaaDoor
