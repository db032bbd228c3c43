/-
  The law PackBack, walked.
-/
import Derived.Test.YtgmpdclmfcmodaaUnpacks
import Derived.Test.YtgmpdclmfcmodaaPure5
namespace Go.Proofs.Ytgmpdclmfcmodaa
open Go.RowKit

theorem pack_nil (d : List UInt8) : Pk.pack d [] = [] := rfl

set_option maxRecDepth 100000 in
set_option maxHeartbeats 8000000 in
theorem back_walk (w : World) (vd vb : Value) (dict b : List UInt8) (hd : RdB w w.heap.size vd dict) (hb : RdB w w.heap.size vb b) :
    Calls Try.prog 4 #[vd, vb] w fun e w' => e = .returned (.bool true) ∧ Below w.heap.size w w' := by
  go_enter Try.func4, Try.ntmps4
  go_wp2_with fail
  refine (cut_any w w.heap.size vd dict hd).mono ?_
  rintro e w1 ⟨v1, rfl, hd1, rfl⟩
  dsimp only
  go_wp2_with fail
  refine (cut_any w w.heap.size vb b hb).mono ?_
  rintro e w1 ⟨v2, rfl, hb1, rfl⟩
  dsimp only
  have hdl : (dict.take 400).length ≤ 400 := by rw [List.length_take]; omega
  have hbl : (b.take 400).length ≤ 400 := by rw [List.length_take]; omega
  generalize dict.take 400 = d at *
  generalize b.take 400 = b' at *
  obtain ⟨A2, c2, rfl, _, _, _⟩ := id hb1
  go_wp2_with fail
  refine (packWith_any w _ v1 _ d b' hd1 hb1 (Nat.le_refl _) (by omega) (by omega)).mono ?_
  rintro e w1 ⟨v3, rfl, h3, bl1⟩
  have hpk := Pk.pack_len d b'
  have hpl : (Pk.pack d b').length ≤ 8000000 := by omega
  have h0 := pack_nil d
  have H0 := Lib.hid h0
  have HU := Lib.hid (fun most hm => Pk.unpack_pack d b' most (by omega) hm)
  clear hpk h0
  obtain ⟨A3, c3, rfl, _, _, _⟩ := id h3
  dsimp only
  go_wp2_with fail
  refine (unpackWith_any w1 _ v1 _ d (Pk.pack d b') b'.length (hd1.below bl1 |>.more bl1.size) h3 (Nat.le_refl _) hpl (by omega) (by omega)).mono ?_
  rintro e w2 ⟨hu, nb⟩
  rw [((HU.out b'.length (by omega)).1 (Nat.le_refl _))] at hu
  obtain ⟨u1, rfl, k1⟩ := hu
  have bl2 := bl1.trans (nb.mono bl1.size)
  replace h3 := (h3.below nb).more nb.size
  clear bl1 nb
  dsimp only
  go_wp2_with fail
  refine (known_any w2).mono ?_
  rintro e w3 ⟨rfl, nb⟩
  have bl3 := bl2.trans (nb.mono bl2.size)
  replace h3 := (h3.below nb).more nb.size
  have c1 := conv_of (k1.below nb)
  have cb := conv_of (hb1.below bl3)
  clear bl2 nb
  dsimp only
  by_cases hb0 : b'.length = 0
  · have hbn : b' = [] := List.eq_nil_of_length_eq_zero hb0
    subst hbn
    rw [H0.out] at h3
    generalize Pk.pack d [] = P at *
    obtain rfl : P = [] := H0.out
    replace cb : (convert 22 9 (.slice A2 0 c2)).run Try.prog w3 = .ok (.string ⟨#[]⟩) w3 := cb
    replace c1 : (convert 22 9 u1).run Try.prog w3 = .ok (.string ⟨#[]⟩) w3 := c1
    go_wp2_with fail
    go_ret
    exact ⟨rfl, bl3⟩
  · have e0 : ((b'.length : Int) == 0) = false := beq_eq_false_iff_ne.2 (by omega)
    go_wp2_with fail
    have hcall := unpackWith_any w3 _ v1 _ d (Pk.pack d b') ((b'.length - 1 : Nat) : Int) (hd1.below bl3 |>.more bl3.size) h3 (Nat.le_refl _) hpl (by omega) (by omega)
    rw [show ((b'.length - 1 : Nat) : Int) = (b'.length : Int) - 1 by omega] at hcall
    refine hcall.mono ?_
    rintro e w4 ⟨hu, nb⟩
    obtain ⟨a, ha⟩ := (HU.out (b'.length - 1) (by omega)).2 (by omega)
    rw [show ((b'.length - 1 : Nat) : Int) = (b'.length : Int) - 1 by omega] at ha
    rw [ha] at hu
    simp only [UnpRet] at hu
    subst hu
    dsimp only
    clear ha hcall
    go_wp2_with fail
    go_ret
    exact ⟨rfl, bl3.trans (nb.mono bl3.size)⟩
end Go.Proofs.Ytgmpdclmfcmodaa
