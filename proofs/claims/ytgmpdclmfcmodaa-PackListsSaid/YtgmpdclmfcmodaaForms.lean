/-
  The law PackForms, walked.
-/
import Derived.Test.YtgmpdclmfcmodaaKnown
import Derived.Test.YtgmpdclmfcmodaaMixS
import Derived.Test.YtgmpdclmfcmodaaPure4
namespace Go.Proofs.Ytgmpdclmfcmodaa
open Go.RowKit

/-- The conversion of a slice of bytes to a string. -/
theorem conv_of {w : World} {B : Nat} {v : Value} {l : List UInt8} (h : RdB w B v l) : (convert 22 9 v).run Try.prog w = .ok (.string ⟨l.toArray⟩) w :=
  run_convert_string Try.underlying22 Try.underlying5 Try.underlying9 h

set_option maxRecDepth 100000 in
set_option maxHeartbeats 8000000 in
theorem forms_walk (w : World) (vd vb : Value) (dict b : List UInt8) (hd : RdB w w.heap.size vd dict) (hb : RdB w w.heap.size vb b) :
    Calls Try.prog 3 #[vd, vb] w fun e w' => e = .returned (.bool true) ∧ Below w.heap.size w w' := by
  go_enter Try.func3, Try.ntmps3
  go_wp2_with fail
  refine (cut_any w w.heap.size vd dict hd).mono ?_
  rintro e w1 ⟨v1, rfl, hd1, rfl⟩
  dsimp only
  go_wp2_with fail
  refine (cut_any w w.heap.size vb b hb).mono ?_
  rintro e w1 ⟨v2, rfl, hb1, rfl⟩
  dsimp only
  have hdl : (dict.take 400).length ≤ 400 := by rw [List.length_take]; omega
  have hbl : (b.take 400).length ≤ 400 := by rw [List.length_take]; omega
  generalize dict.take 400 = d at *
  generalize b.take 400 = b' at *
  go_wp2_with fail
  refine wp_region_mixS (fun w' => (convert 22 9 v1).run Try.prog w' = .ok (.string ⟨d.toArray⟩) w' ∧ (convert 22 9 v2).run Try.prog w' = .ok (.string ⟨b'.toArray⟩) w')
    [0, 1, 2, 3, 4] [] [0, 1, 2, 3, 4, 5] (by kernel_rfl) (by kernel_rfl) ⟨conv_of (w := w.drew) hd1, conv_of (w := w.drew) hb1⟩ ?_
  simp only [inOrder, opAt]
  repeat
    (refine wpMixS_read (v := ?_) rfl rfl (fun w' hS => ?_) ?_
     rotate_left
     · ((try replace hS := hS rfl); (try dsimp only at hS); go_simp; (try with_reducible rfl))
     simp only [Act.put, List.setIfInBounds_toArray, List.set_cons_zero, List.set_cons_succ])
  refine wpMixS_nil ?_
  have bl0 : Below w.heap.size w w.drew := Fr.nil_below (Fr.drew (Fr.refl _ _))
  go_wp2_with fail
  refine (packWith_any w.drew _ v1 v2 d b' hd1 hb1 (Nat.le_refl _) (by omega) (by omega)).mono ?_
  rintro e w3 ⟨v3, rfl, h3, bl3⟩
  have bl3' : Below w.heap.size w w3 := bl0.trans bl3
  dsimp only
  go_wp2_with fail
  refine (pack_any w3 _ v2 b' (hb1.below bl3') bl3'.size (by omega)).mono ?_
  rintro e w4 ⟨v4, rfl, h4, bl4⟩
  have bl4' : Below w.heap.size w w4 := bl3'.trans (bl4.mono bl3'.size)
  have bl5 : Below w.heap.size w w4.drew := bl4'.trans (Fr.nil_below (Fr.drew (Fr.refl _ _)) |>.mono bl4'.size)
  have h3' : RdB w4.drew w4.drew.heap.size v3 (Pk.pack d b') := (h3.below bl4).more bl4.size
  have h4' : RdB w4.drew w4.drew.heap.size v4 (Pk.pack [] b') := h4
  have hd4 : RdB w4.drew w4.drew.heap.size v1 d := (hd1.below bl5).more bl5.size
  have hb4 : RdB w4.drew w4.drew.heap.size v2 b' := (hb1.below bl5).more bl5.size
  clear h3 h4 bl4 bl3' bl3 bl0 bl4' hd1 hb1
  dsimp only
  go_wp2_with fail
  refine wp_region_mixS (fun w' => (convert 22 9 v1).run Try.prog w' = .ok (.string ⟨d.toArray⟩) w' ∧ (convert 22 9 v2).run Try.prog w' = .ok (.string ⟨b'.toArray⟩) w' ∧ (convert 22 9 v3).run Try.prog w' = .ok (.string ⟨(Pk.pack d b').toArray⟩) w' ∧ (convert 22 9 v4).run Try.prog w' = .ok (.string ⟨(Pk.pack [] b').toArray⟩) w')
    [0, 1, 2, 3, 4, 5, 6, 7, 8, 9, 10, 11, 12, 13, 14, 15, 16, 17, 18, 19, 20, 21, 22, 23, 24, 25, 26, 27, 28, 29, 30, 31, 32, 33, 34, 35, 36, 37, 38, 39] [0, 14, 15, 23, 24] [0, 1, 2, 3, 4, 5, 6, 7, 8, 9, 10, 11, 12, 13, 14, 15, 16, 17, 18, 19, 20, 21, 22, 23, 24, 25, 26, 27, 28, 29, 30, 31, 32, 33, 34, 35, 36, 37, 38, 39, 40] (by kernel_rfl) (by kernel_rfl)
    ⟨conv_of hd4, conv_of hb4, conv_of h3', conv_of h4'⟩ ?_
  simp only [inOrder, opAt]
  generalize w4.drew = w4 at *
  refine wpMixS_eff rfl rfl (fun K hK => ?_)
  go_simp
  refine (known_any w4).mono ?_
  rintro e w5 ⟨rfl, nb⟩
  replace bl5 := bl5.trans (nb.mono bl5.size)
  replace hd4 := (hd4.below nb).more nb.size
  replace hb4 := (hb4.below nb).more nb.size
  replace h3' := (h3'.below nb).more nb.size
  replace h4' := (h4'.below nb).more nb.size
  clear nb
  dsimp only
  refine hK.out _ _ _ (fun _ h => h) (fun _ => ⟨conv_of hd4, conv_of hb4, conv_of h3', conv_of h4'⟩) ?_
  clear hK K
  try simp only [Act.put, List.setIfInBounds_toArray, List.set_cons_zero, List.set_cons_succ]
  repeat
    (refine wpMixS_read (v := ?_) rfl rfl (fun w' hS => ?_) ?_
     rotate_left
     · ((try replace hS := hS rfl); (try dsimp only at hS); go_simp; (try with_reducible rfl))
     simp only [Act.put, List.setIfInBounds_toArray, List.set_cons_zero, List.set_cons_succ])
  refine wpMixS_eff rfl rfl (fun K hK => ?_)
  go_simp
  refine (rcanonical_any w5 _ v1 v2 d b' hd4 hb4 (Nat.le_refl _) (by omega) (by omega)).mono ?_
  rintro e w6 ⟨v6, rfl, h6, nb⟩
  replace bl5 := bl5.trans (nb.mono bl5.size)
  replace hd4 := (hd4.below nb).more nb.size
  replace hb4 := (hb4.below nb).more nb.size
  replace h3' := (h3'.below nb).more nb.size
  replace h4' := (h4'.below nb).more nb.size
  clear nb
  dsimp only
  refine hK.out _ _ _ (fun _ h => h) (fun _ => ⟨conv_of hd4, conv_of hb4, conv_of h3', conv_of h4'⟩) ?_
  clear hK K
  try simp only [Act.put, List.setIfInBounds_toArray, List.set_cons_zero, List.set_cons_succ]
  refine wpMixS_eff rfl rfl (fun K hK => ?_)
  go_simp
  refine (rbytes_any w6 _ v6 _ h6 (Pk.can_ok d b') (Nat.le_refl _) (by rw [Pk.pack_eq]; have := Pk.pack_len d b'; omega) (by have := Pk.can_len d b'; omega)).mono ?_
  rintro e w7 ⟨v7, rfl, h7, nb⟩
  rw [Pk.pack_eq] at h7
  replace bl5 := bl5.trans (nb.mono bl5.size)
  replace hd4 := (hd4.below nb).more nb.size
  replace hb4 := (hb4.below nb).more nb.size
  replace h3' := (h3'.below nb).more nb.size
  replace h4' := (h4'.below nb).more nb.size
  clear nb h6
  dsimp only
  refine hK.out (fun w' => (convert 22 9 v1).run Try.prog w' = .ok (.string ⟨d.toArray⟩) w' ∧ (convert 22 9 v2).run Try.prog w' = .ok (.string ⟨b'.toArray⟩) w' ∧ (convert 22 9 v3).run Try.prog w' = .ok (.string ⟨(Pk.pack d b').toArray⟩) w' ∧ (convert 22 9 v4).run Try.prog w' = .ok (.string ⟨(Pk.pack [] b').toArray⟩) w' ∧ (convert 22 9 v7).run Try.prog w' = .ok (.string ⟨(Pk.pack d b').toArray⟩) w')
    _ _ (fun _ h => ⟨h.1, h.2.1, h.2.2.1, h.2.2.2.1⟩) (fun _ => ⟨conv_of hd4, conv_of hb4, conv_of h3', conv_of h4', conv_of h7⟩) ?_
  clear hK K
  try simp only [Act.put, List.setIfInBounds_toArray, List.set_cons_zero, List.set_cons_succ]
  repeat
    (refine wpMixS_read (v := ?_) rfl rfl (fun w' hS => ?_) ?_
     rotate_left
     · ((try replace hS := hS rfl); (try dsimp only at hS); go_simp; (try with_reducible rfl))
     simp only [Act.put, List.setIfInBounds_toArray, List.set_cons_zero, List.set_cons_succ])
  refine wpMixS_eff rfl rfl (fun K hK => ?_)
  go_simp
  refine (rcanonical_any w7 _ (.slice none 0 0) v2 [] b' (RdB.nil _ _) hb4 (Nat.le_refl _) (by simp) (by omega)).mono ?_
  rintro e w8 ⟨v8, rfl, h8, nb⟩
  replace bl5 := bl5.trans (nb.mono bl5.size)
  replace hd4 := (hd4.below nb).more nb.size
  replace hb4 := (hb4.below nb).more nb.size
  replace h3' := (h3'.below nb).more nb.size
  replace h4' := (h4'.below nb).more nb.size
  replace h7 := (h7.below nb).more nb.size
  clear nb
  dsimp only
  refine hK.out _ _ _ (fun _ h => h) (fun _ => ⟨conv_of hd4, conv_of hb4, conv_of h3', conv_of h4', conv_of h7⟩) ?_
  clear hK K
  try simp only [Act.put, List.setIfInBounds_toArray, List.set_cons_zero, List.set_cons_succ]
  refine wpMixS_eff rfl rfl (fun K hK => ?_)
  go_simp
  refine (rbytes_any w8 _ v8 _ h8 (Pk.can_ok [] b') (Nat.le_refl _) (by rw [Pk.pack_eq]; have := Pk.pack_len [] b'; omega) (by have := Pk.can_len [] b'; omega)).mono ?_
  rintro e w9 ⟨v9, rfl, h9, nb⟩
  rw [Pk.pack_eq] at h9
  replace bl5 := bl5.trans (nb.mono bl5.size)
  replace hd4 := (hd4.below nb).more nb.size
  replace hb4 := (hb4.below nb).more nb.size
  replace h3' := (h3'.below nb).more nb.size
  replace h4' := (h4'.below nb).more nb.size
  replace h7 := (h7.below nb).more nb.size
  clear nb h8
  dsimp only
  refine hK.out (fun w' => (convert 22 9 v1).run Try.prog w' = .ok (.string ⟨d.toArray⟩) w' ∧ (convert 22 9 v2).run Try.prog w' = .ok (.string ⟨b'.toArray⟩) w' ∧ (convert 22 9 v3).run Try.prog w' = .ok (.string ⟨(Pk.pack d b').toArray⟩) w' ∧ (convert 22 9 v4).run Try.prog w' = .ok (.string ⟨(Pk.pack [] b').toArray⟩) w' ∧ (convert 22 9 v7).run Try.prog w' = .ok (.string ⟨(Pk.pack d b').toArray⟩) w' ∧ (convert 22 9 v9).run Try.prog w' = .ok (.string ⟨(Pk.pack [] b').toArray⟩) w')
    _ _ (fun _ h => ⟨h.1, h.2.1, h.2.2.1, h.2.2.2.1, h.2.2.2.2.1⟩) (fun _ => ⟨conv_of hd4, conv_of hb4, conv_of h3', conv_of h4', conv_of h7, conv_of h9⟩) ?_
  clear hK K
  try simp only [Act.put, List.setIfInBounds_toArray, List.set_cons_zero, List.set_cons_succ]
  repeat
    (refine wpMixS_read (v := ?_) rfl rfl (fun w' hS => ?_) ?_
     rotate_left
     · ((try replace hS := hS rfl); (try dsimp only at hS); go_simp; (try with_reducible rfl))
     simp only [Act.put, List.setIfInBounds_toArray, List.set_cons_zero, List.set_cons_succ])
  refine wpMixS_nil ?_
  go_wp2_with fail
  go_ret
  exact ⟨rfl, bl5⟩
end Go.Proofs.Ytgmpdclmfcmodaa
