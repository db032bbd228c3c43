/-
  Walks: strings.ContainsRune, asked for a sign.
-/
import Derived.Test.YtemcabepbncicaaDoorAccI
import Derived.Test.YtemcabepbncicaaDoorShelf
import Derived.WalkMore
namespace Go.Proofs.YtemcabepbncicaaDoor
open Go.RowKit

def signB (x : UInt8) : Bool := x == 43 || x == 45 || x == 61

theorem encode_two (n : Nat) (h1 : 128 ≤ n) (h2 : n < 256) : Utf8.encode (n : Int) = ⟨#[UInt8.ofNat (192 + n / 64), UInt8.ofNat (128 + n % 64)]⟩ := by
  have hv : Utf8.valid (n : Int) = true := by
    unfold Utf8.valid
    simp
    omega
  have e : ((n : Int)).toNat = n := rfl
  unfold Utf8.encode
  rw [e]
  simp only [hv, if_true]
  rw [if_neg (by omega), if_pos (by omega)]

theorem index_sign (x : UInt8) : decide (0 ≤ Lib.indexByte [43, 45, 61] x) = signB x := by
  unfold signB
  rcases Decidable.em (x = 43) with h | h1
  · subst h; decide
  rcases Decidable.em (x = 45) with h | h2
  · subst h; decide
  rcases Decidable.em (x = 61) with h | h3
  · subst h; decide
  have e : Lib.indexByte [43, 45, 61] x = -1 := by
    unfold Lib.indexByte Lib.indexByte Lib.indexByte Lib.indexByte
    have n1 : ((43 : UInt8) == x) = false := beq_eq_false_iff_ne.2 (Ne.symm h1)
    have n2 : ((45 : UInt8) == x) = false := beq_eq_false_iff_ne.2 (Ne.symm h2)
    have n3 : ((61 : UInt8) == x) = false := beq_eq_false_iff_ne.2 (Ne.symm h3)
    simp [n1, n2, n3]
  rw [e]
  simp [h1, h2, h3]

set_option maxRecDepth 100000 in
set_option maxHeartbeats 4000000 in
theorem indexRune_high (w : World) (x : Nat) (h1 : 128 ≤ x) (h2 : x < 256) :
    Calls Tryd.prog 48 #[.string ⟨#[43, 45, 61]⟩, .int .i32 x] w fun e w' => e = .returned (.int .i64 (-1)) ∧ Below w.heap.size w w' := by
  have henc := encode_two x h1 h2
  obtain ⟨a, ha⟩ : ∃ a : UInt8, a = UInt8.ofNat (192 + x / 64) := ⟨_, rfl⟩
  obtain ⟨b, hb⟩ : ∃ b : UInt8, b = UInt8.ofNat (128 + x % 64) := ⟨_, rfl⟩
  rw [← ha, ← hb] at henc
  have hbl : 128 ≤ b.toNat := by rw [hb, UInt8.toNat_ofNat']; omega
  have hbu := b.toNat_lt
  have e1 : decide ((x : Int) < 128) = false := decide_eq_false (by omega)
  have e2 : ((x : Int) == 65533) = false := beq_eq_false_iff_ne.2 (by omega)
  have e3 : ((45 : Int) == (b.toNat : Int)) = false := beq_eq_false_iff_ne.2 (by omega)
  have e4 : ((45 : Int) != (b.toNat : Int)) = true := bne_iff_ne.2 (by omega)
  have hvr : Lib.validRune (x : Int) = true := decide_eq_true (by omega)
  have HV := Lib.hid hvr
  have hix := Tryd.strings_IndexByte ⟨#[61]⟩ (b.toNat : Int)
  have hib : Lib.indexByte [61] ((b.toNat : Int).toNat.toUInt8) = -1 := by
    have : ((b.toNat : Int).toNat.toUInt8) = b := by simp
    rw [this]
    have n3 : ((61 : UInt8) == b) = false := beq_eq_false_iff_ne.2 (by rintro rfl; simp at hbl)
    unfold Lib.indexByte Lib.indexByte
    simp [n3]
  have HIX := Lib.hid hix
  have HIB := Lib.hid hib
  clear hvr ha hb hix hib
  go_enter Tryd.func48, Tryd.ntmps48
  go_wp2_with fail
  refine (Tryd.utf8_ValidRune _ w).mono ?_
  rintro e w2 ⟨rfl, rfl⟩
  rw [HV.out]
  dsimp only
  go_wp2_with fail
  go_step3
  go_wp2_with fail
  refine wp_loop_rounds 1 ?_
  rw [rounds_succ]
  go_wp2_with fail
  go_step3
  go_wp2_with fail
  refine wp_region_mixS (fun _ => True) [] [] [0, 1, 2, 3, 4, 5, 6] (by kernel_rfl) (by kernel_rfl) trivial ?_
  simp only [inOrder, opAt]
  iterate 2
    (refine wpMixS_read (v := ?_) rfl rfl (fun w' hS => ?_) ?_
     rotate_left
     · ((try replace hS := hS rfl); (try dsimp only at hS); go_simp; (try with_reducible rfl))
     try simp only [Act.put, List.setIfInBounds_toArray, List.set_cons_zero, List.set_cons_succ])
  refine wpMixS_read (v := .int .u8 45) rfl rfl (fun w' hS => ?_) ?_
  · go_simp
    try rfl
  try simp only [Act.put, List.setIfInBounds_toArray, List.set_cons_zero, List.set_cons_succ]
  iterate 2
    (refine wpMixS_read (v := ?_) rfl rfl (fun w' hS => ?_) ?_
     rotate_left
     · ((try replace hS := hS rfl); (try dsimp only at hS); go_simp; (try with_reducible rfl))
     try simp only [Act.put, List.setIfInBounds_toArray, List.set_cons_zero, List.set_cons_succ])
  refine wpMixS_read (v := .int .u8 b.toNat) rfl rfl (fun w' hS => ?_) ?_
  · go_simp
    try rfl
  try simp only [Act.put, List.setIfInBounds_toArray, List.set_cons_zero, List.set_cons_succ]
  iterate 1
    (refine wpMixS_read (v := ?_) rfl rfl (fun w' hS => ?_) ?_
     rotate_left
     · ((try replace hS := hS rfl); (try dsimp only at hS); go_simp; (try with_reducible rfl))
     try simp only [Act.put, List.setIfInBounds_toArray, List.set_cons_zero, List.set_cons_succ])
  refine wpMixS_nil ?_
  go_wp2_with fail
  refine wp_region_mixS (fun _ => True) [] [7] [0, 1, 2, 3, 4, 5, 6, 7, 8] (by kernel_rfl) (by kernel_rfl) trivial ?_
  simp only [inOrder, opAt]
  iterate 3
    (refine wpMixS_read (v := ?_) rfl rfl (fun w' hS => ?_) ?_
     rotate_left
     · ((try replace hS := hS rfl); (try dsimp only at hS); go_simp; (try with_reducible rfl))
     try simp only [Act.put, List.setIfInBounds_toArray, List.set_cons_zero, List.set_cons_succ])
  refine wpMixS_read (v := .string ⟨#[61]⟩) rfl rfl (fun w' hS => ?_) ?_
  · go_simp
    try rfl
  try simp only [Act.put, List.setIfInBounds_toArray, List.set_cons_zero, List.set_cons_succ]
  iterate 2
    (refine wpMixS_read (v := ?_) rfl rfl (fun w' hS => ?_) ?_
     rotate_left
     · ((try replace hS := hS rfl); (try dsimp only at hS); go_simp; (try with_reducible rfl))
     try simp only [Act.put, List.setIfInBounds_toArray, List.set_cons_zero, List.set_cons_succ])
  refine wpMixS_read (v := .int .u8 b.toNat) rfl rfl (fun w' hS => ?_) ?_
  · go_simp
    try rfl
  try simp only [Act.put, List.setIfInBounds_toArray, List.set_cons_zero, List.set_cons_succ]
  refine wpMixS_eff rfl rfl (fun K hK => ?_)
  go_simp
  refine (HIX.out _).mono ?_
  rintro e w3 ⟨rfl, rfl⟩
  rw [HIB.out]
  dsimp only
  refine hK.out _ _ _ (fun _ h => h) (fun _ => trivial) ?_
  clear hK K
  try simp only [Act.put, List.setIfInBounds_toArray, List.set_cons_zero, List.set_cons_succ]
  iterate 1
    (refine wpMixS_read (v := ?_) rfl rfl (fun w' hS => ?_) ?_
     rotate_left
     · ((try replace hS := hS rfl); (try dsimp only at hS); go_simp; (try with_reducible rfl))
     try simp only [Act.put, List.setIfInBounds_toArray, List.set_cons_zero, List.set_cons_succ])
  refine wpMixS_nil ?_
  go_wp2_with fail
  rw [Exit.noGoto_ret]
  refine (show bodyPost Tryd.prog Tryd.f48 (fun e w' => e = .returned (.int .i64 (-1)) ∧ Below w2.heap.size w2 w') Exit.ret _ _ from ?_)
  go_ret
  exact ⟨rfl, (Below.refl _ _).drew.drew⟩

theorem contains_sign (w : World) (x : UInt8) :
    Calls Tryd.prog 41 #[.string ⟨#[43, 45, 61]⟩, .int .i32 x.toNat] w fun e w' => e = .returned (.bool (signB x)) ∧ Below w.heap.size w w' := by
  have hx := x.toNat_lt
  by_cases h : x.toNat < 128
  · refine (Tryd.strings_ContainsRune_ascii ⟨#[43, 45, 61]⟩ x.toNat w (by omega) (by omega)).mono ?_
    rintro e w' ⟨rfl, rfl⟩
    have e : (x.toNat : Int).toNat.toUInt8 = x := by simp
    rw [e]
    exact ⟨by rw [← index_sign x], Below.refl _ _⟩
  · have hs : signB x = false := by
      unfold signB
      have h1 : x ≠ 43 := by rintro rfl; simp at h
      have h2 : x ≠ 45 := by rintro rfl; simp at h
      have h3 : x ≠ 61 := by rintro rfl; simp at h
      simp [h1, h2, h3]
    have HS := Lib.hid hs
    clear hs
    go_enter Tryd.func41, Tryd.ntmps41
    go_wp2_with fail
    refine (indexRune_high w x.toNat (by omega) hx).mono ?_
    rintro e w' ⟨rfl, nb⟩
    dsimp only
    go_wp2_with fail
    go_ret
    exact ⟨by rw [HS.out]; rfl, nb⟩
end Go.Proofs.YtemcabepbncicaaDoor
