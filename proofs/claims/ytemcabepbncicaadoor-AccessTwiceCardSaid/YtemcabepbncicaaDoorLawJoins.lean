/-
  The law AccessJoins, walked.
-/
import Derived.Test.YtemcabepbncicaaDoorAccO
import Derived.Test.YtemcabepbncicaaDoorPlainJoins
namespace Go.Proofs.YtemcabepbncicaaDoor
open Go.RowKit
set_option linter.unusedVariables false

theorem u16_int {a : Int} (h : (Lit.int .u16 a).wf = true) : 0 ≤ a ∧ a < 65536 := by
  simp [Lit.wf, IntKind.min, IntKind.max, IntKind.bits, IntKind.signed] at h
  omega

theorem upto40 (s : ByteArray) : ∃ p : Nat, p ≤ s.size ∧ p ≤ 40 ∧ (if (40 : Int) < (s.size : Int) then (40 : Int) else (s.size : Int)) = p ∧ (min (s.size : Int) 40) = p ∧ (s.extract 0 p).size = p := by
  refine ⟨min s.size 40, by omega, by omega, by split <;> omega, by omega, ?_⟩
  rw [ByteArray.size_extract]
  omega
theorem bl_join (x y : ByteArray) : bl (x ++ ⟨#[44]⟩ ++ y) = bl x ++ 44 :: bl y := by
  simp [bl, ByteArray.data_append]

set_option maxHeartbeats 4000000 in
theorem joins_walk (w : World) (a : Int) (x0 y0 : ByteArray) (ha : (Lit.int .u16 a).wf = true) (hx0 : x0.size ≤ maxLen) (hy0 : y0.size ≤ maxLen) (hs : Sh w) :
    Calls Tryd.prog 7 #[.int .u16 a, .string x0, .string y0] w fun e w' => e = .returned (.bool true) ∧ Below w.heap.size w w' := by
  obtain ⟨ha1, ha2⟩ := u16_int ha
  clear ha
  obtain ⟨n, rfl⟩ : ∃ n : Nat, a = n := ⟨a.toNat, by omega⟩
  obtain ⟨m, hm⟩ : ∃ m : Nat, m = n % 2048 := ⟨_, rfl⟩
  have e0 : (n : Int) % 2048 = (m : Int) := by omega
  have e00 : (n : Int).tmod 2048 = (m : Int) := by rw [Int.tmod_eq_emod_of_nonneg (by omega)]; exact e0
  have hm2 : m < 2048 := by omega
  unfold maxLen at hx0 hy0
  obtain ⟨p, p1, p2, p3, p4, p5⟩ := upto40 x0
  obtain ⟨q, q1, q2, q3, q4, q5⟩ := upto40 y0
  clear hm
  generalize hX : x0.extract 0 p = X at *
  generalize hY : y0.extract 0 q = Y at *
  go_enter Tryd.func7, Tryd.ntmps7
  go_wp2_with fail
  refine wp_region_mixS (fun _ => True) [0, 1, 2, 3, 4, 5, 6, 7, 8, 9, 10] [] [0, 1, 2, 3, 4, 5, 6, 7, 8, 9, 10, 11] (by kernel_rfl) (by kernel_rfl) trivial ?_
  simp only [inOrder, opAt]
  iterate 3
    (refine wpMixS_read (v := ?_) rfl rfl (fun w' hS => ?_) ?_
     rotate_left
     · ((try replace hS := hS rfl); (try dsimp only at hS); go_simp; (try with_reducible rfl))
     try simp only [Act.put, List.setIfInBounds_toArray, List.set_cons_zero, List.set_cons_succ])
  refine wpMixS_read (v := .int .i64 p) rfl rfl (fun w' hS => ?_) ?_
  · go_simp
    try rfl
  try simp only [Act.put, List.setIfInBounds_toArray, List.set_cons_zero, List.set_cons_succ]
  refine wpMixS_read (v := .string X) rfl rfl (fun w' hS => ?_) ?_
  · go_simp
    try rfl
  try simp only [Act.put, List.setIfInBounds_toArray, List.set_cons_zero, List.set_cons_succ]
  iterate 3
    (refine wpMixS_read (v := ?_) rfl rfl (fun w' hS => ?_) ?_
     rotate_left
     · ((try replace hS := hS rfl); (try dsimp only at hS); go_simp; (try with_reducible rfl))
     try simp only [Act.put, List.setIfInBounds_toArray, List.set_cons_zero, List.set_cons_succ])
  refine wpMixS_read (v := .int .i64 q) rfl rfl (fun w' hS => ?_) ?_
  · go_simp
    try rfl
  try simp only [Act.put, List.setIfInBounds_toArray, List.set_cons_zero, List.set_cons_succ]
  refine wpMixS_read (v := .string Y) rfl rfl (fun w' hS => ?_) ?_
  · go_simp
    try rfl
  try simp only [Act.put, List.setIfInBounds_toArray, List.set_cons_zero, List.set_cons_succ]
  iterate 2
    (refine wpMixS_read (v := ?_) rfl rfl (fun w' hS => ?_) ?_
     rotate_left
     · ((try replace hS := hS rfl); (try dsimp only at hS); go_simp; (try with_reducible rfl))
     try simp only [Act.put, List.setIfInBounds_toArray, List.set_cons_zero, List.set_cons_succ])
  refine wpMixS_nil ?_
  go_wp2_with fail
  have hj := joins_plain m (bl X) (bl Y) hm2 (by rw [List.length_append, List.length_cons, bl_length, bl_length]; omega)
  rw [← bl_join] at hj
  have HJ := Lib.hid hj
  clear hj
  have hs1 : Sh w.drew := hs.belowS (Below.refl _ _).drew
  with_reducible refine (apply_any _ (m : Int) X (by omega) hs1).mono ?_
  rintro e w1 ⟨hr1, b1'⟩
  have b1 : Below w.heap.size w w1 := (Below.refl _ _).drew.trans b1'
  clear b1'
  generalize applyV (m : Int) (bl X) = A at *
  unfold AppRet at hr1
  subst hr1
  dsimp only
  go_wp2_with fail
  with_reducible refine (apply_any _ (A.1 : Int) Y (by omega) (hs.belowS b1)).mono ?_
  rintro e w2 ⟨hr2, nb⟩
  have b2 := b1.trans (nb.mono b1.size)
  clear nb b1
  generalize applyV (A.1 : Int) (bl Y) = B at *
  unfold AppRet at hr2
  subst hr2
  dsimp only
  go_wp2_with fail
  with_reducible refine (apply_any _ (m : Int) (X ++ ⟨#[44]⟩ ++ Y) (by rw [ByteArray.size_append, ByteArray.size_append, p5, q5, show (⟨#[44]⟩ : ByteArray).size = 1 from rfl]; omega) (hs.belowS b2)).mono ?_
  rintro e w3 ⟨hr3, nb⟩
  have b3 := b2.trans (nb.mono b2.size)
  clear nb b2
  generalize applyV (m : Int) (bl (X ++ ⟨#[44]⟩ ++ Y)) = C at *
  unfold AppRet at hr3
  subst hr3
  dsimp only
  obtain ⟨a1, a2, a3⟩ := A
  obtain ⟨c1, c2, c3⟩ := B
  obtain ⟨d1, d2, d3⟩ := C
  obtain ⟨_, hj⟩ := HJ.out
  simp only at hj
  clear HJ
  simp only
  have hk := known_any w3 (hs.belowS b3)
  have HK := Lib.hid hk
  clear hk hs hs1 p3 p4 p1 q3 q4 q1 hX hY p5 q5 e0 e00
  rcases hj with ⟨h1, h2, h3, h4⟩ | ⟨h1 | ⟨h1, h2⟩, h3, h4⟩
  focus
    have f1 : ((a3 : Int) != 0) = false := by rw [h1]; rfl
    have f2 : ((c3 : Int) != 0) = false := by rw [h2]; rfl
    have f3 : ((d3 : Int) == 0) = true := by rw [h3]; rfl
    have f4 : ((d1 : Int) == (c1 : Int)) = true := by rw [h4]; simp
    clear h1 h2 h3 h4
    go_wp2_with fail
    refine HK.out.mono ?_
    rintro e w4 ⟨rfl, nb⟩
    have b4 := b3.trans (nb.mono b3.size)
    dsimp only
    go_wp2_with fail
    go_ret
    exact ⟨by first | rfl | simp, b4⟩
  focus
    have f1 : ((a3 : Int) != 0) = true := bne_iff_ne.2 (by omega)
    have f3 : ((d3 : Int) == 30) = true := by rw [h3]; rfl
    have f4 : ((d1 : Int) == 0) = true := by rw [h4]; rfl
    clear h1 h3 h4
    go_wp2_with fail
    refine HK.out.mono ?_
    rintro e w4 ⟨rfl, nb⟩
    have b4 := b3.trans (nb.mono b3.size)
    dsimp only
    go_wp2_with fail
    go_ret
    exact ⟨by first | rfl | simp, b4⟩
  focus
    have f1 : ((a3 : Int) != 0) = false := by rw [h1]; rfl
    have f2 : ((c3 : Int) != 0) = true := bne_iff_ne.2 (by omega)
    have f3 : ((d3 : Int) == 30) = true := by rw [h3]; rfl
    have f4 : ((d1 : Int) == 0) = true := by rw [h4]; rfl
    clear h1 h2 h3 h4
    go_wp2_with fail
    refine HK.out.mono ?_
    rintro e w4 ⟨rfl, nb⟩
    have b4 := b3.trans (nb.mono b3.size)
    dsimp only
    go_wp2_with fail
    go_ret
    exact ⟨by first | rfl | simp, b4⟩
end Go.Proofs.YtemcabepbncicaaDoor
