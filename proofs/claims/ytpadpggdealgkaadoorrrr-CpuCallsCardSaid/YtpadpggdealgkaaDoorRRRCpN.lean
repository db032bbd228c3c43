/-
  Walks: the reference's Form, Limits and Check. (genCpN.py prints this text.)
-/
import Derived.Test.YtpadpggdealgkaaDoorRRRMCe
namespace Go.Proofs.YtpadpggdealgkaaDoorRRR
open Go.RowKit
set_option linter.unusedVariables false
set_option linter.unusedSimpArgs false

theorem form0 (w : World) : Calls Tryd.prog 26 #[.int .i64 0] w fun e w' => e = .returned (.tuple #[.int .i64 0, .int .i64 0]) ∧ w = w' := by
  go_enter Tryd.func26, Tryd.ntmps26
  go_wp2_with fail
  go_ret2
  exact ⟨rfl, rfl⟩
theorem form1 (w : World) : Calls Tryd.prog 26 #[.int .i64 1] w fun e w' => e = .returned (.tuple #[.int .i64 2, .int .i64 0]) ∧ w = w' := by
  go_enter Tryd.func26, Tryd.ntmps26
  go_wp2_with fail
  go_ret2
  exact ⟨rfl, rfl⟩
theorem form2 (w : World) : Calls Tryd.prog 26 #[.int .i64 2] w fun e w' => e = .returned (.tuple #[.int .i64 4, .int .i64 0]) ∧ w = w' := by
  go_enter Tryd.func26, Tryd.ntmps26
  go_wp2_with fail
  go_ret2
  exact ⟨rfl, rfl⟩
theorem lims2 (w : World) : Calls Tryd.prog 30 #[.int .i64 2] w fun e w' => e = .returned (.tuple #[.int .i64 (-32768), .int .i64 32767, .int .i64 0]) ∧ w = w' := by
  go_enter Tryd.func30, Tryd.ntmps30
  go_wp2_with fail
  refine (form2 _).mono ?_
  rintro e w' ⟨rfl, rfl⟩
  dsimp only
  go_wp2_with fail
  go_ret3
  exact ⟨rfl, rfl⟩
theorem form3 (w : World) : Calls Tryd.prog 26 #[.int .i64 3] w fun e w' => e = .returned (.tuple #[.int .i64 4, .int .i64 0]) ∧ w = w' := by
  go_enter Tryd.func26, Tryd.ntmps26
  go_wp2_with fail
  go_ret2
  exact ⟨rfl, rfl⟩
theorem lims3 (w : World) : Calls Tryd.prog 30 #[.int .i64 3] w fun e w' => e = .returned (.tuple #[.int .i64 0, .int .i64 65535, .int .i64 0]) ∧ w = w' := by
  go_enter Tryd.func30, Tryd.ntmps30
  go_wp2_with fail
  refine (form3 _).mono ?_
  rintro e w' ⟨rfl, rfl⟩
  dsimp only
  go_wp2_with fail
  go_ret3
  exact ⟨rfl, rfl⟩
theorem form4 (w : World) : Calls Tryd.prog 26 #[.int .i64 4] w fun e w' => e = .returned (.tuple #[.int .i64 3, .int .i64 0]) ∧ w = w' := by
  go_enter Tryd.func26, Tryd.ntmps26
  go_wp2_with fail
  go_ret2
  exact ⟨rfl, rfl⟩
theorem form5 (w : World) : Calls Tryd.prog 26 #[.int .i64 5] w fun e w' => e = .returned (.tuple #[.int .i64 3, .int .i64 0]) ∧ w = w' := by
  go_enter Tryd.func26, Tryd.ntmps26
  go_wp2_with fail
  go_ret2
  exact ⟨rfl, rfl⟩
theorem form6 (w : World) : Calls Tryd.prog 26 #[.int .i64 6] w fun e w' => e = .returned (.tuple #[.int .i64 3, .int .i64 0]) ∧ w = w' := by
  go_enter Tryd.func26, Tryd.ntmps26
  go_wp2_with fail
  go_ret2
  exact ⟨rfl, rfl⟩
theorem form7 (w : World) : Calls Tryd.prog 26 #[.int .i64 7] w fun e w' => e = .returned (.tuple #[.int .i64 3, .int .i64 0]) ∧ w = w' := by
  go_enter Tryd.func26, Tryd.ntmps26
  go_wp2_with fail
  go_ret2
  exact ⟨rfl, rfl⟩
theorem form8 (w : World) : Calls Tryd.prog 26 #[.int .i64 8] w fun e w' => e = .returned (.tuple #[.int .i64 3, .int .i64 0]) ∧ w = w' := by
  go_enter Tryd.func26, Tryd.ntmps26
  go_wp2_with fail
  go_ret2
  exact ⟨rfl, rfl⟩
theorem form9 (w : World) : Calls Tryd.prog 26 #[.int .i64 9] w fun e w' => e = .returned (.tuple #[.int .i64 3, .int .i64 0]) ∧ w = w' := by
  go_enter Tryd.func26, Tryd.ntmps26
  go_wp2_with fail
  go_ret2
  exact ⟨rfl, rfl⟩
theorem form10 (w : World) : Calls Tryd.prog 26 #[.int .i64 10] w fun e w' => e = .returned (.tuple #[.int .i64 3, .int .i64 0]) ∧ w = w' := by
  go_enter Tryd.func26, Tryd.ntmps26
  go_wp2_with fail
  go_ret2
  exact ⟨rfl, rfl⟩
theorem form11 (w : World) : Calls Tryd.prog 26 #[.int .i64 11] w fun e w' => e = .returned (.tuple #[.int .i64 3, .int .i64 0]) ∧ w = w' := by
  go_enter Tryd.func26, Tryd.ntmps26
  go_wp2_with fail
  go_ret2
  exact ⟨rfl, rfl⟩
theorem form12 (w : World) : Calls Tryd.prog 26 #[.int .i64 12] w fun e w' => e = .returned (.tuple #[.int .i64 3, .int .i64 0]) ∧ w = w' := by
  go_enter Tryd.func26, Tryd.ntmps26
  go_wp2_with fail
  go_ret2
  exact ⟨rfl, rfl⟩
theorem form13 (w : World) : Calls Tryd.prog 26 #[.int .i64 13] w fun e w' => e = .returned (.tuple #[.int .i64 3, .int .i64 0]) ∧ w = w' := by
  go_enter Tryd.func26, Tryd.ntmps26
  go_wp2_with fail
  go_ret2
  exact ⟨rfl, rfl⟩
theorem form14 (w : World) : Calls Tryd.prog 26 #[.int .i64 14] w fun e w' => e = .returned (.tuple #[.int .i64 3, .int .i64 0]) ∧ w = w' := by
  go_enter Tryd.func26, Tryd.ntmps26
  go_wp2_with fail
  go_ret2
  exact ⟨rfl, rfl⟩
theorem form15 (w : World) : Calls Tryd.prog 26 #[.int .i64 15] w fun e w' => e = .returned (.tuple #[.int .i64 3, .int .i64 0]) ∧ w = w' := by
  go_enter Tryd.func26, Tryd.ntmps26
  go_wp2_with fail
  go_ret2
  exact ⟨rfl, rfl⟩
theorem form16 (w : World) : Calls Tryd.prog 26 #[.int .i64 16] w fun e w' => e = .returned (.tuple #[.int .i64 5, .int .i64 0]) ∧ w = w' := by
  go_enter Tryd.func26, Tryd.ntmps26
  go_wp2_with fail
  go_ret2
  exact ⟨rfl, rfl⟩
theorem lims16 (w : World) : Calls Tryd.prog 30 #[.int .i64 16] w fun e w' => e = .returned (.tuple #[.int .i64 (-32768), .int .i64 32767, .int .i64 0]) ∧ w = w' := by
  go_enter Tryd.func30, Tryd.ntmps30
  go_wp2_with fail
  refine (form16 _).mono ?_
  rintro e w' ⟨rfl, rfl⟩
  dsimp only
  go_wp2_with fail
  go_ret3
  exact ⟨rfl, rfl⟩
theorem form17 (w : World) : Calls Tryd.prog 26 #[.int .i64 17] w fun e w' => e = .returned (.tuple #[.int .i64 5, .int .i64 0]) ∧ w = w' := by
  go_enter Tryd.func26, Tryd.ntmps26
  go_wp2_with fail
  go_ret2
  exact ⟨rfl, rfl⟩
theorem lims17 (w : World) : Calls Tryd.prog 30 #[.int .i64 17] w fun e w' => e = .returned (.tuple #[.int .i64 (-32768), .int .i64 32767, .int .i64 0]) ∧ w = w' := by
  go_enter Tryd.func30, Tryd.ntmps30
  go_wp2_with fail
  refine (form17 _).mono ?_
  rintro e w' ⟨rfl, rfl⟩
  dsimp only
  go_wp2_with fail
  go_ret3
  exact ⟨rfl, rfl⟩
theorem form18 (w : World) : Calls Tryd.prog 26 #[.int .i64 18] w fun e w' => e = .returned (.tuple #[.int .i64 5, .int .i64 0]) ∧ w = w' := by
  go_enter Tryd.func26, Tryd.ntmps26
  go_wp2_with fail
  go_ret2
  exact ⟨rfl, rfl⟩
theorem lims18 (w : World) : Calls Tryd.prog 30 #[.int .i64 18] w fun e w' => e = .returned (.tuple #[.int .i64 (-32768), .int .i64 32767, .int .i64 0]) ∧ w = w' := by
  go_enter Tryd.func30, Tryd.ntmps30
  go_wp2_with fail
  refine (form18 _).mono ?_
  rintro e w' ⟨rfl, rfl⟩
  dsimp only
  go_wp2_with fail
  go_ret3
  exact ⟨rfl, rfl⟩
theorem form19 (w : World) : Calls Tryd.prog 26 #[.int .i64 19] w fun e w' => e = .returned (.tuple #[.int .i64 5, .int .i64 0]) ∧ w = w' := by
  go_enter Tryd.func26, Tryd.ntmps26
  go_wp2_with fail
  go_ret2
  exact ⟨rfl, rfl⟩
theorem lims19 (w : World) : Calls Tryd.prog 30 #[.int .i64 19] w fun e w' => e = .returned (.tuple #[.int .i64 (-32768), .int .i64 32767, .int .i64 0]) ∧ w = w' := by
  go_enter Tryd.func30, Tryd.ntmps30
  go_wp2_with fail
  refine (form19 _).mono ?_
  rintro e w' ⟨rfl, rfl⟩
  dsimp only
  go_wp2_with fail
  go_ret3
  exact ⟨rfl, rfl⟩
theorem form20 (w : World) : Calls Tryd.prog 26 #[.int .i64 20] w fun e w' => e = .returned (.tuple #[.int .i64 5, .int .i64 0]) ∧ w = w' := by
  go_enter Tryd.func26, Tryd.ntmps26
  go_wp2_with fail
  go_ret2
  exact ⟨rfl, rfl⟩
theorem lims20 (w : World) : Calls Tryd.prog 30 #[.int .i64 20] w fun e w' => e = .returned (.tuple #[.int .i64 (-32768), .int .i64 32767, .int .i64 0]) ∧ w = w' := by
  go_enter Tryd.func30, Tryd.ntmps30
  go_wp2_with fail
  refine (form20 _).mono ?_
  rintro e w' ⟨rfl, rfl⟩
  dsimp only
  go_wp2_with fail
  go_ret3
  exact ⟨rfl, rfl⟩
theorem form21 (w : World) : Calls Tryd.prog 26 #[.int .i64 21] w fun e w' => e = .returned (.tuple #[.int .i64 6, .int .i64 0]) ∧ w = w' := by
  go_enter Tryd.func26, Tryd.ntmps26
  go_wp2_with fail
  go_ret2
  exact ⟨rfl, rfl⟩
theorem lims21 (w : World) : Calls Tryd.prog 30 #[.int .i64 21] w fun e w' => e = .returned (.tuple #[.int .i64 0, .int .i64 4095, .int .i64 0]) ∧ w = w' := by
  go_enter Tryd.func30, Tryd.ntmps30
  go_wp2_with fail
  refine (form21 _).mono ?_
  rintro e w' ⟨rfl, rfl⟩
  dsimp only
  go_wp2_with fail
  go_ret3
  exact ⟨rfl, rfl⟩
theorem form22 (w : World) : Calls Tryd.prog 26 #[.int .i64 22] w fun e w' => e = .returned (.tuple #[.int .i64 4, .int .i64 0]) ∧ w = w' := by
  go_enter Tryd.func26, Tryd.ntmps26
  go_wp2_with fail
  go_ret2
  exact ⟨rfl, rfl⟩
theorem lims22 (w : World) : Calls Tryd.prog 30 #[.int .i64 22] w fun e w' => e = .returned (.tuple #[.int .i64 0, .int .i64 4095, .int .i64 0]) ∧ w = w' := by
  go_enter Tryd.func30, Tryd.ntmps30
  go_wp2_with fail
  refine (form22 _).mono ?_
  rintro e w' ⟨rfl, rfl⟩
  dsimp only
  go_wp2_with fail
  go_ret3
  exact ⟨rfl, rfl⟩
theorem form23 (w : World) : Calls Tryd.prog 26 #[.int .i64 23] w fun e w' => e = .returned (.tuple #[.int .i64 4, .int .i64 0]) ∧ w = w' := by
  go_enter Tryd.func26, Tryd.ntmps26
  go_wp2_with fail
  go_ret2
  exact ⟨rfl, rfl⟩
theorem lims23 (w : World) : Calls Tryd.prog 30 #[.int .i64 23] w fun e w' => e = .returned (.tuple #[.int .i64 0, .int .i64 4095, .int .i64 0]) ∧ w = w' := by
  go_enter Tryd.func30, Tryd.ntmps30
  go_wp2_with fail
  refine (form23 _).mono ?_
  rintro e w' ⟨rfl, rfl⟩
  dsimp only
  go_wp2_with fail
  go_ret3
  exact ⟨rfl, rfl⟩
theorem form24 (w : World) : Calls Tryd.prog 26 #[.int .i64 24] w fun e w' => e = .returned (.tuple #[.int .i64 4, .int .i64 0]) ∧ w = w' := by
  go_enter Tryd.func26, Tryd.ntmps26
  go_wp2_with fail
  go_ret2
  exact ⟨rfl, rfl⟩
theorem lims24 (w : World) : Calls Tryd.prog 30 #[.int .i64 24] w fun e w' => e = .returned (.tuple #[.int .i64 0, .int .i64 4095, .int .i64 0]) ∧ w = w' := by
  go_enter Tryd.func30, Tryd.ntmps30
  go_wp2_with fail
  refine (form24 _).mono ?_
  rintro e w' ⟨rfl, rfl⟩
  dsimp only
  go_wp2_with fail
  go_ret3
  exact ⟨rfl, rfl⟩
theorem form25 (w : World) : Calls Tryd.prog 26 #[.int .i64 25] w fun e w' => e = .returned (.tuple #[.int .i64 1, .int .i64 0]) ∧ w = w' := by
  go_enter Tryd.func26, Tryd.ntmps26
  go_wp2_with fail
  go_ret2
  exact ⟨rfl, rfl⟩
theorem form26 (w : World) : Calls Tryd.prog 26 #[.int .i64 26] w fun e w' => e = .returned (.tuple #[.int .i64 6, .int .i64 0]) ∧ w = w' := by
  go_enter Tryd.func26, Tryd.ntmps26
  go_wp2_with fail
  go_ret2
  exact ⟨rfl, rfl⟩
theorem lims26 (w : World) : Calls Tryd.prog 30 #[.int .i64 26] w fun e w' => e = .returned (.tuple #[.int .i64 0, .int .i64 255, .int .i64 0]) ∧ w = w' := by
  go_enter Tryd.func30, Tryd.ntmps30
  go_wp2_with fail
  refine (form26 _).mono ?_
  rintro e w' ⟨rfl, rfl⟩
  dsimp only
  go_wp2_with fail
  go_ret3
  exact ⟨rfl, rfl⟩
theorem form_any (w : World) (op : Nat) (h : op < 27) : Calls Tryd.prog 26 #[.int .i64 op] w fun e w' => e = .returned (.tuple #[.int .i64 (opT op).1, .int .i64 0]) ∧ w = w' := by
  have h3 : op = 0 ∨ op = 1 ∨ op = 2 ∨ op = 3 ∨ op = 4 ∨ op = 5 ∨ op = 6 ∨ op = 7 ∨ op = 8 ∨ op = 9 ∨ op = 10 ∨ op = 11 ∨ op = 12 ∨ op = 13 ∨ op = 14 ∨ op = 15 ∨ op = 16 ∨ op = 17 ∨ op = 18 ∨ op = 19 ∨ op = 20 ∨ op = 21 ∨ op = 22 ∨ op = 23 ∨ op = 24 ∨ op = 25 ∨ op = 26 := by omega
  rcases h3 with rfl | rfl | rfl | rfl | rfl | rfl | rfl | rfl | rfl | rfl | rfl | rfl | rfl | rfl | rfl | rfl | rfl | rfl | rfl | rfl | rfl | rfl | rfl | rfl | rfl | rfl | rfl
  · exact form0 w
  · exact form1 w
  · exact form2 w
  · exact form3 w
  · exact form4 w
  · exact form5 w
  · exact form6 w
  · exact form7 w
  · exact form8 w
  · exact form9 w
  · exact form10 w
  · exact form11 w
  · exact form12 w
  · exact form13 w
  · exact form14 w
  · exact form15 w
  · exact form16 w
  · exact form17 w
  · exact form18 w
  · exact form19 w
  · exact form20 w
  · exact form21 w
  · exact form22 w
  · exact form23 w
  · exact form24 w
  · exact form25 w
  · exact form26 w
theorem lims_any (w : World) (op : Nat) (h : op < 27) (h4 : 4 ≤ (opT op).1) : Calls Tryd.prog 30 #[.int .i64 op] w fun e w' => e = .returned (.tuple #[.int .i64 (opT op).2.1, .int .i64 (opT op).2.2, .int .i64 0]) ∧ w = w' := by
  have h3 : op = 0 ∨ op = 1 ∨ op = 2 ∨ op = 3 ∨ op = 4 ∨ op = 5 ∨ op = 6 ∨ op = 7 ∨ op = 8 ∨ op = 9 ∨ op = 10 ∨ op = 11 ∨ op = 12 ∨ op = 13 ∨ op = 14 ∨ op = 15 ∨ op = 16 ∨ op = 17 ∨ op = 18 ∨ op = 19 ∨ op = 20 ∨ op = 21 ∨ op = 22 ∨ op = 23 ∨ op = 24 ∨ op = 25 ∨ op = 26 := by omega
  rcases h3 with rfl | rfl | rfl | rfl | rfl | rfl | rfl | rfl | rfl | rfl | rfl | rfl | rfl | rfl | rfl | rfl | rfl | rfl | rfl | rfl | rfl | rfl | rfl | rfl | rfl | rfl | rfl
  · exact absurd h4 (by decide)
  · exact absurd h4 (by decide)
  · exact lims2 w
  · exact lims3 w
  · exact absurd h4 (by decide)
  · exact absurd h4 (by decide)
  · exact absurd h4 (by decide)
  · exact absurd h4 (by decide)
  · exact absurd h4 (by decide)
  · exact absurd h4 (by decide)
  · exact absurd h4 (by decide)
  · exact absurd h4 (by decide)
  · exact absurd h4 (by decide)
  · exact absurd h4 (by decide)
  · exact absurd h4 (by decide)
  · exact absurd h4 (by decide)
  · exact lims16 w
  · exact lims17 w
  · exact lims18 w
  · exact lims19 w
  · exact lims20 w
  · exact lims21 w
  · exact lims22 w
  · exact lims23 w
  · exact lims24 w
  · exact absurd h4 (by decide)
  · exact lims26 w
theorem form_bad (w : World) (op : Int) (h : op < 0 ∨ 27 ≤ op) : Calls Tryd.prog 26 #[.int .i64 op] w fun e w' => e = .returned (.tuple #[.int .i64 0, .int .i64 11]) ∧ w = w' := by
  by_cases h0 : op < 0
  · have e0 : decide (op < 0) = true := decide_eq_true h0
    clear h h0
    go_enter Tryd.func26, Tryd.ntmps26
    go_wp2_with fail
    go_ret2
    exact ⟨rfl, rfl⟩
  · have e0 : decide (op < 0) = false := decide_eq_false h0
    have e1 : decide (26 < op) = true := decide_eq_true (by omega)
    clear h h0
    go_enter Tryd.func26, Tryd.ntmps26
    go_wp2_with fail
    go_ret2
    exact ⟨rfl, rfl⟩
theorem hasA0 (w : World) : Calls Tryd.prog 27 #[.int .i64 0] w fun e w' => e = .returned (.bool false) ∧ w = w' := by
  go_enter Tryd.func27, Tryd.ntmps27
  go_wp2_with fail
  go_ret
  exact ⟨rfl, rfl⟩
theorem hasB0 (w : World) : Calls Tryd.prog 28 #[.int .i64 0] w fun e w' => e = .returned (.bool false) ∧ w = w' := by
  go_enter Tryd.func28, Tryd.ntmps28
  go_wp2_with fail
  go_ret
  exact ⟨rfl, rfl⟩
theorem hasC0 (w : World) : Calls Tryd.prog 29 #[.int .i64 0] w fun e w' => e = .returned (.bool false) ∧ w = w' := by
  go_enter Tryd.func29, Tryd.ntmps29
  go_wp2_with fail
  go_ret
  exact ⟨rfl, rfl⟩
theorem hasA1 (w : World) : Calls Tryd.prog 27 #[.int .i64 1] w fun e w' => e = .returned (.bool true) ∧ w = w' := by
  go_enter Tryd.func27, Tryd.ntmps27
  go_wp2_with fail
  go_ret
  exact ⟨rfl, rfl⟩
theorem hasB1 (w : World) : Calls Tryd.prog 28 #[.int .i64 1] w fun e w' => e = .returned (.bool false) ∧ w = w' := by
  go_enter Tryd.func28, Tryd.ntmps28
  go_wp2_with fail
  go_ret
  exact ⟨rfl, rfl⟩
theorem hasC1 (w : World) : Calls Tryd.prog 29 #[.int .i64 1] w fun e w' => e = .returned (.bool false) ∧ w = w' := by
  go_enter Tryd.func29, Tryd.ntmps29
  go_wp2_with fail
  go_ret
  exact ⟨rfl, rfl⟩
theorem hasA2 (w : World) : Calls Tryd.prog 27 #[.int .i64 2] w fun e w' => e = .returned (.bool true) ∧ w = w' := by
  go_enter Tryd.func27, Tryd.ntmps27
  go_wp2_with fail
  go_ret
  exact ⟨rfl, rfl⟩
theorem hasB2 (w : World) : Calls Tryd.prog 28 #[.int .i64 2] w fun e w' => e = .returned (.bool true) ∧ w = w' := by
  go_enter Tryd.func28, Tryd.ntmps28
  go_wp2_with fail
  go_ret
  exact ⟨rfl, rfl⟩
theorem hasC2 (w : World) : Calls Tryd.prog 29 #[.int .i64 2] w fun e w' => e = .returned (.bool false) ∧ w = w' := by
  go_enter Tryd.func29, Tryd.ntmps29
  go_wp2_with fail
  go_ret
  exact ⟨rfl, rfl⟩
theorem hasA3 (w : World) : Calls Tryd.prog 27 #[.int .i64 3] w fun e w' => e = .returned (.bool true) ∧ w = w' := by
  go_enter Tryd.func27, Tryd.ntmps27
  go_wp2_with fail
  go_ret
  exact ⟨rfl, rfl⟩
theorem hasB3 (w : World) : Calls Tryd.prog 28 #[.int .i64 3] w fun e w' => e = .returned (.bool true) ∧ w = w' := by
  go_enter Tryd.func28, Tryd.ntmps28
  go_wp2_with fail
  go_ret
  exact ⟨rfl, rfl⟩
theorem hasC3 (w : World) : Calls Tryd.prog 29 #[.int .i64 3] w fun e w' => e = .returned (.bool true) ∧ w = w' := by
  go_enter Tryd.func29, Tryd.ntmps29
  go_wp2_with fail
  go_ret
  exact ⟨rfl, rfl⟩
theorem hasA4 (w : World) : Calls Tryd.prog 27 #[.int .i64 4] w fun e w' => e = .returned (.bool true) ∧ w = w' := by
  go_enter Tryd.func27, Tryd.ntmps27
  go_wp2_with fail
  go_ret
  exact ⟨rfl, rfl⟩
theorem hasB4 (w : World) : Calls Tryd.prog 28 #[.int .i64 4] w fun e w' => e = .returned (.bool false) ∧ w = w' := by
  go_enter Tryd.func28, Tryd.ntmps28
  go_wp2_with fail
  go_ret
  exact ⟨rfl, rfl⟩
theorem hasC4 (w : World) : Calls Tryd.prog 29 #[.int .i64 4] w fun e w' => e = .returned (.bool true) ∧ w = w' := by
  go_enter Tryd.func29, Tryd.ntmps29
  go_wp2_with fail
  go_ret
  exact ⟨rfl, rfl⟩
theorem hasA5 (w : World) : Calls Tryd.prog 27 #[.int .i64 5] w fun e w' => e = .returned (.bool true) ∧ w = w' := by
  go_enter Tryd.func27, Tryd.ntmps27
  go_wp2_with fail
  go_ret
  exact ⟨rfl, rfl⟩
theorem hasB5 (w : World) : Calls Tryd.prog 28 #[.int .i64 5] w fun e w' => e = .returned (.bool true) ∧ w = w' := by
  go_enter Tryd.func28, Tryd.ntmps28
  go_wp2_with fail
  go_ret
  exact ⟨rfl, rfl⟩
theorem hasC5 (w : World) : Calls Tryd.prog 29 #[.int .i64 5] w fun e w' => e = .returned (.bool true) ∧ w = w' := by
  go_enter Tryd.func29, Tryd.ntmps29
  go_wp2_with fail
  go_ret
  exact ⟨rfl, rfl⟩
theorem hasA6 (w : World) : Calls Tryd.prog 27 #[.int .i64 6] w fun e w' => e = .returned (.bool false) ∧ w = w' := by
  go_enter Tryd.func27, Tryd.ntmps27
  go_wp2_with fail
  go_ret
  exact ⟨rfl, rfl⟩
theorem hasB6 (w : World) : Calls Tryd.prog 28 #[.int .i64 6] w fun e w' => e = .returned (.bool false) ∧ w = w' := by
  go_enter Tryd.func28, Tryd.ntmps28
  go_wp2_with fail
  go_ret
  exact ⟨rfl, rfl⟩
theorem hasC6 (w : World) : Calls Tryd.prog 29 #[.int .i64 6] w fun e w' => e = .returned (.bool true) ∧ w = w' := by
  go_enter Tryd.func29, Tryd.ntmps29
  go_wp2_with fail
  go_ret
  exact ⟨rfl, rfl⟩

set_option maxRecDepth 100000 in
set_option maxHeartbeats 4000000 in
theorem refCheck0 (w : World) (op : Int) (a b c lo hi : Int) (hF : ∀ w, Calls Tryd.prog 26 #[.int .i64 op] w fun e w' => e = .returned (.tuple #[.int .i64 0, .int .i64 0]) ∧ w = w')
     :
    Calls Tryd.prog 9 #[insV op a b c] w fun e w' => e = .returned (.int .i64 (chkF 0 lo hi a b c)) ∧ Below w.heap.size w w' := by
  unfold insV
  by_cases ha : a = 0
  · by_cases hb : b = 0
    · by_cases hc : c = 0
      · by_cases ha0 : a < 0
        · have hRa : isR a = false := by unfold isR; exact decide_eq_false (by omega)
          have HL : Hid (chkF 0 lo hi a b c = 2) := Lib.hid (by simp only [chkF, hRa]; simp [fA, fB, fN, ha, hb, hc])
          have ea : (a != 0) = false := by simpa using ha
          have eb : (b != 0) = false := by simpa using hb
          have ec : (c != 0) = false := by simpa using hc
          have ea0 : decide (a < 0) = true := by simpa using ha0
          clear ha hb hc ha0 hRa
          go_enter Tryd.func9, Tryd.ntmps9
          go_wp2_with fail
          refine (hF _).mono ?_
          rintro e w' ⟨rfl, rfl⟩
          dsimp only
          go_wp2_with fail
          refine (hasA0 _).mono ?_
          rintro e w' ⟨rfl, rfl⟩
          dsimp only
          go_wp2_with fail
          refine (hasB0 _).mono ?_
          rintro e w' ⟨rfl, rfl⟩
          dsimp only
          go_wp2_with fail
          refine (hasC0 _).mono ?_
          rintro e w' ⟨rfl, rfl⟩
          dsimp only
          go_wp2_with fail
          go_ret
          exact ⟨by rw [HL.out]; rfl, (Below.refl _ _).alloc (Nat.le_refl _) _⟩
        · by_cases ha7 : 7 < a
          · have hRa : isR a = false := by unfold isR; exact decide_eq_false (by omega)
            have HL : Hid (chkF 0 lo hi a b c = 2) := Lib.hid (by simp only [chkF, hRa]; simp [fA, fB, fN, ha, hb, hc])
            have ea : (a != 0) = false := by simpa using ha
            have eb : (b != 0) = false := by simpa using hb
            have ec : (c != 0) = false := by simpa using hc
            have ea0 : decide (a < 0) = false := by simpa using ha0
            have ea7 : decide (7 < a) = true := by simpa using ha7
            clear ha hb hc ha0 ha7 hRa
            go_enter Tryd.func9, Tryd.ntmps9
            go_wp2_with fail
            refine (hF _).mono ?_
            rintro e w' ⟨rfl, rfl⟩
            dsimp only
            go_wp2_with fail
            refine (hasA0 _).mono ?_
            rintro e w' ⟨rfl, rfl⟩
            dsimp only
            go_wp2_with fail
            refine (hasB0 _).mono ?_
            rintro e w' ⟨rfl, rfl⟩
            dsimp only
            go_wp2_with fail
            refine (hasC0 _).mono ?_
            rintro e w' ⟨rfl, rfl⟩
            dsimp only
            go_wp2_with fail
            go_ret
            exact ⟨by rw [HL.out]; rfl, (Below.refl _ _).alloc (Nat.le_refl _) _⟩
          · by_cases hb0 : b < 0
            · have hRa : isR a = true := by unfold isR; exact decide_eq_true (by omega)
              have hRb : isR b = false := by unfold isR; exact decide_eq_false (by omega)
              have HL : Hid (chkF 0 lo hi a b c = 2) := Lib.hid (by simp only [chkF, hRa, hRb]; simp [fA, fB, fN, ha, hb, hc])
              have ea : (a != 0) = false := by simpa using ha
              have eb : (b != 0) = false := by simpa using hb
              have ec : (c != 0) = false := by simpa using hc
              have ea0 : decide (a < 0) = false := by simpa using ha0
              have ea7 : decide (7 < a) = false := by simpa using ha7
              have eb0 : decide (b < 0) = true := by simpa using hb0
              clear ha hb hc ha0 ha7 hb0 hRa hRb
              go_enter Tryd.func9, Tryd.ntmps9
              go_wp2_with fail
              refine (hF _).mono ?_
              rintro e w' ⟨rfl, rfl⟩
              dsimp only
              go_wp2_with fail
              refine (hasA0 _).mono ?_
              rintro e w' ⟨rfl, rfl⟩
              dsimp only
              go_wp2_with fail
              refine (hasB0 _).mono ?_
              rintro e w' ⟨rfl, rfl⟩
              dsimp only
              go_wp2_with fail
              refine (hasC0 _).mono ?_
              rintro e w' ⟨rfl, rfl⟩
              dsimp only
              go_wp2_with fail
              go_ret
              exact ⟨by rw [HL.out]; rfl, (Below.refl _ _).alloc (Nat.le_refl _) _⟩
            · by_cases hb7 : 7 < b
              · have hRa : isR a = true := by unfold isR; exact decide_eq_true (by omega)
                have hRb : isR b = false := by unfold isR; exact decide_eq_false (by omega)
                have HL : Hid (chkF 0 lo hi a b c = 2) := Lib.hid (by simp only [chkF, hRa, hRb]; simp [fA, fB, fN, ha, hb, hc])
                have ea : (a != 0) = false := by simpa using ha
                have eb : (b != 0) = false := by simpa using hb
                have ec : (c != 0) = false := by simpa using hc
                have ea0 : decide (a < 0) = false := by simpa using ha0
                have ea7 : decide (7 < a) = false := by simpa using ha7
                have eb0 : decide (b < 0) = false := by simpa using hb0
                have eb7 : decide (7 < b) = true := by simpa using hb7
                clear ha hb hc ha0 ha7 hb0 hb7 hRa hRb
                go_enter Tryd.func9, Tryd.ntmps9
                go_wp2_with fail
                refine (hF _).mono ?_
                rintro e w' ⟨rfl, rfl⟩
                dsimp only
                go_wp2_with fail
                refine (hasA0 _).mono ?_
                rintro e w' ⟨rfl, rfl⟩
                dsimp only
                go_wp2_with fail
                refine (hasB0 _).mono ?_
                rintro e w' ⟨rfl, rfl⟩
                dsimp only
                go_wp2_with fail
                refine (hasC0 _).mono ?_
                rintro e w' ⟨rfl, rfl⟩
                dsimp only
                go_wp2_with fail
                go_ret
                exact ⟨by rw [HL.out]; rfl, (Below.refl _ _).alloc (Nat.le_refl _) _⟩
              · have hRa : isR a = true := by unfold isR; exact decide_eq_true (by omega)
                have hRb : isR b = true := by unfold isR; exact decide_eq_true (by omega)
                have HL : Hid (chkF 0 lo hi a b c = 0) := Lib.hid (by simp only [chkF, hRa, hRb]; simp [fA, fB, fN, ha, hb, hc])
                have ea : (a != 0) = false := by simpa using ha
                have eb : (b != 0) = false := by simpa using hb
                have ec : (c != 0) = false := by simpa using hc
                have ea0 : decide (a < 0) = false := by simpa using ha0
                have ea7 : decide (7 < a) = false := by simpa using ha7
                have eb0 : decide (b < 0) = false := by simpa using hb0
                have eb7 : decide (7 < b) = false := by simpa using hb7
                clear ha hb hc ha0 ha7 hb0 hb7 hRa hRb
                go_enter Tryd.func9, Tryd.ntmps9
                go_wp2_with fail
                refine (hF _).mono ?_
                rintro e w' ⟨rfl, rfl⟩
                dsimp only
                go_wp2_with fail
                refine (hasA0 _).mono ?_
                rintro e w' ⟨rfl, rfl⟩
                dsimp only
                go_wp2_with fail
                refine (hasB0 _).mono ?_
                rintro e w' ⟨rfl, rfl⟩
                dsimp only
                go_wp2_with fail
                refine (hasC0 _).mono ?_
                rintro e w' ⟨rfl, rfl⟩
                dsimp only
                go_wp2_with fail
                refine (hasC0 _).mono ?_
                rintro e w' ⟨rfl, rfl⟩
                dsimp only
                go_wp2_with fail
                go_ret
                exact ⟨by rw [HL.out]; rfl, (Below.refl _ _).alloc (Nat.le_refl _) _⟩
      · have HL : Hid (chkF 0 lo hi a b c = 1) := Lib.hid (by simp only [chkF]; simp [fA, fB, fN, ha, hb, hc])
        have ea : (a != 0) = false := by simpa using ha
        have eb : (b != 0) = false := by simpa using hb
        have ec : (c != 0) = true := by simpa using hc
        clear ha hb hc
        go_enter Tryd.func9, Tryd.ntmps9
        go_wp2_with fail
        refine (hF _).mono ?_
        rintro e w' ⟨rfl, rfl⟩
        dsimp only
        go_wp2_with fail
        refine (hasA0 _).mono ?_
        rintro e w' ⟨rfl, rfl⟩
        dsimp only
        go_wp2_with fail
        refine (hasB0 _).mono ?_
        rintro e w' ⟨rfl, rfl⟩
        dsimp only
        go_wp2_with fail
        refine (hasC0 _).mono ?_
        rintro e w' ⟨rfl, rfl⟩
        dsimp only
        go_wp2_with fail
        go_ret
        exact ⟨by rw [HL.out]; rfl, (Below.refl _ _).alloc (Nat.le_refl _) _⟩
    · have HL : Hid (chkF 0 lo hi a b c = 1) := Lib.hid (by simp only [chkF]; simp [fA, fB, fN, ha, hb])
      have ea : (a != 0) = false := by simpa using ha
      have eb : (b != 0) = true := by simpa using hb
      clear ha hb
      go_enter Tryd.func9, Tryd.ntmps9
      go_wp2_with fail
      refine (hF _).mono ?_
      rintro e w' ⟨rfl, rfl⟩
      dsimp only
      go_wp2_with fail
      refine (hasA0 _).mono ?_
      rintro e w' ⟨rfl, rfl⟩
      dsimp only
      go_wp2_with fail
      refine (hasB0 _).mono ?_
      rintro e w' ⟨rfl, rfl⟩
      dsimp only
      go_wp2_with fail
      go_ret
      exact ⟨by rw [HL.out]; rfl, (Below.refl _ _).alloc (Nat.le_refl _) _⟩
  · have HL : Hid (chkF 0 lo hi a b c = 1) := Lib.hid (by simp only [chkF]; simp [fA, fB, fN, ha])
    have ea : (a != 0) = true := by simpa using ha
    clear ha
    go_enter Tryd.func9, Tryd.ntmps9
    go_wp2_with fail
    refine (hF _).mono ?_
    rintro e w' ⟨rfl, rfl⟩
    dsimp only
    go_wp2_with fail
    refine (hasA0 _).mono ?_
    rintro e w' ⟨rfl, rfl⟩
    dsimp only
    go_wp2_with fail
    go_ret
    exact ⟨by rw [HL.out]; rfl, (Below.refl _ _).alloc (Nat.le_refl _) _⟩

set_option maxRecDepth 100000 in
set_option maxHeartbeats 4000000 in
theorem refCheck1 (w : World) (op : Int) (a b c lo hi : Int) (hF : ∀ w, Calls Tryd.prog 26 #[.int .i64 op] w fun e w' => e = .returned (.tuple #[.int .i64 1, .int .i64 0]) ∧ w = w')
     :
    Calls Tryd.prog 9 #[insV op a b c] w fun e w' => e = .returned (.int .i64 (chkF 1 lo hi a b c)) ∧ Below w.heap.size w w' := by
  unfold insV
  by_cases hb : b = 0
  · by_cases hc : c = 0
    · by_cases ha0 : a < 0
      · have hRa : isR a = false := by unfold isR; exact decide_eq_false (by omega)
        have HL : Hid (chkF 1 lo hi a b c = 2) := Lib.hid (by simp only [chkF, hRa]; simp [fA, fB, fN, hb, hc])
        have eb : (b != 0) = false := by simpa using hb
        have ec : (c != 0) = false := by simpa using hc
        have ea0 : decide (a < 0) = true := by simpa using ha0
        clear hb hc ha0 hRa
        go_enter Tryd.func9, Tryd.ntmps9
        go_wp2_with fail
        refine (hF _).mono ?_
        rintro e w' ⟨rfl, rfl⟩
        dsimp only
        go_wp2_with fail
        refine (hasA1 _).mono ?_
        rintro e w' ⟨rfl, rfl⟩
        dsimp only
        go_wp2_with fail
        refine (hasB1 _).mono ?_
        rintro e w' ⟨rfl, rfl⟩
        dsimp only
        go_wp2_with fail
        refine (hasC1 _).mono ?_
        rintro e w' ⟨rfl, rfl⟩
        dsimp only
        go_wp2_with fail
        go_ret
        exact ⟨by rw [HL.out]; rfl, (Below.refl _ _).alloc (Nat.le_refl _) _⟩
      · by_cases ha7 : 7 < a
        · have hRa : isR a = false := by unfold isR; exact decide_eq_false (by omega)
          have HL : Hid (chkF 1 lo hi a b c = 2) := Lib.hid (by simp only [chkF, hRa]; simp [fA, fB, fN, hb, hc])
          have eb : (b != 0) = false := by simpa using hb
          have ec : (c != 0) = false := by simpa using hc
          have ea0 : decide (a < 0) = false := by simpa using ha0
          have ea7 : decide (7 < a) = true := by simpa using ha7
          clear hb hc ha0 ha7 hRa
          go_enter Tryd.func9, Tryd.ntmps9
          go_wp2_with fail
          refine (hF _).mono ?_
          rintro e w' ⟨rfl, rfl⟩
          dsimp only
          go_wp2_with fail
          refine (hasA1 _).mono ?_
          rintro e w' ⟨rfl, rfl⟩
          dsimp only
          go_wp2_with fail
          refine (hasB1 _).mono ?_
          rintro e w' ⟨rfl, rfl⟩
          dsimp only
          go_wp2_with fail
          refine (hasC1 _).mono ?_
          rintro e w' ⟨rfl, rfl⟩
          dsimp only
          go_wp2_with fail
          go_ret
          exact ⟨by rw [HL.out]; rfl, (Below.refl _ _).alloc (Nat.le_refl _) _⟩
        · by_cases hb0 : b < 0
          · have hRa : isR a = true := by unfold isR; exact decide_eq_true (by omega)
            have hRb : isR b = false := by unfold isR; exact decide_eq_false (by omega)
            have HL : Hid (chkF 1 lo hi a b c = 2) := Lib.hid (by simp only [chkF, hRa, hRb]; simp [fA, fB, fN, hb, hc])
            have eb : (b != 0) = false := by simpa using hb
            have ec : (c != 0) = false := by simpa using hc
            have ea0 : decide (a < 0) = false := by simpa using ha0
            have ea7 : decide (7 < a) = false := by simpa using ha7
            have eb0 : decide (b < 0) = true := by simpa using hb0
            clear hb hc ha0 ha7 hb0 hRa hRb
            go_enter Tryd.func9, Tryd.ntmps9
            go_wp2_with fail
            refine (hF _).mono ?_
            rintro e w' ⟨rfl, rfl⟩
            dsimp only
            go_wp2_with fail
            refine (hasA1 _).mono ?_
            rintro e w' ⟨rfl, rfl⟩
            dsimp only
            go_wp2_with fail
            refine (hasB1 _).mono ?_
            rintro e w' ⟨rfl, rfl⟩
            dsimp only
            go_wp2_with fail
            refine (hasC1 _).mono ?_
            rintro e w' ⟨rfl, rfl⟩
            dsimp only
            go_wp2_with fail
            go_ret
            exact ⟨by rw [HL.out]; rfl, (Below.refl _ _).alloc (Nat.le_refl _) _⟩
          · by_cases hb7 : 7 < b
            · have hRa : isR a = true := by unfold isR; exact decide_eq_true (by omega)
              have hRb : isR b = false := by unfold isR; exact decide_eq_false (by omega)
              have HL : Hid (chkF 1 lo hi a b c = 2) := Lib.hid (by simp only [chkF, hRa, hRb]; simp [fA, fB, fN, hb, hc])
              have eb : (b != 0) = false := by simpa using hb
              have ec : (c != 0) = false := by simpa using hc
              have ea0 : decide (a < 0) = false := by simpa using ha0
              have ea7 : decide (7 < a) = false := by simpa using ha7
              have eb0 : decide (b < 0) = false := by simpa using hb0
              have eb7 : decide (7 < b) = true := by simpa using hb7
              clear hb hc ha0 ha7 hb0 hb7 hRa hRb
              go_enter Tryd.func9, Tryd.ntmps9
              go_wp2_with fail
              refine (hF _).mono ?_
              rintro e w' ⟨rfl, rfl⟩
              dsimp only
              go_wp2_with fail
              refine (hasA1 _).mono ?_
              rintro e w' ⟨rfl, rfl⟩
              dsimp only
              go_wp2_with fail
              refine (hasB1 _).mono ?_
              rintro e w' ⟨rfl, rfl⟩
              dsimp only
              go_wp2_with fail
              refine (hasC1 _).mono ?_
              rintro e w' ⟨rfl, rfl⟩
              dsimp only
              go_wp2_with fail
              go_ret
              exact ⟨by rw [HL.out]; rfl, (Below.refl _ _).alloc (Nat.le_refl _) _⟩
            · have hRa : isR a = true := by unfold isR; exact decide_eq_true (by omega)
              have hRb : isR b = true := by unfold isR; exact decide_eq_true (by omega)
              have HL : Hid (chkF 1 lo hi a b c = 0) := Lib.hid (by simp only [chkF, hRa, hRb]; simp [fA, fB, fN, hb, hc])
              have eb : (b != 0) = false := by simpa using hb
              have ec : (c != 0) = false := by simpa using hc
              have ea0 : decide (a < 0) = false := by simpa using ha0
              have ea7 : decide (7 < a) = false := by simpa using ha7
              have eb0 : decide (b < 0) = false := by simpa using hb0
              have eb7 : decide (7 < b) = false := by simpa using hb7
              clear hb hc ha0 ha7 hb0 hb7 hRa hRb
              go_enter Tryd.func9, Tryd.ntmps9
              go_wp2_with fail
              refine (hF _).mono ?_
              rintro e w' ⟨rfl, rfl⟩
              dsimp only
              go_wp2_with fail
              refine (hasA1 _).mono ?_
              rintro e w' ⟨rfl, rfl⟩
              dsimp only
              go_wp2_with fail
              refine (hasB1 _).mono ?_
              rintro e w' ⟨rfl, rfl⟩
              dsimp only
              go_wp2_with fail
              refine (hasC1 _).mono ?_
              rintro e w' ⟨rfl, rfl⟩
              dsimp only
              go_wp2_with fail
              refine (hasC1 _).mono ?_
              rintro e w' ⟨rfl, rfl⟩
              dsimp only
              go_wp2_with fail
              go_ret
              exact ⟨by rw [HL.out]; rfl, (Below.refl _ _).alloc (Nat.le_refl _) _⟩
    · have HL : Hid (chkF 1 lo hi a b c = 1) := Lib.hid (by simp only [chkF]; simp [fA, fB, fN, hb, hc])
      have eb : (b != 0) = false := by simpa using hb
      have ec : (c != 0) = true := by simpa using hc
      clear hb hc
      go_enter Tryd.func9, Tryd.ntmps9
      go_wp2_with fail
      refine (hF _).mono ?_
      rintro e w' ⟨rfl, rfl⟩
      dsimp only
      go_wp2_with fail
      refine (hasA1 _).mono ?_
      rintro e w' ⟨rfl, rfl⟩
      dsimp only
      go_wp2_with fail
      refine (hasB1 _).mono ?_
      rintro e w' ⟨rfl, rfl⟩
      dsimp only
      go_wp2_with fail
      refine (hasC1 _).mono ?_
      rintro e w' ⟨rfl, rfl⟩
      dsimp only
      go_wp2_with fail
      go_ret
      exact ⟨by rw [HL.out]; rfl, (Below.refl _ _).alloc (Nat.le_refl _) _⟩
  · have HL : Hid (chkF 1 lo hi a b c = 1) := Lib.hid (by simp only [chkF]; simp [fA, fB, fN, hb])
    have eb : (b != 0) = true := by simpa using hb
    clear hb
    go_enter Tryd.func9, Tryd.ntmps9
    go_wp2_with fail
    refine (hF _).mono ?_
    rintro e w' ⟨rfl, rfl⟩
    dsimp only
    go_wp2_with fail
    refine (hasA1 _).mono ?_
    rintro e w' ⟨rfl, rfl⟩
    dsimp only
    go_wp2_with fail
    refine (hasB1 _).mono ?_
    rintro e w' ⟨rfl, rfl⟩
    dsimp only
    go_wp2_with fail
    go_ret
    exact ⟨by rw [HL.out]; rfl, (Below.refl _ _).alloc (Nat.le_refl _) _⟩

set_option maxRecDepth 100000 in
set_option maxHeartbeats 4000000 in
theorem refCheck2 (w : World) (op : Int) (a b c lo hi : Int) (hF : ∀ w, Calls Tryd.prog 26 #[.int .i64 op] w fun e w' => e = .returned (.tuple #[.int .i64 2, .int .i64 0]) ∧ w = w')
     :
    Calls Tryd.prog 9 #[insV op a b c] w fun e w' => e = .returned (.int .i64 (chkF 2 lo hi a b c)) ∧ Below w.heap.size w w' := by
  unfold insV
  by_cases hc : c = 0
  · by_cases ha0 : a < 0
    · have hRa : isR a = false := by unfold isR; exact decide_eq_false (by omega)
      have HL : Hid (chkF 2 lo hi a b c = 2) := Lib.hid (by simp only [chkF, hRa]; simp [fA, fB, fN, hc])
      have ec : (c != 0) = false := by simpa using hc
      have ea0 : decide (a < 0) = true := by simpa using ha0
      clear hc ha0 hRa
      go_enter Tryd.func9, Tryd.ntmps9
      go_wp2_with fail
      refine (hF _).mono ?_
      rintro e w' ⟨rfl, rfl⟩
      dsimp only
      go_wp2_with fail
      refine (hasA2 _).mono ?_
      rintro e w' ⟨rfl, rfl⟩
      dsimp only
      go_wp2_with fail
      refine (hasB2 _).mono ?_
      rintro e w' ⟨rfl, rfl⟩
      dsimp only
      go_wp2_with fail
      refine (hasC2 _).mono ?_
      rintro e w' ⟨rfl, rfl⟩
      dsimp only
      go_wp2_with fail
      go_ret
      exact ⟨by rw [HL.out]; rfl, (Below.refl _ _).alloc (Nat.le_refl _) _⟩
    · by_cases ha7 : 7 < a
      · have hRa : isR a = false := by unfold isR; exact decide_eq_false (by omega)
        have HL : Hid (chkF 2 lo hi a b c = 2) := Lib.hid (by simp only [chkF, hRa]; simp [fA, fB, fN, hc])
        have ec : (c != 0) = false := by simpa using hc
        have ea0 : decide (a < 0) = false := by simpa using ha0
        have ea7 : decide (7 < a) = true := by simpa using ha7
        clear hc ha0 ha7 hRa
        go_enter Tryd.func9, Tryd.ntmps9
        go_wp2_with fail
        refine (hF _).mono ?_
        rintro e w' ⟨rfl, rfl⟩
        dsimp only
        go_wp2_with fail
        refine (hasA2 _).mono ?_
        rintro e w' ⟨rfl, rfl⟩
        dsimp only
        go_wp2_with fail
        refine (hasB2 _).mono ?_
        rintro e w' ⟨rfl, rfl⟩
        dsimp only
        go_wp2_with fail
        refine (hasC2 _).mono ?_
        rintro e w' ⟨rfl, rfl⟩
        dsimp only
        go_wp2_with fail
        go_ret
        exact ⟨by rw [HL.out]; rfl, (Below.refl _ _).alloc (Nat.le_refl _) _⟩
      · by_cases hb0 : b < 0
        · have hRa : isR a = true := by unfold isR; exact decide_eq_true (by omega)
          have hRb : isR b = false := by unfold isR; exact decide_eq_false (by omega)
          have HL : Hid (chkF 2 lo hi a b c = 2) := Lib.hid (by simp only [chkF, hRa, hRb]; simp [fA, fB, fN, hc])
          have ec : (c != 0) = false := by simpa using hc
          have ea0 : decide (a < 0) = false := by simpa using ha0
          have ea7 : decide (7 < a) = false := by simpa using ha7
          have eb0 : decide (b < 0) = true := by simpa using hb0
          clear hc ha0 ha7 hb0 hRa hRb
          go_enter Tryd.func9, Tryd.ntmps9
          go_wp2_with fail
          refine (hF _).mono ?_
          rintro e w' ⟨rfl, rfl⟩
          dsimp only
          go_wp2_with fail
          refine (hasA2 _).mono ?_
          rintro e w' ⟨rfl, rfl⟩
          dsimp only
          go_wp2_with fail
          refine (hasB2 _).mono ?_
          rintro e w' ⟨rfl, rfl⟩
          dsimp only
          go_wp2_with fail
          refine (hasC2 _).mono ?_
          rintro e w' ⟨rfl, rfl⟩
          dsimp only
          go_wp2_with fail
          go_ret
          exact ⟨by rw [HL.out]; rfl, (Below.refl _ _).alloc (Nat.le_refl _) _⟩
        · by_cases hb7 : 7 < b
          · have hRa : isR a = true := by unfold isR; exact decide_eq_true (by omega)
            have hRb : isR b = false := by unfold isR; exact decide_eq_false (by omega)
            have HL : Hid (chkF 2 lo hi a b c = 2) := Lib.hid (by simp only [chkF, hRa, hRb]; simp [fA, fB, fN, hc])
            have ec : (c != 0) = false := by simpa using hc
            have ea0 : decide (a < 0) = false := by simpa using ha0
            have ea7 : decide (7 < a) = false := by simpa using ha7
            have eb0 : decide (b < 0) = false := by simpa using hb0
            have eb7 : decide (7 < b) = true := by simpa using hb7
            clear hc ha0 ha7 hb0 hb7 hRa hRb
            go_enter Tryd.func9, Tryd.ntmps9
            go_wp2_with fail
            refine (hF _).mono ?_
            rintro e w' ⟨rfl, rfl⟩
            dsimp only
            go_wp2_with fail
            refine (hasA2 _).mono ?_
            rintro e w' ⟨rfl, rfl⟩
            dsimp only
            go_wp2_with fail
            refine (hasB2 _).mono ?_
            rintro e w' ⟨rfl, rfl⟩
            dsimp only
            go_wp2_with fail
            refine (hasC2 _).mono ?_
            rintro e w' ⟨rfl, rfl⟩
            dsimp only
            go_wp2_with fail
            go_ret
            exact ⟨by rw [HL.out]; rfl, (Below.refl _ _).alloc (Nat.le_refl _) _⟩
          · have hRa : isR a = true := by unfold isR; exact decide_eq_true (by omega)
            have hRb : isR b = true := by unfold isR; exact decide_eq_true (by omega)
            have HL : Hid (chkF 2 lo hi a b c = 0) := Lib.hid (by simp only [chkF, hRa, hRb]; simp [fA, fB, fN, hc])
            have ec : (c != 0) = false := by simpa using hc
            have ea0 : decide (a < 0) = false := by simpa using ha0
            have ea7 : decide (7 < a) = false := by simpa using ha7
            have eb0 : decide (b < 0) = false := by simpa using hb0
            have eb7 : decide (7 < b) = false := by simpa using hb7
            clear hc ha0 ha7 hb0 hb7 hRa hRb
            go_enter Tryd.func9, Tryd.ntmps9
            go_wp2_with fail
            refine (hF _).mono ?_
            rintro e w' ⟨rfl, rfl⟩
            dsimp only
            go_wp2_with fail
            refine (hasA2 _).mono ?_
            rintro e w' ⟨rfl, rfl⟩
            dsimp only
            go_wp2_with fail
            refine (hasB2 _).mono ?_
            rintro e w' ⟨rfl, rfl⟩
            dsimp only
            go_wp2_with fail
            refine (hasC2 _).mono ?_
            rintro e w' ⟨rfl, rfl⟩
            dsimp only
            go_wp2_with fail
            refine (hasC2 _).mono ?_
            rintro e w' ⟨rfl, rfl⟩
            dsimp only
            go_wp2_with fail
            go_ret
            exact ⟨by rw [HL.out]; rfl, (Below.refl _ _).alloc (Nat.le_refl _) _⟩
  · have HL : Hid (chkF 2 lo hi a b c = 1) := Lib.hid (by simp only [chkF]; simp [fA, fB, fN, hc])
    have ec : (c != 0) = true := by simpa using hc
    clear hc
    go_enter Tryd.func9, Tryd.ntmps9
    go_wp2_with fail
    refine (hF _).mono ?_
    rintro e w' ⟨rfl, rfl⟩
    dsimp only
    go_wp2_with fail
    refine (hasA2 _).mono ?_
    rintro e w' ⟨rfl, rfl⟩
    dsimp only
    go_wp2_with fail
    refine (hasB2 _).mono ?_
    rintro e w' ⟨rfl, rfl⟩
    dsimp only
    go_wp2_with fail
    refine (hasC2 _).mono ?_
    rintro e w' ⟨rfl, rfl⟩
    dsimp only
    go_wp2_with fail
    go_ret
    exact ⟨by rw [HL.out]; rfl, (Below.refl _ _).alloc (Nat.le_refl _) _⟩

set_option maxRecDepth 100000 in
set_option maxHeartbeats 4000000 in
theorem refCheck3 (w : World) (op : Int) (a b c lo hi : Int) (hF : ∀ w, Calls Tryd.prog 26 #[.int .i64 op] w fun e w' => e = .returned (.tuple #[.int .i64 3, .int .i64 0]) ∧ w = w')
     :
    Calls Tryd.prog 9 #[insV op a b c] w fun e w' => e = .returned (.int .i64 (chkF 3 lo hi a b c)) ∧ Below w.heap.size w w' := by
  unfold insV
  by_cases ha0 : a < 0
  · have hRa : isR a = false := by unfold isR; exact decide_eq_false (by omega)
    have HL : Hid (chkF 3 lo hi a b c = 2) := Lib.hid (by simp only [chkF, hRa]; simp [fA, fB, fN])
    have ea0 : decide (a < 0) = true := by simpa using ha0
    clear ha0 hRa
    go_enter Tryd.func9, Tryd.ntmps9
    go_wp2_with fail
    refine (hF _).mono ?_
    rintro e w' ⟨rfl, rfl⟩
    dsimp only
    go_wp2_with fail
    refine (hasA3 _).mono ?_
    rintro e w' ⟨rfl, rfl⟩
    dsimp only
    go_wp2_with fail
    refine (hasB3 _).mono ?_
    rintro e w' ⟨rfl, rfl⟩
    dsimp only
    go_wp2_with fail
    refine (hasC3 _).mono ?_
    rintro e w' ⟨rfl, rfl⟩
    dsimp only
    go_wp2_with fail
    go_ret
    exact ⟨by rw [HL.out]; rfl, (Below.refl _ _).alloc (Nat.le_refl _) _⟩
  · by_cases ha7 : 7 < a
    · have hRa : isR a = false := by unfold isR; exact decide_eq_false (by omega)
      have HL : Hid (chkF 3 lo hi a b c = 2) := Lib.hid (by simp only [chkF, hRa]; simp [fA, fB, fN])
      have ea0 : decide (a < 0) = false := by simpa using ha0
      have ea7 : decide (7 < a) = true := by simpa using ha7
      clear ha0 ha7 hRa
      go_enter Tryd.func9, Tryd.ntmps9
      go_wp2_with fail
      refine (hF _).mono ?_
      rintro e w' ⟨rfl, rfl⟩
      dsimp only
      go_wp2_with fail
      refine (hasA3 _).mono ?_
      rintro e w' ⟨rfl, rfl⟩
      dsimp only
      go_wp2_with fail
      refine (hasB3 _).mono ?_
      rintro e w' ⟨rfl, rfl⟩
      dsimp only
      go_wp2_with fail
      refine (hasC3 _).mono ?_
      rintro e w' ⟨rfl, rfl⟩
      dsimp only
      go_wp2_with fail
      go_ret
      exact ⟨by rw [HL.out]; rfl, (Below.refl _ _).alloc (Nat.le_refl _) _⟩
    · by_cases hb0 : b < 0
      · have hRa : isR a = true := by unfold isR; exact decide_eq_true (by omega)
        have hRb : isR b = false := by unfold isR; exact decide_eq_false (by omega)
        have HL : Hid (chkF 3 lo hi a b c = 2) := Lib.hid (by simp only [chkF, hRa, hRb]; simp [fA, fB, fN])
        have ea0 : decide (a < 0) = false := by simpa using ha0
        have ea7 : decide (7 < a) = false := by simpa using ha7
        have eb0 : decide (b < 0) = true := by simpa using hb0
        clear ha0 ha7 hb0 hRa hRb
        go_enter Tryd.func9, Tryd.ntmps9
        go_wp2_with fail
        refine (hF _).mono ?_
        rintro e w' ⟨rfl, rfl⟩
        dsimp only
        go_wp2_with fail
        refine (hasA3 _).mono ?_
        rintro e w' ⟨rfl, rfl⟩
        dsimp only
        go_wp2_with fail
        refine (hasB3 _).mono ?_
        rintro e w' ⟨rfl, rfl⟩
        dsimp only
        go_wp2_with fail
        refine (hasC3 _).mono ?_
        rintro e w' ⟨rfl, rfl⟩
        dsimp only
        go_wp2_with fail
        go_ret
        exact ⟨by rw [HL.out]; rfl, (Below.refl _ _).alloc (Nat.le_refl _) _⟩
      · by_cases hb7 : 7 < b
        · have hRa : isR a = true := by unfold isR; exact decide_eq_true (by omega)
          have hRb : isR b = false := by unfold isR; exact decide_eq_false (by omega)
          have HL : Hid (chkF 3 lo hi a b c = 2) := Lib.hid (by simp only [chkF, hRa, hRb]; simp [fA, fB, fN])
          have ea0 : decide (a < 0) = false := by simpa using ha0
          have ea7 : decide (7 < a) = false := by simpa using ha7
          have eb0 : decide (b < 0) = false := by simpa using hb0
          have eb7 : decide (7 < b) = true := by simpa using hb7
          clear ha0 ha7 hb0 hb7 hRa hRb
          go_enter Tryd.func9, Tryd.ntmps9
          go_wp2_with fail
          refine (hF _).mono ?_
          rintro e w' ⟨rfl, rfl⟩
          dsimp only
          go_wp2_with fail
          refine (hasA3 _).mono ?_
          rintro e w' ⟨rfl, rfl⟩
          dsimp only
          go_wp2_with fail
          refine (hasB3 _).mono ?_
          rintro e w' ⟨rfl, rfl⟩
          dsimp only
          go_wp2_with fail
          refine (hasC3 _).mono ?_
          rintro e w' ⟨rfl, rfl⟩
          dsimp only
          go_wp2_with fail
          go_ret
          exact ⟨by rw [HL.out]; rfl, (Below.refl _ _).alloc (Nat.le_refl _) _⟩
        · by_cases hc0 : c < 0
          · have hRa : isR a = true := by unfold isR; exact decide_eq_true (by omega)
            have hRb : isR b = true := by unfold isR; exact decide_eq_true (by omega)
            have hRc : isR c = false := by unfold isR; exact decide_eq_false (by omega)
            have HL : Hid (chkF 3 lo hi a b c = 2) := Lib.hid (by simp only [chkF, hRa, hRb, hRc]; simp [fA, fB, fN])
            have ea0 : decide (a < 0) = false := by simpa using ha0
            have ea7 : decide (7 < a) = false := by simpa using ha7
            have eb0 : decide (b < 0) = false := by simpa using hb0
            have eb7 : decide (7 < b) = false := by simpa using hb7
            have ec0 : decide (c < 0) = true := by simpa using hc0
            clear ha0 ha7 hb0 hb7 hc0 hRa hRb hRc
            go_enter Tryd.func9, Tryd.ntmps9
            go_wp2_with fail
            refine (hF _).mono ?_
            rintro e w' ⟨rfl, rfl⟩
            dsimp only
            go_wp2_with fail
            refine (hasA3 _).mono ?_
            rintro e w' ⟨rfl, rfl⟩
            dsimp only
            go_wp2_with fail
            refine (hasB3 _).mono ?_
            rintro e w' ⟨rfl, rfl⟩
            dsimp only
            go_wp2_with fail
            refine (hasC3 _).mono ?_
            rintro e w' ⟨rfl, rfl⟩
            dsimp only
            go_wp2_with fail
            refine (hasC3 _).mono ?_
            rintro e w' ⟨rfl, rfl⟩
            dsimp only
            go_wp2_with fail
            go_ret
            exact ⟨by rw [HL.out]; rfl, (Below.refl _ _).alloc (Nat.le_refl _) _⟩
          · by_cases hc7 : 7 < c
            · have hRa : isR a = true := by unfold isR; exact decide_eq_true (by omega)
              have hRb : isR b = true := by unfold isR; exact decide_eq_true (by omega)
              have hRc : isR c = false := by unfold isR; exact decide_eq_false (by omega)
              have HL : Hid (chkF 3 lo hi a b c = 2) := Lib.hid (by simp only [chkF, hRa, hRb, hRc]; simp [fA, fB, fN])
              have ea0 : decide (a < 0) = false := by simpa using ha0
              have ea7 : decide (7 < a) = false := by simpa using ha7
              have eb0 : decide (b < 0) = false := by simpa using hb0
              have eb7 : decide (7 < b) = false := by simpa using hb7
              have ec0 : decide (c < 0) = false := by simpa using hc0
              have ec7 : decide (7 < c) = true := by simpa using hc7
              clear ha0 ha7 hb0 hb7 hc0 hc7 hRa hRb hRc
              go_enter Tryd.func9, Tryd.ntmps9
              go_wp2_with fail
              refine (hF _).mono ?_
              rintro e w' ⟨rfl, rfl⟩
              dsimp only
              go_wp2_with fail
              refine (hasA3 _).mono ?_
              rintro e w' ⟨rfl, rfl⟩
              dsimp only
              go_wp2_with fail
              refine (hasB3 _).mono ?_
              rintro e w' ⟨rfl, rfl⟩
              dsimp only
              go_wp2_with fail
              refine (hasC3 _).mono ?_
              rintro e w' ⟨rfl, rfl⟩
              dsimp only
              go_wp2_with fail
              refine (hasC3 _).mono ?_
              rintro e w' ⟨rfl, rfl⟩
              dsimp only
              go_wp2_with fail
              go_ret
              exact ⟨by rw [HL.out]; rfl, (Below.refl _ _).alloc (Nat.le_refl _) _⟩
            · have hRa : isR a = true := by unfold isR; exact decide_eq_true (by omega)
              have hRb : isR b = true := by unfold isR; exact decide_eq_true (by omega)
              have hRc : isR c = true := by unfold isR; exact decide_eq_true (by omega)
              have HL : Hid (chkF 3 lo hi a b c = 0) := Lib.hid (by simp only [chkF, hRa, hRb, hRc]; simp [fA, fB, fN])
              have ea0 : decide (a < 0) = false := by simpa using ha0
              have ea7 : decide (7 < a) = false := by simpa using ha7
              have eb0 : decide (b < 0) = false := by simpa using hb0
              have eb7 : decide (7 < b) = false := by simpa using hb7
              have ec0 : decide (c < 0) = false := by simpa using hc0
              have ec7 : decide (7 < c) = false := by simpa using hc7
              clear ha0 ha7 hb0 hb7 hc0 hc7 hRa hRb hRc
              go_enter Tryd.func9, Tryd.ntmps9
              go_wp2_with fail
              refine (hF _).mono ?_
              rintro e w' ⟨rfl, rfl⟩
              dsimp only
              go_wp2_with fail
              refine (hasA3 _).mono ?_
              rintro e w' ⟨rfl, rfl⟩
              dsimp only
              go_wp2_with fail
              refine (hasB3 _).mono ?_
              rintro e w' ⟨rfl, rfl⟩
              dsimp only
              go_wp2_with fail
              refine (hasC3 _).mono ?_
              rintro e w' ⟨rfl, rfl⟩
              dsimp only
              go_wp2_with fail
              refine (hasC3 _).mono ?_
              rintro e w' ⟨rfl, rfl⟩
              dsimp only
              go_wp2_with fail
              go_ret
              exact ⟨by rw [HL.out]; rfl, (Below.refl _ _).alloc (Nat.le_refl _) _⟩

set_option maxRecDepth 100000 in
set_option maxHeartbeats 4000000 in
theorem refCheck4 (w : World) (op : Int) (a b c lo hi : Int) (hF : ∀ w, Calls Tryd.prog 26 #[.int .i64 op] w fun e w' => e = .returned (.tuple #[.int .i64 4, .int .i64 0]) ∧ w = w')
    (hL : ∀ w, Calls Tryd.prog 30 #[.int .i64 op] w fun e w_ => e = .returned (.tuple #[.int .i64 lo, .int .i64 hi, .int .i64 0]) ∧ w = w_) :
    Calls Tryd.prog 9 #[insV op a b c] w fun e w' => e = .returned (.int .i64 (chkF 4 lo hi a b c)) ∧ Below w.heap.size w w' := by
  unfold insV
  by_cases hb : b = 0
  · by_cases ha0 : a < 0
    · have hRa : isR a = false := by unfold isR; exact decide_eq_false (by omega)
      have HL : Hid (chkF 4 lo hi a b c = 2) := Lib.hid (by simp only [chkF, hRa]; simp [fA, fB, fN, hb])
      have eb : (b != 0) = false := by simpa using hb
      have ea0 : decide (a < 0) = true := by simpa using ha0
      clear hb ha0 hRa
      go_enter Tryd.func9, Tryd.ntmps9
      go_wp2_with fail
      refine (hF _).mono ?_
      rintro e w' ⟨rfl, rfl⟩
      dsimp only
      go_wp2_with fail
      refine (hasA4 _).mono ?_
      rintro e w' ⟨rfl, rfl⟩
      dsimp only
      go_wp2_with fail
      refine (hasB4 _).mono ?_
      rintro e w' ⟨rfl, rfl⟩
      dsimp only
      go_wp2_with fail
      refine (hasC4 _).mono ?_
      rintro e w' ⟨rfl, rfl⟩
      dsimp only
      go_wp2_with fail
      refine (hL _).mono ?_
      rintro e w' ⟨rfl, rfl⟩
      dsimp only
      go_wp2_with fail
      go_ret
      exact ⟨by rw [HL.out]; rfl, (Below.refl _ _).alloc (Nat.le_refl _) _⟩
    · by_cases ha7 : 7 < a
      · have hRa : isR a = false := by unfold isR; exact decide_eq_false (by omega)
        have HL : Hid (chkF 4 lo hi a b c = 2) := Lib.hid (by simp only [chkF, hRa]; simp [fA, fB, fN, hb])
        have eb : (b != 0) = false := by simpa using hb
        have ea0 : decide (a < 0) = false := by simpa using ha0
        have ea7 : decide (7 < a) = true := by simpa using ha7
        clear hb ha0 ha7 hRa
        go_enter Tryd.func9, Tryd.ntmps9
        go_wp2_with fail
        refine (hF _).mono ?_
        rintro e w' ⟨rfl, rfl⟩
        dsimp only
        go_wp2_with fail
        refine (hasA4 _).mono ?_
        rintro e w' ⟨rfl, rfl⟩
        dsimp only
        go_wp2_with fail
        refine (hasB4 _).mono ?_
        rintro e w' ⟨rfl, rfl⟩
        dsimp only
        go_wp2_with fail
        refine (hasC4 _).mono ?_
        rintro e w' ⟨rfl, rfl⟩
        dsimp only
        go_wp2_with fail
        refine (hL _).mono ?_
        rintro e w' ⟨rfl, rfl⟩
        dsimp only
        go_wp2_with fail
        go_ret
        exact ⟨by rw [HL.out]; rfl, (Below.refl _ _).alloc (Nat.le_refl _) _⟩
      · by_cases hb0 : b < 0
        · have hRa : isR a = true := by unfold isR; exact decide_eq_true (by omega)
          have hRb : isR b = false := by unfold isR; exact decide_eq_false (by omega)
          have HL : Hid (chkF 4 lo hi a b c = 2) := Lib.hid (by simp only [chkF, hRa, hRb]; simp [fA, fB, fN, hb])
          have eb : (b != 0) = false := by simpa using hb
          have ea0 : decide (a < 0) = false := by simpa using ha0
          have ea7 : decide (7 < a) = false := by simpa using ha7
          have eb0 : decide (b < 0) = true := by simpa using hb0
          clear hb ha0 ha7 hb0 hRa hRb
          go_enter Tryd.func9, Tryd.ntmps9
          go_wp2_with fail
          refine (hF _).mono ?_
          rintro e w' ⟨rfl, rfl⟩
          dsimp only
          go_wp2_with fail
          refine (hasA4 _).mono ?_
          rintro e w' ⟨rfl, rfl⟩
          dsimp only
          go_wp2_with fail
          refine (hasB4 _).mono ?_
          rintro e w' ⟨rfl, rfl⟩
          dsimp only
          go_wp2_with fail
          refine (hasC4 _).mono ?_
          rintro e w' ⟨rfl, rfl⟩
          dsimp only
          go_wp2_with fail
          refine (hL _).mono ?_
          rintro e w' ⟨rfl, rfl⟩
          dsimp only
          go_wp2_with fail
          go_ret
          exact ⟨by rw [HL.out]; rfl, (Below.refl _ _).alloc (Nat.le_refl _) _⟩
        · by_cases hb7 : 7 < b
          · have hRa : isR a = true := by unfold isR; exact decide_eq_true (by omega)
            have hRb : isR b = false := by unfold isR; exact decide_eq_false (by omega)
            have HL : Hid (chkF 4 lo hi a b c = 2) := Lib.hid (by simp only [chkF, hRa, hRb]; simp [fA, fB, fN, hb])
            have eb : (b != 0) = false := by simpa using hb
            have ea0 : decide (a < 0) = false := by simpa using ha0
            have ea7 : decide (7 < a) = false := by simpa using ha7
            have eb0 : decide (b < 0) = false := by simpa using hb0
            have eb7 : decide (7 < b) = true := by simpa using hb7
            clear hb ha0 ha7 hb0 hb7 hRa hRb
            go_enter Tryd.func9, Tryd.ntmps9
            go_wp2_with fail
            refine (hF _).mono ?_
            rintro e w' ⟨rfl, rfl⟩
            dsimp only
            go_wp2_with fail
            refine (hasA4 _).mono ?_
            rintro e w' ⟨rfl, rfl⟩
            dsimp only
            go_wp2_with fail
            refine (hasB4 _).mono ?_
            rintro e w' ⟨rfl, rfl⟩
            dsimp only
            go_wp2_with fail
            refine (hasC4 _).mono ?_
            rintro e w' ⟨rfl, rfl⟩
            dsimp only
            go_wp2_with fail
            refine (hL _).mono ?_
            rintro e w' ⟨rfl, rfl⟩
            dsimp only
            go_wp2_with fail
            go_ret
            exact ⟨by rw [HL.out]; rfl, (Below.refl _ _).alloc (Nat.le_refl _) _⟩
          · by_cases hlo : c < lo
            · have hRa : isR a = true := by unfold isR; exact decide_eq_true (by omega)
              have hRb : isR b = true := by unfold isR; exact decide_eq_true (by omega)
              have HL : Hid (chkF 4 lo hi a b c = 2) := Lib.hid (by simp only [chkF, hRa, hRb]; simp [fA, fB, fN, hb, hlo])
              have eb : (b != 0) = false := by simpa using hb
              have ea0 : decide (a < 0) = false := by simpa using ha0
              have ea7 : decide (7 < a) = false := by simpa using ha7
              have eb0 : decide (b < 0) = false := by simpa using hb0
              have eb7 : decide (7 < b) = false := by simpa using hb7
              have elo : decide (c < lo) = true := by simpa using hlo
              clear hb ha0 ha7 hb0 hb7 hlo hRa hRb
              go_enter Tryd.func9, Tryd.ntmps9
              go_wp2_with fail
              refine (hF _).mono ?_
              rintro e w' ⟨rfl, rfl⟩
              dsimp only
              go_wp2_with fail
              refine (hasA4 _).mono ?_
              rintro e w' ⟨rfl, rfl⟩
              dsimp only
              go_wp2_with fail
              refine (hasB4 _).mono ?_
              rintro e w' ⟨rfl, rfl⟩
              dsimp only
              go_wp2_with fail
              refine (hasC4 _).mono ?_
              rintro e w' ⟨rfl, rfl⟩
              dsimp only
              go_wp2_with fail
              refine (hL _).mono ?_
              rintro e w' ⟨rfl, rfl⟩
              dsimp only
              go_wp2_with fail
              refine (hasC4 _).mono ?_
              rintro e w' ⟨rfl, rfl⟩
              dsimp only
              go_wp2_with fail
              go_ret
              exact ⟨by rw [HL.out]; rfl, (Below.refl _ _).alloc (Nat.le_refl _) _⟩
            · by_cases hhi : hi < c
              · have hRa : isR a = true := by unfold isR; exact decide_eq_true (by omega)
                have hRb : isR b = true := by unfold isR; exact decide_eq_true (by omega)
                have HL : Hid (chkF 4 lo hi a b c = 2) := Lib.hid (by simp only [chkF, hRa, hRb]; simp [fA, fB, fN, hb, hlo, hhi])
                have eb : (b != 0) = false := by simpa using hb
                have ea0 : decide (a < 0) = false := by simpa using ha0
                have ea7 : decide (7 < a) = false := by simpa using ha7
                have eb0 : decide (b < 0) = false := by simpa using hb0
                have eb7 : decide (7 < b) = false := by simpa using hb7
                have elo : decide (c < lo) = false := by simpa using hlo
                have ehi : decide (hi < c) = true := by simpa using hhi
                clear hb ha0 ha7 hb0 hb7 hlo hhi hRa hRb
                go_enter Tryd.func9, Tryd.ntmps9
                go_wp2_with fail
                refine (hF _).mono ?_
                rintro e w' ⟨rfl, rfl⟩
                dsimp only
                go_wp2_with fail
                refine (hasA4 _).mono ?_
                rintro e w' ⟨rfl, rfl⟩
                dsimp only
                go_wp2_with fail
                refine (hasB4 _).mono ?_
                rintro e w' ⟨rfl, rfl⟩
                dsimp only
                go_wp2_with fail
                refine (hasC4 _).mono ?_
                rintro e w' ⟨rfl, rfl⟩
                dsimp only
                go_wp2_with fail
                refine (hL _).mono ?_
                rintro e w' ⟨rfl, rfl⟩
                dsimp only
                go_wp2_with fail
                refine (hasC4 _).mono ?_
                rintro e w' ⟨rfl, rfl⟩
                dsimp only
                go_wp2_with fail
                go_ret
                exact ⟨by rw [HL.out]; rfl, (Below.refl _ _).alloc (Nat.le_refl _) _⟩
              · have hRa : isR a = true := by unfold isR; exact decide_eq_true (by omega)
                have hRb : isR b = true := by unfold isR; exact decide_eq_true (by omega)
                have HL : Hid (chkF 4 lo hi a b c = 0) := Lib.hid (by simp only [chkF, hRa, hRb]; simp [fA, fB, fN, hb, hlo, hhi])
                have eb : (b != 0) = false := by simpa using hb
                have ea0 : decide (a < 0) = false := by simpa using ha0
                have ea7 : decide (7 < a) = false := by simpa using ha7
                have eb0 : decide (b < 0) = false := by simpa using hb0
                have eb7 : decide (7 < b) = false := by simpa using hb7
                have elo : decide (c < lo) = false := by simpa using hlo
                have ehi : decide (hi < c) = false := by simpa using hhi
                clear hb ha0 ha7 hb0 hb7 hlo hhi hRa hRb
                go_enter Tryd.func9, Tryd.ntmps9
                go_wp2_with fail
                refine (hF _).mono ?_
                rintro e w' ⟨rfl, rfl⟩
                dsimp only
                go_wp2_with fail
                refine (hasA4 _).mono ?_
                rintro e w' ⟨rfl, rfl⟩
                dsimp only
                go_wp2_with fail
                refine (hasB4 _).mono ?_
                rintro e w' ⟨rfl, rfl⟩
                dsimp only
                go_wp2_with fail
                refine (hasC4 _).mono ?_
                rintro e w' ⟨rfl, rfl⟩
                dsimp only
                go_wp2_with fail
                refine (hL _).mono ?_
                rintro e w' ⟨rfl, rfl⟩
                dsimp only
                go_wp2_with fail
                refine (hasC4 _).mono ?_
                rintro e w' ⟨rfl, rfl⟩
                dsimp only
                go_wp2_with fail
                go_ret
                exact ⟨by rw [HL.out]; rfl, (Below.refl _ _).alloc (Nat.le_refl _) _⟩
  · have HL : Hid (chkF 4 lo hi a b c = 1) := Lib.hid (by simp only [chkF]; simp [fA, fB, fN, hb])
    have eb : (b != 0) = true := by simpa using hb
    clear hb
    go_enter Tryd.func9, Tryd.ntmps9
    go_wp2_with fail
    refine (hF _).mono ?_
    rintro e w' ⟨rfl, rfl⟩
    dsimp only
    go_wp2_with fail
    refine (hasA4 _).mono ?_
    rintro e w' ⟨rfl, rfl⟩
    dsimp only
    go_wp2_with fail
    refine (hasB4 _).mono ?_
    rintro e w' ⟨rfl, rfl⟩
    dsimp only
    go_wp2_with fail
    go_ret
    exact ⟨by rw [HL.out]; rfl, (Below.refl _ _).alloc (Nat.le_refl _) _⟩

set_option maxRecDepth 100000 in
set_option maxHeartbeats 4000000 in
theorem refCheck5 (w : World) (op : Int) (a b c lo hi : Int) (hF : ∀ w, Calls Tryd.prog 26 #[.int .i64 op] w fun e w' => e = .returned (.tuple #[.int .i64 5, .int .i64 0]) ∧ w = w')
    (hL : ∀ w, Calls Tryd.prog 30 #[.int .i64 op] w fun e w_ => e = .returned (.tuple #[.int .i64 lo, .int .i64 hi, .int .i64 0]) ∧ w = w_) :
    Calls Tryd.prog 9 #[insV op a b c] w fun e w' => e = .returned (.int .i64 (chkF 5 lo hi a b c)) ∧ Below w.heap.size w w' := by
  unfold insV
  by_cases ha0 : a < 0
  · have hRa : isR a = false := by unfold isR; exact decide_eq_false (by omega)
    have HL : Hid (chkF 5 lo hi a b c = 2) := Lib.hid (by simp only [chkF, hRa]; simp [fA, fB, fN])
    have ea0 : decide (a < 0) = true := by simpa using ha0
    clear ha0 hRa
    go_enter Tryd.func9, Tryd.ntmps9
    go_wp2_with fail
    refine (hF _).mono ?_
    rintro e w' ⟨rfl, rfl⟩
    dsimp only
    go_wp2_with fail
    refine (hasA5 _).mono ?_
    rintro e w' ⟨rfl, rfl⟩
    dsimp only
    go_wp2_with fail
    refine (hasB5 _).mono ?_
    rintro e w' ⟨rfl, rfl⟩
    dsimp only
    go_wp2_with fail
    refine (hasC5 _).mono ?_
    rintro e w' ⟨rfl, rfl⟩
    dsimp only
    go_wp2_with fail
    refine (hL _).mono ?_
    rintro e w' ⟨rfl, rfl⟩
    dsimp only
    go_wp2_with fail
    go_ret
    exact ⟨by rw [HL.out]; rfl, (Below.refl _ _).alloc (Nat.le_refl _) _⟩
  · by_cases ha7 : 7 < a
    · have hRa : isR a = false := by unfold isR; exact decide_eq_false (by omega)
      have HL : Hid (chkF 5 lo hi a b c = 2) := Lib.hid (by simp only [chkF, hRa]; simp [fA, fB, fN])
      have ea0 : decide (a < 0) = false := by simpa using ha0
      have ea7 : decide (7 < a) = true := by simpa using ha7
      clear ha0 ha7 hRa
      go_enter Tryd.func9, Tryd.ntmps9
      go_wp2_with fail
      refine (hF _).mono ?_
      rintro e w' ⟨rfl, rfl⟩
      dsimp only
      go_wp2_with fail
      refine (hasA5 _).mono ?_
      rintro e w' ⟨rfl, rfl⟩
      dsimp only
      go_wp2_with fail
      refine (hasB5 _).mono ?_
      rintro e w' ⟨rfl, rfl⟩
      dsimp only
      go_wp2_with fail
      refine (hasC5 _).mono ?_
      rintro e w' ⟨rfl, rfl⟩
      dsimp only
      go_wp2_with fail
      refine (hL _).mono ?_
      rintro e w' ⟨rfl, rfl⟩
      dsimp only
      go_wp2_with fail
      go_ret
      exact ⟨by rw [HL.out]; rfl, (Below.refl _ _).alloc (Nat.le_refl _) _⟩
    · by_cases hb0 : b < 0
      · have hRa : isR a = true := by unfold isR; exact decide_eq_true (by omega)
        have hRb : isR b = false := by unfold isR; exact decide_eq_false (by omega)
        have HL : Hid (chkF 5 lo hi a b c = 2) := Lib.hid (by simp only [chkF, hRa, hRb]; simp [fA, fB, fN])
        have ea0 : decide (a < 0) = false := by simpa using ha0
        have ea7 : decide (7 < a) = false := by simpa using ha7
        have eb0 : decide (b < 0) = true := by simpa using hb0
        clear ha0 ha7 hb0 hRa hRb
        go_enter Tryd.func9, Tryd.ntmps9
        go_wp2_with fail
        refine (hF _).mono ?_
        rintro e w' ⟨rfl, rfl⟩
        dsimp only
        go_wp2_with fail
        refine (hasA5 _).mono ?_
        rintro e w' ⟨rfl, rfl⟩
        dsimp only
        go_wp2_with fail
        refine (hasB5 _).mono ?_
        rintro e w' ⟨rfl, rfl⟩
        dsimp only
        go_wp2_with fail
        refine (hasC5 _).mono ?_
        rintro e w' ⟨rfl, rfl⟩
        dsimp only
        go_wp2_with fail
        refine (hL _).mono ?_
        rintro e w' ⟨rfl, rfl⟩
        dsimp only
        go_wp2_with fail
        go_ret
        exact ⟨by rw [HL.out]; rfl, (Below.refl _ _).alloc (Nat.le_refl _) _⟩
      · by_cases hb7 : 7 < b
        · have hRa : isR a = true := by unfold isR; exact decide_eq_true (by omega)
          have hRb : isR b = false := by unfold isR; exact decide_eq_false (by omega)
          have HL : Hid (chkF 5 lo hi a b c = 2) := Lib.hid (by simp only [chkF, hRa, hRb]; simp [fA, fB, fN])
          have ea0 : decide (a < 0) = false := by simpa using ha0
          have ea7 : decide (7 < a) = false := by simpa using ha7
          have eb0 : decide (b < 0) = false := by simpa using hb0
          have eb7 : decide (7 < b) = true := by simpa using hb7
          clear ha0 ha7 hb0 hb7 hRa hRb
          go_enter Tryd.func9, Tryd.ntmps9
          go_wp2_with fail
          refine (hF _).mono ?_
          rintro e w' ⟨rfl, rfl⟩
          dsimp only
          go_wp2_with fail
          refine (hasA5 _).mono ?_
          rintro e w' ⟨rfl, rfl⟩
          dsimp only
          go_wp2_with fail
          refine (hasB5 _).mono ?_
          rintro e w' ⟨rfl, rfl⟩
          dsimp only
          go_wp2_with fail
          refine (hasC5 _).mono ?_
          rintro e w' ⟨rfl, rfl⟩
          dsimp only
          go_wp2_with fail
          refine (hL _).mono ?_
          rintro e w' ⟨rfl, rfl⟩
          dsimp only
          go_wp2_with fail
          go_ret
          exact ⟨by rw [HL.out]; rfl, (Below.refl _ _).alloc (Nat.le_refl _) _⟩
        · by_cases hlo : c < lo
          · have hRa : isR a = true := by unfold isR; exact decide_eq_true (by omega)
            have hRb : isR b = true := by unfold isR; exact decide_eq_true (by omega)
            have HL : Hid (chkF 5 lo hi a b c = 2) := Lib.hid (by simp only [chkF, hRa, hRb]; simp [fA, fB, fN, hlo])
            have ea0 : decide (a < 0) = false := by simpa using ha0
            have ea7 : decide (7 < a) = false := by simpa using ha7
            have eb0 : decide (b < 0) = false := by simpa using hb0
            have eb7 : decide (7 < b) = false := by simpa using hb7
            have elo : decide (c < lo) = true := by simpa using hlo
            clear ha0 ha7 hb0 hb7 hlo hRa hRb
            go_enter Tryd.func9, Tryd.ntmps9
            go_wp2_with fail
            refine (hF _).mono ?_
            rintro e w' ⟨rfl, rfl⟩
            dsimp only
            go_wp2_with fail
            refine (hasA5 _).mono ?_
            rintro e w' ⟨rfl, rfl⟩
            dsimp only
            go_wp2_with fail
            refine (hasB5 _).mono ?_
            rintro e w' ⟨rfl, rfl⟩
            dsimp only
            go_wp2_with fail
            refine (hasC5 _).mono ?_
            rintro e w' ⟨rfl, rfl⟩
            dsimp only
            go_wp2_with fail
            refine (hL _).mono ?_
            rintro e w' ⟨rfl, rfl⟩
            dsimp only
            go_wp2_with fail
            refine (hasC5 _).mono ?_
            rintro e w' ⟨rfl, rfl⟩
            dsimp only
            go_wp2_with fail
            go_ret
            exact ⟨by rw [HL.out]; rfl, (Below.refl _ _).alloc (Nat.le_refl _) _⟩
          · by_cases hhi : hi < c
            · have hRa : isR a = true := by unfold isR; exact decide_eq_true (by omega)
              have hRb : isR b = true := by unfold isR; exact decide_eq_true (by omega)
              have HL : Hid (chkF 5 lo hi a b c = 2) := Lib.hid (by simp only [chkF, hRa, hRb]; simp [fA, fB, fN, hlo, hhi])
              have ea0 : decide (a < 0) = false := by simpa using ha0
              have ea7 : decide (7 < a) = false := by simpa using ha7
              have eb0 : decide (b < 0) = false := by simpa using hb0
              have eb7 : decide (7 < b) = false := by simpa using hb7
              have elo : decide (c < lo) = false := by simpa using hlo
              have ehi : decide (hi < c) = true := by simpa using hhi
              clear ha0 ha7 hb0 hb7 hlo hhi hRa hRb
              go_enter Tryd.func9, Tryd.ntmps9
              go_wp2_with fail
              refine (hF _).mono ?_
              rintro e w' ⟨rfl, rfl⟩
              dsimp only
              go_wp2_with fail
              refine (hasA5 _).mono ?_
              rintro e w' ⟨rfl, rfl⟩
              dsimp only
              go_wp2_with fail
              refine (hasB5 _).mono ?_
              rintro e w' ⟨rfl, rfl⟩
              dsimp only
              go_wp2_with fail
              refine (hasC5 _).mono ?_
              rintro e w' ⟨rfl, rfl⟩
              dsimp only
              go_wp2_with fail
              refine (hL _).mono ?_
              rintro e w' ⟨rfl, rfl⟩
              dsimp only
              go_wp2_with fail
              refine (hasC5 _).mono ?_
              rintro e w' ⟨rfl, rfl⟩
              dsimp only
              go_wp2_with fail
              go_ret
              exact ⟨by rw [HL.out]; rfl, (Below.refl _ _).alloc (Nat.le_refl _) _⟩
            · have hRa : isR a = true := by unfold isR; exact decide_eq_true (by omega)
              have hRb : isR b = true := by unfold isR; exact decide_eq_true (by omega)
              have HL : Hid (chkF 5 lo hi a b c = 0) := Lib.hid (by simp only [chkF, hRa, hRb]; simp [fA, fB, fN, hlo, hhi])
              have ea0 : decide (a < 0) = false := by simpa using ha0
              have ea7 : decide (7 < a) = false := by simpa using ha7
              have eb0 : decide (b < 0) = false := by simpa using hb0
              have eb7 : decide (7 < b) = false := by simpa using hb7
              have elo : decide (c < lo) = false := by simpa using hlo
              have ehi : decide (hi < c) = false := by simpa using hhi
              clear ha0 ha7 hb0 hb7 hlo hhi hRa hRb
              go_enter Tryd.func9, Tryd.ntmps9
              go_wp2_with fail
              refine (hF _).mono ?_
              rintro e w' ⟨rfl, rfl⟩
              dsimp only
              go_wp2_with fail
              refine (hasA5 _).mono ?_
              rintro e w' ⟨rfl, rfl⟩
              dsimp only
              go_wp2_with fail
              refine (hasB5 _).mono ?_
              rintro e w' ⟨rfl, rfl⟩
              dsimp only
              go_wp2_with fail
              refine (hasC5 _).mono ?_
              rintro e w' ⟨rfl, rfl⟩
              dsimp only
              go_wp2_with fail
              refine (hL _).mono ?_
              rintro e w' ⟨rfl, rfl⟩
              dsimp only
              go_wp2_with fail
              refine (hasC5 _).mono ?_
              rintro e w' ⟨rfl, rfl⟩
              dsimp only
              go_wp2_with fail
              go_ret
              exact ⟨by rw [HL.out]; rfl, (Below.refl _ _).alloc (Nat.le_refl _) _⟩

set_option maxRecDepth 100000 in
set_option maxHeartbeats 4000000 in
theorem refCheck6 (w : World) (op : Int) (a b c lo hi : Int) (hF : ∀ w, Calls Tryd.prog 26 #[.int .i64 op] w fun e w' => e = .returned (.tuple #[.int .i64 6, .int .i64 0]) ∧ w = w')
    (hL : ∀ w, Calls Tryd.prog 30 #[.int .i64 op] w fun e w_ => e = .returned (.tuple #[.int .i64 lo, .int .i64 hi, .int .i64 0]) ∧ w = w_) :
    Calls Tryd.prog 9 #[insV op a b c] w fun e w' => e = .returned (.int .i64 (chkF 6 lo hi a b c)) ∧ Below w.heap.size w w' := by
  unfold insV
  by_cases ha : a = 0
  · by_cases hb : b = 0
    · by_cases ha0 : a < 0
      · have hRa : isR a = false := by unfold isR; exact decide_eq_false (by omega)
        have HL : Hid (chkF 6 lo hi a b c = 2) := Lib.hid (by simp only [chkF, hRa]; simp [fA, fB, fN, ha, hb])
        have ea : (a != 0) = false := by simpa using ha
        have eb : (b != 0) = false := by simpa using hb
        have ea0 : decide (a < 0) = true := by simpa using ha0
        clear ha hb ha0 hRa
        go_enter Tryd.func9, Tryd.ntmps9
        go_wp2_with fail
        refine (hF _).mono ?_
        rintro e w' ⟨rfl, rfl⟩
        dsimp only
        go_wp2_with fail
        refine (hasA6 _).mono ?_
        rintro e w' ⟨rfl, rfl⟩
        dsimp only
        go_wp2_with fail
        refine (hasB6 _).mono ?_
        rintro e w' ⟨rfl, rfl⟩
        dsimp only
        go_wp2_with fail
        refine (hasC6 _).mono ?_
        rintro e w' ⟨rfl, rfl⟩
        dsimp only
        go_wp2_with fail
        refine (hL _).mono ?_
        rintro e w' ⟨rfl, rfl⟩
        dsimp only
        go_wp2_with fail
        go_ret
        exact ⟨by rw [HL.out]; rfl, (Below.refl _ _).alloc (Nat.le_refl _) _⟩
      · by_cases ha7 : 7 < a
        · have hRa : isR a = false := by unfold isR; exact decide_eq_false (by omega)
          have HL : Hid (chkF 6 lo hi a b c = 2) := Lib.hid (by simp only [chkF, hRa]; simp [fA, fB, fN, ha, hb])
          have ea : (a != 0) = false := by simpa using ha
          have eb : (b != 0) = false := by simpa using hb
          have ea0 : decide (a < 0) = false := by simpa using ha0
          have ea7 : decide (7 < a) = true := by simpa using ha7
          clear ha hb ha0 ha7 hRa
          go_enter Tryd.func9, Tryd.ntmps9
          go_wp2_with fail
          refine (hF _).mono ?_
          rintro e w' ⟨rfl, rfl⟩
          dsimp only
          go_wp2_with fail
          refine (hasA6 _).mono ?_
          rintro e w' ⟨rfl, rfl⟩
          dsimp only
          go_wp2_with fail
          refine (hasB6 _).mono ?_
          rintro e w' ⟨rfl, rfl⟩
          dsimp only
          go_wp2_with fail
          refine (hasC6 _).mono ?_
          rintro e w' ⟨rfl, rfl⟩
          dsimp only
          go_wp2_with fail
          refine (hL _).mono ?_
          rintro e w' ⟨rfl, rfl⟩
          dsimp only
          go_wp2_with fail
          go_ret
          exact ⟨by rw [HL.out]; rfl, (Below.refl _ _).alloc (Nat.le_refl _) _⟩
        · by_cases hb0 : b < 0
          · have hRa : isR a = true := by unfold isR; exact decide_eq_true (by omega)
            have hRb : isR b = false := by unfold isR; exact decide_eq_false (by omega)
            have HL : Hid (chkF 6 lo hi a b c = 2) := Lib.hid (by simp only [chkF, hRa, hRb]; simp [fA, fB, fN, ha, hb])
            have ea : (a != 0) = false := by simpa using ha
            have eb : (b != 0) = false := by simpa using hb
            have ea0 : decide (a < 0) = false := by simpa using ha0
            have ea7 : decide (7 < a) = false := by simpa using ha7
            have eb0 : decide (b < 0) = true := by simpa using hb0
            clear ha hb ha0 ha7 hb0 hRa hRb
            go_enter Tryd.func9, Tryd.ntmps9
            go_wp2_with fail
            refine (hF _).mono ?_
            rintro e w' ⟨rfl, rfl⟩
            dsimp only
            go_wp2_with fail
            refine (hasA6 _).mono ?_
            rintro e w' ⟨rfl, rfl⟩
            dsimp only
            go_wp2_with fail
            refine (hasB6 _).mono ?_
            rintro e w' ⟨rfl, rfl⟩
            dsimp only
            go_wp2_with fail
            refine (hasC6 _).mono ?_
            rintro e w' ⟨rfl, rfl⟩
            dsimp only
            go_wp2_with fail
            refine (hL _).mono ?_
            rintro e w' ⟨rfl, rfl⟩
            dsimp only
            go_wp2_with fail
            go_ret
            exact ⟨by rw [HL.out]; rfl, (Below.refl _ _).alloc (Nat.le_refl _) _⟩
          · by_cases hb7 : 7 < b
            · have hRa : isR a = true := by unfold isR; exact decide_eq_true (by omega)
              have hRb : isR b = false := by unfold isR; exact decide_eq_false (by omega)
              have HL : Hid (chkF 6 lo hi a b c = 2) := Lib.hid (by simp only [chkF, hRa, hRb]; simp [fA, fB, fN, ha, hb])
              have ea : (a != 0) = false := by simpa using ha
              have eb : (b != 0) = false := by simpa using hb
              have ea0 : decide (a < 0) = false := by simpa using ha0
              have ea7 : decide (7 < a) = false := by simpa using ha7
              have eb0 : decide (b < 0) = false := by simpa using hb0
              have eb7 : decide (7 < b) = true := by simpa using hb7
              clear ha hb ha0 ha7 hb0 hb7 hRa hRb
              go_enter Tryd.func9, Tryd.ntmps9
              go_wp2_with fail
              refine (hF _).mono ?_
              rintro e w' ⟨rfl, rfl⟩
              dsimp only
              go_wp2_with fail
              refine (hasA6 _).mono ?_
              rintro e w' ⟨rfl, rfl⟩
              dsimp only
              go_wp2_with fail
              refine (hasB6 _).mono ?_
              rintro e w' ⟨rfl, rfl⟩
              dsimp only
              go_wp2_with fail
              refine (hasC6 _).mono ?_
              rintro e w' ⟨rfl, rfl⟩
              dsimp only
              go_wp2_with fail
              refine (hL _).mono ?_
              rintro e w' ⟨rfl, rfl⟩
              dsimp only
              go_wp2_with fail
              go_ret
              exact ⟨by rw [HL.out]; rfl, (Below.refl _ _).alloc (Nat.le_refl _) _⟩
            · by_cases hlo : c < lo
              · have hRa : isR a = true := by unfold isR; exact decide_eq_true (by omega)
                have hRb : isR b = true := by unfold isR; exact decide_eq_true (by omega)
                have HL : Hid (chkF 6 lo hi a b c = 2) := Lib.hid (by simp only [chkF, hRa, hRb]; simp [fA, fB, fN, ha, hb, hlo])
                have ea : (a != 0) = false := by simpa using ha
                have eb : (b != 0) = false := by simpa using hb
                have ea0 : decide (a < 0) = false := by simpa using ha0
                have ea7 : decide (7 < a) = false := by simpa using ha7
                have eb0 : decide (b < 0) = false := by simpa using hb0
                have eb7 : decide (7 < b) = false := by simpa using hb7
                have elo : decide (c < lo) = true := by simpa using hlo
                clear ha hb ha0 ha7 hb0 hb7 hlo hRa hRb
                go_enter Tryd.func9, Tryd.ntmps9
                go_wp2_with fail
                refine (hF _).mono ?_
                rintro e w' ⟨rfl, rfl⟩
                dsimp only
                go_wp2_with fail
                refine (hasA6 _).mono ?_
                rintro e w' ⟨rfl, rfl⟩
                dsimp only
                go_wp2_with fail
                refine (hasB6 _).mono ?_
                rintro e w' ⟨rfl, rfl⟩
                dsimp only
                go_wp2_with fail
                refine (hasC6 _).mono ?_
                rintro e w' ⟨rfl, rfl⟩
                dsimp only
                go_wp2_with fail
                refine (hL _).mono ?_
                rintro e w' ⟨rfl, rfl⟩
                dsimp only
                go_wp2_with fail
                refine (hasC6 _).mono ?_
                rintro e w' ⟨rfl, rfl⟩
                dsimp only
                go_wp2_with fail
                go_ret
                exact ⟨by rw [HL.out]; rfl, (Below.refl _ _).alloc (Nat.le_refl _) _⟩
              · by_cases hhi : hi < c
                · have hRa : isR a = true := by unfold isR; exact decide_eq_true (by omega)
                  have hRb : isR b = true := by unfold isR; exact decide_eq_true (by omega)
                  have HL : Hid (chkF 6 lo hi a b c = 2) := Lib.hid (by simp only [chkF, hRa, hRb]; simp [fA, fB, fN, ha, hb, hlo, hhi])
                  have ea : (a != 0) = false := by simpa using ha
                  have eb : (b != 0) = false := by simpa using hb
                  have ea0 : decide (a < 0) = false := by simpa using ha0
                  have ea7 : decide (7 < a) = false := by simpa using ha7
                  have eb0 : decide (b < 0) = false := by simpa using hb0
                  have eb7 : decide (7 < b) = false := by simpa using hb7
                  have elo : decide (c < lo) = false := by simpa using hlo
                  have ehi : decide (hi < c) = true := by simpa using hhi
                  clear ha hb ha0 ha7 hb0 hb7 hlo hhi hRa hRb
                  go_enter Tryd.func9, Tryd.ntmps9
                  go_wp2_with fail
                  refine (hF _).mono ?_
                  rintro e w' ⟨rfl, rfl⟩
                  dsimp only
                  go_wp2_with fail
                  refine (hasA6 _).mono ?_
                  rintro e w' ⟨rfl, rfl⟩
                  dsimp only
                  go_wp2_with fail
                  refine (hasB6 _).mono ?_
                  rintro e w' ⟨rfl, rfl⟩
                  dsimp only
                  go_wp2_with fail
                  refine (hasC6 _).mono ?_
                  rintro e w' ⟨rfl, rfl⟩
                  dsimp only
                  go_wp2_with fail
                  refine (hL _).mono ?_
                  rintro e w' ⟨rfl, rfl⟩
                  dsimp only
                  go_wp2_with fail
                  refine (hasC6 _).mono ?_
                  rintro e w' ⟨rfl, rfl⟩
                  dsimp only
                  go_wp2_with fail
                  go_ret
                  exact ⟨by rw [HL.out]; rfl, (Below.refl _ _).alloc (Nat.le_refl _) _⟩
                · have hRa : isR a = true := by unfold isR; exact decide_eq_true (by omega)
                  have hRb : isR b = true := by unfold isR; exact decide_eq_true (by omega)
                  have HL : Hid (chkF 6 lo hi a b c = 0) := Lib.hid (by simp only [chkF, hRa, hRb]; simp [fA, fB, fN, ha, hb, hlo, hhi])
                  have ea : (a != 0) = false := by simpa using ha
                  have eb : (b != 0) = false := by simpa using hb
                  have ea0 : decide (a < 0) = false := by simpa using ha0
                  have ea7 : decide (7 < a) = false := by simpa using ha7
                  have eb0 : decide (b < 0) = false := by simpa using hb0
                  have eb7 : decide (7 < b) = false := by simpa using hb7
                  have elo : decide (c < lo) = false := by simpa using hlo
                  have ehi : decide (hi < c) = false := by simpa using hhi
                  clear ha hb ha0 ha7 hb0 hb7 hlo hhi hRa hRb
                  go_enter Tryd.func9, Tryd.ntmps9
                  go_wp2_with fail
                  refine (hF _).mono ?_
                  rintro e w' ⟨rfl, rfl⟩
                  dsimp only
                  go_wp2_with fail
                  refine (hasA6 _).mono ?_
                  rintro e w' ⟨rfl, rfl⟩
                  dsimp only
                  go_wp2_with fail
                  refine (hasB6 _).mono ?_
                  rintro e w' ⟨rfl, rfl⟩
                  dsimp only
                  go_wp2_with fail
                  refine (hasC6 _).mono ?_
                  rintro e w' ⟨rfl, rfl⟩
                  dsimp only
                  go_wp2_with fail
                  refine (hL _).mono ?_
                  rintro e w' ⟨rfl, rfl⟩
                  dsimp only
                  go_wp2_with fail
                  refine (hasC6 _).mono ?_
                  rintro e w' ⟨rfl, rfl⟩
                  dsimp only
                  go_wp2_with fail
                  go_ret
                  exact ⟨by rw [HL.out]; rfl, (Below.refl _ _).alloc (Nat.le_refl _) _⟩
    · have HL : Hid (chkF 6 lo hi a b c = 1) := Lib.hid (by simp only [chkF]; simp [fA, fB, fN, ha, hb])
      have ea : (a != 0) = false := by simpa using ha
      have eb : (b != 0) = true := by simpa using hb
      clear ha hb
      go_enter Tryd.func9, Tryd.ntmps9
      go_wp2_with fail
      refine (hF _).mono ?_
      rintro e w' ⟨rfl, rfl⟩
      dsimp only
      go_wp2_with fail
      refine (hasA6 _).mono ?_
      rintro e w' ⟨rfl, rfl⟩
      dsimp only
      go_wp2_with fail
      refine (hasB6 _).mono ?_
      rintro e w' ⟨rfl, rfl⟩
      dsimp only
      go_wp2_with fail
      go_ret
      exact ⟨by rw [HL.out]; rfl, (Below.refl _ _).alloc (Nat.le_refl _) _⟩
  · have HL : Hid (chkF 6 lo hi a b c = 1) := Lib.hid (by simp only [chkF]; simp [fA, fB, fN, ha])
    have ea : (a != 0) = true := by simpa using ha
    clear ha
    go_enter Tryd.func9, Tryd.ntmps9
    go_wp2_with fail
    refine (hF _).mono ?_
    rintro e w' ⟨rfl, rfl⟩
    dsimp only
    go_wp2_with fail
    refine (hasA6 _).mono ?_
    rintro e w' ⟨rfl, rfl⟩
    dsimp only
    go_wp2_with fail
    go_ret
    exact ⟨by rw [HL.out]; rfl, (Below.refl _ _).alloc (Nat.le_refl _) _⟩

theorem refCheck_any (w : World) (op a b c : Int) : Calls Tryd.prog 9 #[insV op a b c] w fun e w' => e = .returned (.int .i64 (checkI op a b c)) ∧ Below w.heap.size w w' := by
  unfold checkI
  by_cases h : op < 0 ∨ 27 ≤ op
  · rw [if_pos h]
    have hF := fun w => form_bad w op h
    clear h
    unfold insV
    go_enter Tryd.func9, Tryd.ntmps9
    go_wp2_with fail
    refine (hF _).mono ?_
    rintro e w' ⟨rfl, rfl⟩
    dsimp only
    go_wp2_with fail
    go_ret
    exact ⟨rfl, (Below.refl _ _).alloc (Nat.le_refl _) _⟩
  · rw [if_neg h]
    obtain ⟨k, rfl⟩ : ∃ k : Nat, op = k := ⟨op.toNat, by omega⟩
    rw [Int.toNat_natCast]
    have hk : k < 27 := by omega
    have hF := fun w => form_any w k hk
    have hL := fun w h4 => lims_any w k hk h4
    have h7 : (opT k).1 < 7 := by
      have h3 : k = 0 ∨ k = 1 ∨ k = 2 ∨ k = 3 ∨ k = 4 ∨ k = 5 ∨ k = 6 ∨ k = 7 ∨ k = 8 ∨ k = 9 ∨ k = 10 ∨ k = 11 ∨ k = 12 ∨ k = 13 ∨ k = 14 ∨ k = 15 ∨ k = 16 ∨ k = 17 ∨ k = 18 ∨ k = 19 ∨ k = 20 ∨ k = 21 ∨ k = 22 ∨ k = 23 ∨ k = 24 ∨ k = 25 ∨ k = 26 := by omega
      rcases h3 with rfl | rfl | rfl | rfl | rfl | rfl | rfl | rfl | rfl | rfl | rfl | rfl | rfl | rfl | rfl | rfl | rfl | rfl | rfl | rfl | rfl | rfl | rfl | rfl | rfl | rfl | rfl <;> decide
    generalize opT k = T at *
    obtain ⟨f, lo, hi⟩ := T
    dsimp only at hF hL h7 ⊢
    have h3 : f = 0 ∨ f = 1 ∨ f = 2 ∨ f = 3 ∨ f = 4 ∨ f = 5 ∨ f = 6 := by omega
    rcases h3 with rfl | rfl | rfl | rfl | rfl | rfl | rfl
    · exact refCheck0 w k a b c lo hi hF
    · exact refCheck1 w k a b c lo hi hF
    · exact refCheck2 w k a b c lo hi hF
    · exact refCheck3 w k a b c lo hi hF
    · exact refCheck4 w k a b c lo hi hF (fun w => hL w (by decide))
    · exact refCheck5 w k a b c lo hi hF (fun w => hL w (by decide))
    · exact refCheck6 w k a b c lo hi hF (fun w => hL w (by decide))
end Go.Proofs.YtpadpggdealgkaaDoorRRR
