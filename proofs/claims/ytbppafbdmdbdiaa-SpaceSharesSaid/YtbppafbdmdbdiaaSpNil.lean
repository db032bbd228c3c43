/-
  Walks: what a nil space answers.
-/
import Derived.Test.YtbppafbdmdbdiaaSpO
namespace Go.Proofs.Ytbppafbdmdbdiaa
open Go.RowKit
set_option linter.unusedVariables false

theorem nil23 (W : World) : (binOp BinOp.eql 23 (.pointer none) (.pointer none)).run Try.prog W = .ok (.bool true) W := by kernel_rfl
theorem nil23n (W : World) : (binOp BinOp.neq 23 (.pointer none) (.pointer none)).run Try.prog W = .ok (.bool false) W := by kernel_rfl

theorem load_nil (w : World) (x n : Int) : Calls Try.prog 15 #[.pointer none, .int .i64 x, .int .i64 n] w fun e w' => e = .returned (.tuple #[.string ⟨#[]⟩, .int .i64 1]) ∧ w = w' := by
  have hq := nil23
  go_enter Try.func15, Try.ntmps15
  go_wp2_with fail
  go_ret2
  exact ⟨rfl, rfl⟩
theorem word_nil (w : World) (x : Int) : Calls Try.prog 32 #[.pointer none, .int .i64 x] w fun e w' => e = .returned (.tuple #[.int .u32 0, .int .i64 1]) ∧ w = w' := by
  go_enter Try.func32, Try.ntmps32
  go_wp2_with fail
  refine (load_nil _ _ _).mono ?_
  rintro e w' ⟨rfl, rfl⟩
  dsimp only
  go_wp2_with fail
  go_ret2
  exact ⟨rfl, rfl⟩
theorem text_nil (w : World) (x n : Int) : Calls Try.prog 16 #[.pointer none, .int .i64 x, .int .i64 n] w fun e w' => e = .returned (.tuple #[.string ⟨#[]⟩, .int .i64 1]) ∧ w = w' := by
  have hq := nil23
  go_enter Try.func16, Try.ntmps16
  go_wp2_with fail
  go_step3
  go_wp2_with fail
  rw [Exit.noGoto_ret]
  go_ret2
  exact ⟨rfl, rfl⟩
theorem page_nil (w : World) (x : Int) : Calls Try.prog 28 #[.pointer none, .int .i64 x] w fun e w' => e = .returned (.tuple #[.string ⟨#[]⟩, .int .i64 1]) ∧ w = w' := by
  have hq := nil23
  go_enter Try.func28, Try.ntmps28
  go_wp2_with fail
  go_ret2
  exact ⟨rfl, rfl⟩
theorem store_nil (w : World) (x : Int) (t : ByteArray) : Calls Try.prog 14 #[.pointer none, .int .i64 x, .string t] w fun e w' => e = .returned (.int .i64 1) ∧ w = w' := by
  have hq := nil23
  go_enter Try.func14, Try.ntmps14
  go_wp2_with fail
  go_ret
  exact ⟨rfl, rfl⟩
theorem map_nil (w : World) (x : Int) (t : ByteArray) : Calls Try.prog 13 #[.pointer none, .int .i64 x, .string t] w fun e w' => e = .returned (.int .i64 1) ∧ w = w' := by
  have hq := nil23
  go_enter Try.func13, Try.ntmps13
  go_wp2_with fail
  go_ret
  exact ⟨rfl, rfl⟩
theorem unmap_nil (w : World) (x : Int) : Calls Try.prog 23 #[.pointer none, .int .i64 x] w fun e w' => e = .returned (.int .i64 1) ∧ w = w' := by
  have hq := nil23
  go_enter Try.func23, Try.ntmps23
  go_wp2_with fail
  go_ret
  exact ⟨rfl, rfl⟩
theorem has_nil (w : World) (x : Int) : Calls Try.prog 33 #[.pointer none, .int .i64 x] w fun e w' => e = .returned (.bool false) ∧ w = w' := by
  have hq := nil23n
  go_enter Try.func33, Try.ntmps33
  go_wp2_with fail
  go_ret
  exact ⟨rfl, rfl⟩
theorem pages_nil (w : World) : Calls Try.prog 34 #[.pointer none] w fun e w' => e = .returned (.slice none 0 0) ∧ w = w' := by
  go_enter Try.func34, Try.ntmps34
  go_wp2_with fail
  go_loopg [3, 5] 64 (fun q lv iv wr => wr = w ∧ lv = .slice none 0 0 ∧ ∃ k : Nat, iv = .int .i64 k ∧ q = 64 - k ∧ k ≤ 64)
  case atStart => exact ⟨rfl, rfl, 0, rfl, rfl, by omega⟩
  case round =>
    obtain ⟨rfl, rfl, k, rfl, rfl, hk⟩ := hrel
    by_cases hlt : k < 64
    · have i1 : (k : Int) < 64 := by omega
      go_wp2_with fail
      refine (has_nil _ _).mono ?_
      rintro e w' ⟨rfl, rfl⟩
      dsimp only
      go_wp2_with fail
      go_roundg (64 - (k + 1))
      case measure => omega
      case rel => exact ⟨rfl, rfl, k + 1, by go_num, rfl, by omega⟩
    · obtain rfl : k = 64 := by omega
      have i1 : decide (((64 : Nat) : Int) < 64) = false := by decide
      go_wp2_with fail
      go_ret
      exact ⟨rfl, rfl⟩
theorem asked_nil (w : World) : Calls Try.prog 26 #[.pointer none] w fun e w' => e = .returned (.slice none 0 0) ∧ w = w' := by
  have hq := nil23
  go_enter Try.func26, Try.ntmps26
  go_wp2_with fail
  go_ret
  exact ⟨rfl, rfl⟩
theorem changes_nil (w : World) : Calls Try.prog 24 #[.pointer none] w fun e w' => e = .returned (.slice none 0 0) ∧ w = w' := by
  have hq := nil23
  go_enter Try.func24, Try.ntmps24
  go_wp2_with fail
  go_ret
  exact ⟨rfl, rfl⟩
theorem fork_nil (w : World) : Calls Try.prog 20 #[.pointer none] w fun e w' => e = .returned (.pointer none) ∧ w = w' := by
  have hq := nil23
  go_enter Try.func20, Try.ntmps20
  go_wp2_with fail
  go_ret
  exact ⟨rfl, rfl⟩
theorem shared_nil (w : World) (v : Value) (q : Nat) (hv : v = .pointer none ∨ v = .pointer (some ⟨q, 0, none⟩)) : Calls Try.prog 19 #[.pointer none, v] w fun e w' => e = .returned (.int .i64 0) ∧ w = w' := by
  have hq := nil23
  go_enter Try.func19, Try.ntmps19
  go_wp2_with fail
  go_ret
  exact ⟨rfl, rfl⟩
theorem shared_nil2 (w : World) (q : Nat) : Calls Try.prog 19 #[.pointer (some ⟨q, 0, none⟩), .pointer none] w fun e w' => e = .returned (.int .i64 0) ∧ w = w' := by
  have hq := nil23
  have hq2 := ptr23_some
  go_enter Try.func19, Try.ntmps19
  go_wp2_with fail
  go_ret
  exact ⟨rfl, rfl⟩
theorem equal_nil (w : World) : Calls Try.prog 21 #[.pointer none, .pointer none] w fun e w' => e = .returned (.bool true) ∧ w = w' := by
  have hq := nil23
  go_enter Try.func21, Try.ntmps21
  go_wp2_with fail
  go_ret
  exact ⟨rfl, rfl⟩
theorem equal_nil1 (w : World) (q : Nat) : Calls Try.prog 21 #[.pointer none, .pointer (some ⟨q, 0, none⟩)] w fun e w' => e = .returned (.bool false) ∧ w = w' := by
  have hq := nil23
  have hq2 := ptr23_some
  go_enter Try.func21, Try.ntmps21
  go_wp2_with fail
  go_ret
  exact ⟨rfl, rfl⟩
theorem equal_nil2 (w : World) (q : Nat) : Calls Try.prog 21 #[.pointer (some ⟨q, 0, none⟩), .pointer none] w fun e w' => e = .returned (.bool false) ∧ w = w' := by
  have hq := nil23
  have hq2 := ptr23_some
  go_enter Try.func21, Try.ntmps21
  go_wp2_with fail
  go_ret
  exact ⟨rfl, rfl⟩

set_option maxRecDepth 100000 in
theorem setWord_nil (w : World) (x : Int) : Calls Try.prog 22 #[.pointer none, .int .i64 x, .int .u32 1] w fun e w' => e = .returned (.int .i64 1) ∧ Below w.heap.size w w' := by
  have hrd : RdB (w.alloc (.cells #[.int .u8 1, .int .u8 0, .int .u8 0, .int .u8 0] 5)) (w.heap.size + 1) (.slice (some ⟨w.heap.size, 0, none⟩) 4 4) [1, 0, 0, 0] := by
    refine ⟨_, 4, rfl, by simp, by simp [maxLen], by simp [bs], fun _ => ⟨_, rfl, by simp, fun j u hu => ?_⟩⟩
    rw [add_at0, World.cell?_alloc_mark]
    simpa [bs] using hu
  have hcv := run_convert_string (P := Try.prog) Try.underlying27 Try.underlying5 Try.underlying9 hrd
  go_enter Try.func22, Try.ntmps22
  go_wp2_with fail
  refine (store_nil _ _ _).mono ?_
  rintro e w' ⟨rfl, rfl⟩
  dsimp only
  go_wp2_with fail
  go_ret
  exact ⟨rfl, (Below.refl _ _).alloc (Nat.le_refl _) _⟩
end Go.Proofs.Ytbppafbdmdbdiaa
