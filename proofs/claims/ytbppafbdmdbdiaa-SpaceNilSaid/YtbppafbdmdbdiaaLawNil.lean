/-
  The law SpaceNil, walked.
-/
import Derived.Test.YtbppafbdmdbdiaaSpNil
namespace Go.Proofs.Ytbppafbdmdbdiaa
open Go.RowKit
set_option linter.unusedVariables false

set_option maxRecDepth 100000 in
set_option maxHeartbeats 8000000 in
theorem nil_walk (w : World) (k h x n : Int) (t : ByteArray) (hwf : (Lit.int .u8 k).wf = true ∧ (Lit.int .u8 h).wf = true ∧ (Lit.int .i64 x).wf = true ∧ (Lit.int .i64 n).wf = true ∧ t.size ≤ maxLen) :
    Calls Try.prog 10 #[.agg #[.int .u8 k, .int .u8 h, .int .i64 x, .int .i64 n, .string t]] w fun e w' => e = .returned (.bool true) ∧ Below w.heap.size w w' := by
  have hb0 : Below w.heap.size w (w.alloc (.cells #[.int .u8 k, .int .u8 h, .int .i64 x, .int .i64 n, .string t] 45)) := (Below.refl _ _).alloc (Nat.le_refl _) _
  have hk0 := Blk.new w 45 #[.int .u8 k, .int .u8 h, .int .i64 x, .int .i64 n, .string t]
  have hq1 := nil23
  clear hwf
  have HB0 := Lib.hid hb0
  have HK0 := Lib.hid hk0
  clear hb0 hk0
  go_enter Try.func10, Try.ntmps10
  go_wp2_with fail
  refine (load_nil _ x n).mono ?_
  rintro e w' ⟨rfl, rfl⟩
  dsimp only
  go_wp2_with fail
  refine (word_nil _ x).mono ?_
  rintro e w' ⟨rfl, rfl⟩
  dsimp only
  go_wp2_with fail
  refine (text_nil _ x n).mono ?_
  rintro e w' ⟨rfl, rfl⟩
  dsimp only
  go_wp2_with fail
  refine (page_nil _ x).mono ?_
  rintro e w' ⟨rfl, rfl⟩
  dsimp only
  go_wp2_with fail
  have hb0 := HB0.out
  have hk0 := HK0.out
  clear HB0 HK0
  generalize w.alloc (.cells #[.int .u8 k, .int .u8 h, .int .i64 x, .int .i64 n, .string t] 45) = W0 at *
  refine (new_on W0).mono ?_
  rintro e w1 ⟨rfl, _, nb⟩
  generalize W0.heap.size + 1 = gp at *
  replace hk0 := hk0.below nb hk0.lt
  replace hb0 := hb0.trans (nb.mono hb0.size)
  clear nb
  have c2 := hk0.cell 2
  have c3 := hk0.cell 3
  have c4 := hk0.cell 4
  simp at c2 c3 c4
  dsimp only
  go_wp2_with fail
  refine (known_any w1).mono ?_
  rintro e w2 ⟨rfl, nb⟩
  replace hk0 := hk0.below nb hk0.lt
  replace hb0 := hb0.trans (nb.mono hb0.size)
  clear nb c2 c3 c4
  have c2 := hk0.cell 2
  have c3 := hk0.cell 3
  have c4 := hk0.cell 4
  simp at c2 c3 c4
  dsimp only
  go_wp2_with fail
  refine (store_nil _ x t).mono ?_
  rintro e w' ⟨rfl, rfl⟩
  dsimp only
  go_wp2_with fail
  refine (setWord_nil w2 x).mono ?_
  rintro e w3 ⟨rfl, nb⟩
  replace hk0 := hk0.below nb hk0.lt
  replace hb0 := hb0.trans (nb.mono hb0.size)
  clear nb c2 c3 c4
  have c2 := hk0.cell 2
  have c3 := hk0.cell 3
  have c4 := hk0.cell 4
  simp at c2 c3 c4
  dsimp only
  go_wp2_with fail
  refine (map_nil _ x t).mono ?_
  rintro e w' ⟨rfl, rfl⟩
  dsimp only
  go_wp2_with fail
  refine (unmap_nil _ x).mono ?_
  rintro e w' ⟨rfl, rfl⟩
  dsimp only
  go_wp2_with fail
  refine (has_nil _ x).mono ?_
  rintro e w' ⟨rfl, rfl⟩
  dsimp only
  go_wp2_with fail
  refine (pages_nil _).mono ?_
  rintro e w' ⟨rfl, rfl⟩
  dsimp only
  go_wp2_with fail
  refine (asked_nil _).mono ?_
  rintro e w' ⟨rfl, rfl⟩
  dsimp only
  go_wp2_with fail
  refine (changes_nil _).mono ?_
  rintro e w' ⟨rfl, rfl⟩
  dsimp only
  go_wp2_with fail
  refine (fork_nil _).mono ?_
  rintro e w' ⟨rfl, rfl⟩
  dsimp only
  go_wp2_with fail
  refine (shared_nil _ _ gp (.inr rfl)).mono ?_
  rintro e w' ⟨rfl, rfl⟩
  dsimp only
  go_wp2_with fail
  refine (shared_nil2 _ gp).mono ?_
  rintro e w' ⟨rfl, rfl⟩
  dsimp only
  go_wp2_with fail
  refine (shared_nil _ _ 0 (.inl rfl)).mono ?_
  rintro e w' ⟨rfl, rfl⟩
  dsimp only
  go_wp2_with fail
  refine (equal_nil _).mono ?_
  rintro e w' ⟨rfl, rfl⟩
  dsimp only
  go_wp2_with fail
  refine (equal_nil1 _ gp).mono ?_
  rintro e w' ⟨rfl, rfl⟩
  dsimp only
  go_wp2_with fail
  refine (equal_nil2 _ gp).mono ?_
  rintro e w' ⟨rfl, rfl⟩
  dsimp only
  go_wp2_with fail
  go_ret
  exact ⟨by first | rfl | simp, hb0⟩
end Go.Proofs.Ytbppafbdmdbdiaa
