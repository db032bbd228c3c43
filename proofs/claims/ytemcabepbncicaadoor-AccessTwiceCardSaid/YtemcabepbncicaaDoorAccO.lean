/-
  Walks: the laws' known.
-/
import Derived.Test.YtemcabepbncicaaDoorAccN
import Derived.Test.YtemcabepbncicaaDoorAccC
namespace Go.Proofs.YtemcabepbncicaaDoor
open Go.RowKit

theorem known_text : textN 488 = [114, 119, 120, 114, 45, 120, 45, 45, 45] := by decide +kernel
theorem known_apply : applyV 420 [117, 43, 120, 44, 103, 111, 61] = (448, 0, 0) := by decide +kernel
theorem known_require : requireV 8 [4] 7 3 488 4 = 14 := by decide +kernel

theorem rdi_const (w : World) (t : TypeId) (fr : Nat × Nat) (l : List Int) (hl : l.length ≤ maxLen) : RdI (w.alloc (.cells (l.map (Value.int .i64)).toArray t fr)) (w.heap.size + 1) (.slice (some ⟨w.heap.size, 0, none⟩) l.length l.length) l := by
  refine ⟨_, _, rfl, Nat.le_refl _, hl, by simp, fun _ => ⟨_, rfl, by simp, fun j u hu => ?_⟩⟩
  rw [add_at0, World.cell?_alloc_mark]
  simpa using hu

set_option maxHeartbeats 4000000 in
theorem known_any (w : World) (hs : Sh w) : Calls Tryd.prog 14 #[] w fun e w' => e = .returned (.bool true) ∧ Below w.heap.size w w' := by
  have ht := text_any w 488 (by omega)
  rw [known_text] at ht
  have HT := Lib.hid ht
  clear ht
  go_enter Tryd.func14, Tryd.ntmps14
  go_wp2_with fail
  refine HT.out.mono ?_
  rintro e w1 ⟨rfl, nb⟩
  have b1 := nb
  clear nb
  dsimp only
  go_wp2_with fail
  refine (apply_any w1 420 ⟨#[117, 43, 120, 44, 103, 111, 61]⟩ (by decide) (hs.belowS b1)).mono ?_
  rintro e w2 ⟨hr, nb⟩
  have hb : bl ⟨#[117, 43, 120, 44, 103, 111, 61]⟩ = [117, 43, 120, 44, 103, 111, 61] := rfl
  rw [hb, known_apply] at hr
  unfold AppRet at hr
  subst hr
  have b2 := b1.trans (nb.mono b1.size)
  clear nb hb b1
  dsimp only
  go_wp2_with fail
  refine (require_any _ _ _ [4] 8 7 3 488 4 (rdi_const w2 3 (0, 0) [4] (by simp [maxLen])) (by simp) (hs.belowS (b2.alloc b2.size _))).mono ?_
  rintro e w3 ⟨rfl, nb⟩
  rw [known_require]
  have b3 : Below w.heap.size w w3 := (b2.alloc b2.size _).trans (nb.mono (by have := b2.size; simp; omega))
  clear nb b2
  dsimp only
  go_wp2_with fail
  go_ret
  exact ⟨rfl, b3⟩
end Go.Proofs.YtemcabepbncicaaDoor
