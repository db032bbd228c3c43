/-
  Walks: what a clause does; Apply.
-/
import Derived.Test.YtemcabepbncicaaDoorAccK
namespace Go.Proofs.YtemcabepbncicaaDoor
open Go.RowKit

/-- What a clause does to a mode. -/
def applyN (x : UInt8) (c : Nat → Bool) (b m : Nat) : Nat := if x = 43 then m ||| b else if x = 45 then clr m b else clr m (allN c) ||| b

theorem allN_lt (c : Nat → Bool) : allN c < 2048 := by
  have h := inC_lt 7 (by omega) c 3
  have h1 : inC 7 c 3 ||| 512 < 2048 := Nat.or_lt_two_pow (n := 11) (by omega) (by omega)
  have h2 : inC 7 c 3 ||| 1024 < 2048 := Nat.or_lt_two_pow (n := 11) (by omega) (by omega)
  have h3 : (inC 7 c 3 ||| 512) ||| 1024 < 2048 := Nat.or_lt_two_pow (n := 11) h1 (by omega)
  unfold allN
  dsimp only
  repeat' split
  all_goals omega
theorem applyN_lt (x : UInt8) (c : Nat → Bool) (b m : Nat) (hb : b < 2048) (hm : m < 2048) : applyN x c b m < 2048 := by
  unfold applyN
  repeat' split
  · exact Nat.or_lt_two_pow (n := 11) hm hb
  · exact clr_lt m b 11 hm
  · exact Nat.or_lt_two_pow (n := 11) (clr_lt m _ 11 hm) hb

theorem fn43_any (w : World) (g m b : Nat) (hg : Blk w g 3 #[.int .i64 b]) (hm : m < 2048) (hb : b < 2048) :
    Calls Tryd.prog 43 #[.int .i64 m, .pointer (some ⟨g, 0, none⟩)] w fun e w' => e = .returned (.int .i64 ((m ||| b : Nat) : Int)) ∧ Below w.heap.size w w' := by
  have c0 := hg.cell 0
  simp at c0
  have ho := i64_or_nat m b (by omega) (by omega)
  go_enter Tryd.func43, Tryd.ntmps43
  go_wp2_with fail
  go_ret
  exact ⟨rfl, Below.refl _ _⟩

theorem fn44_any (w : World) (g m b : Nat) (hg : Blk w g 3 #[.int .i64 b]) (hm : m < 2048) (hb : b < 2048) :
    Calls Tryd.prog 44 #[.int .i64 m, .pointer (some ⟨g, 0, none⟩)] w fun e w' => e = .returned (.int .i64 (clr m b : Nat)) ∧ Below w.heap.size w w' := by
  have c0 := hg.cell 0
  simp at c0
  have ho := i64_andNot_nat m b (by omega) (by omega)
  go_enter Tryd.func44, Tryd.ntmps44
  go_wp2_with fail
  go_ret
  exact ⟨rfl, Below.refl _ _⟩

set_option maxHeartbeats 1000000 in
theorem fn45_any (w : World) (g h m b : Nat) (c : Nat → Bool) (hg : Blk w g 3 #[.int .i64 b]) (hh : Blk w h 49 #[.bool (c 0), .bool (c 1), .bool (c 2)]) (hm : m < 2048) (hb : b < 2048) (hs : Sh w) :
    Calls Tryd.prog 45 #[.int .i64 m, .pointer (some ⟨h, 0, none⟩), .pointer (some ⟨g, 0, none⟩)] w fun e w' => e = .returned (.int .i64 ((clr m (allN c) ||| b : Nat) : Int)) ∧ Below w.heap.size w w' := by
  have d0 := hg.cell 0
  have c0 := hh.cell 0
  have c1 := hh.cell 1
  have c2 := hh.cell 2
  simp at d0 c0 c1 c2
  have hal := allN_lt c
  have ho := i64_andNot_nat m (allN c) (by omega) (by omega)
  have ho2 := i64_or_nat (clr m (allN c)) b (by have := clr_lt m (allN c) 11 hm; omega) (by omega)
  have HAL := Lib.hid (allOf_any w.drew c (hs.below ((Below.refl 1 w).drew) (by omega)))
  unfold clsV at HAL
  generalize allN c = al at *
  generalize clr m al = cl at *
  generalize cl ||| b = r at *
  go_enter Tryd.func45, Tryd.ntmps45
  go_wp2_with fail
  refine wp_region_mixS (fun W => W.cell? ⟨g, 0, none⟩ = some (.int .i64 b) ∧ W.cell? ⟨h, 0, none⟩ = some (.bool (c 0)) ∧ W.cell? ⟨h, 1, none⟩ = some (.bool (c 1)) ∧ W.cell? ⟨h, 2, none⟩ = some (.bool (c 2)))
    [0, 1, 2, 3, 4, 5] [2] [0, 1, 4, 2, 3, 5, 6] (by kernel_rfl) (by kernel_rfl) ⟨d0, c0, c1, c2⟩ ?_
  simp only [inOrder, opAt]
  iterate 3
    (refine wpMixS_read (v := ?_) rfl rfl (fun w' hS => ?_) ?_
     rotate_left
     · ((try replace hS := hS rfl); (try dsimp only at hS); go_simp; (try with_reducible rfl))
     try simp only [Act.put, List.setIfInBounds_toArray, List.set_cons_zero, List.set_cons_succ])
  refine wpMixS_eff rfl rfl (fun K hK => ?_)
  go_simp
  refine HAL.out.mono ?_
  rintro e w2 ⟨rfl, nb⟩
  have hlg := hg.lt
  have hlh := hh.lt
  dsimp only
  refine hK.out _ _ _ (fun _ h => h) (fun _ => ⟨(nb.cell (p := ⟨g, 0, none⟩) hlg).trans d0, (nb.cell (p := ⟨h, 0, none⟩) hlh).trans c0, (nb.cell (p := ⟨h, 1, none⟩) hlh).trans c1, (nb.cell (p := ⟨h, 2, none⟩) hlh).trans c2⟩) ?_
  clear hK K
  try simp only [Act.put, List.setIfInBounds_toArray, List.set_cons_zero, List.set_cons_succ]
  iterate 3
    (refine wpMixS_read (v := ?_) rfl rfl (fun w' hS => ?_) ?_
     rotate_left
     · ((try replace hS := hS rfl); (try dsimp only at hS); go_simp; (try with_reducible rfl))
     try simp only [Act.put, List.setIfInBounds_toArray, List.set_cons_zero, List.set_cons_succ])
  refine wpMixS_nil ?_
  go_wp2_with fail
  go_ret
  exact ⟨rfl, (Below.refl _ _).drew.trans nb⟩
end Go.Proofs.YtemcabepbncicaaDoor
