/-
  The reference: Same.
-/
import Derived.Test.YtbppafbdmdbdiaaPlB
namespace Go.Proofs.Ytbppafbdmdbdiaa
open Go.RowKit
set_option linter.unusedVariables false

theorem eqUp_all (a b : AS) (k : Nat) (h1 : eqUp a b k = true) (h2 : a.page k = b.page k) : eqUp a b (k + 1) = true := by rw [eqUp_succ, h1, h2]; simp
set_option maxRecDepth 100000 in
set_option maxHeartbeats 8000000 in
theorem refSame_any (w : World) (m1 m2 : Value) (a b : AS) (ha : AOk a) (hb : AOk b) :
    Calls Try.prog 29 #[.agg (rsCells (rsOf m1 a)), .agg (rsCells (rsOf m2 b))] w fun e w' => e = .returned (.bool (eqA a b)) ∧ Below w.heap.size w w' := by
  have h1 : SB ((w.alloc (.cells (rsCells (rsOf m1 a)) 61)).alloc (.cells (rsCells (rsOf m2 b)) 61)) w.heap.size (rsOf m1 a) := (Blk.new w 61 _).alloc _
  have h2 : SB ((w.alloc (.cells (rsCells (rsOf m1 a)) 61)).alloc (.cells (rsCells (rsOf m2 b)) 61)) (w.heap.size + 1) (rsOf m2 b) := Blk.new_ _ _ _ (by simp)
  have h3 : Below w.heap.size w ((w.alloc (.cells (rsCells (rsOf m1 a)) 61)).alloc (.cells (rsCells (rsOf m2 b)) 61)) := ((Below.refl _ _).alloc (Nat.le_refl _) _).alloc (by simp) _
  have H1 := Lib.hid h1
  have H2 := Lib.hid h2
  have H3 := Lib.hid h3
  have HA := Lib.hid ha
  have HB := Lib.hid hb
  clear h1 h2 h3 ha hb
  go_enter Try.func29, Try.ntmps29
  go_upto_region 1 with (fail)
  generalize ((w.alloc (.cells (rsCells (rsOf m1 a)) 61)).alloc (.cells (rsCells (rsOf m2 b)) 61)) = W0 at *
  obtain ⟨q, hq⟩ : ∃ q, q = w.heap.size := ⟨_, rfl⟩
  rw [← hq] at H1 H2 H3 ⊢
  have HQ := Lib.hid hq
  clear hq
  go_wp2_with fail
  go_loopg [5] 64 (fun z iv wr => ∃ k : Nat, z = 64 - k ∧ k ≤ 64 ∧ iv = .int .i64 k ∧ eqUp a b k = true ∧ Below q w wr ∧ SB wr q (rsOf m1 a) ∧ SB wr (q + 1) (rsOf m2 b))
  case atStart => exact ⟨0, rfl, by omega, rfl, rfl, H3.out, H1.out, H2.out⟩
  case round =>
    obtain ⟨k, rfl, hk, rfl, heq, hbl, hs1, hs2⟩ := hrel
    have HEQ := Lib.hid heq
    have HBL := Lib.hid hbl.drew
    have HS1 := Lib.hid hs1.drew
    have HS2 := Lib.hid hs2.drew
    have HBL0 := Lib.hid hbl
    clear heq hbl hs1 hs2
    by_cases hlt : k < 64
    · have i1 : (k : Int) < 64 := by omega
      have i0 : (0 : Int) ≤ (k : Int) := by omega
      have c1 : wr.drew.cell? ⟨q, 1 + k * 5 + 1, none⟩ = some (.bool (a.page k).isSome) := SB.c_th HS1.out hlt
      have c2 : wr.drew.cell? ⟨q + 1, 1 + k * 5 + 1, none⟩ = some (.bool (b.page k).isSome) := SB.c_th HS2.out hlt
      have c3 : wr.drew.cell? ⟨q, 1 + k * 5 + 4, none⟩ = some (.string ⟨((a.page k).getD []).toArray⟩) := SB.c_bt HS1.out hlt
      have c4 : wr.drew.cell? ⟨q + 1, 1 + k * 5 + 4, none⟩ = some (.string ⟨((b.page k).getD []).toArray⟩) := SB.c_bt HS2.out hlt
      by_cases hth : (a.page k).isSome = (b.page k).isSome
      · by_cases hbt : (a.page k).getD [] = (b.page k).getD []
        · have hpp : a.page k = b.page k := by
            cases h1 : a.page k with
            | none =>
              rw [h1] at hth
              cases h2 : b.page k with
              | none => rfl
              | some y => rw [h2] at hth; cases hth
            | some x =>
              rw [h1] at hth hbt
              cases h2 : b.page k with
              | none => rw [h2] at hth; cases hth
              | some y => rw [h2] at hbt; exact congrArg some hbt
          have HEQ2 := Lib.hid (eqUp_all a b k HEQ.out hpp)
          rw [← hbt] at c4
          rw [← hth] at c2
          generalize (a.page k).isSome = th at *
          generalize (a.page k).getD [] = bt at *
          clear hth hbt hpp
          cases th
          all_goals
            go_wp2_with fail
            refine wp_region_mixL (fun W => W = wr.drew) [4, 9, 16, 21] [] [0, 1, 2, 3, 4, 5, 6, 7, 8, 9, 10, 11, 12, 13, 14, 15, 16, 17, 18, 19, 20, 21, 22, 23] (by kernel_rfl) (by kernel_rfl) rfl ?_
            simp only [inOrder, opAt]
            generalize wr.drew = Wk at *
            iterate 24
              (refine wpMixS_read (v := ?_) rfl rfl (fun w' hS => ?_) ?_
               rotate_left
               · ((try (have hE : w' = Wk := hS rfl; rw [hE])); (try clear hS); go_simp; (try with_reducible rfl))
               try simp only [Act.put, List.setIfInBounds_toArray, List.set_cons_zero, List.set_cons_succ])
            refine wpMixS_nil ?_
            go_wp2_with fail
            go_roundg (64 - (k + 1))
            case measure => omega
            case rel => exact ⟨k + 1, rfl, by omega, by go_num, HEQ2.out, HBL.out, HS1.out, HS2.out⟩
        · have hres : eqA a b = false := eqUp_false a b k 64 hlt (fun e => hbt (by rw [e]))
          have HRES := Lib.hid hres
          have hne : ((a.page k).getD []).toArray ≠ ((b.page k).getD []).toArray := fun e => hbt (by simpa using congrArg Array.toList e)
          rw [← hth] at c2
          generalize (a.page k).isSome = th at *
          generalize (a.page k).getD [] = bt at *
          generalize (b.page k).getD [] = bt2 at *
          have hne2 : ¬ bt = bt2 := hbt
          have hne3 : (bt == bt2) = false := beq_eq_false_iff_ne.2 hbt
          clear hth hres
          cases th
          all_goals
            go_wp2_with fail
            refine wp_region_mixL (fun W => W = wr.drew) [4, 9, 16, 21] [] [0, 1, 2, 3, 4, 5, 6, 7, 8, 9, 10, 11, 12, 13, 14, 15, 16, 17, 18, 19, 20, 21, 22, 23] (by kernel_rfl) (by kernel_rfl) rfl ?_
            simp only [inOrder, opAt]
            generalize wr.drew = Wk at *
            iterate 24
              (refine wpMixS_read (v := ?_) rfl rfl (fun w' hS => ?_) ?_
               rotate_left
               · ((try (have hE : w' = Wk := hS rfl; rw [hE])); (try clear hS); go_simp; (try with_reducible rfl))
               try simp only [Act.put, List.setIfInBounds_toArray, List.set_cons_zero, List.set_cons_succ])
            refine wpMixS_nil ?_
            go_wp2_with fail
            go_ret
            exact ⟨by rw [HRES.out] <;> rfl, by rw [← HQ.out]; exact HBL.out⟩
      · have hres : eqA a b = false := eqUp_false a b k 64 hlt (fun e => hth (by rw [e]))
        have HRES := Lib.hid hres
        generalize (a.page k).isSome = th at *
        generalize (b.page k).isSome = th2 at *
        clear hres
        cases th <;> cases th2
        · exact absurd rfl hth
        · clear hth
          go_wp2_with fail
          refine wp_region_mixL (fun W => W = wr.drew) [4, 9, 16, 21] [] [0, 1, 2, 3, 4, 5, 6, 7, 8, 9, 10, 11, 12, 13, 14, 15, 16, 17, 18, 19, 20, 21, 22, 23] (by kernel_rfl) (by kernel_rfl) rfl ?_
          simp only [inOrder, opAt]
          generalize wr.drew = Wk at *
          iterate 12
            (refine wpMixS_read (v := ?_) rfl rfl (fun w' hS => ?_) ?_
             rotate_left
             · ((try (have hE : w' = Wk := hS rfl; rw [hE])); (try clear hS); go_simp; (try with_reducible rfl))
             try simp only [Act.put, List.setIfInBounds_toArray, List.set_cons_zero, List.set_cons_succ])
          iterate 11
            (refine wpMixS_skip rfl rfl ?_
             try simp only [Act.put, List.setIfInBounds_toArray, List.set_cons_zero, List.set_cons_succ])
          iterate 1
            (refine wpMixS_read (v := ?_) rfl rfl (fun w' hS => ?_) ?_
             rotate_left
             · ((try (have hE : w' = Wk := hS rfl; rw [hE])); (try clear hS); go_simp; (try with_reducible rfl))
             try simp only [Act.put, List.setIfInBounds_toArray, List.set_cons_zero, List.set_cons_succ])
          refine wpMixS_nil ?_
          go_wp2_with fail
          go_ret
          exact ⟨by rw [HRES.out] <;> rfl, by rw [← HQ.out]; exact HBL.out⟩
        · clear hth
          go_wp2_with fail
          refine wp_region_mixL (fun W => W = wr.drew) [4, 9, 16, 21] [] [0, 1, 2, 3, 4, 5, 6, 7, 8, 9, 10, 11, 12, 13, 14, 15, 16, 17, 18, 19, 20, 21, 22, 23] (by kernel_rfl) (by kernel_rfl) rfl ?_
          simp only [inOrder, opAt]
          generalize wr.drew = Wk at *
          iterate 12
            (refine wpMixS_read (v := ?_) rfl rfl (fun w' hS => ?_) ?_
             rotate_left
             · ((try (have hE : w' = Wk := hS rfl; rw [hE])); (try clear hS); go_simp; (try with_reducible rfl))
             try simp only [Act.put, List.setIfInBounds_toArray, List.set_cons_zero, List.set_cons_succ])
          iterate 11
            (refine wpMixS_skip rfl rfl ?_
             try simp only [Act.put, List.setIfInBounds_toArray, List.set_cons_zero, List.set_cons_succ])
          iterate 1
            (refine wpMixS_read (v := ?_) rfl rfl (fun w' hS => ?_) ?_
             rotate_left
             · ((try (have hE : w' = Wk := hS rfl; rw [hE])); (try clear hS); go_simp; (try with_reducible rfl))
             try simp only [Act.put, List.setIfInBounds_toArray, List.set_cons_zero, List.set_cons_succ])
          refine wpMixS_nil ?_
          go_wp2_with fail
          go_ret
          exact ⟨by rw [HRES.out] <;> rfl, by rw [← HQ.out]; exact HBL.out⟩
        · exact absurd rfl hth
    · obtain rfl : k = 64 := by omega
      have hres : eqA a b = true := HEQ.out
      have HRES := Lib.hid hres
      clear hlt hk hres
      go_wp2_with fail
      go_ret
      exact ⟨by rw [HRES.out] <;> rfl, by rw [← HQ.out]; exact HBL0.out⟩
end Go.Proofs.Ytbppafbdmdbdiaa
