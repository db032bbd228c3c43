/-
  Walks: the reference's One.
-/
import Derived.Test.YtemcabepbncicaaDoorOnes
import Derived.Test.YtemcabepbncicaaDoorMixL
import Derived.Test.YtemcabepbncicaaDoorAccC
import Derived.Deep.Cut
namespace Go.Proofs.YtemcabepbncicaaDoor
open Go.RowKit
set_option linter.unusedVariables false

theorem idx3_all (W : World) : ((Instr.index 9 (.string ⟨#[114, 119, 120]⟩) (.int .i64 ((0 : Nat) : Int))).run Tryd.prog W = .ok (.int .u8 (letterN 0).toNat) W) ∧ ((Instr.index 9 (.string ⟨#[114, 119, 120]⟩) (.int .i64 ((1 : Nat) : Int))).run Tryd.prog W = .ok (.int .u8 (letterN 1).toNat) W) ∧ ((Instr.index 9 (.string ⟨#[114, 119, 120]⟩) (.int .i64 ((2 : Nat) : Int))).run Tryd.prog W = .ok (.int .u8 (letterN 2).toNat) W) := by
  refine ⟨?_, ?_, ?_⟩ <;> kernel_rfl
theorem idx3_any (W : World) (k : Nat) (h : k < 3) : (Instr.index 9 (.string ⟨#[114, 119, 120]⟩) (.int .i64 k)).run Tryd.prog W = .ok (.int .u8 (letterN k).toNat) W := by
  obtain ⟨h0, h1, h2⟩ := idx3_all W
  match k, h with
  | 0, _ => exact h0
  | 1, _ => exact h1
  | 2, _ => exact h2

/-- index says whether a letter stands in a text. -/
theorem ridx_mem (w : World) (t : List UInt8) (c : UInt8) (hs : t.length ≤ 1000000) : Calls Tryd.prog 36 #[.string ⟨t.toArray⟩, .int .u8 c.toNat] w fun e w' => IdxB (decide (c ∈ t)) e ∧ w = w' := by
  refine (ridx_any w ⟨t.toArray⟩ c (by show t.toArray.size ≤ _; simpa using hs)).mono ?_
  rintro e w' ⟨⟨n, h1, h2, h3⟩, h4⟩
  have hb : bl ⟨t.toArray⟩ = t := by simp [bl]
  rw [hb] at h2 h3
  exact ⟨⟨n, h1, h2, h3⟩, h4⟩

theorem set_lit (w : World) (m b : Nat) (v : Int) (on : Bool) (hv : v = b) (hm : m < 4096) (hb : 0 < b) (hb2 : b < 4096) :
    Calls Tryd.prog 47 #[.int .i64 m, .int .i64 v, .bool on] w fun e w' => e = .returned (.int .i64 (setV m b on)) ∧ w = w' := by
  subst hv
  exact set_any w m b on hm hb hb2
theorem ridx_lit (w : World) (t : List UInt8) (c : UInt8) (v : Int) (hv : v = c.toNat) (hs : t.length ≤ 1000000) : Calls Tryd.prog 36 #[.string ⟨t.toArray⟩, .int .u8 v] w fun e w' => IdxB (decide (c ∈ t)) e ∧ w = w' := by
  subst hv
  exact ridx_mem w t c hs

set_option maxRecDepth 100000 in
set_option maxHeartbeats 8000000 in
theorem one_any (w : World) (m : Nat) (c : Cl) (hm : m < 2048) (ht : c.t.length ≤ 1000000) :
    Calls Tryd.prog 35 #[.int .i64 m, .agg #[.bool (clsAt c.p 0), .bool (clsAt c.p 1), .bool (clsAt c.p 2), .int .u8 c.x.toNat, .string ⟨c.t.toArray⟩]] w fun e w' => e = .returned (.int .i64 (oneV c m)) ∧ Below w.heap.size w w' := by
  have n1 := Blk.new w 51 #[.bool (clsAt c.p 0), .bool (clsAt c.p 1), .bool (clsAt c.p 2), .int .u8 c.x.toNat, .string ⟨c.t.toArray⟩]
  have n4 := bel_alloc w (.cells #[.bool (clsAt c.p 0), .bool (clsAt c.p 1), .bool (clsAt c.p 2), .int .u8 c.x.toNat, .string ⟨c.t.toArray⟩] 51)
  have N1 := Lib.hid n1
  have N4 := Lib.hid n4
  clear n1 n4
  go_enter Tryd.func35, Tryd.ntmps35
  go_upto_region 2 with (fail)
  have n1 := N1.out
  have n4 := N4.out
  clear N1 N4
  generalize w.alloc (.cells #[.bool (clsAt c.p 0), .bool (clsAt c.p 1), .bool (clsAt c.p 2), .int .u8 c.x.toNat, .string ⟨c.t.toArray⟩] 51) = W at *
  have N1 := Lib.hid n1
  have N4 := Lib.hid n4
  clear n1 n4
  go_loopg [0, 5] 3 (fun q mv kv wr => Blk wr w.heap.size 51 #[.bool (clsAt c.p 0), .bool (clsAt c.p 1), .bool (clsAt c.p 2), .int .u8 c.x.toNat, .string ⟨c.t.toArray⟩] ∧ Below w.heap.size w wr ∧ ∃ k m2 : Nat, kv = .int .i64 k ∧ mv = .int .i64 m2 ∧ q = 3 - k ∧ k ≤ 3 ∧ m2 = allGo c k m)
  case atStart => exact ⟨N1.out, N4.out, 0, m, rfl, rfl, rfl, by omega, rfl⟩
  case round =>
    obtain ⟨hblk, hbl, k, m2, rfl, rfl, rfl, hk, hmm⟩ := hrel
    clear N1 N4
    have hm2 : m2 < 2048 := by rw [hmm]; exact allGo_lt c m hm k
    have HM := Lib.hid hmm
    clear hmm
    by_cases hlt : k < 3
    · have i1 : (k : Int) < 3 := by omega
      have hck : wr.cell? ⟨w.heap.size, k, none⟩ = some (.bool (clsAt c.p k)) := by
        rw [hblk.cell]
        have : k = 0 ∨ k = 1 ∨ k = 2 := by omega
        rcases this with rfl | rfl | rfl <;> rfl
      rcases Bool.eq_false_or_eq_true (clsAt c.p k) with hq | hq
      · rw [hq] at hck
        have HQ := Lib.hid hq
        clear hq
        go_upto_region 6 with (fail)
        obtain ⟨wo, rfl⟩ : ∃ wo : World, wo = wr := ⟨_, rfl⟩
        have HB0 := Lib.hid hblk
        have HL0 := Lib.hid hbl
        clear hblk hbl hck
        go_loopg [0, 6] 3 (fun q mv jv wr => Blk wr w.heap.size 51 #[.bool (clsAt c.p 0), .bool (clsAt c.p 1), .bool (clsAt c.p 2), .int .u8 c.x.toNat, .string ⟨c.t.toArray⟩] ∧ Below w.heap.size w wr ∧ ∃ j m3 : Nat, jv = .int .i64 j ∧ mv = .int .i64 m3 ∧ q = 3 - j ∧ j ≤ 3 ∧ m3 = clsGo c k j m2)
        case atStart => exact ⟨HB0.out, HL0.out, 0, m2, rfl, rfl, rfl, by omega, rfl⟩
        case round =>
          obtain ⟨hblk, hbl, j, m3, rfl, rfl, rfl, hj, hmm⟩ := hrel
          clear HB0 HL0
          have hm3 : m3 < 2048 := by rw [hmm]; exact clsGo_lt c k m2 hm2 j
          have HM3 := Lib.hid hmm
          clear hmm
          by_cases hlt3 : j < 3
          · have j1 : (j : Int) < 3 := by omega
            have j0 : (0 : Int) ≤ (j : Int) := by omega
            have k0 : (0 : Int) ≤ (k : Int) := by omega
            have c3 := hblk.cell 3
            have c4 := hblk.cell 4
            simp at c3 c4
            go_upto_region 9 with (fail)
            obtain ⟨ee, hee⟩ : ∃ e : Nat, e = 3 * (2 - k) + 2 - j := ⟨_, rfl⟩
            have hel : ee < 11 := by omega
            have hB : wrap64 ((2 : Int) ^ (3 * (2 - k) + 2 - j)) = ((2 ^ ee : Nat) : Int) := by
              rw [← hee]
              have hp : 2 ^ ee < 2048 := Nat.pow_lt_pow_right (show 1 < 2 by omega) hel (n := 11)
              have e1 : ((2 : Int) ^ ee) = ((2 ^ ee : Nat) : Int) := by push_cast; rfl
              rw [e1]
              generalize 2 ^ ee = B0 at *
              unfold wrap64
              omega
            rw [hB]
            have hpos : 0 < 2 ^ ee := Nat.two_pow_pos ee
            have hpl : 2 ^ ee < 4096 := Nat.lt_of_lt_of_le (Nat.pow_lt_pow_right (show 1 < 2 by omega) hel) (by decide)
            have hstep : clsGo c k (j + 1) m2 = bitStep c.x c.t (letterN j) (2 ^ ee) m3 := by
              rw [HM3.out, hee]; rfl
            have HSTEP := Lib.hid hstep
            clear hB hstep hee hel
            generalize 2 ^ ee = B at *
            clear ee
            have I3 := Lib.hid (fun W => idx3_any W j hlt3)
            generalize letterN j = L at *
            refine wp_region_mixL (fun W => W.cell? ⟨w.heap.size, 4, none⟩ = some (.string ⟨c.t.toArray⟩)) [1] [4] [0, 1, 2, 3, 4, 5] (by kernel_rfl) (by kernel_rfl) c4 ?_
            simp only [inOrder, opAt]
            iterate 3
              (refine wpMixS_read (v := ?_) rfl rfl (fun w' hS => ?_) ?_
               rotate_left
               · ((try (have s0 := hS rfl)); (try clear hS); go_simp; (try with_reducible rfl))
               try simp only [Act.put, List.setIfInBounds_toArray, List.set_cons_zero, List.set_cons_succ])
            refine wpMixS_read (v := .int .u8 L.toNat) rfl rfl (fun w' hS => ?_) ?_
            · have i3 := I3.out w'
              clear hS
              go_simp
              try rfl
            try simp only [Act.put, List.setIfInBounds_toArray, List.set_cons_zero, List.set_cons_succ]
            have hbd : Below w.heap.size w wr.drew := hbl.drew
            have hbkd := hblk.drew
            clear hbl hblk c3 c4
            generalize wr.drew = W2 at *
            refine wpMixS_eff rfl rfl (fun K hK => ?_)
            go_simp
            with_reducible refine (ridx_mem W2 c.t L ht).mono ?_
            rintro e W3 ⟨⟨n, rfl, g1, g2⟩, rfl⟩
            dsimp only
            refine hK.out _ _ _ (fun _ h => h) (fun h => by cases h) ?_
            clear hK K
            try simp only [Act.put, List.setIfInBounds_toArray, List.set_cons_zero, List.set_cons_succ]
            have c3 := hbkd.cell 3
            simp at c3
            by_cases hmem : L ∈ c.t
            · rw [decide_eq_true hmem] at g1
              have hst : bitStep c.x c.t L B m3 = setV m3 B (decide (c.x ≠ 45)) := by unfold bitStep; rw [if_pos hmem]
              rw [hst] at HSTEP
              have hon : ((c.x.toNat : Int) != 45) = decide (c.x ≠ 45) := by
                rcases Decidable.em (c.x = 45) with h | h
                · rw [h]; rfl
                · rw [decide_eq_true h, bne, show ((c.x.toNat : Int) == 45) = false from u8_ne (c := 45) (by omega) h]; rfl
              generalize decide (c.x ≠ 45) = on at *
              clear hmem hst g2
              iterate 1
                (refine wpMixS_read (v := ?_) rfl rfl (fun w' hS => ?_) ?_
                 rotate_left
                 · ((try (have s0 := hS rfl)); (try clear hS); go_simp; (try with_reducible rfl))
                 try simp only [Act.put, List.setIfInBounds_toArray, List.set_cons_zero, List.set_cons_succ])
              refine wpMixS_nil ?_
              go_wp2_with fail
              with_reducible refine (set_any W2 m3 B on (by omega) hpos hpl).mono ?_
              rintro e W4 ⟨rfl, rfl⟩
              rw [← HSTEP.out]
              dsimp only
              go_wp2_with fail
              go_roundg (3 - (j + 1))
              case measure => omega
              case rel => exact ⟨hbkd, hbd, j + 1, _, by go_num, rfl, rfl, by omega, rfl⟩
            · rw [decide_eq_false hmem] at g1
              by_cases h61 : c.x = 61
              · have hst : bitStep c.x c.t L B m3 = setV m3 B false := by unfold bitStep; rw [if_neg hmem, if_pos h61]
                rw [hst] at HSTEP
                have hon : ((c.x.toNat : Int) == 61) = true := by rw [h61]; rfl
                clear hmem hst g2 h61
                iterate 1
                  (refine wpMixS_read (v := ?_) rfl rfl (fun w' hS => ?_) ?_
                   rotate_left
                   · ((try (have s0 := hS rfl)); (try clear hS); go_simp; (try with_reducible rfl))
                   try simp only [Act.put, List.setIfInBounds_toArray, List.set_cons_zero, List.set_cons_succ])
                refine wpMixS_nil ?_
                go_wp2_with fail
                with_reducible refine (set_any W2 m3 B false (by omega) hpos hpl).mono ?_
                rintro e W4 ⟨rfl, rfl⟩
                rw [← HSTEP.out]
                dsimp only
                go_wp2_with fail
                go_roundg (3 - (j + 1))
                case measure => omega
                case rel => exact ⟨hbkd, hbd, j + 1, _, by go_num, rfl, rfl, by omega, rfl⟩
              · have hst : bitStep c.x c.t L B m3 = m3 := by unfold bitStep; rw [if_neg hmem, if_neg h61]
                rw [hst] at HSTEP
                have hon : ((c.x.toNat : Int) == 61) = false := u8_ne (c := 61) (by omega) h61
                clear hmem hst g2 h61
                iterate 1
                  (refine wpMixS_read (v := ?_) rfl rfl (fun w' hS => ?_) ?_
                   rotate_left
                   · ((try (have s0 := hS rfl)); (try clear hS); go_simp; (try with_reducible rfl))
                   try simp only [Act.put, List.setIfInBounds_toArray, List.set_cons_zero, List.set_cons_succ])
                refine wpMixS_nil ?_
                go_wp2_with fail
                go_roundg (3 - (j + 1))
                case measure => omega
                case rel => exact ⟨hbkd, hbd, j + 1, m3, by go_num, rfl, rfl, by omega, HSTEP.out.symm⟩
          · obtain rfl : j = 3 := by omega
            have j1 : decide (((3 : Nat) : Int) < 3) = false := by decide
            go_wp2_with fail
            go_roundg (3 - (k + 1))
            case measure => omega
            case rel => exact ⟨hblk, hbl, k + 1, m3, by go_num, rfl, rfl, by omega, by rw [HM3.out, HM.out]; show _ = if _ then _ else _; rw [HQ.out]; rfl⟩
      · rw [hq] at hck
        have HQ := Lib.hid hq
        clear hq
        go_wp2_with fail
        go_roundg (3 - (k + 1))
        case measure => omega
        case rel => exact ⟨hblk, hbl, k + 1, m2, by go_num, rfl, rfl, by omega, by rw [HM.out]; show _ = if _ then _ else _; rw [HQ.out]; rfl⟩
    · obtain rfl : k = 3 := by omega
      have i1 : decide (((3 : Nat) : Int) < 3) = false := by decide
      have hmf : oneV c m = oneC c (oneB c m2) := by rw [HM.out]; rfl
      have HF := Lib.hid hmf
      have k0 := hblk.cell 0
      have k2 := hblk.cell 2
      have k3 := hblk.cell 3
      have k4 := hblk.cell 4
      simp at k0 k2 k3 k4
      clear hmf HM hblk
      obtain ⟨on, hon0⟩ : ∃ on : Bool, on = decide (c.x ≠ 45) := ⟨_, rfl⟩
      have HON := Lib.hid hon0
      have hon : ((c.x.toNat : Int) != 45) = on := by
        rw [hon0]
        rcases Decidable.em (c.x = 45) with h | h
        · rw [h]; rfl
        · rw [decide_eq_true h, bne, show ((c.x.toNat : Int) == 45) = false from u8_ne (c := 45) (by omega) h]; rfl
      clear hon0
      by_cases h61 : c.x = 61
      · have e61 : ((c.x.toNat : Int) == 61) = true := by rw [h61]; rfl
        have H61 := Lib.hid h61
        clear h61
        rcases Bool.eq_false_or_eq_true (clsAt c.p 0) with hqa | hqa
        · rw [hqa] at k0
          by_cases hmema : 115 ∈ c.t
          · have hst : oneB c m2 = setV m2 512 on := by unfold oneB bitStep; rw [if_pos hqa, if_pos hmema, HON.out]
            have HSTa := Lib.hid hst
            clear hst
            go_wp2_with fail
            with_reducible refine (ridx_lit wr c.t 115 115 rfl ht).mono ?_
            rintro e W3 ⟨⟨na, rfl, g1a, g2a⟩, rfl⟩
            rw [decide_eq_true hmema] at g1a
            clear g2a
            dsimp only
            go_wp2_with fail
            with_reducible refine (set_lit wr m2 512 512 on rfl (by omega) (by omega) (by omega)).mono ?_
            rintro e W4 ⟨rfl, rfl⟩
            rw [← HSTa.out]
            dsimp only
            clear g1a
            have hlt4 := oneB_lt c m2 hm2
            generalize oneB c m2 = m4 at *
            rcases Bool.eq_false_or_eq_true (clsAt c.p 2) with hqb | hqb
            · rw [hqb] at k2
              by_cases hmemb : 116 ∈ c.t
              · have hst : oneC c m4 = setV m4 1024 on := by unfold oneC bitStep; rw [if_pos hqb, if_pos hmemb, HON.out]
                have HSTb := Lib.hid hst
                clear hst
                go_wp2_with fail
                with_reducible refine (ridx_lit wr c.t 116 116 rfl ht).mono ?_
                rintro e W3 ⟨⟨nb, rfl, g1b, g2b⟩, rfl⟩
                rw [decide_eq_true hmemb] at g1b
                clear g2b
                dsimp only
                go_wp2_with fail
                with_reducible refine (set_lit wr m4 1024 1024 on rfl (by omega) (by omega) (by omega)).mono ?_
                rintro e W4 ⟨rfl, rfl⟩
                rw [← HSTb.out]
                dsimp only
                clear g1b
                go_wp2_with fail
                go_ret
                exact ⟨by rw [HF.out]; rfl, hbl⟩
              · have hst : oneC c m4 = setV m4 1024 false := by unfold oneC bitStep; rw [if_pos hqb, if_neg hmemb, if_pos H61.out]
                have HSTb := Lib.hid hst
                clear hst
                go_wp2_with fail
                with_reducible refine (ridx_lit wr c.t 116 116 rfl ht).mono ?_
                rintro e W3 ⟨⟨nb, rfl, g1b, g2b⟩, rfl⟩
                rw [decide_eq_false hmemb] at g1b
                clear g2b
                dsimp only
                go_wp2_with fail
                with_reducible refine (set_lit wr m4 1024 1024 false rfl (by omega) (by omega) (by omega)).mono ?_
                rintro e W4 ⟨rfl, rfl⟩
                rw [← HSTb.out]
                dsimp only
                clear g1b
                go_wp2_with fail
                go_ret
                exact ⟨by rw [HF.out]; rfl, hbl⟩
            · rw [hqb] at k2
              have hst : oneC c m4 = m4 := by unfold oneC; rw [if_neg (by rw [hqb]; simp)]
              have HSTb := Lib.hid hst
              clear hst
              go_wp2_with fail
              go_ret
              exact ⟨by rw [HF.out]; rw [HSTb.out]; rfl, hbl⟩
          · have hst : oneB c m2 = setV m2 512 false := by unfold oneB bitStep; rw [if_pos hqa, if_neg hmema, if_pos H61.out]
            have HSTa := Lib.hid hst
            clear hst
            go_wp2_with fail
            with_reducible refine (ridx_lit wr c.t 115 115 rfl ht).mono ?_
            rintro e W3 ⟨⟨na, rfl, g1a, g2a⟩, rfl⟩
            rw [decide_eq_false hmema] at g1a
            clear g2a
            dsimp only
            go_wp2_with fail
            with_reducible refine (set_lit wr m2 512 512 false rfl (by omega) (by omega) (by omega)).mono ?_
            rintro e W4 ⟨rfl, rfl⟩
            rw [← HSTa.out]
            dsimp only
            clear g1a
            have hlt4 := oneB_lt c m2 hm2
            generalize oneB c m2 = m4 at *
            rcases Bool.eq_false_or_eq_true (clsAt c.p 2) with hqb | hqb
            · rw [hqb] at k2
              by_cases hmemb : 116 ∈ c.t
              · have hst : oneC c m4 = setV m4 1024 on := by unfold oneC bitStep; rw [if_pos hqb, if_pos hmemb, HON.out]
                have HSTb := Lib.hid hst
                clear hst
                go_wp2_with fail
                with_reducible refine (ridx_lit wr c.t 116 116 rfl ht).mono ?_
                rintro e W3 ⟨⟨nb, rfl, g1b, g2b⟩, rfl⟩
                rw [decide_eq_true hmemb] at g1b
                clear g2b
                dsimp only
                go_wp2_with fail
                with_reducible refine (set_lit wr m4 1024 1024 on rfl (by omega) (by omega) (by omega)).mono ?_
                rintro e W4 ⟨rfl, rfl⟩
                rw [← HSTb.out]
                dsimp only
                clear g1b
                go_wp2_with fail
                go_ret
                exact ⟨by rw [HF.out]; rfl, hbl⟩
              · have hst : oneC c m4 = setV m4 1024 false := by unfold oneC bitStep; rw [if_pos hqb, if_neg hmemb, if_pos H61.out]
                have HSTb := Lib.hid hst
                clear hst
                go_wp2_with fail
                with_reducible refine (ridx_lit wr c.t 116 116 rfl ht).mono ?_
                rintro e W3 ⟨⟨nb, rfl, g1b, g2b⟩, rfl⟩
                rw [decide_eq_false hmemb] at g1b
                clear g2b
                dsimp only
                go_wp2_with fail
                with_reducible refine (set_lit wr m4 1024 1024 false rfl (by omega) (by omega) (by omega)).mono ?_
                rintro e W4 ⟨rfl, rfl⟩
                rw [← HSTb.out]
                dsimp only
                clear g1b
                go_wp2_with fail
                go_ret
                exact ⟨by rw [HF.out]; rfl, hbl⟩
            · rw [hqb] at k2
              have hst : oneC c m4 = m4 := by unfold oneC; rw [if_neg (by rw [hqb]; simp)]
              have HSTb := Lib.hid hst
              clear hst
              go_wp2_with fail
              go_ret
              exact ⟨by rw [HF.out]; rw [HSTb.out]; rfl, hbl⟩
        · rw [hqa] at k0
          have hst : oneB c m2 = m2 := by unfold oneB; rw [if_neg (by rw [hqa]; simp)]
          have HSTa := Lib.hid hst
          clear hst
          have HF4 : Hid (oneV c m = oneC c m2) := Lib.hid (by rw [HF.out, HSTa.out])
          clear HF
          have HF := HF4
          clear HF4
          rcases Bool.eq_false_or_eq_true (clsAt c.p 2) with hqb | hqb
          · rw [hqb] at k2
            by_cases hmemb : 116 ∈ c.t
            · have hst : oneC c m2 = setV m2 1024 on := by unfold oneC bitStep; rw [if_pos hqb, if_pos hmemb, HON.out]
              have HSTb := Lib.hid hst
              clear hst
              go_wp2_with fail
              with_reducible refine (ridx_lit wr c.t 116 116 rfl ht).mono ?_
              rintro e W3 ⟨⟨nb, rfl, g1b, g2b⟩, rfl⟩
              rw [decide_eq_true hmemb] at g1b
              clear g2b
              dsimp only
              go_wp2_with fail
              with_reducible refine (set_lit wr m2 1024 1024 on rfl (by omega) (by omega) (by omega)).mono ?_
              rintro e W4 ⟨rfl, rfl⟩
              rw [← HSTb.out]
              dsimp only
              clear g1b
              go_wp2_with fail
              go_ret
              exact ⟨by rw [HF.out]; rfl, hbl⟩
            · have hst : oneC c m2 = setV m2 1024 false := by unfold oneC bitStep; rw [if_pos hqb, if_neg hmemb, if_pos H61.out]
              have HSTb := Lib.hid hst
              clear hst
              go_wp2_with fail
              with_reducible refine (ridx_lit wr c.t 116 116 rfl ht).mono ?_
              rintro e W3 ⟨⟨nb, rfl, g1b, g2b⟩, rfl⟩
              rw [decide_eq_false hmemb] at g1b
              clear g2b
              dsimp only
              go_wp2_with fail
              with_reducible refine (set_lit wr m2 1024 1024 false rfl (by omega) (by omega) (by omega)).mono ?_
              rintro e W4 ⟨rfl, rfl⟩
              rw [← HSTb.out]
              dsimp only
              clear g1b
              go_wp2_with fail
              go_ret
              exact ⟨by rw [HF.out]; rfl, hbl⟩
          · rw [hqb] at k2
            have hst : oneC c m2 = m2 := by unfold oneC; rw [if_neg (by rw [hqb]; simp)]
            have HSTb := Lib.hid hst
            clear hst
            go_wp2_with fail
            go_ret
            exact ⟨by rw [HF.out]; rw [HSTb.out]; rfl, hbl⟩
      · have e61 : ((c.x.toNat : Int) == 61) = false := u8_ne (c := 61) (by omega) h61
        have H61 := Lib.hid h61
        clear h61
        rcases Bool.eq_false_or_eq_true (clsAt c.p 0) with hqa | hqa
        · rw [hqa] at k0
          by_cases hmema : 115 ∈ c.t
          · have hst : oneB c m2 = setV m2 512 on := by unfold oneB bitStep; rw [if_pos hqa, if_pos hmema, HON.out]
            have HSTa := Lib.hid hst
            clear hst
            go_wp2_with fail
            with_reducible refine (ridx_lit wr c.t 115 115 rfl ht).mono ?_
            rintro e W3 ⟨⟨na, rfl, g1a, g2a⟩, rfl⟩
            rw [decide_eq_true hmema] at g1a
            clear g2a
            dsimp only
            go_wp2_with fail
            with_reducible refine (set_lit wr m2 512 512 on rfl (by omega) (by omega) (by omega)).mono ?_
            rintro e W4 ⟨rfl, rfl⟩
            rw [← HSTa.out]
            dsimp only
            clear g1a
            have hlt4 := oneB_lt c m2 hm2
            generalize oneB c m2 = m4 at *
            rcases Bool.eq_false_or_eq_true (clsAt c.p 2) with hqb | hqb
            · rw [hqb] at k2
              by_cases hmemb : 116 ∈ c.t
              · have hst : oneC c m4 = setV m4 1024 on := by unfold oneC bitStep; rw [if_pos hqb, if_pos hmemb, HON.out]
                have HSTb := Lib.hid hst
                clear hst
                go_wp2_with fail
                with_reducible refine (ridx_lit wr c.t 116 116 rfl ht).mono ?_
                rintro e W3 ⟨⟨nb, rfl, g1b, g2b⟩, rfl⟩
                rw [decide_eq_true hmemb] at g1b
                clear g2b
                dsimp only
                go_wp2_with fail
                with_reducible refine (set_lit wr m4 1024 1024 on rfl (by omega) (by omega) (by omega)).mono ?_
                rintro e W4 ⟨rfl, rfl⟩
                rw [← HSTb.out]
                dsimp only
                clear g1b
                go_wp2_with fail
                go_ret
                exact ⟨by rw [HF.out]; rfl, hbl⟩
              · have hst : oneC c m4 = m4 := by unfold oneC bitStep; rw [if_pos hqb, if_neg hmemb, if_neg H61.out]
                have HSTb := Lib.hid hst
                clear hst
                go_wp2_with fail
                with_reducible refine (ridx_lit wr c.t 116 116 rfl ht).mono ?_
                rintro e W3 ⟨⟨nb, rfl, g1b, g2b⟩, rfl⟩
                rw [decide_eq_false hmemb] at g1b
                clear g2b
                dsimp only
                go_wp2_with fail
                go_ret
                exact ⟨by rw [HF.out]; rw [HSTb.out]; rfl, hbl⟩
            · rw [hqb] at k2
              have hst : oneC c m4 = m4 := by unfold oneC; rw [if_neg (by rw [hqb]; simp)]
              have HSTb := Lib.hid hst
              clear hst
              go_wp2_with fail
              go_ret
              exact ⟨by rw [HF.out]; rw [HSTb.out]; rfl, hbl⟩
          · have hst : oneB c m2 = m2 := by unfold oneB bitStep; rw [if_pos hqa, if_neg hmema, if_neg H61.out]
            have HSTa := Lib.hid hst
            clear hst
            go_wp2_with fail
            with_reducible refine (ridx_lit wr c.t 115 115 rfl ht).mono ?_
            rintro e W3 ⟨⟨na, rfl, g1a, g2a⟩, rfl⟩
            rw [decide_eq_false hmema] at g1a
            clear g2a
            dsimp only
            have HF4 : Hid (oneV c m = oneC c m2) := Lib.hid (by rw [HF.out, HSTa.out])
            clear HF
            have HF := HF4
            clear HF4
            rcases Bool.eq_false_or_eq_true (clsAt c.p 2) with hqb | hqb
            · rw [hqb] at k2
              by_cases hmemb : 116 ∈ c.t
              · have hst : oneC c m2 = setV m2 1024 on := by unfold oneC bitStep; rw [if_pos hqb, if_pos hmemb, HON.out]
                have HSTb := Lib.hid hst
                clear hst
                go_wp2_with fail
                with_reducible refine (ridx_lit wr c.t 116 116 rfl ht).mono ?_
                rintro e W3 ⟨⟨nb, rfl, g1b, g2b⟩, rfl⟩
                rw [decide_eq_true hmemb] at g1b
                clear g2b
                dsimp only
                go_wp2_with fail
                with_reducible refine (set_lit wr m2 1024 1024 on rfl (by omega) (by omega) (by omega)).mono ?_
                rintro e W4 ⟨rfl, rfl⟩
                rw [← HSTb.out]
                dsimp only
                clear g1b
                go_wp2_with fail
                go_ret
                exact ⟨by rw [HF.out]; rfl, hbl⟩
              · have hst : oneC c m2 = m2 := by unfold oneC bitStep; rw [if_pos hqb, if_neg hmemb, if_neg H61.out]
                have HSTb := Lib.hid hst
                clear hst
                go_wp2_with fail
                with_reducible refine (ridx_lit wr c.t 116 116 rfl ht).mono ?_
                rintro e W3 ⟨⟨nb, rfl, g1b, g2b⟩, rfl⟩
                rw [decide_eq_false hmemb] at g1b
                clear g2b
                dsimp only
                go_wp2_with fail
                go_ret
                exact ⟨by rw [HF.out]; rw [HSTb.out]; rfl, hbl⟩
            · rw [hqb] at k2
              have hst : oneC c m2 = m2 := by unfold oneC; rw [if_neg (by rw [hqb]; simp)]
              have HSTb := Lib.hid hst
              clear hst
              go_wp2_with fail
              go_ret
              exact ⟨by rw [HF.out]; rw [HSTb.out]; rfl, hbl⟩
        · rw [hqa] at k0
          have hst : oneB c m2 = m2 := by unfold oneB; rw [if_neg (by rw [hqa]; simp)]
          have HSTa := Lib.hid hst
          clear hst
          have HF4 : Hid (oneV c m = oneC c m2) := Lib.hid (by rw [HF.out, HSTa.out])
          clear HF
          have HF := HF4
          clear HF4
          rcases Bool.eq_false_or_eq_true (clsAt c.p 2) with hqb | hqb
          · rw [hqb] at k2
            by_cases hmemb : 116 ∈ c.t
            · have hst : oneC c m2 = setV m2 1024 on := by unfold oneC bitStep; rw [if_pos hqb, if_pos hmemb, HON.out]
              have HSTb := Lib.hid hst
              clear hst
              go_wp2_with fail
              with_reducible refine (ridx_lit wr c.t 116 116 rfl ht).mono ?_
              rintro e W3 ⟨⟨nb, rfl, g1b, g2b⟩, rfl⟩
              rw [decide_eq_true hmemb] at g1b
              clear g2b
              dsimp only
              go_wp2_with fail
              with_reducible refine (set_lit wr m2 1024 1024 on rfl (by omega) (by omega) (by omega)).mono ?_
              rintro e W4 ⟨rfl, rfl⟩
              rw [← HSTb.out]
              dsimp only
              clear g1b
              go_wp2_with fail
              go_ret
              exact ⟨by rw [HF.out]; rfl, hbl⟩
            · have hst : oneC c m2 = m2 := by unfold oneC bitStep; rw [if_pos hqb, if_neg hmemb, if_neg H61.out]
              have HSTb := Lib.hid hst
              clear hst
              go_wp2_with fail
              with_reducible refine (ridx_lit wr c.t 116 116 rfl ht).mono ?_
              rintro e W3 ⟨⟨nb, rfl, g1b, g2b⟩, rfl⟩
              rw [decide_eq_false hmemb] at g1b
              clear g2b
              dsimp only
              go_wp2_with fail
              go_ret
              exact ⟨by rw [HF.out]; rw [HSTb.out]; rfl, hbl⟩
          · rw [hqb] at k2
            have hst : oneC c m2 = m2 := by unfold oneC; rw [if_neg (by rw [hqb]; simp)]
            have HSTb := Lib.hid hst
            clear hst
            go_wp2_with fail
            go_ret
            exact ⟨by rw [HF.out]; rw [HSTb.out]; rfl, hbl⟩
end Go.Proofs.YtemcabepbncicaaDoor
