/-
  Walks: the reference's Parse.
-/
import Derived.Test.YtemcabepbncicaaDoorPlainParses
namespace Go.Proofs.YtemcabepbncicaaDoor
open Go.RowKit
set_option linter.unusedVariables false

theorem idx9_all (W : World) : ((Instr.index 9 (.string ⟨#[114, 119, 120, 114, 119, 120, 114, 119, 120]⟩) (.int .i64 ((0 : Nat) : Int))).run Tryd.prog W = .ok (.int .u8 (letterN 0).toNat) W) ∧ ((Instr.index 9 (.string ⟨#[114, 119, 120, 114, 119, 120, 114, 119, 120]⟩) (.int .i64 ((1 : Nat) : Int))).run Tryd.prog W = .ok (.int .u8 (letterN 1).toNat) W) ∧ ((Instr.index 9 (.string ⟨#[114, 119, 120, 114, 119, 120, 114, 119, 120]⟩) (.int .i64 ((2 : Nat) : Int))).run Tryd.prog W = .ok (.int .u8 (letterN 2).toNat) W) ∧ ((Instr.index 9 (.string ⟨#[114, 119, 120, 114, 119, 120, 114, 119, 120]⟩) (.int .i64 ((3 : Nat) : Int))).run Tryd.prog W = .ok (.int .u8 (letterN 3).toNat) W) ∧ ((Instr.index 9 (.string ⟨#[114, 119, 120, 114, 119, 120, 114, 119, 120]⟩) (.int .i64 ((4 : Nat) : Int))).run Tryd.prog W = .ok (.int .u8 (letterN 4).toNat) W) ∧ ((Instr.index 9 (.string ⟨#[114, 119, 120, 114, 119, 120, 114, 119, 120]⟩) (.int .i64 ((5 : Nat) : Int))).run Tryd.prog W = .ok (.int .u8 (letterN 5).toNat) W) ∧ ((Instr.index 9 (.string ⟨#[114, 119, 120, 114, 119, 120, 114, 119, 120]⟩) (.int .i64 ((6 : Nat) : Int))).run Tryd.prog W = .ok (.int .u8 (letterN 6).toNat) W) ∧ ((Instr.index 9 (.string ⟨#[114, 119, 120, 114, 119, 120, 114, 119, 120]⟩) (.int .i64 ((7 : Nat) : Int))).run Tryd.prog W = .ok (.int .u8 (letterN 7).toNat) W) ∧ ((Instr.index 9 (.string ⟨#[114, 119, 120, 114, 119, 120, 114, 119, 120]⟩) (.int .i64 ((8 : Nat) : Int))).run Tryd.prog W = .ok (.int .u8 (letterN 8).toNat) W) := by
  refine ⟨?_, ?_, ?_, ?_, ?_, ?_, ?_, ?_, ?_⟩ <;> kernel_rfl
theorem idx9_any (W : World) (k : Nat) (h : k < 9) : (Instr.index 9 (.string ⟨#[114, 119, 120, 114, 119, 120, 114, 119, 120]⟩) (.int .i64 k)).run Tryd.prog W = .ok (.int .u8 (letterN k).toNat) W := by
  obtain ⟨h0, h1, h2, h3, h4, h5, h6, h7, h8⟩ := idx9_all W
  match k, h with
  | 0, _ => exact h0
  | 1, _ => exact h1
  | 2, _ => exact h2
  | 3, _ => exact h3
  | 4, _ => exact h4
  | 5, _ => exact h5
  | 6, _ => exact h6
  | 7, _ => exact h7
  | 8, _ => exact h8

set_option maxRecDepth 10000 in
set_option maxHeartbeats 8000000 in
theorem rparse_any (w : World) (s : ByteArray) (hs : s.size ≤ 1000000) :
    Calls Tryd.prog 30 #[.string s] w fun e w' => AppRet (parseV (bl s)) e ∧ Below w.heap.size w w' := by
  have hlen := bl_length s
  have HLEN := Lib.hid hlen
  have hR : Hid (parseGo (bl s) 9 0 0 = parseV (bl s)) := Lib.hid rfl
  generalize parseV (bl s) = R at *
  clear hlen
  go_enter Tryd.func30, Tryd.ntmps30
  go_wp2_with fail
  go_loopg [5, 6] (9 : Nat) (fun r mv iv wr => ∃ (k m : Nat), iv = .int .i64 k ∧ mv = .int .i64 m ∧ r = 9 - k ∧ k ≤ 9 ∧ k ≤ s.size ∧ m < 2 ^ k ∧ parseGo (bl s) (9 - k) k (m * 2 ^ (9 - k)) = R ∧ Below w.heap.size w wr)
  case atStart => exact ⟨0, 0, rfl, rfl, rfl, by omega, by omega, by decide, hR.out, Below.refl _ _⟩
  case round =>
    clear hR
    obtain ⟨k, m, rfl, rfl, rfl, hk, hks, hm, hgo, hbl⟩ := hrel
    have HGO := Lib.hid hgo
    clear hgo
    have hm512 : m < 512 := Nat.lt_of_lt_of_le hm (Nat.pow_le_pow_right (show 0 < 2 by omega) hk)
    have hpw : 2 ^ (k + 1) = 2 * 2 ^ k := by rw [Nat.pow_succ]; omega
    have HM1 : Hid (2 * m + 1 < 2 ^ (k + 1)) := Lib.hid (by omega)
    have HM0 : Hid (2 * m < 2 ^ (k + 1)) := Lib.hid (by omega)
    clear hm hpw
    by_cases hlt : k < 9 ∧ k < s.size
    · obtain ⟨hk9, hks2⟩ := hlt
      have i1 : decide ((k : Int) < 9) = true := decide_eq_true (by omega)
      have i2 : decide ((k : Int) < s.size) = true := decide_eq_true (by omega)
      have hgd := bl_get s k hks2
      have hstep : parseGo (bl s) (9 - k) k (m * 2 ^ (9 - k)) = if k < (bl s).length then (if (bl s).getD k 0 = letterN k then parseGo (bl s) (9 - (k + 1)) (k + 1) (m * 2 ^ (9 - k) ||| 2 ^ (8 - k)) else if (bl s).getD k 0 = 45 then parseGo (bl s) (9 - (k + 1)) (k + 1) (m * 2 ^ (9 - k)) else (0, k, 6)) else parseEnd (bl s) (m * 2 ^ (9 - k)) := by
        conv => lhs; rw [show parseGo (bl s) (9 - k) = parseGo (bl s) ((9 - (k + 1)) + 1) by rw [show 9 - k = (9 - (k + 1)) + 1 by omega]]
        rfl
      rw [HGO.out, hgd, HLEN.out, if_pos hks2] at hstep
      have HST := Lib.hid hstep
      clear hstep hgd HGO
      rcases Decidable.em (s[k] = letterN k) with h | h
      · have HN : Hid (parseGo (bl s) (9 - (k + 1)) (k + 1) ((2 * m + 1) * 2 ^ (9 - (k + 1))) = R) := Lib.hid (by rw [HST.out, if_pos h, step_on k hk9 m hm512])
        have e2 : ((s[k]).toNat : Int) = ((letterN k).toNat : Int) := by rw [h]
        clear h HST
        go_wp2_with fail
        refine wp_region_mixS (fun _ => True) [] [] [0, 1, 2, 3, 4, 5] (by kernel_rfl) (by kernel_rfl) trivial ?_
        simp only [inOrder, opAt]
        iterate 2
          (refine wpMixS_read (v := ?_) rfl rfl (fun w' hS => ?_) ?_
           rotate_left
           · ((try replace hS := hS rfl); (try dsimp only at hS); go_simp; (try with_reducible rfl))
           try simp only [Act.put, List.setIfInBounds_toArray, List.set_cons_zero, List.set_cons_succ])
        refine wpMixS_read (v := .int .u8 (s[k]).toNat) rfl rfl (fun w' hS => ?_) ?_
        · go_simp
          try rfl
        try simp only [Act.put, List.setIfInBounds_toArray, List.set_cons_zero, List.set_cons_succ]
        iterate 1
          (refine wpMixS_read (v := ?_) rfl rfl (fun w' hS => ?_) ?_
           rotate_left
           · ((try replace hS := hS rfl); (try dsimp only at hS); go_simp; (try with_reducible rfl))
           try simp only [Act.put, List.setIfInBounds_toArray, List.set_cons_zero, List.set_cons_succ])
        refine wpMixS_read (v := .int .u8 (letterN k).toNat) rfl rfl (fun w' hS => ?_) ?_
        · have I9 := idx9_any w' k hk9
          go_simp
          try rfl
        try simp only [Act.put, List.setIfInBounds_toArray, List.set_cons_zero, List.set_cons_succ]
        refine wpMixS_read (v := .bool true) rfl rfl (fun w' hS => ?_) ?_
        · go_simp
          try rfl
        try simp only [Act.put, List.setIfInBounds_toArray, List.set_cons_zero, List.set_cons_succ]
        refine wpMixS_nil ?_
        go_wp2_with fail
        go_roundg (9 - (k + 1))
        case measure => omega
        case rel => exact ⟨k + 1, 2 * m + 1, by go_num, by go_num, rfl, by omega, by omega, HM1.out, HN.out, (hbl.drew)⟩
      · have e2 : (((s[k]).toNat : Int) == ((letterN k).toNat : Int)) = false := beq_eq_false_iff_ne.2 (fun hh => h (UInt8.toNat_inj.1 (by omega)))
        rcases Decidable.em (s[k] = 45) with h45 | h45
        · have HN : Hid (parseGo (bl s) (9 - (k + 1)) (k + 1) ((2 * m) * 2 ^ (9 - (k + 1))) = R) := Lib.hid (by rw [HST.out, if_neg h, if_pos h45, step_off k hk9 m hm512])
          have e3 : (((s[k]).toNat : Int) != 45) = false := by rw [h45]; rfl
          clear h HST h45
          go_wp2_with fail
          refine wp_region_mixS (fun _ => True) [] [] [0, 1, 2, 3, 4, 5] (by kernel_rfl) (by kernel_rfl) trivial ?_
          simp only [inOrder, opAt]
          iterate 2
            (refine wpMixS_read (v := ?_) rfl rfl (fun w' hS => ?_) ?_
             rotate_left
             · ((try replace hS := hS rfl); (try dsimp only at hS); go_simp; (try with_reducible rfl))
             try simp only [Act.put, List.setIfInBounds_toArray, List.set_cons_zero, List.set_cons_succ])
          refine wpMixS_read (v := .int .u8 (s[k]).toNat) rfl rfl (fun w' hS => ?_) ?_
          · go_simp
            try rfl
          try simp only [Act.put, List.setIfInBounds_toArray, List.set_cons_zero, List.set_cons_succ]
          iterate 1
            (refine wpMixS_read (v := ?_) rfl rfl (fun w' hS => ?_) ?_
             rotate_left
             · ((try replace hS := hS rfl); (try dsimp only at hS); go_simp; (try with_reducible rfl))
             try simp only [Act.put, List.setIfInBounds_toArray, List.set_cons_zero, List.set_cons_succ])
          refine wpMixS_read (v := .int .u8 (letterN k).toNat) rfl rfl (fun w' hS => ?_) ?_
          · have I9 := idx9_any w' k hk9
            go_simp
            try rfl
          try simp only [Act.put, List.setIfInBounds_toArray, List.set_cons_zero, List.set_cons_succ]
          refine wpMixS_read (v := .bool false) rfl rfl (fun w' hS => ?_) ?_
          · go_simp
            try rfl
          try simp only [Act.put, List.setIfInBounds_toArray, List.set_cons_zero, List.set_cons_succ]
          refine wpMixS_nil ?_
          go_wp2_with fail
          go_roundg (9 - (k + 1))
          case measure => omega
          case rel => exact ⟨k + 1, 2 * m, by go_num, by go_num, rfl, by omega, by omega, HM0.out, HN.out, (hbl.drew)⟩
        · have HN : Hid (AppRet R (.returned (.tuple #[.int .i64 0, .int .i64 k, .int .i64 6]))) := Lib.hid (by rw [HST.out, if_neg h, if_neg h45]; rfl)
          have e3 : (((s[k]).toNat : Int) != 45) = true := by have hz : (((s[k]).toNat : Int) == 45) = false := u8_ne (c := 45) (by omega) h45; rw [bne, hz]; rfl
          clear h HST h45
          go_wp2_with fail
          refine wp_region_mixS (fun _ => True) [] [] [0, 1, 2, 3, 4, 5] (by kernel_rfl) (by kernel_rfl) trivial ?_
          simp only [inOrder, opAt]
          iterate 2
            (refine wpMixS_read (v := ?_) rfl rfl (fun w' hS => ?_) ?_
             rotate_left
             · ((try replace hS := hS rfl); (try dsimp only at hS); go_simp; (try with_reducible rfl))
             try simp only [Act.put, List.setIfInBounds_toArray, List.set_cons_zero, List.set_cons_succ])
          refine wpMixS_read (v := .int .u8 (s[k]).toNat) rfl rfl (fun w' hS => ?_) ?_
          · go_simp
            try rfl
          try simp only [Act.put, List.setIfInBounds_toArray, List.set_cons_zero, List.set_cons_succ]
          iterate 1
            (refine wpMixS_read (v := ?_) rfl rfl (fun w' hS => ?_) ?_
             rotate_left
             · ((try replace hS := hS rfl); (try dsimp only at hS); go_simp; (try with_reducible rfl))
             try simp only [Act.put, List.setIfInBounds_toArray, List.set_cons_zero, List.set_cons_succ])
          refine wpMixS_read (v := .int .u8 (letterN k).toNat) rfl rfl (fun w' hS => ?_) ?_
          · have I9 := idx9_any w' k hk9
            go_simp
            try rfl
          try simp only [Act.put, List.setIfInBounds_toArray, List.set_cons_zero, List.set_cons_succ]
          refine wpMixS_read (v := .bool false) rfl rfl (fun w' hS => ?_) ?_
          · go_simp
            try rfl
          try simp only [Act.put, List.setIfInBounds_toArray, List.set_cons_zero, List.set_cons_succ]
          refine wpMixS_nil ?_
          go_wp2_with fail
          go_ret3
          exact ⟨HN.out, hbl.drew⟩
    · have hend : parseEnd (bl s) (m * 2 ^ (9 - k)) = R := by
        have := HGO.out
        rcases Nat.lt_or_ge k 9 with h9 | h9
        · rw [show parseGo (bl s) (9 - k) = parseGo (bl s) ((9 - (k + 1)) + 1) by rw [show 9 - k = (9 - (k + 1)) + 1 by omega]] at this
          unfold parseGo at this
          rw [if_neg (by rw [HLEN.out]; omega)] at this
          exact this
        · obtain rfl : k = 9 := by omega
          exact this
      have HE := Lib.hid hend
      clear hend HGO HM1 HM0
      by_cases h9 : s.size < 9
      · have hr : Hid (AppRet R (.returned (.tuple #[.int .i64 0, .int .i64 s.size, .int .i64 4]))) := Lib.hid (by rw [← HE.out]; unfold parseEnd; rw [HLEN.out, if_pos h9]; rfl)
        obtain rfl : k = s.size := by omega
        have i1 : decide ((s.size : Int) < 9) = true := decide_eq_true (by omega)
        have i2 : decide ((s.size : Int) < s.size) = false := decide_eq_false (by omega)
        clear h9
        go_wp2_with fail
        go_ret3
        exact ⟨hr.out, hbl⟩
      · obtain rfl : k = 9 := by omega
        have e9 : decide ((s.size : Int) < 9) = false := decide_eq_false (by omega)
        have hbe : bl (s.extract 9 s.size) = (bl s).drop 9 := Lib.extract_to_end s 9
        have hpt : parseTail (bl (s.extract 9 s.size)) m = R := by
          have := HE.out
          rw [show m * 2 ^ (9 - 9) = m by omega] at this
          unfold parseEnd at this
          rw [HLEN.out, if_neg h9] at this
          rw [hbe]; exact this
        have h92 : 9 ≤ s.size := by omega
        have HPT := Lib.hid hpt
        obtain ⟨u1, u2, u3⟩ := tails m hm512
        obtain ⟨t, ht⟩ : ∃ t, t = bl (s.extract 9 s.size) := ⟨_, rfl⟩
        have hT : (s.extract 9 s.size).toList = t := by rw [ht]; exact Lib.toList_data _
        rw [← ht] at HPT
        clear hbe hpt h9 ht HE
        have U1 := Lib.hid u1
        have U2 := Lib.hid u2
        have U3 := Lib.hid u3
        clear u1 u2 u3 hlt
        rcases Decidable.em (t = []) with h | h0
        focus
          have hr : Hid (AppRet R (.returned (.tuple #[.int .i64 m, .int .i64 0, .int .i64 0]))) := Lib.hid (by rw [← HPT.out]; unfold parseTail; rw [if_pos h]; rfl)
          rw [h] at hT
          clear h
          go_wp2_with fail
          go_ret3
          exact ⟨hr.out, hbl⟩
        rcases Decidable.em (t = [43, 115]) with h | h512
        focus
          have hr : Hid (AppRet R (.returned (.tuple #[.int .i64 ((m : Int) + 512), .int .i64 0, .int .i64 0]))) := Lib.hid (by rw [← HPT.out, h]; show _ = Ending.returned (.tuple #[.int .i64 ((m ||| 512 : Nat) : Int), _, _]); rw [U1.out]; rfl)
          rw [h] at hT
          clear h h0
          go_wp2_with fail
          go_ret3
          exact ⟨hr.out, hbl⟩
        rcases Decidable.em (t = [43, 116]) with h | h1024
        focus
          have hr : Hid (AppRet R (.returned (.tuple #[.int .i64 ((m : Int) + 1024), .int .i64 0, .int .i64 0]))) := Lib.hid (by rw [← HPT.out, h]; show _ = Ending.returned (.tuple #[.int .i64 ((m ||| 1024 : Nat) : Int), _, _]); rw [U2.out]; rfl)
          rw [h] at hT
          clear h h0 h512
          go_wp2_with fail
          go_ret3
          exact ⟨hr.out, hbl⟩
        rcases Decidable.em (t = [43, 115, 116]) with h | h1536
        focus
          have hr : Hid (AppRet R (.returned (.tuple #[.int .i64 ((m : Int) + 512 + 1024), .int .i64 0, .int .i64 0]))) := Lib.hid (by rw [← HPT.out, h]; show _ = Ending.returned (.tuple #[.int .i64 ((m ||| 1536 : Nat) : Int), _, _]); rw [U3.out, show (m : Int) + 512 + 1024 = ((m + 1536 : Nat) : Int) by omega]; rfl)
          rw [h] at hT
          clear h h0 h512 h1024
          go_wp2_with fail
          go_ret3
          exact ⟨hr.out, hbl⟩
        have hr : Hid (AppRet R (.returned (.tuple #[.int .i64 0, .int .i64 9, .int .i64 3]))) := Lib.hid (by rw [← HPT.out]; unfold parseTail; rw [if_neg h0, if_neg h512, if_neg h1024, if_neg h1536]; rfl)
        have z0 : t.isEmpty = false := by cases t with
          | nil => exact absurd rfl h0
          | cons a l => rfl
        have z1 : (t == [43, 115]) = false := beq_eq_false_iff_ne.2 h512
        have z2 : (t == [43, 116]) = false := beq_eq_false_iff_ne.2 h1024
        have z3 : (t == [43, 115, 116]) = false := beq_eq_false_iff_ne.2 h1536
        clear h0 h512 h1024 h1536
        go_wp2_with fail
        go_ret3
        exact ⟨hr.out, hbl⟩
end Go.Proofs.YtemcabepbncicaaDoor
