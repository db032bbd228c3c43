/-
  Walks: the reference's Class, Require; Change, Remove.
-/
import Derived.Test.YtemcabepbncicaaDoorAccC
namespace Go.Proofs.YtemcabepbncicaaDoor
open Go.RowKit

set_option maxHeartbeats 1000000 in
theorem rclass_any (w : World) (B : Nat) (v : Value) (gs : List Int) (u owner group : Int) (h : RdI w B v gs) (hB : B ≤ w.heap.size) :
    Calls Tryd.prog 13 #[.agg #[.int .i64 u, v], .int .i64 owner, .int .i64 group] w fun e w' => e = .returned (.int .i64 (classV u gs owner group)) ∧ Below w.heap.size w w' := by
  obtain ⟨A, cap, rfl, hc1, hc2, hat⟩ := h.at_
  unfold maxLen at hc2
  have ha : Below w.heap.size w (w.alloc (.cells #[.int .i64 u, .slice A gs.length cap] 24)) := bel_alloc _ _
  by_cases hu : u = owner
  · subst hu
    have hr : Hid (classV u gs u group = 0) := Lib.hid (by unfold classV; rw [if_pos rfl])
    go_enter Tryd.func13, Tryd.ntmps13
    go_wp2_with fail
    go_ret
    exact ⟨by rw [hr.out]; rfl, ha⟩
  · have e1 : (u == owner) = false := beq_eq_false_iff_ne.2 hu
    have HAT := Lib.hid hat
    have hcl : classV u gs owner group = if group ∈ gs then 1 else 2 := by unfold classV; rw [if_neg hu]
    have HCL := Lib.hid hcl
    clear hat hcl
    go_enter Tryd.func13, Tryd.ntmps13
    go_wp2_with fail
    go_loopg [7] gs.length (fun n iv wr => wr = w.alloc (.cells #[.int .i64 u, .slice A gs.length cap] 24) ∧ ∃ k : Nat, iv = .int .i64 k ∧ n = gs.length - k ∧ k ≤ gs.length ∧ ∀ i, i < k → gs.getD i 0 ≠ group)
    case atStart => exact ⟨rfl, 0, rfl, by omega, by omega, fun i hi => by omega⟩
    case round =>
      obtain ⟨rfl, k, rfl, rfl, hk, hf⟩ := hrel
      have HF := Lib.hid hf
      clear hf
      by_cases hlt : k < gs.length
      · have i1 : (k : Int) < gs.length := by omega
        obtain ⟨ad, rfl, hb, hc⟩ := HAT.out k hlt
        have hc2 : (w.alloc (.cells #[.int .i64 u, .slice (some ad) gs.length cap] 24)).cell? (ad.add k) = some (.int .i64 (gs.getD k 0)) := by
          rw [World.cell?_alloc_lt _ _ _ (by rw [block_of_add]; omega)]; exact hc
        have hmem : gs.getD k 0 ∈ gs := by rw [List.getD_eq_getElem?_getD, List.getElem?_eq_getElem hlt]; exact List.getElem_mem hlt
        have HM := Lib.hid hmem
        clear hmem hc
        generalize hy : gs.getD k 0 = y at *
        have HY := Lib.hid hy
        clear hy
        by_cases hxy : y = group
        · subst hxy
          have hr : Hid (classV u gs owner y = 1) := Lib.hid (by rw [HCL.out, if_pos HM.out])
          go_wp2_with fail
          go_ret
          exact ⟨by rw [hr.out]; rfl, ha⟩
        · have e2 : (y == group) = false := beq_eq_false_iff_ne.2 hxy
          go_wp2_with fail
          go_roundg (gs.length - (k + 1))
          case measure => omega
          case rel =>
            refine ⟨rfl, k + 1, by go_num, rfl, by omega, fun i hi => ?_⟩
            rcases Nat.lt_or_ge i k with h | h
            · exact HF.out i h
            · obtain rfl : i = k := by omega
              rw [HY.out]; exact hxy
      · obtain rfl : k = gs.length := by omega
        have i1 : decide ((gs.length : Int) < gs.length) = false := decide_eq_false (by omega)
        have hr : Hid (classV u gs owner group = 2) := Lib.hid (by
          rw [HCL.out, if_neg]
          intro hm
          obtain ⟨i, hi, he⟩ := List.getElem_of_mem hm
          refine HF.out i hi ?_
          rw [List.getD_eq_getElem?_getD, List.getElem?_eq_getElem hi]
          exact he)
        go_wp2_with fail
        go_ret
        exact ⟨by rw [hr.out]; rfl, ha⟩

theorem and_bits : ∀ a < 8, ∀ b < 8, (a &&& b = b ↔ ∀ i < 3, ¬ (b / 2 ^ i % 2 = 1 ∧ a / 2 ^ i % 2 = 0)) := by decide

set_option maxHeartbeats 2000000 in
theorem rrequire_any (w : World) (B : Nat) (v : Value) (gs : List Int) (u owner group mode want : Int) (h : RdI w B v gs) (hB : B ≤ w.heap.size) :
    Calls Tryd.prog 19 #[.agg #[.int .i64 u, v], .int .i64 owner, .int .i64 group, .int .i64 mode, .int .i64 want] w fun e w' => e = .returned (.int .i64 (requireV u gs owner group mode want)) ∧ Below w.heap.size w w' := by
  obtain ⟨A, cap, rfl, _, _, _⟩ := id h
  have ha : Below w.heap.size w (w.alloc (.cells #[.int .i64 u, .slice A gs.length cap] 24)) := bel_alloc _ _
  by_cases hm : 0 ≤ mode ∧ mode ≤ 2047
  · have hmb := Lib.hid (modeB_yes hm.1 hm.2)
    by_cases h0 : want < 0
    · have hr : Hid (requireV u gs owner group mode want = 2) := Lib.hid (requireV_range (by omega))
      have e1 : decide (want < 0) = true := decide_eq_true h0
      go_enter Tryd.func19, Tryd.ntmps19
      go_wp2_with fail
      refine (valid_any _ _).mono ?_
      rintro e w' ⟨rfl, rfl⟩
      rw [hmb.out]
      dsimp only
      go_wp2_with fail
      go_ret
      exact ⟨by rw [hr.out]; rfl, ha⟩
    · have e1 : decide (want < 0) = false := decide_eq_false h0
      by_cases h7 : 7 < want
      · have hr : Hid (requireV u gs owner group mode want = 2) := Lib.hid (requireV_range (by omega))
        have e2 : decide (7 < want) = true := decide_eq_true h7
        go_enter Tryd.func19, Tryd.ntmps19
        go_wp2_with fail
        refine (valid_any _ _).mono ?_
        rintro e w' ⟨rfl, rfl⟩
        rw [hmb.out]
        dsimp only
        go_wp2_with fail
        go_ret
        exact ⟨by rw [hr.out]; rfl, ha⟩
      · have e2 : decide (7 < want) = false := decide_eq_false h7
        obtain ⟨wn, rfl⟩ : ∃ n : Nat, want = n := ⟨want.toNat, by omega⟩
        have hwn : wn < 8 := by omega
        have hrd : requireV u gs owner group mode wn = if u ≠ 0 ∧ bitsV mode (classV u gs owner group) &&& wn ≠ wn then 14 else 0 := by unfold requireV; rw [if_neg (by omega)]; rfl
        have hbl := bitsV_lt mode (classV u gs owner group)
        have hcl := rclass_any (w.alloc (.cells #[.int .i64 u, .slice A gs.length cap] 24)) B _ gs u owner group (h.below (ha.mono hB)) (by simp; omega)
        have HCL := Lib.hid hcl
        have hab := and_bits _ hbl wn hwn
        have HAB := Lib.hid hab
        have HR := Lib.hid hrd
        clear hcl hab hrd h0 h7 hm
        generalize hbits : bitsV mode (classV u gs owner group) = bt at *
        have HBT := Lib.hid hbits
        clear hbits
        go_enter Tryd.func19, Tryd.ntmps19
        go_wp2_with fail
        refine (valid_any _ _).mono ?_
        rintro e w' ⟨rfl, rfl⟩
        rw [hmb.out]
        dsimp only
        go_wp2_with fail
        refine HCL.out.mono ?_
        rintro e w2 ⟨rfl, nb⟩
        have hb2 := ha.trans (nb.mono (by simp))
        have hcu : w2.cell? ⟨w.heap.size, 0, none⟩ = some (.int .i64 u) := by
          rw [nb.cell (p := ⟨w.heap.size, 0, none⟩) (by simp), World.cell?_alloc_mark]; rfl
        clear HCL nb
        dsimp only
        go_wp2_with fail
        refine (rbits_any _ _ w2).mono ?_
        rintro e w3 ⟨rfl, rfl⟩
        rw [HBT.out]
        dsimp only
        go_wp2_with fail
        go_loopg [12] 3 (fun q bv wr => wr = w2 ∧ ∃ j b : Nat, bv = .int .i64 b ∧ q = 3 - j ∧ j ≤ 3 ∧ b = 2 ^ j ∧ (u ≠ 0 → ∀ i, i < j → ¬ (wn / 2 ^ i % 2 = 1 ∧ bt / 2 ^ i % 2 = 0)))
        case atStart => exact ⟨rfl, 0, 1, rfl, rfl, by omega, rfl, fun _ i hi => by omega⟩
        case round =>
          obtain ⟨rfl, j, b, rfl, rfl, hj, hb, hok⟩ := hrel
          have HOK := Lib.hid hok
          have HB := Lib.hid hb
          clear hok
          by_cases hlt : j < 3
          · have hb4 : 1 ≤ b ∧ b ≤ 4 := by
              rw [hb]
              exact ⟨Nat.one_le_two_pow, Nat.pow_le_pow_right (show 0 < 2 by omega) (show j ≤ 2 by omega)⟩
            have hbn : Hid (2 * b = 2 ^ (j + 1)) := Lib.hid (by rw [hb, Nat.pow_succ]; omega)
            clear hb
            by_cases hu : u = 0
            · subst hu
              go_wp2_with fail
              go_roundg (3 - (j + 1))
              case measure => omega
              case rel => exact ⟨rfl, j + 1, 2 * b, by go_num, rfl, by omega, hbn.out, fun h => absurd rfl h⟩
            · have e3 : (u != 0) = true := bne_iff_ne.2 hu
              have e3' : (u == 0) = false := beq_eq_false_iff_ne.2 hu
              obtain ⟨x, hx⟩ : ∃ x : Nat, x = wn / b % 2 := ⟨_, rfl⟩
              obtain ⟨y, hy⟩ : ∃ y : Nat, y = bt / b % 2 := ⟨_, rfl⟩
              obtain ⟨x0, hx0⟩ : ∃ x0 : Nat, x0 = wn / b := ⟨_, rfl⟩
              obtain ⟨y0, hy0⟩ : ∃ y0 : Nat, y0 = bt / b := ⟨_, rfl⟩
              have hx0l : x0 ≤ 7 := by rw [hx0]; exact Nat.le_trans (Nat.div_le_self _ _) (by omega)
              have hy0l : y0 ≤ 7 := by rw [hy0]; exact Nat.le_trans (Nat.div_le_self _ _) (by omega)
              have ex0 : (wn : Int) / (b : Int) = (x0 : Int) := by rw [hx0]; rfl
              have ey0 : (bt : Int) / (b : Int) = (y0 : Int) := by rw [hy0]; rfl
              have ex : (x0 : Int) % 2 = (x : Int) := by rw [hx, hx0]; rfl
              have ey : (y0 : Int) % 2 = (y : Int) := by rw [hy, hy0]; rfl
              have HX := Lib.hid hx
              have HY := Lib.hid hy
              clear hx hy hx0 hy0
              by_cases hx1 : x = 1
              · subst hx1
                by_cases hy1 : y = 0
                · subst hy1
                  have hr : Hid (requireV u gs owner group mode wn = 14) := Lib.hid (by
                    have hne : bt &&& wn ≠ wn := fun he => HAB.out.1 he j hlt ⟨by rw [← HB.out]; exact HX.out.symm, by rw [← HB.out]; exact HY.out.symm⟩
                    rw [HR.out, if_pos ⟨hu, hne⟩])
                  go_wp2_with fail
                  go_ret
                  exact ⟨by rw [hr.out]; rfl, hb2⟩
                · have e4 : ((y : Int) == 0) = false := beq_eq_false_iff_ne.2 (by omega)
                  have e4' : (y == 0) = false := beq_eq_false_iff_ne.2 hy1
                  go_wp2_with fail
                  go_roundg (3 - (j + 1))
                  case measure => omega
                  case rel =>
                    refine ⟨rfl, j + 1, 2 * b, by go_num, rfl, by omega, hbn.out, fun _ i hi => ?_⟩
                    rcases Nat.lt_or_ge i j with h | h
                    · exact HOK.out hu i h
                    · obtain rfl : i = j := by omega
                      rw [← HB.out, ← HY.out]
                      exact fun h => hy1 h.2
              · have e4 : ((x : Int) == 1) = false := beq_eq_false_iff_ne.2 (by omega)
                have e4' : (x == 1) = false := beq_eq_false_iff_ne.2 hx1
                go_wp2_with fail
                go_roundg (3 - (j + 1))
                case measure => omega
                case rel =>
                  refine ⟨rfl, j + 1, 2 * b, by go_num, rfl, by omega, hbn.out, fun _ i hi => ?_⟩
                  rcases Nat.lt_or_ge i j with h | h
                  · exact HOK.out hu i h
                  · obtain rfl : i = j := by omega
                    rw [← HB.out, ← HX.out]
                    exact fun h => hx1 h.1
          · obtain rfl : j = 3 := by omega
            subst hb
            have hr : Hid (requireV u gs owner group mode wn = 0) := Lib.hid (by
              rw [HR.out, if_neg]
              rintro ⟨h1, h2⟩
              exact h2 (HAB.out.2 (HOK.out h1)))
            go_wp2_with fail
            go_ret
            exact ⟨by rw [hr.out]; rfl, hb2⟩
  · have hmb := Lib.hid (modeB_no (x := mode) (by omega))
    have hr : Hid (requireV u gs owner group mode want = 2) := Lib.hid (requireV_range (by omega))
    clear hm
    go_enter Tryd.func19, Tryd.ntmps19
    go_wp2_with fail
    refine (valid_any _ _).mono ?_
    rintro e w' ⟨rfl, rfl⟩
    rw [hmb.out]
    dsimp only
    go_wp2_with fail
    go_ret
    exact ⟨by rw [hr.out]; rfl, ha⟩
end Go.Proofs.YtemcabepbncicaaDoor
