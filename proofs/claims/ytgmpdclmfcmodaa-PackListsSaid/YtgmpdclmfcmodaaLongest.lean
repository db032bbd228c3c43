/-
  Walks of the finder: longest.
-/
import Derived.Test.YtgmpdclmfcmodaaEnter
namespace Go.Proofs.Ytgmpdclmfcmodaa
open Go.RowKit

set_option maxHeartbeats 800000 in
theorem longest_small (w : World) (g tb bb mb : Nat) (l : List UInt8) (k p : Nat) (hf : Fin w g tb bb mb l k) (hp : p ≤ l.length) (hm : Pk.most l p < 4) :
    Calls Try.prog 30 #[.pointer (some ⟨g, 0, none⟩), .int .i64 p] w fun e w' =>
      e = .returned (.tuple #[.int .i64 0, .int .i64 0]) ∧ w = w' := by
  obtain ⟨cap, cap2, tc, bc, m, hg, _⟩ := hf
  have g0 := hg.cell 0
  simp at g0
  unfold Pk.most at hm
  have i1 : (l.length : Int) - p < 131 := by omega
  have i2 : (l.length : Int) - p < 4 := by omega
  go_enter Try.func30, Try.ntmps30
  go_wp2_with fail
  go_ret2
  exact ⟨rfl, rfl⟩
theorem most_eq (l : List UInt8) (p : Nat) (hp : p ≤ l.length) : (if (l.length : Int) - p < 131 then (l.length : Int) - p else 131) = (Pk.most l p : Int) := by
  unfold Pk.most
  split <;> omega

set_option maxHeartbeats 1600000 in
theorem longest_great (w : World) (g tb bb mb : Nat) (l : List UInt8) (k p : Nat) (hf : Fin w g tb bb mb l k) (hk : k ≤ p) (hp : p ≤ l.length) (hl : l.length ≤ 4000000) (hm : 4 ≤ Pk.most l p) :
    Calls Try.prog 30 #[.pointer (some ⟨g, 0, none⟩), .int .i64 p] w fun e w' =>
      e = .returned (.tuple #[.int .i64 (Pk.long l p).1, .int .i64 (Pk.long l p).2]) ∧ Fin w' g tb bb mb l p ∧ Fr [g, bb, mb] w w' := by
  have hf0 := hf
  obtain ⟨cap, cap2, tc, bc, m, hg, _⟩ := hf
  have g0 := hg.cell 0
  simp at g0
  have hme := most_eq l p hp
  have hm4 : p + 4 ≤ l.length := by unfold Pk.most at hm; omega
  have hmi : (4 : Int) ≤ (Pk.most l p : Int) := by omega
  have hmd : decide ((Pk.most l p : Int) < 4) = false := by simp; omega
  have hmj : (Pk.most l p : Int) ≤ 131 := by unfold Pk.most; omega
  clear hg
  go_enter Try.func30, Try.ntmps30
  go_wp2_with fail
  refine (enter_any w g tb bb mb l k p hf0 hk hm4 hl).mono ?_
  rintro e w1 ⟨rfl, hf1, hfr1⟩
  clear g0
  obtain ⟨cap, cap2, tc, bc, m, hg, c1, c2, c3, c4, htb, ht, hbb, hbs, hb, hmp, hmm⟩ := hf1
  have g0 := hg.cell 0
  have g1 := hg.cell 1
  have g2 := hg.cell 2
  simp at g0 g1 g2
  have lg := hg.lt
  go_wp2_with fail
  have htx : ∀ i, i < l.length → w1.drew.cell? ⟨tb, i, none⟩ = some (.int .u8 (l.getD i 0).toNat) := fun i hi => by
    show w1.cell? _ = _
    rw [htb.cell, ht i hi]
  have HTX := Lib.hid htx
  clear htx
  have hx : (Pk.four l p).length = 4 := Pk.four_length l p (by omega)
  have hlk := run_lookup_map key81 Try.underlying66 (z := .int .i64 0) (fun _ => by kernel_rfl) (hmp.alloc (.cells #[.int .u8 (l.getD p 0).toNat, .int .u8 (l.getD (p+1) 0).toNat, .int .u8 (l.getD (p+2) 0).toNat, .int .u8 (l.getD (p+3) 0).toNat] 81)).drew (Pk.four l p) hx true
  rw [hmm _ hx, Pk.four_list l p (by omega)] at hlk
  unfold encB bs at hlk
  simp only [List.map_cons, List.map_nil] at hlk
  simp only [List.getD_eq_getElem?_getD] at hlk
  rcases hlast : Pk.lastOf l [l.getD p 0, l.getD (p + 1) 0, l.getD (p + 2) 0, l.getD (p + 3) 0] p with _ | q
  case' none =>
    have HS := Lib.hid (Pk.lastOf_none l _ p hlast)
    simp only [List.getD_eq_getElem?_getD] at hlast
    rw [hlast] at hlk
    clear hlast
    simp only [Option.map_none, Option.getD_none, Option.isSome_none, if_true] at hlk
  case' some =>
    have HS := Lib.hid (Pk.lastOf_some l _ p q hlast)
    simp only [List.getD_eq_getElem?_getD] at hlast
    rw [hlast] at hlk
    clear hlast
    simp only [Option.map_some, Option.getD_some, Option.isSome_some, if_true] at hlk
  all_goals
    rw [← Pk.four_list l p (by omega)] at HS
    go_region_held3 (fun w' => w'.cell? ⟨g, 1, none⟩ = some (.map (some mb))) (simp [*, go_sem, World.cell?_alloc_lt])
      ((go_at_call 39; refine (next_any _ g tb cap l p (by simpa using g0) c1 c2 HTX.out hm4).mono ?_; rintro e w2 ⟨rfl, rfl⟩))
    go_wp2_with fail
    refine wp_forget (fun w3 => Fin w3 g tb bb mb l p ∧ Fr [g, bb, mb] w w3) ?_ ?_
    · exact ⟨⟨cap, cap2, tc, bc, m, (hg.alloc _).drew, c1, c2, c3, c4, (htb.alloc _).drew, ht, (hbb.alloc _).drew, hbs, hb, (hmp.alloc _).drew, hmm⟩, (hfr1.alloc _).drew⟩
    clear hg htb hbb hmp hmm g0 g1 g2 lg HTX hlk hb ht
    rintro w3 ⟨hf3, hfr3⟩
  case' none =>
    go_loopg [4, 5, 7, 8] 0 (fun n a b pl is wr => (∃ k : Nat, k ≤ 4096 ∧ k ≤ p ∧ a = .int .i64 (Pk.longTo l p k).1 ∧ b = .int .i64 (Pk.longTo l p k).2 ∧
      ((∃ q : Nat, is = .bool true ∧ pl = .int .i64 q ∧ n = q + 1 ∧ q + k < p ∧ Pk.four l q = Pk.four l p ∧ ∀ j, q < j → j < p - k → Pk.four l j ≠ Pk.four l p) ∨
       (is = .bool false ∧ (∃ v : Int, pl = .int .i64 v) ∧ ∀ j, j < p - k → Pk.four l j ≠ Pk.four l p))) ∧ Fin wr g tb bb mb l p ∧ Fr [g, bb, mb] w wr)
    case atStart => exact ⟨⟨0, by omega, by omega, rfl, rfl, .inr ⟨rfl, ⟨0, rfl⟩, HS.out⟩⟩, hf3, hfr3⟩
  case' some =>
    go_loopg [4, 5, 7, 8] (q + 1) (fun n a b pl is wr => (∃ k : Nat, k ≤ 4096 ∧ k ≤ p ∧ a = .int .i64 (Pk.longTo l p k).1 ∧ b = .int .i64 (Pk.longTo l p k).2 ∧
      ((∃ q : Nat, is = .bool true ∧ pl = .int .i64 q ∧ n = q + 1 ∧ q + k < p ∧ Pk.four l q = Pk.four l p ∧ ∀ j, q < j → j < p - k → Pk.four l j ≠ Pk.four l p) ∨
       (is = .bool false ∧ (∃ v : Int, pl = .int .i64 v) ∧ ∀ j, j < p - k → Pk.four l j ≠ Pk.four l p))) ∧ Fin wr g tb bb mb l p ∧ Fr [g, bb, mb] w wr)
    case atStart => exact ⟨⟨0, by omega, by omega, rfl, rfl, .inl ⟨q, rfl, rfl, rfl, HS.out.1, HS.out.2.1, HS.out.2.2⟩⟩, hf3, hfr3⟩
  all_goals
    clear hf3 hfr3 HS hfr1
    obtain ⟨⟨k, hk1, hk2, rfl, rfl, hcase⟩, hf3, hfr3⟩ := hrel
    obtain ⟨cap, cap2, tc, bc, m, hg, c1, c2, c3, c4, htb, ht, hbb, hbs, hb, hmp, hmm⟩ := hf3
    have hfin : Fin wr g tb bb mb l p := ⟨cap, cap2, tc, bc, m, hg, c1, c2, c3, c4, htb, ht, hbb, hbs, hb, hmp, hmm⟩
    have HB := Lib.hid hb
    have HT := Lib.hid ht
    have HMM := Lib.hid hmm
    clear hb ht hmm
    have hbd : (Pk.longTo l p k).1 ≤ Pk.most l p ∧ (Pk.longTo l p k).2 ≤ k := by
      unfold Pk.longTo
      split
      · exact Pk.bestTo_le l p k
      · exact ⟨Nat.zero_le _, Nat.zero_le _⟩
    obtain ⟨hb1, hb2⟩ := hbd
    rcases hcase with ⟨q, rfl, rfl, rfl, hqk, hqf, hqn⟩ | ⟨rfl, ⟨v, rfl⟩, hno⟩
    · have HQF := Lib.hid hqf
      have HQN := Lib.hid hqn
      clear hqf hqn
      by_cases hfar : 4096 < p - q
      · have e1 : decide ((p : Int) - q ≤ 4096) = false := by simp; omega
        go_wp2_with fail
        go_ret2
        rw [Pk.long_exit_far l p k q hk1 hk2 hm HQN.out hfar]
        exact ⟨rfl, hfin, hfr3⟩
      have e1 : decide ((p : Int) - q ≤ 4096) = true := by simp; omega
      by_cases hmo : Pk.most l p ≤ (Pk.longTo l p k).1
      · have e2 : decide (((Pk.longTo l p k).1 : Int) < (Pk.most l p : Int)) = false := by simp; omega
        go_wp2_with fail
        go_ret2
        rw [Pk.long_exit_most l p k hk1 hk2 hmo]
        exact ⟨rfl, hfin, hfr3⟩
      have e2 : decide (((Pk.longTo l p k).1 : Int) < (Pk.most l p : Int)) = true := by simp; omega
      have hrnd := Lib.hid (Pk.long_round l p k q hqk hm HQF.out HQN.out)
      have g0 := hg.cell 0
      have g2 := hg.cell 2
      simp at g0 g2
      have bq : wr.cell? ⟨bb, q, none⟩ = some (.int .i64 (prev l q)) := by rw [hbb.cell, HB.out q (by omega)]
      have hpv : Hid (prev l q = match Pk.lastOf l (Pk.four l q) q with | some q => (q : Int) | none => -1) := Lib.hid rfl
      rw [HQF.out] at hpv
      have i1 : (0 : Int) ≤ (q : Int) := by omega
      have i2 : (q : Int) < l.length := by omega
      go_wp2_with fail
      refine (common_any wr g tb cap l q p (Pk.most l p) g0 hl (fun i hi => ?_) (by omega) (by unfold Pk.most; omega)).mono ?_
      · rw [htb.cell, HT.out i hi]
      rintro e w5 ⟨rfl, nd, rfl⟩
      have hcm := Pk.comm_le l (Pk.most l p) q p
      generalize hcmv : Pk.comm l q p (Pk.most l p) = cm at *
      have HCM := Lib.hid hcmv
      clear hcmv
      have hfin5 : Fin (wr.drewN nd) g tb bb mb l p := hfin
      have hfr5 := hfr3.drewN nd
      rcases hl2 : Pk.lastOf l (Pk.four l p) q with _ | q2
      case' none =>
        rw [hl2] at hpv
        have HL := Lib.hid (Pk.lastOf_none l _ q hl2)
        clear hl2
        simp only [] at hpv
        rw [hpv.out] at bq
      case' some =>
        rw [hl2] at hpv
        have HL := Lib.hid (Pk.lastOf_some l _ q q2 hl2)
        clear hl2
        simp only [] at hpv
        rw [hpv.out] at bq
        have i3 : (0 : Int) ≤ (q2 : Int) := by omega
        have i4 : decide ((0 : Int) ≤ (q2 : Int)) = true := by simp
      all_goals
        by_cases hgt : (Pk.longTo l p k).1 < cm
        · have e3 : decide (((Pk.longTo l p k).1 : Int) < (cm : Int)) = true := by simp; omega
          have hnew : Hid (Pk.longTo l p (p - q) = (cm, p - q)) := by
            have := hrnd.out
            rw [if_pos hgt] at this
            exact this
          go_wp2_with fail
          first
          | (go_roundg 0
             case measure => omega
             case rel => exact ⟨⟨p - q, by omega, by omega, by rw [hnew.out], by rw [hnew.out]; congr 1; omega, .inr ⟨rfl, ⟨_, rfl⟩, fun j hj => HL.out j (by omega)⟩⟩, hfin5, hfr5⟩)
          | (go_roundg (q2 + 1)
             case measure => have := HL.out.1; omega
             case rel => exact ⟨⟨p - q, by omega, by omega, by rw [hnew.out], by rw [hnew.out]; congr 1; omega, .inl ⟨q2, rfl, rfl, rfl, by have := HL.out.1; omega, HL.out.2.1, fun j h1 h2 => HL.out.2.2 j h1 (by omega)⟩⟩, hfin5, hfr5⟩)
        · have e3 : decide (((Pk.longTo l p k).1 : Int) < (cm : Int)) = false := by simp; omega
          have hnew : Hid (Pk.longTo l p (p - q) = Pk.longTo l p k) := by
            have := hrnd.out
            rw [if_neg hgt] at this
            exact this
          go_wp2_with fail
          first
          | (go_roundg 0
             case measure => omega
             case rel => exact ⟨⟨p - q, by omega, by omega, by rw [hnew.out], by rw [hnew.out], .inr ⟨rfl, ⟨_, rfl⟩, fun j hj => HL.out j (by omega)⟩⟩, hfin5, hfr5⟩)
          | (go_roundg (q2 + 1)
             case measure => have := HL.out.1; omega
             case rel => exact ⟨⟨p - q, by omega, by omega, by rw [hnew.out], by rw [hnew.out], .inl ⟨q2, rfl, rfl, rfl, by have := HL.out.1; omega, HL.out.2.1, fun j h1 h2 => HL.out.2.2 j h1 (by omega)⟩⟩, hfin5, hfr5⟩)
    · have HNO := Lib.hid hno
      clear hno
      go_wp2_with fail
      go_ret2
      rw [Pk.long_exit_none l p k hk1 hk2 hm HNO.out]
      exact ⟨rfl, hfin, hfr3⟩

/-- longest: the greatest match at a place, or zeros. -/
theorem longest_any (w : World) (g tb bb mb : Nat) (l : List UInt8) (k p : Nat) (hf : Fin w g tb bb mb l k) (hk : k ≤ p) (hp : p ≤ l.length) (hl : l.length ≤ 4000000) :
    Calls Try.prog 30 #[.pointer (some ⟨g, 0, none⟩), .int .i64 p] w fun e w' =>
      e = .returned (.tuple #[.int .i64 (Pk.long l p).1, .int .i64 (Pk.long l p).2]) ∧ (∃ k', k' ≤ p ∧ Fin w' g tb bb mb l k') ∧ Fr [g, bb, mb] w w' := by
  rcases Nat.lt_or_ge (Pk.most l p) 4 with hm | hm
  · refine (longest_small w g tb bb mb l k p hf hp hm).mono ?_
    rintro e w' ⟨rfl, rfl⟩
    rw [Pk.long_small l p hm]
    exact ⟨rfl, ⟨k, hk, hf⟩, Fr.refl _ _⟩
  · refine (longest_great w g tb bb mb l k p hf hk hp hl hm).mono ?_
    rintro e w' ⟨he, h1, h2⟩
    exact ⟨he, ⟨p, Nat.le_refl _, h1⟩, h2⟩
theorem info3 : (Try.prog.info? 3).map (fun i => (i.zero, i.size, i.bytes)) = some (some (.int .i64 0), 1, 8) := by kernel_rfl
theorem info5 : (Try.prog.info? 5).map (fun i => (i.zero, i.size, i.bytes)) = some (some (.int .u8 0), 1, 1) := by kernel_rfl

theorem run_make_ints (n : Nat) (hn : n ≤ 4000000) (W : World) : (Instr.makeSlice 67 (.int .i64 (n : Int)) (.int .i64 (n : Int))).run Try.prog W = .ok (.slice (some ⟨W.heap.size, 0, none⟩) n n) (W.alloc (.cells (madeCells #[.int .i64 0] n) 3)) := by
  obtain ⟨i0, hi, hz0, hz1, hz2⟩ := info_parts info3
  have := run_make (P := Try.prog) W 67 3 i0 (.int .i64 0) Try.underlying67 hi hz0 .i64 .i64 n n (by omega) (Int.le_refl _) (by rw [hz2]; omega) (by omega)
  rw [this, hz1]
  simp [Value.cells]

set_option maxHeartbeats 400000 in
theorem newFinder_any (w : World) (tb cap : Nat) (l : List UInt8) (tc : Array Value) (hl : l.length ≤ 4000000) (c1 : l.length ≤ cap) (c2 : cap ≤ maxLen)
    (htb : Blk w tb 5 tc) (ht : ∀ i, i < l.length → tc[i]? = some (.int .u8 (l.getD i 0).toNat)) :
    Calls Try.prog 29 #[.slice (some ⟨tb, 0, none⟩) l.length cap] w fun e w' => ∃ g bb mb, e = .returned (.pointer (some ⟨g, 0, none⟩)) ∧
      Fin w' g tb bb mb l 0 ∧ Fr [] w w' ∧ w.heap.size ≤ g ∧ w.heap.size ≤ bb ∧ w.heap.size ≤ mb := by
  have hmm := @run_makeMap Try.prog
  have hmk := run_make_ints l.length hl
  go_enter Try.func29, Try.ntmps29
  go_wp2_with fail
  go_ret
  refine ⟨w.heap.size + 1 + 1, w.heap.size + 1, w.heap.size, rfl, ?_, (((Fr.refl _ _).alloc _).alloc _).alloc _, by omega, by omega, by omega⟩
  refine ⟨cap, l.length, tc, madeCells #[.int .i64 0] l.length, [], Blk.new_ _ _ _ (by simp), c1, c2, Nat.le_refl _, by unfold maxLen; omega, ((htb.alloc _).alloc _).alloc _, ht, (Blk.new_ _ _ _ (by simp)).alloc _, by simp [madeCells], fun p hp => absurd hp (by omega), ((MapIs.new w).alloc _).alloc _, fun x _ => rfl⟩
end Go.Proofs.Ytgmpdclmfcmodaa
