/-
  Walks: Change, Remove, the reference's Remove.
-/
import Derived.Test.YtemcabepbncicaaDoorAccD
import Derived.Test.YtemcabepbncicaaDoorAccN
namespace Go.Proofs.YtemcabepbncicaaDoor
open Go.RowKit

def changeV (u owner : Int) : Nat := if u ≠ 0 ∧ u ≠ owner then 14 else 0

set_option maxHeartbeats 1000000 in
theorem change_any (w : World) (B : Nat) (v : Value) (gs : List Int) (u owner : Int) (h : RdI w B v gs) :
    Calls Tryd.prog 23 #[.agg #[.int .i64 u, v], .int .i64 owner] w fun e w' => e = .returned (.int .i64 (changeV u owner)) ∧ Below w.heap.size w w' := by
  obtain ⟨A, cap, rfl, _, _, _⟩ := id h
  have ha : Below w.heap.size w (w.alloc (.cells #[.int .i64 u, .slice A gs.length cap] 27)) := bel_alloc _ _
  by_cases h0 : u = 0
  · subst h0
    have hr : Hid (changeV 0 owner = 0) := Lib.hid (by unfold changeV; rw [if_neg (fun h => h.1 rfl)])
    go_enter Tryd.func23, Tryd.ntmps23
    go_wp2_with fail
    go_ret
    exact ⟨by rw [hr.out]; rfl, ha⟩
  · have e1 : (u != 0) = true := bne_iff_ne.2 h0
    have e1' : (u == 0) = false := beq_eq_false_iff_ne.2 h0
    by_cases h1 : u = owner
    · subst h1
      have hr : Hid (changeV u u = 0) := Lib.hid (by unfold changeV; rw [if_neg (fun h => h.2 rfl)])
      clear h0
      go_enter Tryd.func23, Tryd.ntmps23
      go_wp2_with fail
      go_ret
      exact ⟨by rw [hr.out]; rfl, ha⟩
    · have e2 : (u != owner) = true := bne_iff_ne.2 h1
      have e2' : (u == owner) = false := beq_eq_false_iff_ne.2 h1
      have hr : Hid (changeV u owner = 14) := Lib.hid (by unfold changeV; rw [if_pos ⟨h0, h1⟩])
      clear h0 h1
      go_enter Tryd.func23, Tryd.ntmps23
      go_wp2_with fail
      go_ret
      exact ⟨by rw [hr.out]; rfl, ha⟩

def removeV (u : Int) (gs : List Int) (x y z owner : Int) : Nat :=
  if requireV u gs x y z 3 ≠ 0 then requireV u gs x y z 3 else if z.toNat / 1024 % 2 = 1 ∧ u ≠ 0 ∧ u ≠ x ∧ u ≠ owner then 14 else 0

/-- The ways through Remove. -/
theorem remove_ways (u : Int) (gs : List Int) (x y z owner : Int) :
    (requireV u gs x y z 3 ≠ 0 ∧ removeV u gs x y z owner = requireV u gs x y z 3) ∨
    ∃ m : Nat, z = m ∧ m ≤ 2047 ∧ requireV u gs x y z 3 = 0 ∧
      ((m / 1024 % 2 = 0 ∧ removeV u gs x y z owner = 0) ∨ (m / 1024 % 2 = 1 ∧ (u = 0 ∧ removeV u gs x y z owner = 0 ∨ u ≠ 0 ∧ (u = x ∧ removeV u gs x y z owner = 0 ∨ u ≠ x ∧ (u = owner ∧ removeV u gs x y z owner = 0 ∨ u ≠ owner ∧ removeV u gs x y z owner = 14))))) := by
  unfold removeV
  by_cases h : requireV u gs x y z 3 = 0
  · right
    have hz : 0 ≤ z ∧ z ≤ 2047 := by
      by_cases h2 : z < 0 ∨ 2047 < z
      · rw [requireV_range (by omega)] at h; omega
      · omega
    refine ⟨z.toNat, by omega, by omega, h, ?_⟩
    rw [h, if_neg (by omega)]
    have hq : z.toNat / 1024 % 2 = 0 ∨ z.toNat / 1024 % 2 = 1 := by omega
    rcases hq with hq | hq
    · exact .inl ⟨hq, by rw [if_neg (by omega)]⟩
    · refine .inr ⟨hq, ?_⟩
      by_cases h0 : u = 0
      · exact .inl ⟨h0, by rw [if_neg (fun h => h.2.1 h0)]⟩
      · refine .inr ⟨h0, ?_⟩
        by_cases h1 : u = x
        · exact .inl ⟨h1, by rw [if_neg (fun h => h.2.2.1 h1)]⟩
        · refine .inr ⟨h1, ?_⟩
          by_cases h2 : u = owner
          · exact .inl ⟨h2, by rw [if_neg (fun h => h.2.2.2 h2)]⟩
          · exact .inr ⟨h2, by rw [if_pos ⟨hq, h0, h1, h2⟩]⟩
  · left
    rw [if_pos h]
    exact ⟨h, rfl⟩

/-- The tests' facts on the ways. -/
def TF (u x owner : Int) (r : Nat) : Prop :=
  ((u != 0) = false ∧ (u == 0) = true ∧ r = 0) ∨ ((u != 0) = true ∧ (u == 0) = false ∧ (u != x) = false ∧ (u == x) = true ∧ r = 0) ∨
  ((u != 0) = true ∧ (u == 0) = false ∧ (u != x) = true ∧ (u == x) = false ∧ (u != owner) = false ∧ (u == owner) = true ∧ r = 0) ∨
  ((u != 0) = true ∧ (u == 0) = false ∧ (u != x) = true ∧ (u == x) = false ∧ (u != owner) = true ∧ (u == owner) = false ∧ r = 14)
theorem tf_of {u x owner : Int} {r : Nat} (h : u = 0 ∧ r = 0 ∨ u ≠ 0 ∧ (u = x ∧ r = 0 ∨ u ≠ x ∧ (u = owner ∧ r = 0 ∨ u ≠ owner ∧ r = 14))) : TF u x owner r := by
  rcases h with ⟨h0, hr⟩ | ⟨h0, ⟨h1, hr⟩ | ⟨h1, ⟨h2, hr⟩ | ⟨h2, hr⟩⟩⟩
  · exact .inl ⟨by simp [h0], by simp [h0], hr⟩
  · exact .inr (.inl ⟨bne_iff_ne.2 h0, beq_eq_false_iff_ne.2 h0, by simp [h1], by simp [h1], hr⟩)
  · exact .inr (.inr (.inl ⟨bne_iff_ne.2 h0, beq_eq_false_iff_ne.2 h0, bne_iff_ne.2 h1, beq_eq_false_iff_ne.2 h1, by simp [h2], by simp [h2], hr⟩))
  · exact .inr (.inr (.inr ⟨bne_iff_ne.2 h0, beq_eq_false_iff_ne.2 h0, bne_iff_ne.2 h1, beq_eq_false_iff_ne.2 h1, bne_iff_ne.2 h2, beq_eq_false_iff_ne.2 h2, hr⟩))

theorem and1024 (m : Nat) (hm : m ≤ 2047) : bits .and .i64 (m : Int) 1024 = ((m / 1024 % 2 * 1024 : Nat) : Int) := by
  have h := i64_and_nat m 1024 (by omega) (by omega)
  rw [(and_flags m (by omega)).2] at h
  exact h

set_option maxHeartbeats 4000000 in
theorem remove_any (w : World) (B : Nat) (v : Value) (gs : List Int) (u x y z owner : Int) (h : RdI w B v gs) (hB : B ≤ w.heap.size) (hs : Sh w) :
    Calls Tryd.prog 24 #[.agg #[.int .i64 u, v], .int .i64 x, .int .i64 y, .int .i64 z, .int .i64 owner] w fun e w' => e = .returned (.int .i64 (removeV u gs x y z owner)) ∧ Below w.heap.size w w' := by
  obtain ⟨A, cap, rfl, _, _, _⟩ := id h
  have ha : Below w.heap.size w (w.alloc (.cells #[.int .i64 u, .slice A gs.length cap] 27)) := bel_alloc _ _
  have HC := Lib.hid (require_any (w.alloc (.cells #[.int .i64 u, .slice A gs.length cap] 27)) B _ gs u x y z 3 (h.below (ha.mono hB)) (by simp; omega) (hs.belowS ha))
  rcases remove_ways u gs x y z owner with ⟨h1, h2⟩ | ⟨m, rfl, hm, h1, hq⟩
  · have HR := Lib.hid h2
    generalize requireV u gs x y z 3 = r at *
    have e1 : ((r : Int) != 0) = true := bne_iff_ne.2 (by omega)
    have e1' : ((r : Int) == 0) = false := beq_eq_false_iff_ne.2 (by omega)
    clear h1 h2
    go_enter Tryd.func24, Tryd.ntmps24
    go_wp2_with fail
    refine HC.out.mono ?_
    rintro e w1 ⟨rfl, nb⟩
    dsimp only
    go_wp2_with fail
    go_ret
    exact ⟨by rw [HR.out]; rfl, ha.trans (nb.mono (by simp))⟩
  · have HA := Lib.hid (and1024 m hm)
    have HQ := Lib.hid hq
    have H1 := Lib.hid h1
    clear hq h1
    go_enter Tryd.func24, Tryd.ntmps24
    go_wp2_with fail
    refine HC.out.mono ?_
    rintro e w1 ⟨rfl, nb⟩
    rw [H1.out]
    have c0 : w1.cell? ⟨w.heap.size, 0, none⟩ = some (.int .i64 u) := by
      rw [nb.cell (p := ⟨w.heap.size, 0, none⟩) (by simp), World.cell?_alloc_mark]; rfl
    have b1 := ha.trans (nb.mono (by simp))
    clear nb HC
    have hand := HA.out
    dsimp only
    rcases HQ.out with ⟨hq0, hr⟩ | ⟨hq1, hr⟩
    · rw [hq0] at hand
      have HR := Lib.hid hr
      clear hq0 hr HQ
      go_wp2_with fail
      go_ret
      exact ⟨by rw [HR.out]; rfl, b1⟩
    · rw [hq1] at hand
      have ht := tf_of hr
      clear hq1 hr HQ
      rcases ht with ⟨t1, t2, hr⟩ | ⟨t1, t2, t3, t4, hr⟩ | ⟨t1, t2, t3, t4, t5, t6, hr⟩ | ⟨t1, t2, t3, t4, t5, t6, hr⟩
      all_goals
        have HR := Lib.hid hr
        clear hr
        go_wp2_with fail
        go_ret
        exact ⟨by rw [HR.out]; rfl, b1⟩

set_option maxHeartbeats 4000000 in
theorem rremove_any (w : World) (B : Nat) (v : Value) (gs : List Int) (u x y z owner : Int) (h : RdI w B v gs) (hB : B ≤ w.heap.size) :
    Calls Tryd.prog 25 #[.agg #[.int .i64 u, v], .int .i64 x, .int .i64 y, .int .i64 z, .int .i64 owner] w fun e w' => e = .returned (.int .i64 (removeV u gs x y z owner)) ∧ Below w.heap.size w w' := by
  obtain ⟨A, cap, rfl, _, _, _⟩ := id h
  have ha : Below w.heap.size w (w.alloc (.cells #[.int .i64 u, .slice A gs.length cap] 24)) := bel_alloc _ _
  have HC := Lib.hid (rrequire_any (w.alloc (.cells #[.int .i64 u, .slice A gs.length cap] 24)) B _ gs u x y z 3 (h.below (ha.mono hB)) (by simp; omega))
  rcases remove_ways u gs x y z owner with ⟨h1, h2⟩ | ⟨m, rfl, hm, h1, hq⟩
  · have HR := Lib.hid h2
    generalize requireV u gs x y z 3 = r at *
    have e1 : ((r : Int) != 0) = true := bne_iff_ne.2 (by omega)
    have e1' : ((r : Int) == 0) = false := beq_eq_false_iff_ne.2 (by omega)
    clear h1 h2
    go_enter Tryd.func25, Tryd.ntmps25
    go_wp2_with fail
    refine HC.out.mono ?_
    rintro e w1 ⟨rfl, nb⟩
    dsimp only
    go_wp2_with fail
    go_ret
    exact ⟨by rw [HR.out]; rfl, ha.trans (nb.mono (by simp))⟩
  · have HQ := Lib.hid hq
    have H1 := Lib.hid h1
    have hd : (m : Int) / 1024 % 2 = ((m / 1024 % 2 : Nat) : Int) := by omega
    have HD := Lib.hid hd
    clear hq h1 hd
    go_enter Tryd.func25, Tryd.ntmps25
    go_wp2_with fail
    refine HC.out.mono ?_
    rintro e w1 ⟨rfl, nb⟩
    rw [H1.out]
    have c0 : w1.cell? ⟨w.heap.size, 0, none⟩ = some (.int .i64 u) := by
      rw [nb.cell (p := ⟨w.heap.size, 0, none⟩) (by simp), World.cell?_alloc_mark]; rfl
    have b1 := ha.trans (nb.mono (by simp))
    clear nb HC
    have hd := HD.out
    dsimp only
    rcases HQ.out with ⟨hq0, hr⟩ | ⟨hq1, hr⟩
    · rw [hq0] at hd
      have HR := Lib.hid hr
      clear hq0 hr HQ
      go_wp2_with fail
      go_ret
      exact ⟨by rw [HR.out]; rfl, b1⟩
    · rw [hq1] at hd
      have ht := tf_of hr
      clear hq1 hr HQ
      rcases ht with ⟨t1, t2, hr⟩ | ⟨t1, t2, t3, t4, hr⟩ | ⟨t1, t2, t3, t4, t5, t6, hr⟩ | ⟨t1, t2, t3, t4, t5, t6, hr⟩
      all_goals
        have HR := Lib.hid hr
        clear hr
        go_wp2_with fail
        go_ret
        exact ⟨by rw [HR.out]; rfl, b1⟩
end Go.Proofs.YtemcabepbncicaaDoor
