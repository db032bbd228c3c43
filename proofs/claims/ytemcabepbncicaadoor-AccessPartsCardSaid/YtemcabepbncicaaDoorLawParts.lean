/-
  The law AccessParts, walked.
-/
import Derived.Test.YtemcabepbncicaaDoorIdents
import Derived.Test.YtemcabepbncicaaDoorAccO
namespace Go.Proofs.YtemcabepbncicaaDoor
open Go.RowKit
set_option linter.unusedVariables false

theorem three_boxes (w : World) (t1 t2 t3 : TypeId) (cs1 cs2 cs3 : Array Value) :
    Blk (((w.alloc (.cells cs1 t1)).alloc (.cells cs2 t2)).alloc (.cells cs3 t3)) w.heap.size t1 cs1 ∧ Blk (((w.alloc (.cells cs1 t1)).alloc (.cells cs2 t2)).alloc (.cells cs3 t3)) (w.heap.size + 1) t2 cs2 ∧
    Blk (((w.alloc (.cells cs1 t1)).alloc (.cells cs2 t2)).alloc (.cells cs3 t3)) (w.heap.size + 1 + 1) t3 cs3 ∧
    (((w.alloc (.cells cs1 t1)).alloc (.cells cs2 t2)).alloc (.cells cs3 t3)).heap.size = w.heap.size + 1 + 1 + 1 ∧ Below w.heap.size w (((w.alloc (.cells cs1 t1)).alloc (.cells cs2 t2)).alloc (.cells cs3 t3)) :=
  ⟨((Blk.new w t1 cs1).alloc _).alloc _, (Blk.new_ _ t2 cs2 (by simp)).alloc _, Blk.new_ _ t3 cs3 (by simp), by simp, (((Below.refl _ _).alloc (Nat.le_refl _) _).alloc (by simp) _).alloc (by simp; omega) _⟩

theorem u8_int {a : Int} (h : (Lit.int .u8 a).wf = true) : 0 ≤ a ∧ a < 256 := by
  simp [Lit.wf, IntKind.min, IntKind.max, IntKind.bits, IntKind.signed] at h
  omega

theorem or_parts : ∀ t < 8, ∀ a < 8, ∀ b < 8, (t &&& (a ||| b) = a ||| b ↔ t &&& a = a ∧ t &&& b = b) := by decide
theorem or_lt8 : ∀ a < 8, ∀ b < 8, a ||| b < 8 := by decide

/-- The plain law. -/
theorem parts_plain (u : Int) (g : List Int) (x y : Int) (z : Nat) (hz : z ≤ 2047) (a b : Nat) (ha : a < 8) (hb : b < 8) :
    (requireV u g x y z a = 0 ∧ requireV u g x y z b = 0 ∧ requireV u g x y z ((a ||| b : Nat) : Int) = 0) ∨
    (requireV u g x y z a = 0 ∧ requireV u g x y z b = 14 ∧ requireV u g x y z ((a ||| b : Nat) : Int) = 14) ∨
    (requireV u g x y z a = 14 ∧ requireV u g x y z ((a ||| b : Nat) : Int) = 14) := by
  have hab := or_lt8 a ha b hb
  have hb8 := bitsV_lt z (classV u g x y)
  have h := or_parts _ hb8 a ha b hb
  have e : ∀ n : Nat, n < 8 → requireV u g x y z (n : Int) = if u ≠ 0 ∧ bitsV z (classV u g x y) &&& n ≠ n then 14 else 0 := fun n hn => by
    unfold requireV
    rw [if_neg (by omega), Int.toNat_natCast]
  rw [e a ha, e b hb, e _ hab]
  generalize bitsV z (classV u g x y) = t at *
  by_cases hu : u = 0
  · simp [hu]
  · by_cases h1 : t &&& a = a <;> by_cases h2 : t &&& b = b <;> simp [hu, h, h1, h2]

theorem require_zero (g : List Int) (x y : Int) (z a : Nat) (hz : z ≤ 2047) (ha : a < 8) : requireV 0 g x y z a = 0 := by
  unfold requireV
  rw [if_neg (by omega), if_neg (fun h => h.1 rfl)]

set_option maxRecDepth 100000 in
set_option maxHeartbeats 8000000 in
theorem parts_walk (w : World) (u : Int) (v : Value) (x y z p q : Int) (gs : List Int) (hu : (Lit.int .i64 u).wf = true) (hr : RdI w w.heap.size v gs)
    (hx : (Lit.int .i64 x).wf = true) (hy : (Lit.int .i64 y).wf = true) (hz : (Lit.int .i64 z).wf = true) (hp : (Lit.int .u8 p).wf = true) (hq : (Lit.int .u8 q).wf = true) (hs : Sh w) :
    Calls Tryd.prog 4 #[.agg #[.int .i64 u, v], .agg #[.int .i64 x, .int .i64 y, .int .i64 z], .agg #[.int .u8 p, .int .u8 q]] w fun e w' => e = .returned (.bool true) ∧ Below w.heap.size w w' := by
  obtain ⟨A, cap, rfl, _, _, _⟩ := id hr
  obtain ⟨hp1, hp2⟩ := u8_int hp
  obtain ⟨hq1, hq2⟩ := u8_int hq
  clear hu hx hy hz hp hq
  obtain ⟨a, ha⟩ : ∃ a : Nat, a = p.toNat % 8 := ⟨_, rfl⟩
  obtain ⟨b, hb⟩ : ∃ b : Nat, b = q.toNat % 8 := ⟨_, rfl⟩
  have ea : p % 8 = (a : Int) := by omega
  have eb : q % 8 = (b : Int) := by omega
  have ha8 : a < 8 := by omega
  have hb8 : b < 8 := by omega
  have hor := i64_or_nat a b (by omega) (by omega)
  have HOR := Lib.hid hor
  clear ha hb hor
  obtain ⟨n1, n2, n5, n3, n4⟩ := three_boxes w 24 26 38 #[.int .i64 u, .slice A gs.length cap] #[.int .i64 x, .int .i64 y, .int .i64 z] #[.int .u8 p, .int .u8 q]
  have HC := Lib.hid (who_any _ w.heap.size _ gs u (hr.below n4) (by rw [n3]; omega))
  have N1 := Lib.hid n1
  have N2 := Lib.hid n2
  have N3 := Lib.hid n3
  have N4 := Lib.hid n4
  have N5 := Lib.hid n5
  have EA := Lib.hid ea
  have EB := Lib.hid eb
  clear n1 n2 n3 n4 n5 ea eb
  go_enter Tryd.func4, Tryd.ntmps4
  go_wp2_with fail
  refine HC.out.mono ?_
  clear HC
  rintro e w1 ⟨⟨v1, v2, rfl, h1, h2, r1, r2⟩, b1⟩
  generalize gs.take 8 = g8 at *
  obtain ⟨A1, c1, rfl, -, -, -⟩ := id h1
  obtain ⟨A2, c2, rfl, -, -, -⟩ := id h2
  have k3 := N1.out.below b1 (by rw [N3.out]; omega)
  have k4 := N2.out.below b1 (by rw [N3.out]; omega)
  have k5 := N5.out.below b1 (by rw [N3.out]; omega)
  have b2 := N4.out.trans (b1.mono (by rw [N3.out]; omega))
  have st := St.made (by rw [N3.out]; omega) r1 r2 k3 k4 h1 h2 b2
  have hn : w.heap.size + 1 + 1 ≠ w.heap.size := by omega
  have K5 := Lib.hid (((k5.far (p := ⟨w.heap.size, 0, none⟩) hn (.int .i64 u)).far (p := ⟨w.heap.size, 1, none⟩) hn (.slice A2 g8.length c2)).alloc (.cells #[.int .i64 u, .slice A1 g8.length c1] 27))
  have z0 := k3.lt
  have c30 := k3.cell 0
  have c31 := k3.cell 1
  have f30 := k3.frozen 0
  have f31 := k3.frozen 1
  simp at c30 c31
  have HST := Lib.hid st
  clear st b2 k3 k4 k5 b1 N1 N2 N3 N4 N5 h1 h2 r1 r2 hr hn
  dsimp only
  go_upto_region 2 with (fail)
  generalize w1.heap.size = g at *
  have st := HST.out
  clear HST c30 c31 f30 f31 z0
  generalize ((w1.setCell ⟨w.heap.size, 0, none⟩ (.int .i64 u)).setCell ⟨w.heap.size, 1, none⟩ (.slice A2 g8.length c2)).alloc (.cells #[.int .i64 u, .slice A1 g8.length c1] 27) = W at *
  clear w1
  by_cases hz : 0 ≤ z ∧ z ≤ 2047
  · obtain ⟨m, rfl⟩ : ∃ m : Nat, z = m := ⟨z.toNat, by omega⟩
    have hm : m ≤ 2047 := by omega
    have e1 : decide ((m : Int) < 0) = false := decide_eq_false (by omega)
    have e2 : decide ((2047 : Int) < m) = false := decide_eq_false (by omega)
    have e2' : decide (2047 < m) = false := decide_eq_false (by omega)
    clear hz
    obtain ⟨s0, s1, s2, s3, s4, s5, s6⟩ := st.cells
    go_upto_region 4 with (fail)
    clear s0 s1 s2 s3 s4 s5 s6 e1 e2 e2'
    replace st := st.drew
    have k0 : W.drew.cell? ⟨w.heap.size + 1 + 1, 0, none⟩ = some (.int .u8 p) := K5.out.cell 0
    have k1 : W.drew.cell? ⟨w.heap.size + 1 + 1, 1, none⟩ = some (.int .u8 q) := K5.out.cell 1
    refine wp_region_mixS (fun W => W.cell? ⟨w.heap.size + 1 + 1, 0, none⟩ = some (.int .u8 p) ∧ W.cell? ⟨w.heap.size + 1 + 1, 1, none⟩ = some (.int .u8 q)) (List.range 9) [] (List.range 10) (by kernel_rfl) (by kernel_rfl) ⟨k0, k1⟩ ?_
    clear k0 k1 K5
    simp only [inOrder, opAt, List.range, List.range.loop]
    have ea := EA.out
    have eb := EB.out
    have ea' : p.tmod 8 = (a : Int) := by rw [Int.tmod_eq_emod_of_nonneg (by omega)]; exact ea
    have eb' : q.tmod 8 = (b : Int) := by rw [Int.tmod_eq_emod_of_nonneg (by omega)]; exact eb
    iterate 2
      (refine wpMixS_read (v := ?_) rfl rfl (fun w' hS => ?_) ?_
       rotate_left
       · ((try (obtain ⟨s0, s1⟩ := hS rfl)); (try clear hS); go_simp; (try with_reducible rfl))
       try simp only [Act.put, List.setIfInBounds_toArray, List.set_cons_zero, List.set_cons_succ])
    refine wpMixS_read (v := .int .u8 (a : Int)) rfl rfl (fun w' hS => ?_) ?_
    · go_simp
      all_goals (first | rfl | exact wrap_nat _ (by omega))
    try simp only [Act.put, List.setIfInBounds_toArray, List.set_cons_zero, List.set_cons_succ]
    refine wpMixS_read (v := .int .i64 (a : Int)) rfl rfl (fun w' hS => ?_) ?_
    · go_simp
      all_goals (first | rfl | exact wrap_nat _ (by omega))
    try simp only [Act.put, List.setIfInBounds_toArray, List.set_cons_zero, List.set_cons_succ]
    iterate 2
      (refine wpMixS_read (v := ?_) rfl rfl (fun w' hS => ?_) ?_
       rotate_left
       · ((try (obtain ⟨s0, s1⟩ := hS rfl)); (try clear hS); go_simp; (try with_reducible rfl))
       try simp only [Act.put, List.setIfInBounds_toArray, List.set_cons_zero, List.set_cons_succ])
    refine wpMixS_read (v := .int .u8 (b : Int)) rfl rfl (fun w' hS => ?_) ?_
    · go_simp
      all_goals (first | rfl | exact wrap_nat _ (by omega))
    try simp only [Act.put, List.setIfInBounds_toArray, List.set_cons_zero, List.set_cons_succ]
    refine wpMixS_read (v := .int .i64 (b : Int)) rfl rfl (fun w' hS => ?_) ?_
    · go_simp
      all_goals (first | rfl | exact wrap_nat _ (by omega))
    try simp only [Act.put, List.setIfInBounds_toArray, List.set_cons_zero, List.set_cons_succ]
    iterate 2
      (refine wpMixS_read (v := ?_) rfl rfl (fun w' hS => ?_) ?_
       rotate_left
       · ((try (obtain ⟨s0, s1⟩ := hS rfl)); (try clear hS); go_simp; (try with_reducible rfl))
       try simp only [Act.put, List.setIfInBounds_toArray, List.set_cons_zero, List.set_cons_succ])
    refine wpMixS_nil ?_
    clear ea eb ea' eb' EA EB hp1 hp2 hq1 hq2
    generalize W.drew = W2 at *
    have hpl := parts_plain u g8 x y m hm a b ha8 hb8
    have hze := require_zero g8 x y m a hm ha8
    have HPL := Lib.hid hpl
    have HZE := Lib.hid hze
    clear hpl hze
    have hor := HOR.out
    obtain ⟨s0, s1, s2, s3, s4, s5, s6⟩ := st.cells
    go_wp2_with fail
    refine (require_any _ _ _ g8 u x y m a st.r1 (Nat.le_refl _) (hs.belowS st.bl)).mono ?_
    rintro e W3 ⟨rfl, nb⟩
    clear s0 s1 s2 s3 s4 s5 s6
    replace st := st.next nb
    clear nb
    generalize requireV u g8 x y m a = ra at *
    dsimp only
    obtain ⟨s0, s1, s2, s3, s4, s5, s6⟩ := st.cells
    go_wp2_with fail
    refine (require_any _ _ _ g8 u x y m b st.r1 (Nat.le_refl _) (hs.belowS st.bl)).mono ?_
    rintro e W3 ⟨rfl, nb⟩
    clear s0 s1 s2 s3 s4 s5 s6
    replace st := st.next nb
    clear nb
    generalize requireV u g8 x y m b = rb at *
    dsimp only
    obtain ⟨s0, s1, s2, s3, s4, s5, s6⟩ := st.cells
    go_wp2_with fail
    refine (require_any _ _ _ g8 u x y m ((a ||| b : Nat) : Int) st.r1 (Nat.le_refl _) (hs.belowS st.bl)).mono ?_
    rintro e W3 ⟨rfl, nb⟩
    clear s0 s1 s2 s3 s4 s5 s6
    replace st := st.next nb
    clear nb
    generalize requireV u g8 x y m ((a ||| b : Nat) : Int) = rc at *
    dsimp only
    have hpl := HPL.out
    clear HPL
    have f1 : rb ≠ 0 → ((rb : Int) == 0) = false := fun h => beq_eq_false_iff_ne.2 (by omega)
    have hcase : (((ra : Int) == 0) = true ∧ ((rb : Int) == 0) = true ∧ ((rc : Int) == 0) = true) ∨ (((ra : Int) == 0) = true ∧ ((rb : Int) == 0) = false ∧ ((rc : Int) == 0) = false) ∨ (((ra : Int) == 0) = false ∧ ((rc : Int) == 0) = false) := by
      rcases hpl with ⟨rfl, rfl, rfl⟩ | ⟨rfl, rfl, rfl⟩ | ⟨rfl, rfl⟩
      · exact .inl ⟨rfl, rfl, rfl⟩
      · exact .inr (.inl ⟨rfl, rfl, rfl⟩)
      · exact .inr (.inr ⟨rfl, rfl⟩)
    clear hpl f1
    rcases hcase with ⟨f1, f2, f3⟩ | ⟨f1, f2, f3⟩ | ⟨f1, f3⟩
    all_goals
      obtain ⟨s0, s1, s2, s3, s4, s5, s6⟩ := st.cells
      go_wp2_with fail
      refine (known_any _ (hs.belowS st.bl)).mono ?_
      rintro e W4 ⟨rfl, nb⟩
      clear s0 s1 s2 s3 s4 s5 s6
      replace st := st.next nb
      clear nb
      dsimp only
      obtain ⟨s0, s1, s2, s3, s4, s5, s6⟩ := st.cells
      go_wp2_with fail
      refine (require_any _ _ _ g8 0 x y m a st.r2 (Nat.le_refl _) (hs.belowS st.bl)).mono ?_
      rintro e W5 ⟨rfl, nb⟩
      rw [HZE.out]
      dsimp only
      go_wp2_with fail
      go_ret
      exact ⟨by first | rfl | simp, st.bl.trans (nb.mono st.bl.size)⟩
  · have e1 : decide (z < 0) = true ∨ decide (z < 0) = false ∧ decide (2047 < z) = true := by
      by_cases h : z < 0
      · exact .inl (decide_eq_true h)
      · exact .inr ⟨decide_eq_false h, decide_eq_true (by omega)⟩
    obtain ⟨s0, s1, s2, s3, s4, s5, s6⟩ := st.cells
    clear hz
    rcases e1 with e1 | ⟨e1, e2⟩
    all_goals
      go_wp2_with fail
      refine (known_any _ (hs.belowS st.bl)).mono ?_
      rintro e W3 ⟨rfl, nb⟩
      dsimp only
      go_wp2_with fail
      go_ret
      exact ⟨by first | rfl | simp, st.bl.trans (nb.mono st.bl.size)⟩
end Go.Proofs.YtemcabepbncicaaDoor
