/-
  Walks: slices.Clone, Run.
-/
import Derived.Test.YtemcabepbncicaaDoorAccT
import Derived.Test.YtemcabepbncicaaDoorIdents
import Derived.Test.YtemcabepbncicaaDoorMixE
import Derived.Deep.Cut
namespace Go.Proofs.YtemcabepbncicaaDoor
open Go.RowKit
set_option linter.unusedVariables false

theorem own_blk_lt {w : World} {base e size m n c : Nat} {ad : Addr} {xs : List Value} (h : w.ownsRow base e size (.slice (some ad) n c) m xs) : ad.block < w.heap.size := by
  rcases h.2 with ⟨h, _⟩ | ⟨g', cap, cur, hv, _, hh, _⟩
  · cases h
  · injection hv with e1 _ _
    injection e1 with e1
    subst e1
    exact Blk.lt (t := e) hh

/-- A fresh slice of these numbers. -/
def NewI (B : Nat) (l : List Int) (e : Ending) (w' : World) : Prop := ∃ v, e = .returned v ∧ RdI w' w'.heap.size v l ∧ Far B v ∧ ∀ A n c ad, v = .slice A n c → A = some ad → ad.block < w'.heap.size

set_option maxHeartbeats 4000000 in
theorem clone_any (w : World) (B : Nat) (v : Value) (l : List Int) (h : RdI w B v l) (hB : B ≤ w.heap.size) (hl : l.length ≤ 1000) :
    Calls Tryd.prog 37 #[v] w fun e w' => NewI w.heap.size l e w' ∧ Below w.heap.size w w' := by
  obtain ⟨i3, hi, hz0, hz1, hz2⟩ := info_parts info3
  obtain ⟨A, cap, rfl, h1, h2, hrd⟩ := id h
  rcases A with _ | ad
  · have hl0 : l = [] := by
      rcases Nat.eq_zero_or_pos l.length with h0 | h0
      · exact List.eq_nil_of_length_eq_zero h0
      · obtain ⟨_, h, _⟩ := hrd.2 h0; cases h
    subst hl0
    have hq := fun W => Lib.run_eql_slice_nil (P := Tryd.prog) W 22 3 none 0 cap 0 0 Tryd.underlying22
    go_enter Tryd.func37, Tryd.ntmps37
    go_wp2_with fail
    go_ret
    exact ⟨⟨.slice none 0 0, rfl, RdI.nil _ _, fun A n c ad hv hA => (by injection hv with e1; subst e1; cases hA), fun A n c ad hv hA => (by injection hv with e1; subst e1; cases hA)⟩, Below.refl _ _⟩
  · have own0 : (w.alloc (.cells #[] 3)).ownsRow w.heap.size 3 1 (.slice (some ⟨w.heap.size, 0, none⟩) 0 0) 0 [] := World.ownsRow_made w #[] _ (Nat.le_refl _) (Nat.zero_le _) rfl
    have rd1 := hrd.alloc hB (.cells #[] 3)
    have hl2 : l.length ≤ maxLen := by unfold maxLen; omega
    have hq := fun W => Lib.run_eql_slice_nil (P := Tryd.prog) W 22 3 (some ad) l.length cap 0 0 Tryd.underlying22
    go_enter Tryd.func37, Tryd.ntmps37
    go_wp2_with (at_builtin; go_loud (refine wpList_append_any _ rfl (.tmp 5) (.tmp 6) _ rfl w.heap.size 3 i3 _ 1 8 Tryd.underlying22 hi hz0 hz1 hz2 rfl (by omega) (.slice (some ⟨w.heap.size, 0, none⟩) 0 0) 0 [] rfl own0 B (some ad) l.length cap (l.map (Value.int .i64)) rfl rd1 (ints_one l) (by omega) (by omega) (by simp) ?_); intro v1 w1 hown1 hgrow1 hat1; simp only [Nat.zero_add, List.nil_append] at hown1)
    go_ret
    exact ⟨⟨v1, rfl, RdI.of_own hown1 rfl, Far.of_own hown1 (Nat.le_refl _), fun A n c ad' hv hA => by subst hv hA; exact own_blk_lt hown1⟩, ((Below.refl _ _).alloc (Nat.le_refl _) _).grown hgrow1 (by simp) (fun g hg => by simp [Value.ownBlock] at hg; omega)⟩

def runV (u owner mode : Int) : Int := if 0 ≤ mode ∧ mode ≤ 2047 ∧ mode / 512 % 2 = 1 then owner else u

theorem and512 (m : Nat) (hm : m ≤ 2047) : bits .and .i64 (m : Int) 512 = ((m / 512 % 2 * 512 : Nat) : Int) := by
  have h := i64_and_nat m 512 (by omega) (by omega)
  rw [(and_flags m (by omega)).1] at h
  exact h

/-- What Run returns. -/
def RunRet (B : Nat) (u : Int) (l : List Int) (e : Ending) (w' : World) : Prop := ∃ v, e = .returned (.agg #[.int .i64 u, v]) ∧ RdI w' w'.heap.size v l ∧ Far B v

structure Rs (w W : World) (g : Nat) (u : Int) (v : Value) (gs : List Int) : Prop where
  k6 : Blk W (w.heap.size + 1) 27 #[.int .i64 0, .slice none 0 0]
  k7 : Blk W g 27 #[.int .i64 u, v]
  ne : w.heap.size + 1 < g
  rd : RdI W W.heap.size v gs
  hne : ∀ A n c ad, v = .slice A n c → A = some ad → ad.block ≠ g
  far : Far (w.heap.size + 1 + 1) v
  bl : Below w.heap.size w W

set_option maxHeartbeats 8000000 in
theorem run_any (w : World) (B : Nat) (v : Value) (gs : List Int) (u owner mode : Int) (h : RdI w B v gs) (hB : B ≤ w.heap.size) (hl : gs.length ≤ 1000) :
    Calls Tryd.prog 26 #[.agg #[.int .i64 u, v], .int .i64 owner, .int .i64 mode] w fun e w' => RunRet w.heap.size (runV u owner mode) gs e w' ∧ Below w.heap.size w w' := by
  obtain ⟨A, cap, rfl, _, _, _⟩ := id h
  have n1 : Blk ((w.alloc (.cells #[.int .i64 u, .slice A gs.length cap] 27)).alloc (.cells #[.int .i64 0, .slice none 0 0] 27)) w.heap.size 27 #[.int .i64 u, .slice A gs.length cap] := (Blk.new w 27 _).alloc _
  have n2 : Blk ((w.alloc (.cells #[.int .i64 u, .slice A gs.length cap] 27)).alloc (.cells #[.int .i64 0, .slice none 0 0] 27)) (w.heap.size + 1) 27 #[.int .i64 0, .slice none 0 0] := Blk.new_ _ 27 _ (by simp)
  have n4 : Below w.heap.size w ((w.alloc (.cells #[.int .i64 u, .slice A gs.length cap] 27)).alloc (.cells #[.int .i64 0, .slice none 0 0] 27)) := ((Below.refl _ _).alloc (Nat.le_refl _) _).alloc (by simp) _
  have N1 := Lib.hid n1
  have N2 := Lib.hid n2
  have N4 := Lib.hid n4
  clear n1 n2 n4
  go_enter Tryd.func26, Tryd.ntmps26
  go_upto_region 1 with (fail)
  have n1 := N1.out.drew
  have n2 := N2.out.drew
  have n4 := N4.out.drew
  have n5 : h = h := rfl
  clear N1 N2 N4 n5
  have h1 := (h.below (n4.mono hB)).more (Nat.le_trans hB n4.size)
  refine wp_region_mixE (fun W => W.cell? ⟨w.heap.size, 0, none⟩ = some (.int .i64 u) ∧ W.cell? ⟨w.heap.size, 1, none⟩ = some (.slice A gs.length cap)) [0, 1, 2, 3, 4, 5, 6] [4, 6, 7] [0, 1, 2, 3] 4 6 [5, 6, 7] [4, 5, 7] (by kernel_rfl) (by kernel_rfl) ⟨n1.cell 0, n1.cell 1⟩ ?_
  simp only [inOrder, opAt]
  generalize ((w.alloc (.cells #[.int .i64 u, .slice A gs.length cap] 27)).alloc (.cells #[.int .i64 0, .slice none 0 0] 27)).drew = W0 at *
  iterate 4
    (refine wpMixE_read (v := ?_) rfl rfl (fun w' hS => ?_) ?_
     rotate_left
     · ((try (obtain ⟨s0, s1⟩ := hS rfl)); (try clear hS); go_simp; (try with_reducible rfl))
     try simp only [Act.put, List.setIfInBounds_toArray, List.set_cons_zero, List.set_cons_succ])
  have z1 := n2.lt
  have z2 := Nat.lt_of_succ_lt z1
  refine wpMixE_nil ⟨?_, ?_⟩
  · have zw : w.heap.size + 1 + 1 ≤ W0.heap.size := z1
    refine wpMixS_eff rfl rfl (fun K hK => ?_)
    go_simp
    refine (clone_any _ W0.heap.size _ gs h1 (Nat.le_refl _) hl).mono ?_
    rintro e W1 ⟨⟨v1, rfl, r1, f1, g1⟩, nb⟩
    obtain ⟨A1, c1, rfl, -, -, -⟩ := id r1
    have m1 := n1.below nb n1.lt
    have m2 := n2.below nb n2.lt
    dsimp only
    have s0 := m1.cell 0
    have s1 := m1.cell 1
    simp at s0 s1
    refine hK.out _ _ _ (fun _ h => h) (fun _ => ⟨s0, s1⟩) ?_
    clear hK K
    try simp only [Act.put, List.setIfInBounds_toArray, List.set_cons_zero, List.set_cons_succ]
    iterate 1
      (refine wpMixS_read (v := ?_) rfl rfl (fun w' hS => ?_) ?_
       rotate_left
       · ((try (obtain ⟨s0, s1⟩ := hS rfl)); (try clear hS); go_simp; (try with_reducible rfl))
       try simp only [Act.put, List.setIfInBounds_toArray, List.set_cons_zero, List.set_cons_succ])
    refine wpMixS_eff rfl rfl (fun K hK => ?_)
    go_simp
    refine hK.out _ _ _ (fun _ h => h) (fun _ => ⟨?_, ?_⟩) ?_
    focus
      have := (m1.alloc (.cells #[.int .i64 0, .slice none 0 0] 27)).cell 0
      simpa using this
    focus
      have := (m1.alloc (.cells #[.int .i64 0, .slice none 0 0] 27)).cell 1
      simpa using this
    clear hK K
    try simp only [Act.put, List.setIfInBounds_toArray, List.set_cons_zero, List.set_cons_succ]
    refine wpMixS_eff rfl rfl (fun K hK => ?_)
    go_simp
    refine hK.out _ _ _ (fun _ h => h) (fun h => by cases h) ?_
    clear hK K
    try simp only [Act.put, List.setIfInBounds_toArray, List.set_cons_zero, List.set_cons_succ]
    refine wpMixS_nil ?_
    have nbs := nb.size
    have rs : Rs w (W1.alloc (.cells #[.int .i64 u, .slice A1 gs.length c1] 27)) W1.heap.size u (.slice A1 gs.length c1) gs :=
      ⟨m2.alloc _, Blk.new W1 27 _, by omega, (r1.below ((Below.refl _ _).alloc (Nat.le_refl _) _)).more (by simp), fun A n c ad hv hA => Nat.ne_of_lt (g1 A n c ad hv hA), fun A n c ad hv hA => by have := f1 A n c ad hv hA; omega, (n4.trans (nb.mono n4.size)).alloc (by omega) _⟩
    generalize W1.alloc (.cells #[.int .i64 u, .slice A1 gs.length c1] 27) = W at *
    generalize W1.heap.size = g at *
    clear m1 m2 r1 f1 nb n1 n2 n4 h1 h s0 s1 z1 z2 zw nbs
    have x0 := rs.k7.cell 0
    have x1 := rs.k7.cell 1
    have y0 := rs.k7.frozen 0
    have y1 := rs.k7.frozen 1
    have p0 := rs.k6.frozen 0
    have p1 := rs.k6.frozen 1
    have q0 := rs.k6.cell 0
    have q1 := rs.k6.cell 1
    simp at x0 x1 q0 q1
    have ne1 := rs.ne
    have ne2 : g ≠ w.heap.size + 1 := by omega
    have ne3 : w.heap.size + 1 ≠ g := by omega
    have ne4 : w.heap.size ≤ g := by omega
    have hz1 := rs.k7.lt
    have hz2 := rs.k6.lt
    have RD := Lib.hid rs.rd
    have HN := Lib.hid rs.hne
    have FR := Lib.hid rs.far
    have BL := Lib.hid rs.bl
    clear rs
    by_cases hm : 0 ≤ mode ∧ mode ≤ 2047
    · have hmb := Lib.hid (modeB_yes hm.1 hm.2)
      obtain ⟨m, rfl⟩ : ∃ m : Nat, mode = m := ⟨mode.toNat, by omega⟩
      have hq : m / 512 % 2 = 0 ∨ m / 512 % 2 = 1 := by omega
      have hand := and512 m (by omega)
      rcases hq with hq | hq
      · rw [hq] at hand
        have hr : Hid (runV u owner m = u) := Lib.hid (by unfold runV; rw [if_neg (by omega)])
        clear hm hq
        go_wp2_with fail
        refine (isMode_any _ _).mono ?_
        rintro e w' ⟨rfl, rfl⟩
        rw [hmb.out]
        dsimp only
        go_wp2_with fail
        rw [hr.out]
        exact bodyPost_ret (v := .agg #[.int .i64 u, .slice A1 gs.length c1]) (by simp [results, Tryd.results26, go_sem, q0, q1]) rfl ⟨⟨_, rfl, by refine RdI.more (B := W.heap.size) (RdI.set_ (RdI.set_ RD.out rfl ?_ _) rfl ?_ _) (by simp) <;> (intro ad h; have := FR.out _ _ _ ad rfl h; show ad.block ≠ w.heap.size + 1; omega), fun A n c ad hv hA => by have := FR.out A n c ad hv hA; omega⟩, (BL.out.setCell (by simp) _).setCell (by simp) _⟩
      · rw [hq] at hand
        have hr : Hid (runV u owner m = owner) := Lib.hid (by unfold runV; rw [if_pos (by omega)])
        clear hm hq
        go_wp2_with fail
        refine (isMode_any _ _).mono ?_
        rintro e w' ⟨rfl, rfl⟩
        rw [hmb.out]
        dsimp only
        go_wp2_with fail
        rw [hr.out]
        exact bodyPost_ret (v := .agg #[.int .i64 owner, .slice A1 gs.length c1]) (by simp [results, Tryd.results26, go_sem, q0, q1]) rfl ⟨⟨_, rfl, by refine RdI.more (B := W.heap.size) (RdI.set_ (RdI.set_ (RdI.set_ RD.out rfl ?_ _) rfl ?_ _) rfl ?_ _) (by simp) <;> (intro ad h; first | exact HN.out _ _ _ ad rfl h | (have := FR.out _ _ _ ad rfl h; show ad.block ≠ w.heap.size + 1; omega)), fun A n c ad hv hA => by have := FR.out A n c ad hv hA; omega⟩, ((BL.out.setCell ne4 _).setCell (by simp) _).setCell (by simp) _⟩
    · have hmb := Lib.hid (modeB_no (x := mode) (by omega))
      have hr : Hid (runV u owner mode = u) := Lib.hid (by unfold runV; rw [if_neg (by omega)])
      clear hm
      go_wp2_with fail
      refine (isMode_any _ _).mono ?_
      rintro e w' ⟨rfl, rfl⟩
      rw [hmb.out]
      dsimp only
      go_wp2_with fail
      rw [hr.out]
      exact bodyPost_ret (v := .agg #[.int .i64 u, .slice A1 gs.length c1]) (by simp [results, Tryd.results26, go_sem, q0, q1]) rfl ⟨⟨_, rfl, by refine RdI.more (B := W.heap.size) (RdI.set_ (RdI.set_ RD.out rfl ?_ _) rfl ?_ _) (by simp) <;> (intro ad h; have := FR.out _ _ _ ad rfl h; show ad.block ≠ w.heap.size + 1; omega), fun A n c ad hv hA => by have := FR.out A n c ad hv hA; omega⟩, (BL.out.setCell (by simp) _).setCell (by simp) _⟩
  · have zw : w.heap.size + 1 + 1 ≤ W0.heap.size := z1
    refine wpMixS_eff rfl rfl (fun K hK => ?_)
    go_simp
    refine hK.out _ _ _ (fun _ h => h) (fun _ => ⟨?_, ?_⟩) ?_
    focus
      have := (n1.alloc (.cells #[.int .i64 0, .slice none 0 0] 27)).cell 0
      simpa using this
    focus
      have := (n1.alloc (.cells #[.int .i64 0, .slice none 0 0] 27)).cell 1
      simpa using this
    clear hK K
    try simp only [Act.put, List.setIfInBounds_toArray, List.set_cons_zero, List.set_cons_succ]
    have i1 := n1.alloc (.cells #[.int .i64 0, .slice none 0 0] 27)
    have i2 := n2.alloc (.cells #[.int .i64 0, .slice none 0 0] 27)
    have i3 : Blk (W0.alloc (.cells #[.int .i64 0, .slice none 0 0] 27)) W0.heap.size 27 #[.int .i64 0, .slice none 0 0] := Blk.new W0 27 _
    have i4 := n4.alloc n4.size (.cells #[.int .i64 0, .slice none 0 0] 27)
    have i5 := (h1.below ((Below.refl _ _).alloc (Nat.le_refl _) (.cells #[.int .i64 0, .slice none 0 0] 27))).more (show W0.heap.size ≤ (W0.alloc (.cells #[.int .i64 0, .slice none 0 0] 27)).heap.size by simp)
    refine wpMixS_eff rfl rfl (fun K hK => ?_)
    go_simp
    refine (clone_any _ _ _ gs i5 (Nat.le_refl _) hl).mono ?_
    rintro e W1 ⟨⟨v1, rfl, r1, f1, g1⟩, nb⟩
    obtain ⟨A1, c1, rfl, -, -, -⟩ := id r1
    have m1 := i1.below nb i1.lt
    have m2 := i2.below nb i2.lt
    have m3 := i3.below nb i3.lt
    have nbs := nb.size
    have m4 := i4.trans (nb.mono i4.size)
    have f2 : Far (W0.heap.size + 1) (.slice A1 gs.length c1) := by simpa using f1
    clear i1 i2 i3 i4 i5
    dsimp only
    have s0 := m1.cell 0
    have s1 := m1.cell 1
    simp at s0 s1
    refine hK.out _ _ _ (fun _ h => h) (fun _ => ⟨s0, s1⟩) ?_
    clear hK K
    try simp only [Act.put, List.setIfInBounds_toArray, List.set_cons_zero, List.set_cons_succ]
    iterate 1
      (refine wpMixS_read (v := ?_) rfl rfl (fun w' hS => ?_) ?_
       rotate_left
       · ((try (obtain ⟨s0, s1⟩ := hS rfl)); (try clear hS); go_simp; (try with_reducible rfl))
       try simp only [Act.put, List.setIfInBounds_toArray, List.set_cons_zero, List.set_cons_succ])
    have z3 := m3.lt
    have y0 := m3.cell 0
    have y1 := m3.cell 1
    have p0 := m3.frozen 0
    have p1 := m3.frozen 1
    simp at y0 y1
    refine wpMixS_eff rfl rfl (fun K hK => ?_)
    go_simp
    refine hK.out _ _ _ (fun _ h => h) (fun h => by cases h) ?_
    clear hK K
    try simp only [Act.put, List.setIfInBounds_toArray, List.set_cons_zero, List.set_cons_succ]
    refine wpMixS_nil ?_
    have hn : w.heap.size + 1 ≠ W0.heap.size := by omega
    have rs : Rs w ((W1.setCell ⟨W0.heap.size, 0, none⟩ (.int .i64 u)).setCell ⟨W0.heap.size, 1, none⟩ (.slice A1 gs.length c1)) W0.heap.size u (.slice A1 gs.length c1) gs :=
      ⟨(m2.far (p := ⟨W0.heap.size, 0, none⟩) hn _).far (p := ⟨W0.heap.size, 1, none⟩) hn _, (m3.set_ 0 (.int .i64 u)).set_ 1 (.slice A1 gs.length c1), by omega,
        by refine RdI.more (B := W1.heap.size) (RdI.set_ (RdI.set_ r1 rfl ?_ _) rfl ?_ _) (by simp) <;> (intro ad h; have := f2 _ _ _ ad rfl h; show ad.block ≠ W0.heap.size; omega),
        fun A n c ad hv hA => (by have := f2 A n c ad hv hA; omega), fun A n c ad hv hA => (by have := f2 A n c ad hv hA; omega), (m4.setCell (by show _ ≤ W0.heap.size; omega) _).setCell (by show _ ≤ W0.heap.size; omega) _⟩
    generalize (W1.setCell ⟨W0.heap.size, 0, none⟩ (.int .i64 u)).setCell ⟨W0.heap.size, 1, none⟩ (.slice A1 gs.length c1) = W at *
    clear m1 m2 m3 m4 r1 f1 f2 g1 nb n1 n2 n4 h1 h s0 s1 z1 z2 zw nbs z3 y0 y1 p0 p1 hn
    generalize W0.heap.size = g at *
    have x0 := rs.k7.cell 0
    have x1 := rs.k7.cell 1
    have y0 := rs.k7.frozen 0
    have y1 := rs.k7.frozen 1
    have p0 := rs.k6.frozen 0
    have p1 := rs.k6.frozen 1
    have q0 := rs.k6.cell 0
    have q1 := rs.k6.cell 1
    simp at x0 x1 q0 q1
    have ne1 := rs.ne
    have ne2 : g ≠ w.heap.size + 1 := by omega
    have ne3 : w.heap.size + 1 ≠ g := by omega
    have ne4 : w.heap.size ≤ g := by omega
    have hz1 := rs.k7.lt
    have hz2 := rs.k6.lt
    have RD := Lib.hid rs.rd
    have HN := Lib.hid rs.hne
    have FR := Lib.hid rs.far
    have BL := Lib.hid rs.bl
    clear rs
    by_cases hm : 0 ≤ mode ∧ mode ≤ 2047
    · have hmb := Lib.hid (modeB_yes hm.1 hm.2)
      obtain ⟨m, rfl⟩ : ∃ m : Nat, mode = m := ⟨mode.toNat, by omega⟩
      have hq : m / 512 % 2 = 0 ∨ m / 512 % 2 = 1 := by omega
      have hand := and512 m (by omega)
      rcases hq with hq | hq
      · rw [hq] at hand
        have hr : Hid (runV u owner m = u) := Lib.hid (by unfold runV; rw [if_neg (by omega)])
        clear hm hq
        go_wp2_with fail
        refine (isMode_any _ _).mono ?_
        rintro e w' ⟨rfl, rfl⟩
        rw [hmb.out]
        dsimp only
        go_wp2_with fail
        rw [hr.out]
        exact bodyPost_ret (v := .agg #[.int .i64 u, .slice A1 gs.length c1]) (by simp [results, Tryd.results26, go_sem, q0, q1]) rfl ⟨⟨_, rfl, by refine RdI.more (B := W.heap.size) (RdI.set_ (RdI.set_ RD.out rfl ?_ _) rfl ?_ _) (by simp) <;> (intro ad h; have := FR.out _ _ _ ad rfl h; show ad.block ≠ w.heap.size + 1; omega), fun A n c ad hv hA => by have := FR.out A n c ad hv hA; omega⟩, (BL.out.setCell (by simp) _).setCell (by simp) _⟩
      · rw [hq] at hand
        have hr : Hid (runV u owner m = owner) := Lib.hid (by unfold runV; rw [if_pos (by omega)])
        clear hm hq
        go_wp2_with fail
        refine (isMode_any _ _).mono ?_
        rintro e w' ⟨rfl, rfl⟩
        rw [hmb.out]
        dsimp only
        go_wp2_with fail
        rw [hr.out]
        exact bodyPost_ret (v := .agg #[.int .i64 owner, .slice A1 gs.length c1]) (by simp [results, Tryd.results26, go_sem, q0, q1]) rfl ⟨⟨_, rfl, by refine RdI.more (B := W.heap.size) (RdI.set_ (RdI.set_ (RdI.set_ RD.out rfl ?_ _) rfl ?_ _) rfl ?_ _) (by simp) <;> (intro ad h; first | exact HN.out _ _ _ ad rfl h | (have := FR.out _ _ _ ad rfl h; show ad.block ≠ w.heap.size + 1; omega)), fun A n c ad hv hA => by have := FR.out A n c ad hv hA; omega⟩, ((BL.out.setCell ne4 _).setCell (by simp) _).setCell (by simp) _⟩
    · have hmb := Lib.hid (modeB_no (x := mode) (by omega))
      have hr : Hid (runV u owner mode = u) := Lib.hid (by unfold runV; rw [if_neg (by omega)])
      clear hm
      go_wp2_with fail
      refine (isMode_any _ _).mono ?_
      rintro e w' ⟨rfl, rfl⟩
      rw [hmb.out]
      dsimp only
      go_wp2_with fail
      rw [hr.out]
      exact bodyPost_ret (v := .agg #[.int .i64 u, .slice A1 gs.length c1]) (by simp [results, Tryd.results26, go_sem, q0, q1]) rfl ⟨⟨_, rfl, by refine RdI.more (B := W.heap.size) (RdI.set_ (RdI.set_ RD.out rfl ?_ _) rfl ?_ _) (by simp) <;> (intro ad h; have := FR.out _ _ _ ad rfl h; show ad.block ≠ w.heap.size + 1; omega), fun A n c ad hv hA => by have := FR.out A n c ad hv hA; omega⟩, (BL.out.setCell (by simp) _).setCell (by simp) _⟩
end Go.Proofs.YtemcabepbncicaaDoor
