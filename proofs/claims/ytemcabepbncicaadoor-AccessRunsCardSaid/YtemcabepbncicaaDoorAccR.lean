/-
  Walks: Who.
-/
import Derived.Test.YtemcabepbncicaaDoorAccO
namespace Go.Proofs.YtemcabepbncicaaDoor
open Go.RowKit

theorem info3 : (Tryd.prog.info? 3).map (fun i => (i.zero, i.size, i.bytes)) = some (some (.int .i64 0), 1, 8) := by kernel_rfl
theorem own_formI {w : World} {base e size n : Nat} {v : Value} {xs : List Value} (h : w.ownsRow base e size v n xs) : ∃ A c, v = .slice A n c := by
  rcases h.2 with ⟨rfl, rfl⟩ | ⟨g, cap, cur, rfl, _⟩
  · exact ⟨_, _, rfl⟩
  · exact ⟨_, _, rfl⟩
theorem ints_one (l : List Int) : ∀ u ∈ l.map (Value.int .i64), u.oneCell' = true := by
  intro u hu
  simp only [List.mem_map] at hu
  obtain ⟨b, _, rfl⟩ := hu
  rfl

theorem own_lt {w : World} {base e size n : Nat} {v : Value} {xs : List Value} (h : w.ownsRow base e size v n xs) : ∀ g, v.ownBlock = some g → g < w.heap.size := by
  rcases h.2 with ⟨rfl, _⟩ | ⟨g', cap, cur, rfl, _, hh, _⟩
  · simp [Value.ownBlock]
  · intro g hg
    have : g' = g := by simpa [Value.ownBlock] using hg
    subst this
    exact Blk.lt (t := e) hh

/-- A slice whose row lies in a block from B on. -/
def Far (B : Nat) (v : Value) : Prop := ∀ A n c ad, v = .slice A n c → A = some ad → B ≤ ad.block
theorem Far.of_own {w : World} {base B e size n : Nat} {v : Value} {xs : List Value} (h : w.ownsRow base e size v n xs) (hB : B ≤ base) : Far B v := by
  intro A m c ad hv hA
  subst hA
  rcases h.2 with ⟨rfl, _⟩ | ⟨g', cap, cur, rfl, hg, _⟩
  · cases hv
  · injection hv with e1 _ _
    injection e1 with e1
    subst e1
    exact Nat.le_trans hB hg

/-- What Who returns. -/
def WhoRet (B : Nat) (w' : World) (u : Int) (g : List Int) (e : Ending) : Prop :=
  ∃ v1 v2, e = .returned (.tuple #[.agg #[.int .i64 u, v1], .agg #[.int .i64 u, v2]]) ∧ RdI w' w'.heap.size v1 g ∧ RdI w' w'.heap.size v2 g ∧ Far B v1 ∧ Far B v2

set_option maxHeartbeats 4000000 in
theorem who_any (w : World) (B : Nat) (v : Value) (gs : List Int) (u : Int) (h : RdI w B v gs) (hB : B ≤ w.heap.size) :
    Calls Tryd.prog 12 #[.agg #[.int .i64 u, v]] w fun e w' => WhoRet w.heap.size w' u (gs.take 8) e ∧ Below w.heap.size w w' := by
  obtain ⟨i3, hi, hz0, hz1, hz2⟩ := info_parts info3
  obtain ⟨A, cap, rfl, hc1, hc2, _⟩ := id h
  obtain ⟨q, hq⟩ : ∃ q : Nat, q = min gs.length 8 := ⟨_, rfl⟩
  have e1 : (if (8 : Int) < (gs.length : Int) then (8 : Int) else (gs.length : Int)) = (q : Int) := by split <;> omega
  have hq2 : q ≤ gs.length ∧ q ≤ cap ∧ q ≤ 8 := by omega
  have hup := h.upto hq2.1
  have htk : gs.take q = gs.take 8 := by
    rcases Nat.le_total gs.length 8 with h | h
    · rw [List.take_of_length_le (by omega), List.take_of_length_le h]
    · rw [hq, Nat.min_eq_right h]
  rw [htk] at hup
  have hl8 : (gs.take 8).length = q := by rw [List.length_take]; omega
  obtain ⟨A', c', hv, _, _, hrd⟩ := id hup
  injection hv with v1 v2 v3
  subst v1 v3
  rw [← v2] at hrd
  have HUP := Lib.hid hup
  clear hq htk v2 hup
  generalize gs.take 8 = g8 at *
  have e1' : min (gs.length : Int) 8 = (q : Int) := by omega
  have l1 : B ≤ (w.alloc (.cells #[.int .i64 u, .slice A gs.length cap] 24)).heap.size := by first | (simp; done) | (simp; omega) | omega
  have l2 : B ≤ ((w.alloc (.cells #[.int .i64 u, .slice A gs.length cap] 24)).alloc (.cells #[.int .i64 0, .slice none 0 0] 27)).heap.size := by first | (simp; done) | (simp; omega) | omega
  have l3 : B ≤ (((w.alloc (.cells #[.int .i64 u, .slice A gs.length cap] 24)).alloc (.cells #[.int .i64 0, .slice none 0 0] 27)).alloc (.cells #[.int .i64 0, .slice none 0 0] 24)).heap.size := by first | (simp; done) | (simp; omega) | omega
  have l4 : w.heap.size + 1 + 1 + 1 ≤ (((w.alloc (.cells #[.int .i64 u, .slice A gs.length cap] 24)).alloc (.cells #[.int .i64 0, .slice none 0 0] 27)).alloc (.cells #[.int .i64 0, .slice none 0 0] 24)).heap.size := by first | (simp; done) | (simp; omega) | omega
  have l5 : w.heap.size + 1 + 1 + 1 ≤ ((((w.alloc (.cells #[.int .i64 u, .slice A gs.length cap] 24)).alloc (.cells #[.int .i64 0, .slice none 0 0] 27)).alloc (.cells #[.int .i64 0, .slice none 0 0] 24)).alloc (.cells #[] 3)).heap.size := by first | (simp; done) | (simp; omega) | omega
  have l6 : (((w.alloc (.cells #[.int .i64 u, .slice A gs.length cap] 24)).alloc (.cells #[.int .i64 0, .slice none 0 0] 27)).alloc (.cells #[.int .i64 0, .slice none 0 0] 24)).heap.size = w.heap.size + 1 + 1 + 1 := by first | (simp; done) | (simp; omega) | omega
  have own0 : ∀ W3 : World, w.heap.size + 1 + 1 + 1 ≤ W3.heap.size → W3.heap.size = w.heap.size + 1 + 1 + 1 → (W3.alloc (.cells #[] 3)).ownsRow (w.heap.size + 1 + 1 + 1) 3 1 (.slice (some ⟨w.heap.size + 1 + 1 + 1, 0, none⟩) 0 0) 0 [] := fun W3 h1 h2 => by rw [← h2] at h1 ⊢; exact World.ownsRow_made W3 #[] _ h1 (Nat.zero_le _) rfl
  go_enter Tryd.func12, Tryd.ntmps12
  go_wp2_with (at_builtin; go_loud (refine wpList_append_any _ rfl (.tmp 4) (.tmp 11) _ rfl (w.heap.size + 1 + 1 + 1) 3 i3 _ 1 8 Tryd.underlying22 hi hz0 hz1 hz2 rfl (by omega) (.slice (some ⟨w.heap.size + 1 + 1 + 1, 0, none⟩) 0 0) 0 [] rfl (own0 _ l4 l6) B A q cap (g8.map (Value.int .i64)) rfl ((((hrd.alloc hB _).alloc l1 _).alloc l2 _).alloc l3 _) (ints_one g8) (by unfold maxLen; omega) (by omega) l5 ?_); intro v1 w1 hown1 hgrow1 hat1; obtain ⟨A5, c5, rfl⟩ := own_formI hown1; have kb1 := ((((Blk.new w 24 #[.int .i64 u, .slice A gs.length cap]).alloc _).alloc _).alloc _).grown hgrow1 (by first | (simp [Value.ownBlock]; done) | (simp [Value.ownBlock]; omega)); have kb2 := (((Blk.new_ (g := w.heap.size + 1) (w.alloc (.cells #[.int .i64 u, .slice A gs.length cap] 24)) 27 #[.int .i64 0, .slice none 0 0] (by simp)).alloc _).alloc _).grown hgrow1 (by first | (simp [Value.ownBlock]; done) | (simp [Value.ownBlock]; omega)); have kb3 := ((Blk.new_ (g := w.heap.size + 1 + 1) ((w.alloc (.cells #[.int .i64 u, .slice A gs.length cap] 24)).alloc (.cells #[.int .i64 0, .slice none 0 0] 27)) 24 #[.int .i64 0, .slice none 0 0] (by simp)).alloc _).grown hgrow1 (by first | (simp [Value.ownBlock]; done) | (simp [Value.ownBlock]; omega)); have z1 := kb3.lt; have fz1 := kb1.frozen 1; have fc1 := kb1.cell 1; have fz0 := kb1.frozen 0; simp only [Nat.zero_add, List.nil_append] at hown1)
  have kc := kb1.set_ 1 (.slice A5 q c5)
  have d0 := kc.cell 0
  have d1 := kc.cell 1
  simp at d0 d1
  refine wp_region_mixS (fun W => W.cell? ⟨w.heap.size, 0, none⟩ = some (.int .i64 u) ∧ W.cell? ⟨w.heap.size, 1, none⟩ = some (.slice A5 q c5)) [0, 1, 2, 3, 4, 5, 6, 7, 8] [2, 5, 8, 9] [0, 1, 3, 4, 7, 2, 5, 6, 8, 9] (by kernel_rfl) (by kernel_rfl) ⟨d0, d1⟩ ?_
  simp only [inOrder, opAt]
  iterate 5
    (refine wpMixS_read (v := ?_) rfl rfl (fun w' hS => ?_) ?_
     rotate_left
     · ((try replace hS := hS rfl); (try dsimp only at hS); (try obtain ⟨hS0, hS1⟩ := hS); go_simp; (try with_reducible rfl))
     try simp only [Act.put, List.setIfInBounds_toArray, List.set_cons_zero, List.set_cons_succ])
  have ownS := ownsRow_setCell_below hown1 (a := ⟨w.heap.size, 1, none⟩) (by show w.heap.size < _; omega) (.slice A5 q c5)
  have kc2 := kb2.far (p := ⟨w.heap.size, 1, none⟩) (by show w.heap.size + 1 ≠ w.heap.size; omega) (.slice A5 q c5)
  have kc3 := kb3.far (p := ⟨w.heap.size, 1, none⟩) (by show w.heap.size + 1 + 1 ≠ w.heap.size; omega) (.slice A5 q c5)
  have KC := Lib.hid kc
  have KC2 := Lib.hid kc2
  have KC3 := Lib.hid kc3
  have kz := kc3.lt
  have hbS : Below w.heap.size w (w1.setCell ⟨w.heap.size, 1, none⟩ (.slice A5 q c5)) := (((((((Below.refl _ _).alloc (Nat.le_refl _) _).alloc (by first | (simp; done) | (simp; omega) | omega) _).alloc (by first | (simp; done) | (simp; omega) | omega) _).alloc (by first | (simp; done) | (simp; omega) | omega) _).grown hgrow1 (by first | (simp; done) | (simp; omega) | omega) (fun g hg => by simp [Value.ownBlock] at hg; omega)).setCell (by simp) _)
  generalize hwS : w1.setCell ⟨w.heap.size, 1, none⟩ (.slice A5 q c5) = wS at *
  have HBS := Lib.hid hbS
  have OWN := Lib.hid ownS
  clear hbS ownS kc kc2 kc3 kb1 kb2 kb3 hown1 hgrow1 hat1 fz1 fc1 fz0 d0 d1 hwS z1 l1 l2 l3 l4 l5 l6 own0
  refine wpMixS_eff rfl rfl (fun K hK => ?_)
  go_simp
  refine hK.out _ _ _ (fun _ h => h) (fun _ => ⟨by have := (KC.out.alloc (.cells #[] 3)).cell 0; simpa using this, by have := (KC.out.alloc (.cells #[] 3)).cell 1; simpa using this⟩) ?_
  clear hK K
  try simp only [Act.put, List.setIfInBounds_toArray, List.set_cons_zero, List.set_cons_succ]
  have own1 : ((wS.alloc (.cells #[] 3)).drew).ownsRow wS.heap.size 3 1 (.slice (some ⟨wS.heap.size, 0, none⟩) 0 0) 0 [] := (World.ownsRow_made wS #[] _ (Nat.le_refl _) (Nat.zero_le _) rfl).drew
  have rdA : Reads ((wS.alloc (.cells #[] 3)).drew) wS.heap.size 1 A5 q (g8.map (Value.int .i64)) := ((Reads.of_own OWN.out).alloc (Nat.le_refl _) _).drew
  refine wpMixS_eff rfl rfl (fun K hK => ?_)
  refine wp_append_any _ (.tmp 16) (.tmp 18) _ (by rfl) wS.heap.size 3 i3 _ 1 8 Tryd.underlying22 hi hz0 hz1 hz2 rfl (by omega) (.slice (some ⟨wS.heap.size, 0, none⟩) 0 0) 0 [] (by rfl) own1 wS.heap.size A5 q c5 (g8.map (Value.int .i64)) (by rfl) rdA (ints_one g8) (by unfold maxLen; omega) (by omega) (by first | (simp; done) | (simp; omega) | omega) ?_
  intro v2 w2 hown2 hgrow2 hat2
  obtain ⟨A6, c6, rfl⟩ := own_formI hown2
  have m1 := (KC.out.alloc (.cells #[] 3)).drew.grown hgrow2 (by simp [Value.ownBlock]; omega)
  have m2 := (KC2.out.alloc (.cells #[] 3)).drew.grown hgrow2 (by simp [Value.ownBlock]; omega)
  have m3 := (KC3.out.alloc (.cells #[] 3)).drew.grown hgrow2 (by simp [Value.ownBlock]; omega)
  refine hK.out _ _ _ (fun _ h => h) (fun _ => ⟨by simpa using m1.cell 0, by simpa using m1.cell 1⟩) ?_
  clear hK K
  try simp only [Act.put, List.setIfInBounds_toArray, List.set_cons_zero, List.set_cons_succ]
  simp only [Nat.zero_add, List.nil_append] at hown2 ⊢
  have hmw : w2.heap.size = w2.heap.size := rfl
  have hgs := hgrow2.size
  have hgS : wS.heap.size ≤ w2.heap.size := Nat.le_trans (by first | (simp; done) | (simp; omega) | omega) hgs
  have n1 := m1.lt
  have n2 := m2.lt
  have n3 := m3.lt
  have hb2 : Below w.heap.size w w2 := ((HBS.out.alloc HBS.out.size _).drew).grown hgrow2 (by have := HBS.out.size; first | (simp; done) | (simp; omega) | omega) (fun g hg => by simp [Value.ownBlock] at hg; have := HBS.out.size; omega)
  have HB2 := Lib.hid hb2
  have OWN2 := Lib.hid hown2
  have RDB := Lib.hid (rdA.grown hgrow2 (by first | (simp; done) | (simp; omega) | omega) (fun g hg => by simp [Value.ownBlock] at hg; omega))
  have OWNB := Lib.hid (own_fr (L := [wS.heap.size]) ((OWN.out.alloc (.cells #[] 3)).drew) (Fr.of_grown hgrow2 (by intro g hg; simpa [Value.ownBlock] using hg.symm)) (fun g hg => by have := own_lt OWN.out g hg; simp; omega))
  clear hb2 hown2 rdA own1 hgrow2 hat2 hgs
  refine wpMixS_read (v := ?_) rfl rfl (fun w' hS => ?_) ?_
  rotate_left
  · ((try replace hS := hS rfl); (try dsimp only at hS); go_simp; (try with_reducible rfl))
  try simp only [Act.put, List.setIfInBounds_toArray, List.set_cons_zero, List.set_cons_succ]
  have x20 := m2.frozen 0
  have x21 := m2.frozen 1
  have x30 := m3.frozen 0
  have x31 := m3.frozen 1
  have y20 := m2.cell 0
  have y21 := m2.cell 1
  have y30 := m3.cell 0
  have y31 := m3.cell 1
  simp at y20 y21 y30 y31
  refine wpMixS_eff rfl rfl (fun K hK => ?_)
  go_simp
  have f1 : w.heap.size ≠ w.heap.size + 1 := by omega
  have f3 : w.heap.size + 1 + 1 ≠ w.heap.size + 1 := by omega
  have f4 : w.heap.size ≠ w.heap.size + 1 + 1 := by omega
  have f5 : w.heap.size + 1 ≠ w.heap.size + 1 + 1 := by omega
  have p1 := (m1.far (p := ⟨w.heap.size + 1, 0, none⟩) f1 (.int .i64 u)).far (p := ⟨w.heap.size + 1, 1, none⟩) f1 (.slice A6 q c6)
  have p2 := (m2.set_ 0 (.int .i64 u)).set_ 1 (.slice A6 q c6)
  have p3 := (m3.far (p := ⟨w.heap.size + 1, 0, none⟩) f3 (.int .i64 u)).far (p := ⟨w.heap.size + 1, 1, none⟩) f3 (.slice A6 q c6)
  refine hK.out _ _ _ (fun _ h => h) (fun _ => ⟨by simpa using p1.cell 0, by simpa using p1.cell 1⟩) ?_
  clear hK K
  have HB3 : Hid (Below w.heap.size w ((w2.setCell ⟨w.heap.size + 1, 0, none⟩ (.int .i64 u)).setCell ⟨w.heap.size + 1, 1, none⟩ (.slice A6 q c6))) := Lib.hid ((HB2.out.setCell (by simp) _).setCell (by simp) _)
  have OWN3 := Lib.hid (ownsRow_setCell_below (ownsRow_setCell_below OWN2.out (a := ⟨w.heap.size + 1, 0, none⟩) (by show w.heap.size + 1 < _; omega) (.int .i64 u)) (a := ⟨w.heap.size + 1, 1, none⟩) (by show w.heap.size + 1 < _; omega) (.slice A6 q c6))
  have OWNB3 := Lib.hid (ownsRow_setCell_below (ownsRow_setCell_below OWNB.out (a := ⟨w.heap.size + 1, 0, none⟩) (by show w.heap.size + 1 < _; omega) (.int .i64 u)) (a := ⟨w.heap.size + 1, 1, none⟩) (by show w.heap.size + 1 < _; omega) (.slice A6 q c6))
  clear OWN2 OWNB
  generalize hw3 : (w2.setCell ⟨w.heap.size + 1, 0, none⟩ (.int .i64 u)).setCell ⟨w.heap.size + 1, 1, none⟩ (.slice A6 q c6) = w3 at *
  have P1 := Lib.hid p1
  have P2 := Lib.hid p2
  have P3 := Lib.hid p3
  clear x20 x21 x30 x31 y20 y21 y30 y31
  have x30 := p3.frozen 0
  have x31 := p3.frozen 1
  have y30 := p3.cell 0
  have y31 := p3.cell 1
  simp at y30 y31
  clear p1 p2 p3 m1 m2 m3
  refine wpMixS_eff rfl rfl (fun K hK => ?_)
  go_simp
  have q2 := (P2.out.far (p := ⟨w.heap.size + 1 + 1, 0, none⟩) f5 (.int .i64 u)).far (p := ⟨w.heap.size + 1 + 1, 1, none⟩) f5 (.slice A5 q c5)
  have q3 := (P3.out.set_ 0 (.int .i64 u)).set_ 1 (.slice A5 q c5)
  refine hK.out _ _ _ (fun _ h => h) (fun _ => ?_) ?_
  focus
    have q1 := (P1.out.far (p := ⟨w.heap.size + 1 + 1, 0, none⟩) f4 (.int .i64 u)).far (p := ⟨w.heap.size + 1 + 1, 1, none⟩) f4 (.slice A5 q c5)
    exact ⟨by simpa using q1.cell 0, by simpa using q1.cell 1⟩
  · clear hK K
    refine wpMixS_nil ?_
    have r20 := q2.cell 0
    have r21 := q2.cell 1
    have r30 := q3.cell 0
    have r31 := q3.cell 1
    simp at r20 r21 r30 r31
    go_wp2_with fail
    exact bodyPost_ret (v := .tuple #[.agg #[.int .i64 u, .slice A6 q c6], .agg #[.int .i64 u, .slice A5 q c5]]) (by simp [results, Tryd.results12, go_sem, r20, r21, r30, r31]) rfl ⟨⟨_, _, rfl, RdI.of_own (ownsRow_setCell_below (ownsRow_setCell_below OWN3.out (a := ⟨w.heap.size + 1 + 1, 0, none⟩) (by show w.heap.size + 1 + 1 < _; omega) (.int .i64 u)) (a := ⟨w.heap.size + 1 + 1, 1, none⟩) (by show w.heap.size + 1 + 1 < _; omega) (.slice A5 q c5)) rfl, RdI.of_own (ownsRow_setCell_below (ownsRow_setCell_below OWNB3.out (a := ⟨w.heap.size + 1 + 1, 0, none⟩) (by show w.heap.size + 1 + 1 < _; omega) (.int .i64 u)) (a := ⟨w.heap.size + 1 + 1, 1, none⟩) (by show w.heap.size + 1 + 1 < _; omega) (.slice A5 q c5)) rfl, Far.of_own OWN3.out (by omega), Far.of_own OWNB3.out (by omega)⟩, (HB3.out.setCell (by simp; omega) _).setCell (by simp; omega) _⟩
end Go.Proofs.YtemcabepbncicaaDoor
