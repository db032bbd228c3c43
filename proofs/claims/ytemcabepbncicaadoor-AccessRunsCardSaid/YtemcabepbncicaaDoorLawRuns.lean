/-
  The law AccessRuns, walked.
-/
import Derived.Test.YtemcabepbncicaaDoorIdents
import Derived.Test.YtemcabepbncicaaDoorAccO
import Derived.Test.YtemcabepbncicaaDoorAccU
namespace Go.Proofs.YtemcabepbncicaaDoor
open Go.RowKit
set_option linter.unusedVariables false

/-- Two identities in memory. -/
structure Sr (w W : World) (g : Nat) (t : TypeId) (u x : Int) (v2 v3 : Value) (g8 : List Int) : Prop where
  k3 : Blk W w.heap.size 24 #[.int .i64 u, v2]
  k8 : Blk W g t #[.int .i64 x, v3]
  r2 : RdI W W.heap.size v2 g8
  r3 : RdI W W.heap.size v3 g8
  bl : Below w.heap.size w W

section
variable {w W W' : World} {g : Nat} {t : TypeId} {u x : Int} {v0 v1 v2 v3 : Value} {g8 : List Int}
theorem Sr.next (h : Sr w W g t u x v2 v3 g8) (hb : Below W.heap.size W W') : Sr w W' g t u x v2 v3 g8 :=
  ⟨h.k3.below hb h.k3.lt, h.k8.below hb h.k8.lt, (h.r2.below hb).more hb.size, (h.r3.below hb).more hb.size, h.bl.trans (hb.mono h.bl.size)⟩
theorem Sr.drew (h : Sr w W g t u x v2 v3 g8) : Sr w W.drew g t u x v2 v3 g8 := h.next (Below.refl _ _).drew
theorem Sr.cells (h : Sr w W g t u x v2 v3 g8) : W.cell? ⟨w.heap.size, 0, none⟩ = some (.int .i64 u) ∧ W.cell? ⟨w.heap.size, 1, none⟩ = some v2 ∧
    W.cell? ⟨g, 0, none⟩ = some (.int .i64 x) ∧ W.cell? ⟨g, 1, none⟩ = some v3 :=
  ⟨h.k3.cell 0, h.k3.cell 1, h.k8.cell 0, h.k8.cell 1⟩
/-- The stores of Who's results. -/
theorem Sr.made {w1 : World} {A1 A2 : Option Addr} {n1 n2 c1 c2 : Nat} {B : Nat} (hB : w.heap.size < B) (f1 : Far B (.slice A1 n1 c1)) (f2 : Far B (.slice A2 n2 c2)) (k3 : Blk w1 w.heap.size 24 #[.int .i64 u, v0]) (h1 : RdI w1 w1.heap.size (.slice A1 n1 c1) g8) (h2 : RdI w1 w1.heap.size (.slice A2 n2 c2) g8) (bl : Below w.heap.size w w1) :
    Sr w (((w1.setCell ⟨w.heap.size, 0, none⟩ (.int .i64 u)).setCell ⟨w.heap.size, 1, none⟩ (.slice A2 n2 c2)).alloc (.cells #[.int .i64 u, .slice A1 n1 c1] 27)) w1.heap.size 27 u u (.slice A2 n2 c2) (.slice A1 n1 c1) g8 := by
  have z3 := k3.lt
  refine ⟨?_, Blk.new_ _ 27 _ (by simp), ?_, ?_, ((bl.setCell (by simp) _).setCell (by simp) _).alloc (by simp; omega) _⟩
  · exact ((k3.set_ 0 (.int .i64 u)).set_ 1 (.slice A2 n2 c2)).alloc _
  · exact (((h2.set_ rfl (fun ad h => by have := f2 _ _ _ ad rfl h; show ad.block ≠ w.heap.size; omega) _).set_ rfl (fun ad h => by have := f2 _ _ _ ad rfl h; show ad.block ≠ w.heap.size; omega) _).below ((Below.refl _ _).alloc (by simp) _)).more (by simp)
  · exact (((h1.set_ rfl (fun ad h => by have := f1 _ _ _ ad rfl h; show ad.block ≠ w.heap.size; omega) _).set_ rfl (fun ad h => by have := f1 _ _ _ ad rfl h; show ad.block ≠ w.heap.size; omega) _).below ((Below.refl _ _).alloc (by simp) _)).more (by simp)
end

set_option maxRecDepth 100000 in
set_option maxHeartbeats 8000000 in
theorem runs_walk (w : World) (u : Int) (v : Value) (owner mode : Int) (gs : List Int) (hu : (Lit.int .i64 u).wf = true) (hr : RdI w w.heap.size v gs)
    (ho : (Lit.int .i64 owner).wf = true) (hm : (Lit.int .i64 mode).wf = true) (hs : Sh w) :
    Calls Tryd.prog 9 #[.agg #[.int .i64 u, v], .int .i64 owner, .int .i64 mode] w fun e w' => e = .returned (.bool true) ∧ Below w.heap.size w w' := by
  obtain ⟨A, cap, rfl, _, _, _⟩ := id hr
  clear hu ho hm
  have n1 := Blk.new w 24 #[.int .i64 u, .slice A gs.length cap]
  have n4 := bel_alloc w (.cells #[.int .i64 u, .slice A gs.length cap] 24)
  have n3 : (w.alloc (.cells #[.int .i64 u, .slice A gs.length cap] 24)).heap.size = w.heap.size + 1 := by simp
  have HC := Lib.hid (who_any _ w.heap.size _ gs u (hr.below n4) (by rw [n3]; omega))
  have hl8 : (gs.take 8).length ≤ 8 := List.length_take_le _ _
  have N1 := Lib.hid n1
  have N3 := Lib.hid n3
  have N4 := Lib.hid n4
  clear n1 n3 n4
  go_enter Tryd.func9, Tryd.ntmps9
  go_wp2_with fail
  refine HC.out.mono ?_
  clear HC
  rintro e w1 ⟨⟨v1, v2, rfl, h1, h2, r1, r2⟩, b1⟩
  generalize gs.take 8 = g8 at *
  obtain ⟨A1, c1, rfl, -, -, -⟩ := id h1
  obtain ⟨A2, c2, rfl, -, -, -⟩ := id h2
  have k3 := N1.out.below b1 (by rw [N3.out]; omega)
  have b2 := N4.out.trans (b1.mono (by rw [N3.out]; omega))
  have st := Sr.made (by rw [N3.out]; omega) r1 r2 k3 h1 h2 b2
  have z0 := k3.lt
  have c30 := k3.cell 0
  have c31 := k3.cell 1
  have f30 := k3.frozen 0
  have f31 := k3.frozen 1
  simp at c30 c31
  have HST := Lib.hid st
  clear st b2 k3 b1 N1 N3 N4 h1 h2 r1 r2 hr
  dsimp only
  go_upto_region 2 with (fail)
  generalize w1.heap.size = g at *
  have st := HST.out
  clear HST c30 c31 f30 f31 z0
  generalize ((w1.setCell ⟨w.heap.size, 0, none⟩ (.int .i64 u)).setCell ⟨w.heap.size, 1, none⟩ (.slice A2 g8.length c2)).alloc (.cells #[.int .i64 u, .slice A1 g8.length c1] 27) = W at *
  clear w1
  obtain ⟨s0, s1, s2, s3⟩ := st.cells
  go_wp2_with fail
  refine (run_any W W.heap.size _ g8 u owner mode st.r3 (Nat.le_refl _) (by omega)).mono ?_
  rintro e W1 ⟨⟨v3, rfl, r3, f3⟩, nb⟩
  clear s0 s1 s2 s3
  replace st := st.next nb
  clear nb f3
  obtain ⟨A3, c3, rfl, -, -, -⟩ := id r3
  have hb1 : Below W1.heap.size W1 (W1.alloc (.cells #[.int .i64 (runV u owner mode), .slice A3 g8.length c3] 27)) := (Below.refl _ _).alloc (Nat.le_refl _) _
  have st2 : Sr w (W1.alloc (.cells #[.int .i64 (runV u owner mode), .slice A3 g8.length c3] 27)) W1.heap.size 27 u (runV u owner mode) (.slice A2 g8.length c2) (.slice A3 g8.length c3) g8 :=
    ⟨(st.next hb1).k3, Blk.new W1 27 _, (st.next hb1).r2, (r3.below hb1).more hb1.size, (st.next hb1).bl⟩
  have ST := Lib.hid st2
  clear st st2 r3 hb1
  dsimp only
  have hcase : (∃ m : Nat, mode = m ∧ m ≤ 2047 ∧ decide (0 ≤ (m : Int)) = true ∧ decide ((m : Int) ≤ 2047) = true ∧ ∃ q : Nat, (m : Int) / 512 % 2 = q ∧ ((q = 1 ∧ runV u owner mode = owner) ∨ (q = 0 ∧ runV u owner mode = u))) ∨ (decide (0 ≤ mode) = false ∧ runV u owner mode = u) ∨ (decide (0 ≤ mode) = true ∧ decide (mode ≤ 2047) = false ∧ runV u owner mode = u) := by
    unfold runV
    by_cases h0 : 0 ≤ mode
    · by_cases h1 : mode ≤ 2047
      · refine .inl ⟨mode.toNat, by omega, by omega, decide_eq_true (by omega), decide_eq_true (by omega), (mode / 512 % 2).toNat, by omega, ?_⟩
        by_cases hq : mode / 512 % 2 = 1
        · exact .inl ⟨by omega, by rw [if_pos ⟨h0, h1, hq⟩]⟩
        · exact .inr ⟨by omega, by rw [if_neg (fun h => hq h.2.2)]⟩
      · exact .inr (.inr ⟨decide_eq_true h0, decide_eq_false h1, by rw [if_neg (fun h => h1 h.2.1)]⟩)
    · exact .inr (.inl ⟨decide_eq_false h0, by rw [if_neg (fun h => h0 h.1)]⟩)
  have HCASE := Lib.hid hcase
  clear hcase
  generalize runV u owner mode = x at *
  go_upto_region 3 with (fail)
  have st := ST.out
  clear ST
  generalize W1.heap.size = g3 at *
  generalize W1.alloc (.cells #[.int .i64 x, .slice A3 g8.length c3] 27) = W2 at *
  obtain ⟨s0, s1, s2, s3⟩ := st.cells
  rcases HCASE.out with ⟨m, rfl, t0, t1, t2, q, t3, ⟨rfl, t4⟩ | ⟨rfl, t4⟩⟩ | ⟨t1, t4⟩ | ⟨t1, t2, t4⟩
  all_goals
    clear HCASE
    subst t4
    go_upto_region 6 with (fail)
    try clear t3
    try clear t2
    try clear t1
    go_wp2_with fail
    refine (known_any _ (hs.belowS st.bl)).mono ?_
    rintro e W3 ⟨rfl, nb⟩
    clear s0 s1 s2 s3
    replace st := st.next nb
    clear nb
    dsimp only
    obtain ⟨s0, s1, s2, s3⟩ := st.cells
    go_wp2_with fail
    clear s0 s1 s2 s3
    have ST := Lib.hid st
    clear st
    go_loopg [10] g8.length (fun n iv wr => Hid (Sr w wr g3 27 _ _ (.slice A2 g8.length c2) (.slice A3 g8.length c3) g8) ∧ ∃ k : Nat, iv = .int .i64 k ∧ n = g8.length - k ∧ k ≤ g8.length)
    case atStart => exact ⟨ST, 0, rfl, by omega, by omega⟩
    case round =>
      obtain ⟨HR, k, rfl, rfl, hk⟩ := hrel
      clear ST
      obtain ⟨s0, s1, s2, s3⟩ := HR.out.cells
      by_cases hlt : k < g8.length
      · have i1 : (k : Int) < g8.length := by omega
        have i0 : (0 : Int) ≤ (k : Int) := by omega
        obtain ⟨A2', c2', hv2, _, _, hat2⟩ := HR.out.r2.at_
        injection hv2 with e1 _ e3
        subst e1 e3
        obtain ⟨A3', c3', hv3, _, _, hat3⟩ := HR.out.r3.at_
        injection hv3 with e1 _ e3
        subst e1 e3
        obtain ⟨ad2, rfl, _, hc2⟩ := hat2 k hlt
        obtain ⟨ad3, rfl, _, hc3⟩ := hat3 k hlt
        clear hat2 hat3
        generalize g8.getD k 0 = gk at *
        go_upto_region 11 with (fail)
        go_quiet (fail)
        go_wp2_with fail
        go_roundg (g8.length - (k + 1))
        case measure => omega
        case rel => exact ⟨Lib.hid (HR.out.next (Fr.nil_below (Fr.drewN (Fr.refl _ _) _))), k + 1, by go_num, rfl, by omega⟩
      · obtain rfl : k = g8.length := by omega
        have i1 : decide ((g8.length : Int) < g8.length) = false := decide_eq_false (by omega)
        go_wp2_with fail
        go_ret
        exact ⟨by first | rfl | simp, HR.out.bl⟩
end Go.Proofs.YtemcabepbncicaaDoor
