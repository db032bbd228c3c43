/-
  Walks: registers encoded, by the program and by the reference.
-/
import Derived.Test.YtpadpggdealgkaaDoorRRRTwA
import Derived.Laws.CopyOwn
namespace Go.Proofs.YtpadpggdealgkaaDoorRRR
open Go.RowKit
set_option linter.unusedVariables false
set_option linter.unusedSectionVars false
set_option linter.unusedSimpArgs false

def rgW (g : Rg) (i : Nat) : Int := if i < 8 then g.r i else g.pc
/-- The first words, encoded. -/
def encT (g : Rg) (k : Nat) : List UInt8 := (List.range k).flatMap fun i => le4 (rgW g i).toNat
theorem encT_succ (g : Rg) (k : Nat) : encT g (k + 1) = encT g k ++ le4 (rgW g k).toNat := by
  unfold encT
  rw [List.range_succ, List.flatMap_append]
  simp
theorem encT_length (g : Rg) : ∀ k, (encT g k).length = 4 * k
  | 0 => rfl
  | k + 1 => by rw [encT_succ, List.length_append, encT_length g k]; show 4 * k + 4 = _; omega
theorem rgW_ok {g : Rg} (h : g.Ok) (i : Nat) : 0 ≤ rgW g i ∧ rgW g i < 4294967296 := by
  unfold rgW
  split
  · exact ⟨h.r0 i, h.r1 i⟩
  · exact ⟨h.p0, h.p1⟩
theorem info104 : (Tryd.prog.info? 104).map (·.size) = some 9 := by kernel_rfl
theorem info23a : (Tryd.prog.info? 23).map (·.size) = some 1 := by kernel_rfl
theorem z104 (w : World) : (zeroValue 104).run Tryd.prog w = .ok (.agg #[.int .u32 0, .int .u32 0, .int .u32 0, .int .u32 0, .int .u32 0, .int .u32 0, .int .u32 0, .int .u32 0, .int .u32 0]) w := by kernel_rfl
set_option maxRecDepth 100000 in
theorem words_any (w : World) (g : Rg) : Calls Tryd.prog 44 #[.agg g.vals.toArray] w fun e w' => e = .returned (.agg g.vals.toArray) ∧ Below w.heap.size w w' := by
  unfold Rg.vals
  have hz := z104
  have h1 := (Blk.new w 44 #[.int .u32 (g.r 0), .int .u32 (g.r 1), .int .u32 (g.r 2), .int .u32 (g.r 3), .int .u32 (g.r 4), .int .u32 (g.r 5), .int .u32 (g.r 6), .int .u32 (g.r 7), .int .u32 g.pc]).alloc (.cells #[.int .u32 0, .int .u32 0, .int .u32 0, .int .u32 0, .int .u32 0, .int .u32 0, .int .u32 0, .int .u32 0, .int .u32 0] 104) |>.alloc (.cells #[.int .u32 0, .int .u32 0, .int .u32 0, .int .u32 0, .int .u32 0, .int .u32 0, .int .u32 0, .int .u32 0, .int .u32 0] 104)
  have h2 := (two_blk w #[.int .u32 (g.r 0), .int .u32 (g.r 1), .int .u32 (g.r 2), .int .u32 (g.r 3), .int .u32 (g.r 4), .int .u32 (g.r 5), .int .u32 (g.r 6), .int .u32 (g.r 7), .int .u32 g.pc] #[.int .u32 0, .int .u32 0, .int .u32 0, .int .u32 0, .int .u32 0, .int .u32 0, .int .u32 0, .int .u32 0, .int .u32 0] 44 104).1.alloc (.cells #[.int .u32 0, .int .u32 0, .int .u32 0, .int .u32 0, .int .u32 0, .int .u32 0, .int .u32 0, .int .u32 0, .int .u32 0] 104)
  have h3 : Blk (((w.alloc (.cells #[.int .u32 (g.r 0), .int .u32 (g.r 1), .int .u32 (g.r 2), .int .u32 (g.r 3), .int .u32 (g.r 4), .int .u32 (g.r 5), .int .u32 (g.r 6), .int .u32 (g.r 7), .int .u32 g.pc] 44)).alloc (.cells #[.int .u32 0, .int .u32 0, .int .u32 0, .int .u32 0, .int .u32 0, .int .u32 0, .int .u32 0, .int .u32 0, .int .u32 0] 104)).alloc (.cells #[.int .u32 0, .int .u32 0, .int .u32 0, .int .u32 0, .int .u32 0, .int .u32 0, .int .u32 0, .int .u32 0, .int .u32 0] 104)) (w.heap.size + 1 + 1) 104 #[.int .u32 0, .int .u32 0, .int .u32 0, .int .u32 0, .int .u32 0, .int .u32 0, .int .u32 0, .int .u32 0, .int .u32 0] := by
    have := Blk.new ((w.alloc (.cells #[.int .u32 (g.r 0), .int .u32 (g.r 1), .int .u32 (g.r 2), .int .u32 (g.r 3), .int .u32 (g.r 4), .int .u32 (g.r 5), .int .u32 (g.r 6), .int .u32 (g.r 7), .int .u32 g.pc] 44)).alloc (.cells #[.int .u32 0, .int .u32 0, .int .u32 0, .int .u32 0, .int .u32 0, .int .u32 0, .int .u32 0, .int .u32 0, .int .u32 0] 104)) 104 #[.int .u32 0, .int .u32 0, .int .u32 0, .int .u32 0, .int .u32 0, .int .u32 0, .int .u32 0, .int .u32 0, .int .u32 0]
    rw [show ((w.alloc (.cells #[.int .u32 (g.r 0), .int .u32 (g.r 1), .int .u32 (g.r 2), .int .u32 (g.r 3), .int .u32 (g.r 4), .int .u32 (g.r 5), .int .u32 (g.r 6), .int .u32 (g.r 7), .int .u32 g.pc] 44)).alloc (.cells #[.int .u32 0, .int .u32 0, .int .u32 0, .int .u32 0, .int .u32 0, .int .u32 0, .int .u32 0, .int .u32 0, .int .u32 0] 104)).heap.size = w.heap.size + 1 + 1 by simp] at this
    exact this
  have hb : Below w.heap.size w (((w.alloc (.cells #[.int .u32 (g.r 0), .int .u32 (g.r 1), .int .u32 (g.r 2), .int .u32 (g.r 3), .int .u32 (g.r 4), .int .u32 (g.r 5), .int .u32 (g.r 6), .int .u32 (g.r 7), .int .u32 g.pc] 44)).alloc (.cells #[.int .u32 0, .int .u32 0, .int .u32 0, .int .u32 0, .int .u32 0, .int .u32 0, .int .u32 0, .int .u32 0, .int .u32 0] 104)).alloc (.cells #[.int .u32 0, .int .u32 0, .int .u32 0, .int .u32 0, .int .u32 0, .int .u32 0, .int .u32 0, .int .u32 0, .int .u32 0] 104)) := ((two_blk w #[.int .u32 (g.r 0), .int .u32 (g.r 1), .int .u32 (g.r 2), .int .u32 (g.r 3), .int .u32 (g.r 4), .int .u32 (g.r 5), .int .u32 (g.r 6), .int .u32 (g.r 7), .int .u32 g.pc] #[.int .u32 0, .int .u32 0, .int .u32 0, .int .u32 0, .int .u32 0, .int .u32 0, .int .u32 0, .int .u32 0, .int .u32 0] 44 104).2).alloc (by simp; omega) _
  have H1 := Lib.hid h1
  have H2 := Lib.hid h2
  have H3 := Lib.hid h3
  have HB := Lib.hid hb
  clear h1 h2 h3 hb
  go_enter Tryd.func44, Tryd.ntmps44
  go_upto_region 2 with (fail)
  generalize ((w.alloc (.cells #[.int .u32 (g.r 0), .int .u32 (g.r 1), .int .u32 (g.r 2), .int .u32 (g.r 3), .int .u32 (g.r 4), .int .u32 (g.r 5), .int .u32 (g.r 6), .int .u32 (g.r 7), .int .u32 g.pc] 44)).alloc (.cells #[.int .u32 0, .int .u32 0, .int .u32 0, .int .u32 0, .int .u32 0, .int .u32 0, .int .u32 0, .int .u32 0, .int .u32 0] 104)).alloc (.cells #[.int .u32 0, .int .u32 0, .int .u32 0, .int .u32 0, .int .u32 0, .int .u32 0, .int .u32 0, .int .u32 0, .int .u32 0] 104) = W2 at *
  clear hz
  refine wp_region_tail 3 (by kernel_rfl) (by kernel_rfl) ?_
  simp only [List.take_succ_cons, List.take_zero, List.drop_succ_cons, List.drop_zero]
  repeat still_step
  refine wpStill_nil ?_
  refine wpList_copy_splice rfl (.tmp 4) (.tmp 6) 113 113 rfl 23 Tryd.underlying113 info23a (some ⟨w.heap.size + 1 + 1, 0, none⟩) (some ⟨w.heap.size, 0, none⟩) 9 9 8 8 rfl rfl (w.heap.size + 1 + 1) 0 [.int .u32 0, .int .u32 0, .int .u32 0, .int .u32 0, .int .u32 0, .int .u32 0, .int .u32 0, .int .u32 0, .int .u32 0] 104 H3.out.drew [.int .u32 (g.r 0), .int .u32 (g.r 1), .int .u32 (g.r 2), .int .u32 (g.r 3), .int .u32 (g.r 4), .int .u32 (g.r 5), .int .u32 (g.r 6), .int .u32 (g.r 7)] rfl (fun _ => ⟨rfl, ⟨w.heap.size, 0, none⟩, rfl, fun j v hj => ?_⟩) (by simp) (by simp [Value.oneCell']) (w.heap.size + 1 + 1) W2.drew (Below.refl _ _) (Nat.le_refl _) ?_
  · rw [add_at0]
    have hj8 : j < 8 := (List.getElem?_eq_some_iff.1 hj).1
    have := H1.out.drew.cell j
    rw [this, ← hj]
    match j, hj8 with
    | 0, _ | 1, _ | 2, _ | 3, _ | 4, _ | 5, _ | 6, _ | 7, _ => rfl
  intro w3 hs hb3
  have k3 : Blk w3 (w.heap.size + 1 + 1) 104 #[.int .u32 (g.r 0), .int .u32 (g.r 1), .int .u32 (g.r 2), .int .u32 (g.r 3), .int .u32 (g.r 4), .int .u32 (g.r 5), .int .u32 (g.r 6), .int .u32 (g.r 7), .int .u32 0] := hs.out
  have k1 := H1.out.drew.below hb3 (by omega)
  have K2 := Lib.hid (H2.out.drew.below hb3 (by omega))
  have HB3 : Hid (Below w.heap.size w w3) := Lib.hid (HB.out.trans (((Below.refl W2.heap.size W2).drew.mono (by have := HB.out.size; exact this)).trans (hb3.mono (by omega))))
  obtain ⟨w4, hw4⟩ : ∃ w4, w4 = w3.setCell ⟨w.heap.size + 1 + 1, 8, none⟩ (.int .u32 g.pc) := ⟨_, rfl⟩
  have k4 : Blk w4 (w.heap.size + 1 + 1) 104 #[.int .u32 (g.r 0), .int .u32 (g.r 1), .int .u32 (g.r 2), .int .u32 (g.r 3), .int .u32 (g.r 4), .int .u32 (g.r 5), .int .u32 (g.r 6), .int .u32 (g.r 7), .int .u32 g.pc] := by rw [hw4]; exact k3.set_ 8 _
  have K4 := Lib.hid k4
  have K5 : Hid (Blk w4 (w.heap.size + 1) 104 _) := Lib.hid (by rw [hw4]; exact K2.out.far (by show w.heap.size + 1 ≠ w.heap.size + 1 + 1; omega) _)
  have HB4 : Hid (Below w.heap.size w w4) := Lib.hid (by rw [hw4]; exact HB3.out.setCell (by show w.heap.size ≤ w.heap.size + 1 + 1; omega) _)
  have c1 : w3.cell? ⟨w.heap.size, 8, none⟩ = some (.int .u32 g.pc) := k1.cell 8
  have c2 : w3.cell? ⟨w.heap.size + 1 + 1, 8, none⟩ = some (.int .u32 0) := k3.cell 8
  have f2 := k3.frozen 8
  have hl3 := k3.lt
  clear hs hb3 k1 k3 k4 H1 H2 H3 K2
  go_upto_region 4 with (fail)
  rw [← hw4]
  clear hw4 c1 c2 f2
  go_wp2_with (first
    | refine wpList_load_blk rfl 104 (.tmp 3) rfl (w.heap.size + 1 + 1) rfl K4.out _ Tryd.underlying104 rfl info104 ?_
    | (refine wpList_store_blk rfl 104 (.tmp 2) (.tmp 11) rfl (w.heap.size + 1) rfl _ rfl K5.out rfl info104 rfl ?_; intro w5 hk5 hf5))
  exact end_cell rfl rfl hk5 Tryd.underlying104 rfl info104 ⟨rfl, belowFr HB4.out hf5 (by omega) (Nat.le_refl _)⟩
theorem idx9 (g : Rg) (W : World) (k : Nat) (hk : k < 9) : (Instr.index 104 (.agg #[.int .u32 (g.r 0), .int .u32 (g.r 1), .int .u32 (g.r 2), .int .u32 (g.r 3), .int .u32 (g.r 4), .int .u32 (g.r 5), .int .u32 (g.r 6), .int .u32 (g.r 7), .int .u32 g.pc]) (.int .i64 (k : Int))).run Tryd.prog W = .ok (.int .u32 (rgW g k)) W := by
  have h : ((Instr.index 104 (.agg #[.int .u32 (g.r 0), .int .u32 (g.r 1), .int .u32 (g.r 2), .int .u32 (g.r 3), .int .u32 (g.r 4), .int .u32 (g.r 5), .int .u32 (g.r 6), .int .u32 (g.r 7), .int .u32 g.pc]) (.int .i64 ((0 : Nat) : Int))).run Tryd.prog W = .ok (.int .u32 (g.r 0)) W ∧ (Instr.index 104 (.agg #[.int .u32 (g.r 0), .int .u32 (g.r 1), .int .u32 (g.r 2), .int .u32 (g.r 3), .int .u32 (g.r 4), .int .u32 (g.r 5), .int .u32 (g.r 6), .int .u32 (g.r 7), .int .u32 g.pc]) (.int .i64 ((1 : Nat) : Int))).run Tryd.prog W = .ok (.int .u32 (g.r 1)) W ∧ (Instr.index 104 (.agg #[.int .u32 (g.r 0), .int .u32 (g.r 1), .int .u32 (g.r 2), .int .u32 (g.r 3), .int .u32 (g.r 4), .int .u32 (g.r 5), .int .u32 (g.r 6), .int .u32 (g.r 7), .int .u32 g.pc]) (.int .i64 ((2 : Nat) : Int))).run Tryd.prog W = .ok (.int .u32 (g.r 2)) W ∧ (Instr.index 104 (.agg #[.int .u32 (g.r 0), .int .u32 (g.r 1), .int .u32 (g.r 2), .int .u32 (g.r 3), .int .u32 (g.r 4), .int .u32 (g.r 5), .int .u32 (g.r 6), .int .u32 (g.r 7), .int .u32 g.pc]) (.int .i64 ((3 : Nat) : Int))).run Tryd.prog W = .ok (.int .u32 (g.r 3)) W ∧ (Instr.index 104 (.agg #[.int .u32 (g.r 0), .int .u32 (g.r 1), .int .u32 (g.r 2), .int .u32 (g.r 3), .int .u32 (g.r 4), .int .u32 (g.r 5), .int .u32 (g.r 6), .int .u32 (g.r 7), .int .u32 g.pc]) (.int .i64 ((4 : Nat) : Int))).run Tryd.prog W = .ok (.int .u32 (g.r 4)) W ∧ (Instr.index 104 (.agg #[.int .u32 (g.r 0), .int .u32 (g.r 1), .int .u32 (g.r 2), .int .u32 (g.r 3), .int .u32 (g.r 4), .int .u32 (g.r 5), .int .u32 (g.r 6), .int .u32 (g.r 7), .int .u32 g.pc]) (.int .i64 ((5 : Nat) : Int))).run Tryd.prog W = .ok (.int .u32 (g.r 5)) W ∧ (Instr.index 104 (.agg #[.int .u32 (g.r 0), .int .u32 (g.r 1), .int .u32 (g.r 2), .int .u32 (g.r 3), .int .u32 (g.r 4), .int .u32 (g.r 5), .int .u32 (g.r 6), .int .u32 (g.r 7), .int .u32 g.pc]) (.int .i64 ((6 : Nat) : Int))).run Tryd.prog W = .ok (.int .u32 (g.r 6)) W ∧ (Instr.index 104 (.agg #[.int .u32 (g.r 0), .int .u32 (g.r 1), .int .u32 (g.r 2), .int .u32 (g.r 3), .int .u32 (g.r 4), .int .u32 (g.r 5), .int .u32 (g.r 6), .int .u32 (g.r 7), .int .u32 g.pc]) (.int .i64 ((7 : Nat) : Int))).run Tryd.prog W = .ok (.int .u32 (g.r 7)) W ∧ (Instr.index 104 (.agg #[.int .u32 (g.r 0), .int .u32 (g.r 1), .int .u32 (g.r 2), .int .u32 (g.r 3), .int .u32 (g.r 4), .int .u32 (g.r 5), .int .u32 (g.r 6), .int .u32 (g.r 7), .int .u32 g.pc]) (.int .i64 ((8 : Nat) : Int))).run Tryd.prog W = .ok (.int .u32 g.pc) W) := by
    refine ⟨?_, ?_, ?_, ?_, ?_, ?_, ?_, ?_, ?_⟩ <;> kernel_rfl
  obtain ⟨h0, h1, h2, h3, h4, h5, h6, h7, h8⟩ := h
  match k, hk with
  | 0, _ => exact h0
  | 1, _ => exact h1
  | 2, _ => exact h2
  | 3, _ => exact h3
  | 4, _ => exact h4
  | 5, _ => exact h5
  | 6, _ => exact h6
  | 7, _ => exact h7
  | 8, _ => exact h8
theorem le4_cells (n : Nat) (hn : n < 4294967296) : ([.int .u8 ((n : Int) % 256), .int .u8 ((n : Int) / 256 % 256), .int .u8 ((n : Int) / 65536 % 256), .int .u8 ((n : Int) / 16777216)] : List Value) = bs (le4 n) := by
  unfold le4 bs
  simp only [List.map_cons, List.map_nil, UInt8.toNat_ofNat']
  rw [show (n : Int) % 256 = ((n % 2 ^ 8 : Nat) : Int) by omega, show (n : Int) / 256 % 256 = ((n / 256 % 2 ^ 8 : Nat) : Int) by omega, show (n : Int) / 65536 % 256 = ((n / 65536 % 2 ^ 8 : Nat) : Int) by omega, show (n : Int) / 16777216 = ((n / 16777216 % 2 ^ 8 : Nat) : Int) by omega]
theorem own_form4 {w : World} {base n : Nat} {v : Value} {xs : List Value} (h : w.ownsRow base 5 1 v n xs) (hn : 0 < n) : ∃ A c, v = .slice A n c := by
  rcases h.2 with ⟨rfl, h0⟩ | ⟨g', cap', cur, rfl, _⟩
  · have := h.1; rw [h0] at this; simp at this; omega
  · exact ⟨_, _, rfl⟩
set_option maxRecDepth 100000 in
set_option maxHeartbeats 4000000 in
theorem encReg_any (w : World) (g : Rg) (hg : g.Ok) : Calls Tryd.prog 22 #[.agg g.vals.toArray] w fun e w' => e = .returned (.string ⟨(encT g 9).toArray⟩) ∧ Below w.heap.size w w' := by
  obtain ⟨i0, hi, hz0, hz1, hz2⟩ := info_parts info5
  have hwd := fun w => words_any w g
  unfold Rg.vals at hwd ⊢
  have HWD := Lib.hid hwd
  have HGO := Lib.hid hg
  clear hwd hg
  go_enter Tryd.func22, Tryd.ntmps22
  go_wp2_with fail
  refine (HWD.out _).mono ?_
  rintro e w1 ⟨rfl, nb⟩
  have hb1 : Below w.heap.size w w1 := ((Below.refl _ _).alloc (Nat.le_refl _) _).trans (nb.mono (by simp))
  have HB1 := Lib.hid hb1
  clear nb hb1
  dsimp only
  go_wp2_with fail
  go_loopg [3, 8] (9) (fun q bv iv wr => ∃ (k : Nat) (OA : Option Addr) (oc : Nat), q = 9 - k ∧ k ≤ 9 ∧ iv = .int .i64 k ∧ bv = .slice OA (4 * k) oc ∧ wr.ownsRow w.heap.size 5 1 (.slice OA (4 * k) oc) (4 * k) (bs (encT g k)) ∧ Below w.heap.size w wr)
  case atStart => exact ⟨0, none, 0, rfl, by omega, rfl, rfl, World.ownsRow_nil _ _ _ _, HB1.out⟩
  case round =>
    obtain ⟨k, OA, oc, rfl, hk, rfl, rfl, hown, hbl⟩ := hrel
    have hszr := hbl.size
    clear HB1
    by_cases hlt : k < 9
    · have i1 : (k : Int) < 9 := by omega
      obtain ⟨n, hn⟩ : ∃ n : Nat, rgW g k = n := ⟨(rgW g k).toNat, by have := (rgW_ok HGO.out k).1; omega⟩
      have hn1 : (n : Int) < 4294967296 := by rw [← hn]; exact (rgW_ok HGO.out k).2
      have hn0 : (0 : Int) ≤ n := by omega
      have hix := fun W => idx9 g W k hlt
      rw [hn] at hix
      have hstep := encT_succ g k
      rw [hn, Int.toNat_natCast] at hstep
      have HS := Lib.hid hstep
      have HL4 := Lib.hid (le4_cells n (by omega))
      clear hn hstep hlt
      have HL := Lib.hid (encT_length g k)
      generalize encT g k = u at *
      go_wp2_with (at_builtin; go_must (refine wpList_append_any _ rfl (.tmp 11) (.tmp 23) _ rfl w.heap.size 5 i0 _ 1 1 Tryd.underlying54 hi hz0 hz1 hz2 rfl (by omega) (.slice OA (4 * k) oc) (4 * k) (bs u) rfl (hown.alloc _) (wr.heap.size + 1) (some ⟨wr.heap.size, 0, none⟩) 4 4 [.int .u8 ((n : Int) % 256), .int .u8 ((n : Int) / 256 % 256), .int .u8 ((n : Int) / 65536 % 256), .int .u8 ((n : Int) / 16777216)] rfl (by first | exact ⟨rfl, fun _ => ⟨_, rfl, Nat.lt_succ_self _, World.news_of_block (t := 5) (fr := (0, 0)) (heap_alloc_new wr _)⟩⟩) (by simp [Value.oneCell']) (by unfold maxLen; omega) (by omega) (by simp; omega) ?_); intro v1 w2 hown1 hgrow1 hat1)
      obtain ⟨A5, c5, rfl⟩ := own_form4 hown1 (by omega)
      have hbl1 : Below w.heap.size w w2 := (hbl.alloc hszr _).grown hgrow1 (by simp; omega) (fun g hg => (hown.lt g hg).1)
      go_roundg (9 - (k + 1))
      case measure => omega
      case rel => exact ⟨k + 1, A5, c5, rfl, by omega, by go_num, by rw [show 4 * (k + 1) = 4 * k + 4 by omega], by rw [show 4 * (k + 1) = 4 * k + 4 by omega, HS.out, bs_append, ← HL4.out]; exact hown1, hbl1⟩
    · obtain rfl : k = 9 := by omega
      have hru : RdB wr wr.heap.size (.slice OA (4 * 9) oc) (encT g 9) := RdB.of_own hown rfl
      have hcv := run_convert_string Tryd.underlying54 Tryd.underlying5 Tryd.underlying9 hru
      clear hown hru
      go_wp2_with fail
      go_ret
      exact ⟨rfl, hbl⟩
theorem cell9 (w : World) (b : Nat) (g : Rg) (h : Blk w b 26 #[.int .u32 (g.r 0), .int .u32 (g.r 1), .int .u32 (g.r 2), .int .u32 (g.r 3), .int .u32 (g.r 4), .int .u32 (g.r 5), .int .u32 (g.r 6), .int .u32 (g.r 7), .int .u32 g.pc]) (k : Nat) (hk : k < 9) : w.cell? ⟨b, k, none⟩ = some (.int .u32 (rgW g k)) := by
  rw [h.cell]
  match k, hk with
  | 0, _ | 1, _ | 2, _ | 3, _ | 4, _ | 5, _ | 6, _ | 7, _ | 8, _ => rfl
set_option maxRecDepth 100000 in
set_option maxHeartbeats 4000000 in
theorem refText_any (w : World) (g : Rg) (hg : g.Ok) : Calls Tryd.prog 25 #[.agg g.vals.toArray] w fun e w' => e = .returned (.string ⟨(encT g 9).toArray⟩) ∧ Below w.heap.size w w' := by
  obtain ⟨i0, hi, hz0, hz1, hz2⟩ := info_parts info5
  unfold Rg.vals
  have HX := Lib.hid (Blk.new w 26 #[.int .u32 (g.r 0), .int .u32 (g.r 1), .int .u32 (g.r 2), .int .u32 (g.r 3), .int .u32 (g.r 4), .int .u32 (g.r 5), .int .u32 (g.r 6), .int .u32 (g.r 7), .int .u32 g.pc])
  have HBL : Hid (Below w.heap.size w (w.alloc (.cells #[.int .u32 (g.r 0), .int .u32 (g.r 1), .int .u32 (g.r 2), .int .u32 (g.r 3), .int .u32 (g.r 4), .int .u32 (g.r 5), .int .u32 (g.r 6), .int .u32 (g.r 7), .int .u32 g.pc] 26))) := Lib.hid ((Below.refl _ _).alloc (Nat.le_refl _) _)
  have HZ0 : Hid ((w.alloc (.cells #[.int .u32 (g.r 0), .int .u32 (g.r 1), .int .u32 (g.r 2), .int .u32 (g.r 3), .int .u32 (g.r 4), .int .u32 (g.r 5), .int .u32 (g.r 6), .int .u32 (g.r 7), .int .u32 g.pc] 26)).heap.size = w.heap.size + 1) := Lib.hid (by simp)
  have HGO := Lib.hid hg
  clear hg
  go_enter Tryd.func25, Tryd.ntmps25
  go_upto_region 1 with (fail)
  generalize w.alloc (.cells #[.int .u32 (g.r 0), .int .u32 (g.r 1), .int .u32 (g.r 2), .int .u32 (g.r 3), .int .u32 (g.r 4), .int .u32 (g.r 5), .int .u32 (g.r 6), .int .u32 (g.r 7), .int .u32 g.pc] 26) = W0 at *
  go_wp2_with fail
  go_loopg [3, 4] (9) (fun q bv iv wr => ∃ (k : Nat) (OA : Option Addr) (oc : Nat), q = 9 - k ∧ k ≤ 9 ∧ iv = .int .i64 k ∧ bv = .slice OA (4 * k) oc ∧ wr.ownsRow (w.heap.size + 1) 5 1 (.slice OA (4 * k) oc) (4 * k) (bs (encT g k)) ∧ Below (w.heap.size + 1) W0 wr)
  case atStart => exact ⟨0, none, 0, rfl, by omega, rfl, rfl, World.ownsRow_nil _ _ _ _, Below.refl _ _⟩
  case round =>
    obtain ⟨k, OA, oc, rfl, hk, rfl, rfl, hown, hbl⟩ := hrel
    have hszr : w.heap.size + 1 ≤ wr.heap.size := by have := hbl.size; rw [HZ0.out] at this; exact this
    by_cases hlt : k < 9
    · have i1 : (k : Int) < 9 := by omega
      have hxr := HX.out.below hbl (Nat.lt_succ_self _)
      have c8 : wr.cell? ⟨w.heap.size, 8, none⟩ = some (.int .u32 g.pc) := hxr.cell 8
      have ck := cell9 wr _ g hxr k hlt
      have HL4 := fun (n : Nat) hn => Lib.hid (le4_cells n hn)
      obtain ⟨n, hn⟩ : ∃ n : Nat, rgW g k = n := ⟨(rgW g k).toNat, by have := (rgW_ok HGO.out k).1; omega⟩
      have hn1 : (n : Int) < 4294967296 := by rw [← hn]; exact (rgW_ok HGO.out k).2
      have hn0 : (0 : Int) ≤ n := by omega
      have HL4 := HL4 n (by omega)
      have hstep := encT_succ g k
      have hnn := hn
      rw [hn, Int.toNat_natCast] at hstep
      rw [hn] at ck
      have HS := Lib.hid hstep
      clear hn hstep hxr
      by_cases h8 : k < 8
      · have i2 : (k : Int) < 8 := by omega
        have i3 : (0 : Int) ≤ k := by omega
        clear hnn
        generalize encT g k = u at *
        go_wp2_with (at_builtin; go_must (refine wpList_append_any _ rfl (.tmp 18) (.tmp 30) _ rfl (w.heap.size + 1) 5 i0 _ 1 1 Tryd.underlying54 hi hz0 hz1 hz2 rfl (by omega) (.slice OA (4 * k) oc) (4 * k) (bs u) rfl (hown.alloc _) (wr.heap.size + 1) (some ⟨wr.heap.size, 0, none⟩) 4 4 [.int .u8 ((n : Int) % 256), .int .u8 ((n : Int) / 256 % 256), .int .u8 ((n : Int) / 65536 % 256), .int .u8 ((n : Int) / 16777216)] rfl (by first | exact ⟨rfl, fun _ => ⟨_, rfl, Nat.lt_succ_self _, World.news_of_block (t := 5) (fr := (0, 0)) (heap_alloc_new wr _)⟩⟩) (by simp [Value.oneCell']) (by unfold maxLen; omega) (by omega) (by simp; omega) ?_); intro v1 w2 hown1 hgrow1 hat1)
        obtain ⟨A5, c5, rfl⟩ := own_form4 hown1 (by omega)
        have hbl1 : Below (w.heap.size + 1) W0 w2 := (hbl.alloc (by omega) _).grown hgrow1 (by simp; omega) (fun g hg => (hown.lt g hg).1)
        go_roundg (9 - (k + 1))
        case measure => omega
        case rel => exact ⟨k + 1, A5, c5, rfl, by omega, by go_num, by rw [show 4 * (k + 1) = 4 * k + 4 by omega], by rw [show 4 * (k + 1) = 4 * k + 4 by omega, HS.out, bs_append, ← HL4.out]; exact hown1, hbl1⟩
      · have i2 : decide ((k : Int) < 8) = false := decide_eq_false (by omega)
        have hpc : g.pc = (n : Int) := by rw [← hnn]; unfold rgW; rw [if_neg h8]
        rw [hpc] at c8
        clear hnn hpc ck h8
        generalize encT g k = u at *
        go_wp2_with (at_builtin; go_must (refine wpList_append_any _ rfl (.tmp 18) (.tmp 30) _ rfl (w.heap.size + 1) 5 i0 _ 1 1 Tryd.underlying54 hi hz0 hz1 hz2 rfl (by omega) (.slice OA (4 * k) oc) (4 * k) (bs u) rfl (hown.alloc _) (wr.heap.size + 1) (some ⟨wr.heap.size, 0, none⟩) 4 4 [.int .u8 ((n : Int) % 256), .int .u8 ((n : Int) / 256 % 256), .int .u8 ((n : Int) / 65536 % 256), .int .u8 ((n : Int) / 16777216)] rfl (by first | exact ⟨rfl, fun _ => ⟨_, rfl, Nat.lt_succ_self _, World.news_of_block (t := 5) (fr := (0, 0)) (heap_alloc_new wr _)⟩⟩) (by simp [Value.oneCell']) (by unfold maxLen; omega) (by omega) (by simp; omega) ?_); intro v1 w2 hown1 hgrow1 hat1)
        obtain ⟨A5, c5, rfl⟩ := own_form4 hown1 (by omega)
        have hbl1 : Below (w.heap.size + 1) W0 w2 := (hbl.alloc (by omega) _).grown hgrow1 (by simp; omega) (fun g hg => (hown.lt g hg).1)
        go_roundg (9 - (k + 1))
        case measure => omega
        case rel => exact ⟨k + 1, A5, c5, rfl, by omega, by go_num, by rw [show 4 * (k + 1) = 4 * k + 4 by omega], by rw [show 4 * (k + 1) = 4 * k + 4 by omega, HS.out, bs_append, ← HL4.out]; exact hown1, hbl1⟩
    · obtain rfl : k = 9 := by omega
      have hru : RdB wr wr.heap.size (.slice OA (4 * 9) oc) (encT g 9) := RdB.of_own hown rfl
      have hcv := run_convert_string Tryd.underlying54 Tryd.underlying5 Tryd.underlying9 hru
      have HF : Hid (Below w.heap.size w wr) := Lib.hid (HBL.out.trans (hbl.mono (by omega)))
      clear hown hru hbl
      go_wp2_with fail
      go_ret
      exact ⟨rfl, HF.out⟩
end Go.Proofs.YtpadpggdealgkaaDoorRRR
