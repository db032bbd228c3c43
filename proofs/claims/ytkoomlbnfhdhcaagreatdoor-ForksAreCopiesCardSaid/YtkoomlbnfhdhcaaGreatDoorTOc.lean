/-
  Walks: registers encoded and decoded.
-/
import Derived.Test.YtkoomlbnfhdhcaaGreatDoorPlB
import Derived.Test.YtkoomlbnfhdhcaaGreatDoorTOa
import Derived.Laws.CopyOwn
import Derived.Lib.EndianBits
import Derived.Test.YtkoomlbnfhdhcaaGreatDoorTOb
namespace Go.Proofs.YtkoomlbnfhdhcaaGreatDoor
open Go.RowKit
set_option linter.unusedVariables false
set_option linter.unusedSectionVars false
set_option linter.unusedSimpArgs false

def rgW (g : Rg) (i : Nat) : Int := if i < 8 then g.r i else g.pc
/-- The first words, encoded. -/
def encT (g : Rg) (k : Nat) : List UInt8 := (List.range k).flatMap fun i => le4 (rgW g i).toNat
theorem encT_succ (g : Rg) (k : Nat) : encT g (k + 1) = encT g k ++ le4 (rgW g k).toNat := by
  unfold encT
  rw [List.range_succ, List.flatMap_append]
  simp
theorem encT_length (g : Rg) : ∀ k, (encT g k).length = 4 * k
  | 0 => rfl
  | k + 1 => by rw [encT_succ, List.length_append, encT_length g k]; show 4 * k + 4 = _; omega
theorem rgW_ok {g : Rg} (h : g.Ok) (i : Nat) : 0 ≤ rgW g i ∧ rgW g i < 4294967296 := by
  unfold rgW
  split
  · exact ⟨h.r0 i, h.r1 i⟩
  · exact ⟨h.p0, h.p1⟩
theorem info104 : (Tryz.prog.info? 188).map (·.size) = some 9 := by kernel_rfl
theorem info23a : (Tryz.prog.info? 48).map (·.size) = some 1 := by kernel_rfl
theorem z104 (w : World) : (zeroValue 188).run Tryz.prog w = .ok (.agg #[.int .u32 0, .int .u32 0, .int .u32 0, .int .u32 0, .int .u32 0, .int .u32 0, .int .u32 0, .int .u32 0, .int .u32 0]) w := by kernel_rfl
set_option maxRecDepth 100000 in
theorem words_any (w : World) (g : Rg) : Calls Tryz.prog 116 #[.agg g.vals.toArray] w fun e w' => e = .returned (.agg g.vals.toArray) ∧ Below w.heap.size w w' := by
  unfold Rg.vals
  have hz := z104
  have h1 := (Blk.new w 51 #[.int .u32 (g.r 0), .int .u32 (g.r 1), .int .u32 (g.r 2), .int .u32 (g.r 3), .int .u32 (g.r 4), .int .u32 (g.r 5), .int .u32 (g.r 6), .int .u32 (g.r 7), .int .u32 g.pc]).alloc (.cells #[.int .u32 0, .int .u32 0, .int .u32 0, .int .u32 0, .int .u32 0, .int .u32 0, .int .u32 0, .int .u32 0, .int .u32 0] 188) |>.alloc (.cells #[.int .u32 0, .int .u32 0, .int .u32 0, .int .u32 0, .int .u32 0, .int .u32 0, .int .u32 0, .int .u32 0, .int .u32 0] 188)
  have h2 := (two_blk w #[.int .u32 (g.r 0), .int .u32 (g.r 1), .int .u32 (g.r 2), .int .u32 (g.r 3), .int .u32 (g.r 4), .int .u32 (g.r 5), .int .u32 (g.r 6), .int .u32 (g.r 7), .int .u32 g.pc] #[.int .u32 0, .int .u32 0, .int .u32 0, .int .u32 0, .int .u32 0, .int .u32 0, .int .u32 0, .int .u32 0, .int .u32 0] 51 188).1.alloc (.cells #[.int .u32 0, .int .u32 0, .int .u32 0, .int .u32 0, .int .u32 0, .int .u32 0, .int .u32 0, .int .u32 0, .int .u32 0] 188)
  have h3 : Blk (((w.alloc (.cells #[.int .u32 (g.r 0), .int .u32 (g.r 1), .int .u32 (g.r 2), .int .u32 (g.r 3), .int .u32 (g.r 4), .int .u32 (g.r 5), .int .u32 (g.r 6), .int .u32 (g.r 7), .int .u32 g.pc] 51)).alloc (.cells #[.int .u32 0, .int .u32 0, .int .u32 0, .int .u32 0, .int .u32 0, .int .u32 0, .int .u32 0, .int .u32 0, .int .u32 0] 188)).alloc (.cells #[.int .u32 0, .int .u32 0, .int .u32 0, .int .u32 0, .int .u32 0, .int .u32 0, .int .u32 0, .int .u32 0, .int .u32 0] 188)) (w.heap.size + 1 + 1) 188 #[.int .u32 0, .int .u32 0, .int .u32 0, .int .u32 0, .int .u32 0, .int .u32 0, .int .u32 0, .int .u32 0, .int .u32 0] := by
    have := Blk.new ((w.alloc (.cells #[.int .u32 (g.r 0), .int .u32 (g.r 1), .int .u32 (g.r 2), .int .u32 (g.r 3), .int .u32 (g.r 4), .int .u32 (g.r 5), .int .u32 (g.r 6), .int .u32 (g.r 7), .int .u32 g.pc] 51)).alloc (.cells #[.int .u32 0, .int .u32 0, .int .u32 0, .int .u32 0, .int .u32 0, .int .u32 0, .int .u32 0, .int .u32 0, .int .u32 0] 188)) 188 #[.int .u32 0, .int .u32 0, .int .u32 0, .int .u32 0, .int .u32 0, .int .u32 0, .int .u32 0, .int .u32 0, .int .u32 0]
    rw [show ((w.alloc (.cells #[.int .u32 (g.r 0), .int .u32 (g.r 1), .int .u32 (g.r 2), .int .u32 (g.r 3), .int .u32 (g.r 4), .int .u32 (g.r 5), .int .u32 (g.r 6), .int .u32 (g.r 7), .int .u32 g.pc] 51)).alloc (.cells #[.int .u32 0, .int .u32 0, .int .u32 0, .int .u32 0, .int .u32 0, .int .u32 0, .int .u32 0, .int .u32 0, .int .u32 0] 188)).heap.size = w.heap.size + 1 + 1 by simp] at this
    exact this
  have hb : Below w.heap.size w (((w.alloc (.cells #[.int .u32 (g.r 0), .int .u32 (g.r 1), .int .u32 (g.r 2), .int .u32 (g.r 3), .int .u32 (g.r 4), .int .u32 (g.r 5), .int .u32 (g.r 6), .int .u32 (g.r 7), .int .u32 g.pc] 51)).alloc (.cells #[.int .u32 0, .int .u32 0, .int .u32 0, .int .u32 0, .int .u32 0, .int .u32 0, .int .u32 0, .int .u32 0, .int .u32 0] 188)).alloc (.cells #[.int .u32 0, .int .u32 0, .int .u32 0, .int .u32 0, .int .u32 0, .int .u32 0, .int .u32 0, .int .u32 0, .int .u32 0] 188)) := ((two_blk w #[.int .u32 (g.r 0), .int .u32 (g.r 1), .int .u32 (g.r 2), .int .u32 (g.r 3), .int .u32 (g.r 4), .int .u32 (g.r 5), .int .u32 (g.r 6), .int .u32 (g.r 7), .int .u32 g.pc] #[.int .u32 0, .int .u32 0, .int .u32 0, .int .u32 0, .int .u32 0, .int .u32 0, .int .u32 0, .int .u32 0, .int .u32 0] 51 188).2).alloc (by simp; omega) _
  have H1 := Lib.hid h1
  have H2 := Lib.hid h2
  have H3 := Lib.hid h3
  have HB := Lib.hid hb
  clear h1 h2 h3 hb
  go_enter Tryz.func116, Tryz.ntmps116
  go_upto_region 2 with (fail)
  generalize ((w.alloc (.cells #[.int .u32 (g.r 0), .int .u32 (g.r 1), .int .u32 (g.r 2), .int .u32 (g.r 3), .int .u32 (g.r 4), .int .u32 (g.r 5), .int .u32 (g.r 6), .int .u32 (g.r 7), .int .u32 g.pc] 51)).alloc (.cells #[.int .u32 0, .int .u32 0, .int .u32 0, .int .u32 0, .int .u32 0, .int .u32 0, .int .u32 0, .int .u32 0, .int .u32 0] 188)).alloc (.cells #[.int .u32 0, .int .u32 0, .int .u32 0, .int .u32 0, .int .u32 0, .int .u32 0, .int .u32 0, .int .u32 0, .int .u32 0] 188) = W2 at *
  clear hz
  refine wp_region_tail 3 (by kernel_rfl) (by kernel_rfl) ?_
  simp only [List.take_succ_cons, List.take_zero, List.drop_succ_cons, List.drop_zero]
  repeat still_step
  refine wpStill_nil ?_
  refine wpList_copy_splice rfl (.tmp 4) (.tmp 6) 223 223 rfl 48 Tryz.underlying223 info23a (some ⟨w.heap.size + 1 + 1, 0, none⟩) (some ⟨w.heap.size, 0, none⟩) 9 9 8 8 rfl rfl (w.heap.size + 1 + 1) 0 [.int .u32 0, .int .u32 0, .int .u32 0, .int .u32 0, .int .u32 0, .int .u32 0, .int .u32 0, .int .u32 0, .int .u32 0] 188 H3.out.drew [.int .u32 (g.r 0), .int .u32 (g.r 1), .int .u32 (g.r 2), .int .u32 (g.r 3), .int .u32 (g.r 4), .int .u32 (g.r 5), .int .u32 (g.r 6), .int .u32 (g.r 7)] rfl (fun _ => ⟨rfl, ⟨w.heap.size, 0, none⟩, rfl, fun j v hj => ?_⟩) (by simp) (by simp [Value.oneCell']) (w.heap.size + 1 + 1) W2.drew (Below.refl _ _) (Nat.le_refl _) ?_
  · rw [add_at0]
    have hj8 : j < 8 := (List.getElem?_eq_some_iff.1 hj).1
    have := H1.out.drew.cell j
    rw [this, ← hj]
    match j, hj8 with
    | 0, _ | 1, _ | 2, _ | 3, _ | 4, _ | 5, _ | 6, _ | 7, _ => rfl
  intro w3 hs hb3
  have k3 : Blk w3 (w.heap.size + 1 + 1) 188 #[.int .u32 (g.r 0), .int .u32 (g.r 1), .int .u32 (g.r 2), .int .u32 (g.r 3), .int .u32 (g.r 4), .int .u32 (g.r 5), .int .u32 (g.r 6), .int .u32 (g.r 7), .int .u32 0] := hs.out
  have k1 := H1.out.drew.below hb3 (by omega)
  have K2 := Lib.hid (H2.out.drew.below hb3 (by omega))
  have HB3 : Hid (Below w.heap.size w w3) := Lib.hid (HB.out.trans (((Below.refl W2.heap.size W2).drew.mono (by have := HB.out.size; exact this)).trans (hb3.mono (by omega))))
  obtain ⟨w4, hw4⟩ : ∃ w4, w4 = w3.setCell ⟨w.heap.size + 1 + 1, 8, none⟩ (.int .u32 g.pc) := ⟨_, rfl⟩
  have k4 : Blk w4 (w.heap.size + 1 + 1) 188 #[.int .u32 (g.r 0), .int .u32 (g.r 1), .int .u32 (g.r 2), .int .u32 (g.r 3), .int .u32 (g.r 4), .int .u32 (g.r 5), .int .u32 (g.r 6), .int .u32 (g.r 7), .int .u32 g.pc] := by rw [hw4]; exact k3.set_ 8 _
  have K4 := Lib.hid k4
  have K5 : Hid (Blk w4 (w.heap.size + 1) 188 _) := Lib.hid (by rw [hw4]; exact K2.out.far (by show w.heap.size + 1 ≠ w.heap.size + 1 + 1; omega) _)
  have HB4 : Hid (Below w.heap.size w w4) := Lib.hid (by rw [hw4]; exact HB3.out.setCell (by show w.heap.size ≤ w.heap.size + 1 + 1; omega) _)
  have c1 : w3.cell? ⟨w.heap.size, 8, none⟩ = some (.int .u32 g.pc) := k1.cell 8
  have c2 : w3.cell? ⟨w.heap.size + 1 + 1, 8, none⟩ = some (.int .u32 0) := k3.cell 8
  have f2 := k3.frozen 8
  have hl3 := k3.lt
  clear hs hb3 k1 k3 k4 H1 H2 H3 K2
  go_upto_region 4 with (fail)
  rw [← hw4]
  clear hw4 c1 c2 f2
  go_wp2_with (first
    | refine wpList_load_blk rfl 188 (.tmp 3) rfl (w.heap.size + 1 + 1) rfl K4.out _ Tryz.underlying188 rfl info104 ?_
    | (refine wpList_store_blk rfl 188 (.tmp 2) (.tmp 11) rfl (w.heap.size + 1) rfl _ rfl K5.out rfl info104 rfl ?_; intro w5 hk5 hf5))
  exact end_cell rfl rfl hk5 Tryz.underlying188 rfl info104 ⟨rfl, belowFr HB4.out hf5 (by omega) (Nat.le_refl _)⟩
theorem idx9 (g : Rg) (W : World) (k : Nat) (hk : k < 9) : (Instr.index 188 (.agg #[.int .u32 (g.r 0), .int .u32 (g.r 1), .int .u32 (g.r 2), .int .u32 (g.r 3), .int .u32 (g.r 4), .int .u32 (g.r 5), .int .u32 (g.r 6), .int .u32 (g.r 7), .int .u32 g.pc]) (.int .i64 (k : Int))).run Tryz.prog W = .ok (.int .u32 (rgW g k)) W := by
  have h : ((Instr.index 188 (.agg #[.int .u32 (g.r 0), .int .u32 (g.r 1), .int .u32 (g.r 2), .int .u32 (g.r 3), .int .u32 (g.r 4), .int .u32 (g.r 5), .int .u32 (g.r 6), .int .u32 (g.r 7), .int .u32 g.pc]) (.int .i64 ((0 : Nat) : Int))).run Tryz.prog W = .ok (.int .u32 (g.r 0)) W ∧ (Instr.index 188 (.agg #[.int .u32 (g.r 0), .int .u32 (g.r 1), .int .u32 (g.r 2), .int .u32 (g.r 3), .int .u32 (g.r 4), .int .u32 (g.r 5), .int .u32 (g.r 6), .int .u32 (g.r 7), .int .u32 g.pc]) (.int .i64 ((1 : Nat) : Int))).run Tryz.prog W = .ok (.int .u32 (g.r 1)) W ∧ (Instr.index 188 (.agg #[.int .u32 (g.r 0), .int .u32 (g.r 1), .int .u32 (g.r 2), .int .u32 (g.r 3), .int .u32 (g.r 4), .int .u32 (g.r 5), .int .u32 (g.r 6), .int .u32 (g.r 7), .int .u32 g.pc]) (.int .i64 ((2 : Nat) : Int))).run Tryz.prog W = .ok (.int .u32 (g.r 2)) W ∧ (Instr.index 188 (.agg #[.int .u32 (g.r 0), .int .u32 (g.r 1), .int .u32 (g.r 2), .int .u32 (g.r 3), .int .u32 (g.r 4), .int .u32 (g.r 5), .int .u32 (g.r 6), .int .u32 (g.r 7), .int .u32 g.pc]) (.int .i64 ((3 : Nat) : Int))).run Tryz.prog W = .ok (.int .u32 (g.r 3)) W ∧ (Instr.index 188 (.agg #[.int .u32 (g.r 0), .int .u32 (g.r 1), .int .u32 (g.r 2), .int .u32 (g.r 3), .int .u32 (g.r 4), .int .u32 (g.r 5), .int .u32 (g.r 6), .int .u32 (g.r 7), .int .u32 g.pc]) (.int .i64 ((4 : Nat) : Int))).run Tryz.prog W = .ok (.int .u32 (g.r 4)) W ∧ (Instr.index 188 (.agg #[.int .u32 (g.r 0), .int .u32 (g.r 1), .int .u32 (g.r 2), .int .u32 (g.r 3), .int .u32 (g.r 4), .int .u32 (g.r 5), .int .u32 (g.r 6), .int .u32 (g.r 7), .int .u32 g.pc]) (.int .i64 ((5 : Nat) : Int))).run Tryz.prog W = .ok (.int .u32 (g.r 5)) W ∧ (Instr.index 188 (.agg #[.int .u32 (g.r 0), .int .u32 (g.r 1), .int .u32 (g.r 2), .int .u32 (g.r 3), .int .u32 (g.r 4), .int .u32 (g.r 5), .int .u32 (g.r 6), .int .u32 (g.r 7), .int .u32 g.pc]) (.int .i64 ((6 : Nat) : Int))).run Tryz.prog W = .ok (.int .u32 (g.r 6)) W ∧ (Instr.index 188 (.agg #[.int .u32 (g.r 0), .int .u32 (g.r 1), .int .u32 (g.r 2), .int .u32 (g.r 3), .int .u32 (g.r 4), .int .u32 (g.r 5), .int .u32 (g.r 6), .int .u32 (g.r 7), .int .u32 g.pc]) (.int .i64 ((7 : Nat) : Int))).run Tryz.prog W = .ok (.int .u32 (g.r 7)) W ∧ (Instr.index 188 (.agg #[.int .u32 (g.r 0), .int .u32 (g.r 1), .int .u32 (g.r 2), .int .u32 (g.r 3), .int .u32 (g.r 4), .int .u32 (g.r 5), .int .u32 (g.r 6), .int .u32 (g.r 7), .int .u32 g.pc]) (.int .i64 ((8 : Nat) : Int))).run Tryz.prog W = .ok (.int .u32 g.pc) W) := by
    refine ⟨?_, ?_, ?_, ?_, ?_, ?_, ?_, ?_, ?_⟩ <;> kernel_rfl
  obtain ⟨h0, h1, h2, h3, h4, h5, h6, h7, h8⟩ := h
  match k, hk with
  | 0, _ => exact h0
  | 1, _ => exact h1
  | 2, _ => exact h2
  | 3, _ => exact h3
  | 4, _ => exact h4
  | 5, _ => exact h5
  | 6, _ => exact h6
  | 7, _ => exact h7
  | 8, _ => exact h8
theorem le4_cells (n : Nat) (hn : n < 4294967296) : ([.int .u8 ((n : Int) % 256), .int .u8 ((n : Int) / 256 % 256), .int .u8 ((n : Int) / 65536 % 256), .int .u8 ((n : Int) / 16777216)] : List Value) = bs (le4 n) := by
  unfold le4 bs
  simp only [List.map_cons, List.map_nil, UInt8.toNat_ofNat']
  rw [show (n : Int) % 256 = ((n % 2 ^ 8 : Nat) : Int) by omega, show (n : Int) / 256 % 256 = ((n / 256 % 2 ^ 8 : Nat) : Int) by omega, show (n : Int) / 65536 % 256 = ((n / 65536 % 2 ^ 8 : Nat) : Int) by omega, show (n : Int) / 16777216 = ((n / 16777216 % 2 ^ 8 : Nat) : Int) by omega]
theorem own_form4 {w : World} {base n : Nat} {v : Value} {xs : List Value} (h : w.ownsRow base 5 1 v n xs) (hn : 0 < n) : ∃ A c, v = .slice A n c := by
  rcases h.2 with ⟨rfl, h0⟩ | ⟨g', cap', cur, rfl, _⟩
  · have := h.1; rw [h0] at this; simp at this; omega
  · exact ⟨_, _, rfl⟩
set_option maxRecDepth 100000 in
set_option maxHeartbeats 4000000 in
theorem encReg_any (w : World) (g : Rg) (hg : g.Ok) : Calls Tryz.prog 68 #[.agg g.vals.toArray] w fun e w' => e = .returned (.string ⟨(encT g 9).toArray⟩) ∧ Below w.heap.size w w' := by
  obtain ⟨i0, hi, hz0, hz1, hz2⟩ := info_parts info5
  have hwd := fun w => words_any w g
  unfold Rg.vals at hwd ⊢
  have HWD := Lib.hid hwd
  have HGO := Lib.hid hg
  clear hwd hg
  go_enter Tryz.func68, Tryz.ntmps68
  go_wp2_with fail
  refine (HWD.out _).mono ?_
  rintro e w1 ⟨rfl, nb⟩
  have hb1 : Below w.heap.size w w1 := ((Below.refl _ _).alloc (Nat.le_refl _) _).trans (nb.mono (by simp))
  have HB1 := Lib.hid hb1
  clear nb hb1
  dsimp only
  go_wp2_with fail
  go_loopg [3, 8] (9) (fun q bv iv wr => ∃ (k : Nat) (OA : Option Addr) (oc : Nat), q = 9 - k ∧ k ≤ 9 ∧ iv = .int .i64 k ∧ bv = .slice OA (4 * k) oc ∧ wr.ownsRow w.heap.size 5 1 (.slice OA (4 * k) oc) (4 * k) (bs (encT g k)) ∧ Below w.heap.size w wr)
  case atStart => exact ⟨0, none, 0, rfl, by omega, rfl, rfl, World.ownsRow_nil _ _ _ _, HB1.out⟩
  case round =>
    obtain ⟨k, OA, oc, rfl, hk, rfl, rfl, hown, hbl⟩ := hrel
    have hszr := hbl.size
    clear HB1
    by_cases hlt : k < 9
    · have i1 : (k : Int) < 9 := by omega
      obtain ⟨n, hn⟩ : ∃ n : Nat, rgW g k = n := ⟨(rgW g k).toNat, by have := (rgW_ok HGO.out k).1; omega⟩
      have hn1 : (n : Int) < 4294967296 := by rw [← hn]; exact (rgW_ok HGO.out k).2
      have hn0 : (0 : Int) ≤ n := by omega
      have hix := fun W => idx9 g W k hlt
      rw [hn] at hix
      have hstep := encT_succ g k
      rw [hn, Int.toNat_natCast] at hstep
      have HS := Lib.hid hstep
      have HL4 := Lib.hid (le4_cells n (by omega))
      clear hn hstep hlt
      have HL := Lib.hid (encT_length g k)
      generalize encT g k = u at *
      go_wp2_with (at_builtin; go_must (refine wpList_append_any _ rfl (.tmp 11) (.tmp 23) _ rfl w.heap.size 5 i0 _ 1 1 Tryz.underlying24 hi hz0 hz1 hz2 rfl (by omega) (.slice OA (4 * k) oc) (4 * k) (bs u) rfl (hown.alloc _) (wr.heap.size + 1) (some ⟨wr.heap.size, 0, none⟩) 4 4 [.int .u8 ((n : Int) % 256), .int .u8 ((n : Int) / 256 % 256), .int .u8 ((n : Int) / 65536 % 256), .int .u8 ((n : Int) / 16777216)] rfl (by first | exact ⟨rfl, fun _ => ⟨_, rfl, Nat.lt_succ_self _, World.news_of_block (t := 5) (fr := (0, 0)) (heap_alloc_new wr _)⟩⟩) (by simp [Value.oneCell']) (by unfold maxLen; omega) (by omega) (by simp; omega) ?_); intro v1 w2 hown1 hgrow1 hat1)
      obtain ⟨A5, c5, rfl⟩ := own_form4 hown1 (by omega)
      have hbl1 : Below w.heap.size w w2 := (hbl.alloc hszr _).grown hgrow1 (by simp; omega) (fun g hg => (hown.lt g hg).1)
      go_roundg (9 - (k + 1))
      case measure => omega
      case rel => exact ⟨k + 1, A5, c5, rfl, by omega, by go_num, by rw [show 4 * (k + 1) = 4 * k + 4 by omega], by rw [show 4 * (k + 1) = 4 * k + 4 by omega, HS.out, bs_append, ← HL4.out]; exact hown1, hbl1⟩
    · obtain rfl : k = 9 := by omega
      have hru : RdB wr wr.heap.size (.slice OA (4 * 9) oc) (encT g 9) := RdB.of_own hown rfl
      have hcv := run_convert_string Tryz.underlying24 Tryz.underlying5 Tryz.underlying9 hru
      clear hown hru
      go_wp2_with fail
      go_ret
      exact ⟨rfl, hbl⟩
/-- The i-th word of a string. -/
def wdS (l : List UInt8) (i : Nat) : Nat := leV ((l.drop (4 * i)).take 4)
theorem strL_data (s : ByteArray) : strL s.data.toList = s := by cases s; rfl
theorem from_at (W : World) (l : List UInt8) (j : Nat) (h : j ≤ l.length) : (Instr.slice 9 (.string (strL l)) (some (.int .i64 (j : Int))) none none).run Tryz.prog W = .ok (.string (strL (l.drop j))) W := by
  have hz := strL_size l
  rw [run_slice_string_from_if W 9 _ _ _ Tryz.underlying9, if_pos ⟨by omega, by omega⟩]
  congr 2
  apply ByteArray.ext
  rw [ByteArray.data_extract, hz]
  unfold strL
  dsimp only
  rw [List.extract_toArray]
  simp only [List.extract_eq_take_drop]
  rw [List.take_of_length_le (by rw [List.length_drop]; omega)]
  rfl
theorem take4 (l : List UInt8) (h : 4 ≤ l.length) : ∃ b0 b1 b2 b3, l.take 4 = [b0, b1, b2, b3] ∧ l[0]? = some b0 ∧ l[1]? = some b1 ∧ l[2]? = some b2 ∧ l[3]? = some b3 := by
  match l, h with
  | b0 :: b1 :: b2 :: b3 :: l, _ => exact ⟨b0, b1, b2, b3, rfl, rfl, rfl, rfl, rfl⟩
theorem wd_or (b0 b1 b2 b3 : UInt8) : bits BinOp.or IntKind.u32 (bits BinOp.or IntKind.u32 (bits BinOp.or IntKind.u32 (IntKind.u32.wrap (b0.toNat : Int)) (IntKind.u32.wrap (IntKind.u32.wrap (b1.toNat : Int) * 256))) (IntKind.u32.wrap (IntKind.u32.wrap (b2.toNat : Int) * 65536))) (IntKind.u32.wrap (IntKind.u32.wrap (b3.toNat : Int) * 16777216)) = (leV [b0, b1, b2, b3] : Nat) := by
  have h0 := b0.toNat_lt
  have h1 := b1.toNat_lt
  have h2 := b2.toNat_lt
  have h3 := b3.toNat_lt
  rw [IntWalk.u32_in (b0.toNat : Int) (by omega), IntWalk.u32_in (b1.toNat : Int) (by omega), IntWalk.u32_in (b2.toNat : Int) (by omega), IntWalk.u32_in (b3.toNat : Int) (by omega),
    IntWalk.u32_in ((b1.toNat : Int) * 256) (by omega), IntWalk.u32_in ((b2.toNat : Int) * 65536) (by omega), IntWalk.u32_in ((b3.toNat : Int) * 16777216) (by omega),
    u32_or8 (b0.toNat : Int) ((b1.toNat : Int) * 256) (by omega) (by omega) (by omega) (by omega) (by omega), u32_or16 ((b0.toNat : Int) + (b1.toNat : Int) * 256) ((b2.toNat : Int) * 65536) (by omega) (by omega) (by omega) (by omega) (by omega), u32_or24 ((b0.toNat : Int) + (b1.toNat : Int) * 256 + (b2.toNat : Int) * 65536) ((b3.toNat : Int) * 16777216) (by omega) (by omega) (by omega) (by omega) (by omega)]
  show _ = ((b0.toNat + 256 * (b1.toNat + 256 * (b2.toNat + 256 * (b3.toNat + 256 * 0))) : Nat) : Int)
  omega
set_option maxRecDepth 100000 in
theorem word_any (w : World) (b k : Nat) (l : List UInt8) (hl : l.length = 36) (hk : k < 9) (hb : Blk w b 9 #[.string (strL l)]) :
    Calls Tryz.prog 99 #[.int .i64 k, .pointer (some ⟨b, 0, none⟩)] w fun e w' => e = .returned (.int .u32 (wdS l k)) ∧ Fr [] w w' := by
  obtain ⟨b0, b1, b2, b3, ht, t0, t1, t2, t3⟩ := take4 (l.drop (4 * k)) (by rw [List.length_drop]; omega)
  have hw : wdS l k = leV [b0, b1, b2, b3] := by unfold wdS; rw [ht]
  rw [hw, ← wd_or]
  have hfr := fun W => from_at W l (4 * k) (by omega)
  rw [show ((4 * k : Nat) : Int) = (k : Int) * 4 by omega] at hfr
  generalize l.drop (4 * k) = t at *
  have i0 := fun W => idx_at W t b0 0 t0
  have i1 := fun W => idx_at W t b1 1 t1
  have i2 := fun W => idx_at W t b2 2 t2
  have i3 := fun W => idx_at W t b3 3 t3
  simp only [Int.natCast_zero, Int.natCast_one, Int.cast_ofNat_Int] at i0 i1 i2 i3
  have c0 : w.cell? ⟨b, 0, none⟩ = some (.string (strL l)) := hb.cell 0
  have k0 : (0 : Int) ≤ k := by omega
  have k1 : (k : Int) < 9 := by omega
  have h0 := b0.toNat_lt
  have h1 := b1.toNat_lt
  have h2 := b2.toNat_lt
  have h3 := b3.toNat_lt
  clear ht t0 t1 t2 t3 hw hl hk
  go_enter Tryz.func99, Tryz.ntmps99
  go_wp2_with fail
  refine wp_region_mixL (fun _ => True) [0, 1, 2, 3, 4, 5, 6, 7, 8, 9, 10, 11, 12, 13, 14, 15, 16] [] [0, 1, 2, 3, 4, 5, 6, 7, 8, 9, 10, 11, 12, 13, 14, 15, 16, 17, 18] (by kernel_rfl) (by kernel_rfl) trivial ?_
  simp only [inOrder, opAt]
  iterate 19
    (refine wpMixS_read (v := ?_) rfl rfl (fun w' hS => ?_) ?_
     rotate_left
     · ((try clear hS); go_simp; (try with_reducible rfl))
     try simp only [Act.put, List.setIfInBounds_toArray, List.set_cons_zero, List.set_cons_succ])
  refine wpMixS_nil ?_
  go_wp2_with fail
  go_ret
  exact ⟨rfl, (Fr.refl _ _).drew⟩
/-- Registers of a string. -/
def decR (l : List UInt8) : Rg := ⟨fun i => (wdS l i : Nat), (wdS l 8 : Nat)⟩
def rgK (l : List UInt8) (k : Nat) : Rg := ⟨fun i => if i < k then ((wdS l i : Nat) : Int) else 0, 0⟩
theorem rgK_set (l : List UInt8) (k : Nat) (hk : k < 8) : (rgK l k).vals.toArray.setIfInBounds k (.int .u32 (wdS l k)) = (rgK l (k + 1)).vals.toArray := by
  match k, hk with
  | 0, _ | 1, _ | 2, _ | 3, _ | 4, _ | 5, _ | 6, _ | 7, _ => rfl
theorem rgK_end (l : List UInt8) : (rgK l 8).vals.toArray.setIfInBounds 8 (.int .u32 (wdS l 8)) = (decR l).vals.toArray := rfl
theorem rgK_cell (l : List UInt8) (k : Nat) (hk : k < 8) : (rgK l k).vals.toArray[k]? = some (.int .u32 0) := by
  match k, hk with
  | 0, _ | 1, _ | 2, _ | 3, _ | 4, _ | 5, _ | 6, _ | 7, _ => rfl
theorem info44a : (Tryz.prog.info? 51).map (·.size) = some 9 := by kernel_rfl
theorem build44 (W : World) : (Instr.build 51 #[]).run Tryz.prog W = .ok (.agg #[.int .u32 0, .int .u32 0, .int .u32 0, .int .u32 0, .int .u32 0, .int .u32 0, .int .u32 0, .int .u32 0, .int .u32 0]) W := by kernel_rfl
set_option maxRecDepth 100000 in
set_option maxHeartbeats 4000000 in
theorem decodeReg_any (w : World) (l : List UInt8) (hl : l.length = 36) : Calls Tryz.prog 47 #[.string (strL l)] w fun e w' => e = .returned (.tuple #[.agg (decR l).vals.toArray, .int .i64 0]) ∧ Below w.heap.size w w' := by
  have hz := strL_size l
  have h1 : decide (((strL l).size : Int) < 36) = false := decide_eq_false (by omega)
  have h2 : decide ((36 : Int) < ((strL l).size : Int)) = false := decide_eq_false (by omega)
  obtain ⟨k1, k2⟩ := two_blk w #[.string (strL l)] #[.int .u32 0, .int .u32 0, .int .u32 0, .int .u32 0, .int .u32 0, .int .u32 0, .int .u32 0, .int .u32 0, .int .u32 0] 9 51
  have k0 := (Blk.new w 9 #[.string (strL l)]).alloc (.cells #[.int .u32 0, .int .u32 0, .int .u32 0, .int .u32 0, .int .u32 0, .int .u32 0, .int .u32 0, .int .u32 0, .int .u32 0] 51)
  have K0 := Lib.hid (k0.alloc (.cells #[.int .u32 0, .int .u32 0, .int .u32 0, .int .u32 0, .int .u32 0, .int .u32 0, .int .u32 0, .int .u32 0, .int .u32 0] 51))
  have K1 := Lib.hid (k1.alloc (.cells #[.int .u32 0, .int .u32 0, .int .u32 0, .int .u32 0, .int .u32 0, .int .u32 0, .int .u32 0, .int .u32 0, .int .u32 0] 51))
  have K2 : Hid (Blk (((w.alloc (.cells #[.string (strL l)] 9)).alloc (.cells #[.int .u32 0, .int .u32 0, .int .u32 0, .int .u32 0, .int .u32 0, .int .u32 0, .int .u32 0, .int .u32 0, .int .u32 0] 51)).alloc (.cells #[.int .u32 0, .int .u32 0, .int .u32 0, .int .u32 0, .int .u32 0, .int .u32 0, .int .u32 0, .int .u32 0, .int .u32 0] 51)) (w.heap.size + 1 + 1) 51 (rgK l 0).vals.toArray) := by
    have := Blk.new ((w.alloc (.cells #[.string (strL l)] 9)).alloc (.cells #[.int .u32 0, .int .u32 0, .int .u32 0, .int .u32 0, .int .u32 0, .int .u32 0, .int .u32 0, .int .u32 0, .int .u32 0] 51)) 51 #[.int .u32 0, .int .u32 0, .int .u32 0, .int .u32 0, .int .u32 0, .int .u32 0, .int .u32 0, .int .u32 0, .int .u32 0]
    rw [show ((w.alloc (.cells #[.string (strL l)] 9)).alloc (.cells #[.int .u32 0, .int .u32 0, .int .u32 0, .int .u32 0, .int .u32 0, .int .u32 0, .int .u32 0, .int .u32 0, .int .u32 0] 51)).heap.size = w.heap.size + 1 + 1 by simp] at this
    exact Lib.hid this
  have HB := Lib.hid (k2.alloc (by simp; omega) (.cells #[.int .u32 0, .int .u32 0, .int .u32 0, .int .u32 0, .int .u32 0, .int .u32 0, .int .u32 0, .int .u32 0, .int .u32 0] 51))
  have HLN := Lib.hid hl
  clear hz k0 k1 k2 hl
  go_enter Tryz.func47, Tryz.ntmps47
  go_upto_region 7 with (fail)
  generalize ((w.alloc (.cells #[.string (strL l)] 9)).alloc (.cells #[.int .u32 0, .int .u32 0, .int .u32 0, .int .u32 0, .int .u32 0, .int .u32 0, .int .u32 0, .int .u32 0, .int .u32 0] 51)).alloc (.cells #[.int .u32 0, .int .u32 0, .int .u32 0, .int .u32 0, .int .u32 0, .int .u32 0, .int .u32 0, .int .u32 0, .int .u32 0] 51) = W0 at *
  go_wp2_with fail
  go_loopg [16] (8) (fun q iv wr => ∃ k : Nat, q = 8 - k ∧ k ≤ 8 ∧ iv = .int .i64 k ∧ Blk wr w.heap.size 9 #[.string (strL l)] ∧ Blk wr (w.heap.size + 1) 51 #[.int .u32 0, .int .u32 0, .int .u32 0, .int .u32 0, .int .u32 0, .int .u32 0, .int .u32 0, .int .u32 0, .int .u32 0] ∧ Blk wr (w.heap.size + 1 + 1) 51 (rgK l k).vals.toArray ∧ Below w.heap.size w wr)
  case atStart => exact ⟨0, rfl, by omega, rfl, K0.out, K1.out, K2.out, HB.out⟩
  case round =>
    obtain ⟨k, rfl, hk, rfl, b0, b1, b2, hbl⟩ := hrel
    have B0 := Lib.hid b0
    have B1 := Lib.hid b1
    have B2 := Lib.hid b2
    have HL := Lib.hid hbl
    have hlt2 := b2.lt
    clear b0 b1 b2 hbl K0 K1 K2 HB
    by_cases hlt : k < 8
    · have i1 : (k : Int) < 8 := by omega
      have i0 : (0 : Int) ≤ k := by omega
      go_wp2_with fail
      refine (word_any wr w.heap.size k l HLN.out (by omega) B0.out).mono ?_
      rintro e w1 ⟨rfl, hf⟩
      have B01 := Lib.hid (B0.out.fr hf (by simp))
      have B11 := Lib.hid (B1.out.fr hf (by simp))
      have b21 := B2.out.fr hf (by simp)
      have HL1 : Hid (Below w.heap.size w w1) := Lib.hid (HL.out.trans (hf.nil_below.mono HL.out.size))
      have c2 : w1.cell? ⟨w.heap.size + 1 + 1, k, none⟩ = some (.int .u32 0) := (b21.cell k).trans (rgK_cell l k hlt)
      have f2 := b21.frozen k
      have B22 : Hid (Blk (w1.setCell ⟨w.heap.size + 1 + 1, k, none⟩ (.int .u32 (wdS l k))) (w.heap.size + 1 + 1) 51 (rgK l (k + 1)).vals.toArray) := Lib.hid (by rw [← rgK_set l k hlt]; exact b21.set_ k _)
      have hl1 := b21.lt
      clear b21 hf
      dsimp only
      go_wp2_with fail
      go_roundg (8 - (k + 1))
      case measure => omega
      case rel => exact ⟨k + 1, rfl, by omega, by go_num, B01.out.far (by show w.heap.size ≠ w.heap.size + 1 + 1; omega) _, B11.out.far (by show w.heap.size + 1 ≠ w.heap.size + 1 + 1; omega) _, B22.out, HL1.out.setCell (by show w.heap.size ≤ w.heap.size + 1 + 1; omega) _⟩
    · obtain rfl : k = 8 := by omega
      go_wp2_with fail
      have hwd := word_any wr w.heap.size 8 l HLN.out (by omega) B0.out
      simp only [Int.cast_ofNat_Int] at hwd
      refine hwd.mono ?_
      rintro e w1 ⟨rfl, hf⟩
      have B11 := Lib.hid (B1.out.fr hf (by simp))
      have b21 := B2.out.fr hf (by simp)
      have HL1 : Hid (Below w.heap.size w w1) := Lib.hid (HL.out.trans (hf.nil_below.mono HL.out.size))
      have c2 : w1.cell? ⟨w.heap.size + 1 + 1, 8, none⟩ = some (.int .u32 0) := b21.cell 8
      have f2 := b21.frozen 8
      obtain ⟨w2, hw2⟩ : ∃ w2, w2 = w1.setCell ⟨w.heap.size + 1 + 1, 8, none⟩ (.int .u32 (wdS l 8)) := ⟨_, rfl⟩
      have B22 : Hid (Blk w2 (w.heap.size + 1 + 1) 51 (decR l).vals.toArray) := Lib.hid (by rw [hw2, ← rgK_end l]; exact b21.set_ 8 _)
      have B12 : Hid (Blk w2 (w.heap.size + 1) 51 #[.int .u32 0, .int .u32 0, .int .u32 0, .int .u32 0, .int .u32 0, .int .u32 0, .int .u32 0, .int .u32 0, .int .u32 0]) := Lib.hid (by rw [hw2]; exact B11.out.far (by show w.heap.size + 1 ≠ w.heap.size + 1 + 1; omega) _)
      have HL2 : Hid (Below w.heap.size w w2) := Lib.hid (by rw [hw2]; exact HL1.out.setCell (by show w.heap.size ≤ w.heap.size + 1 + 1; omega) _)
      have hl1 := b21.lt
      clear b21 hf hwd B0 B1 B2 HL
      dsimp only
      go_upto_region 13 with (fail)
      rw [← hw2]
      clear hw2 c2 f2
      go_wp2_with (first
        | refine wpList_load_blk rfl 51 (.tmp 5) rfl (w.heap.size + 1 + 1) rfl B22.out _ Tryz.underlying51 rfl info44a ?_
        | (refine wpList_store_blk rfl 51 (.tmp 2) (.tmp 29) rfl (w.heap.size + 1) rfl _ rfl B12.out rfl info44a rfl ?_; intro w5 hk5 hf5))
      exact end_cell_tmp rfl rfl hk5 Tryz.underlying51 rfl info44a ⟨rfl, belowFr HL2.out hf5 (by omega) (Nat.le_refl _)⟩
end Go.Proofs.YtkoomlbnfhdhcaaGreatDoor

/-
  Walks: registers of a process.
-/
namespace Go.Proofs.YtkoomlbnfhdhcaaGreatDoor
open Go.RowKit
set_option linter.unusedVariables false

theorem ofNat_eq (n : Nat) (b : UInt8) (h : n % 256 = b.toNat) : UInt8.ofNat n = b := UInt8.toNat_inj.1 (by rw [UInt8.toNat_ofNat']; exact h)
theorem le4_leV (b0 b1 b2 b3 : UInt8) : le4 (leV [b0, b1, b2, b3]) = [b0, b1, b2, b3] := by
  have h0 := b0.toNat_lt
  have h1 := b1.toNat_lt
  have h2 := b2.toNat_lt
  have h3 := b3.toNat_lt
  have e : leV [b0, b1, b2, b3] = b0.toNat + 256 * (b1.toNat + 256 * (b2.toNat + 256 * (b3.toNat + 256 * 0))) := rfl
  rw [e]
  unfold le4
  rw [ofNat_eq _ b0 (by omega), ofNat_eq _ b1 (by omega), ofNat_eq _ b2 (by omega), ofNat_eq _ b3 (by omega)]
theorem leV_le4 (n : Nat) (h : n < 4294967296) : leV (le4 n) = n := by
  show (UInt8.ofNat n).toNat + 256 * ((UInt8.ofNat (n / 256)).toNat + 256 * ((UInt8.ofNat (n / 65536)).toNat + 256 * ((UInt8.ofNat (n / 16777216)).toNat + 256 * 0))) = n
  rw [UInt8.toNat_ofNat', UInt8.toNat_ofNat', UInt8.toNat_ofNat', UInt8.toNat_ofNat']
  omega
theorem rgW_dec (l : List UInt8) (k : Nat) (hk : k < 9) : rgW (decR l) k = (wdS l k : Nat) := by
  unfold rgW
  by_cases h : k < 8
  · rw [if_pos h]; rfl
  · obtain rfl : k = 8 := by omega
    rfl
theorem enc_dec (l : List UInt8) (hl : l.length = 36) : encT (decR l) 9 = l := by
  have h : ∀ k, k ≤ 9 → encT (decR l) k = l.take (4 * k) := by
    intro k
    induction k with
    | zero => intro _; rfl
    | succ k ih =>
      intro hk
      rw [encT_succ, ih (by omega), rgW_dec l k (by omega), Int.toNat_natCast, show 4 * (k + 1) = 4 * k + 4 by omega, List.take_add]
      congr 1
      unfold wdS
      obtain ⟨b0, b1, b2, b3, ht, _⟩ := take4 (l.drop (4 * k)) (by rw [List.length_drop]; omega)
      rw [ht, le4_leV]
  rw [h 9 (Nat.le_refl _), List.take_of_length_le (by omega)]
theorem wd_enc (g : Rg) (hg : g.Ok) (k : Nat) (hk : k < 9) : ((wdS (encT g 9) k : Nat) : Int) = rgW g k := by
  have e : ((encT g 9).drop (4 * k)).take 4 = le4 (rgW g k).toNat := by
    match k, hk with
    | 0, _ | 1, _ | 2, _ | 3, _ | 4, _ | 5, _ | 6, _ | 7, _ | 8, _ => rfl
  have h := rgW_ok hg k
  unfold wdS
  rw [e, leV_le4 _ (by omega)]
  omega
theorem dec_enc_vals (g : Rg) (hg : g.Ok) : (decR (encT g 9)).vals = g.vals := by
  have h := wd_enc g hg
  unfold Rg.vals decR
  dsimp only
  rw [h 0 (by omega), h 1 (by omega), h 2 (by omega), h 3 (by omega), h 4 (by omega), h 5 (by omega), h 6 (by omega), h 7 (by omega), h 8 (by omega)]
  rfl
theorem decR_ok (l : List UInt8) : (decR l).Ok := by
  have h : ∀ k, wdS l k < 4294967296 := fun k => by unfold wdS; exact leV_lt _ (by rw [List.length_take]; omega)
  exact ⟨fun k => by show (0 : Int) ≤ (wdS l k : Nat); omega, fun k => by have := h k; show ((wdS l k : Nat) : Int) < 4294967296; omega, by show (0 : Int) ≤ (wdS l 8 : Nat); omega, by have := h 8; show ((wdS l 8 : Nat) : Int) < 4294967296; omega⟩
theorem encT_len (g : Rg) : (encT g 9).length = 36 := by rw [encT_length]
theorem zero51 (W : World) : (zeroValue 51).run Tryz.prog W = .ok (.agg #[.int .u32 0, .int .u32 0, .int .u32 0, .int .u32 0, .int .u32 0, .int .u32 0, .int .u32 0, .int .u32 0, .int .u32 0]) W := by kernel_rfl
theorem vals_size (g : Rg) : g.vals.toArray.size = 9 := rfl
theorem vals_one (g : Rg) : g.vals.all (·.oneCell') = true := rfl
set_option maxRecDepth 100000 in
set_option maxHeartbeats 4000000 in
theorem setRegisters_any (w : World) (B v n : Nat) (V : Val) (who : List UInt8) (g : Rg) (h : Env w B v V n) (hw : Who who) (hg : g.Ok) (hn : n ≤ 100000) :
    Calls Tryz.prog 32 #[.pointer (some ⟨v, 0, none⟩), .string (strL who), .agg g.vals.toArray] w fun e w' => e = .returned (.int .i64 0) ∧ Env w' B v (vupd V (oR who) (encT g 9)) (n + 1) ∧ VF B w w' := by
  have hva := fun W => validW who hw W
  have hof := fun W => ofRegisters_any W who
  have hen := fun W => encReg_any W g hg
  have hset := fun W (h : Env W B v V n) => h.set (b := encT g 9) (okR hw) hn (by rw [encT_len]; omega)
  unfold oR at *
  obtain ⟨x, hx⟩ : ∃ x, x = obV ⟨2, who, 0⟩ := ⟨_, rfl⟩
  rw [← hx] at hset hof
  obtain ⟨V', hV'⟩ : ∃ V', V' = vupd V ⟨2, who, 0⟩ (encT g 9) := ⟨_, rfl⟩
  rw [← hV'] at hset ⊢
  obtain ⟨s, hs⟩ : ∃ s, s = strL (encT g 9) := ⟨_, rfl⟩
  rw [show (⟨(encT g 9).toArray⟩ : ByteArray) = strL (encT g 9) from rfl, ← hs] at hen
  rw [← hs] at hset
  clear hx hV' hs
  unfold Rg.vals at *
  have HN := Lib.hid (Blk.new w 51 #[.int .u32 (g.r 0), .int .u32 (g.r 1), .int .u32 (g.r 2), .int .u32 (g.r 3), .int .u32 (g.r 4), .int .u32 (g.r 5), .int .u32 (g.r 6), .int .u32 (g.r 7), .int .u32 g.pc])
  have HB0 := Lib.hid ((Below.refl w.heap.size w).alloc (Nat.le_refl _) (.cells #[.int .u32 (g.r 0), .int .u32 (g.r 1), .int .u32 (g.r 2), .int .u32 (g.r 3), .int .u32 (g.r 4), .int .u32 (g.r 5), .int .u32 (g.r 6), .int .u32 (g.r 7), .int .u32 g.pc] 51))
  have HE := Lib.hid (h.below HB0.out)
  clear h hg
  go_enter Tryz.func32, Tryz.ntmps32
  go_wp2_with fail
  refine (hva _).mono ?_
  rintro e w1 ⟨rfl, nb⟩
  have HN1 := Lib.hid (HN.out.below nb HN.out.lt)
  have HE1 := Lib.hid (HE.out.below nb)
  have HB1 := Lib.hid (HB0.out.trans (nb.mono HB0.out.size))
  clear nb HN HE HB0
  go_upto_region 5 with (fail)
  refine wp_region_mixL (fun W => Blk W w.heap.size 51 #[.int .u32 (g.r 0), .int .u32 (g.r 1), .int .u32 (g.r 2), .int .u32 (g.r 3), .int .u32 (g.r 4), .int .u32 (g.r 5), .int .u32 (g.r 6), .int .u32 (g.r 7), .int .u32 g.pc]) [2, 3, 4, 5] [2, 4, 5] [0, 1, 3, 2, 4, 5, 6] (by kernel_rfl) (by kernel_rfl) HN1.out.drew ?_
  simp only [inOrder, opAt]
  iterate 3
    (refine wpMixS_read (v := ?_) rfl rfl (fun w' hS => ?_) ?_
     rotate_left
     · ((try (have t := hS rfl; have u0 := t.cell 0; have u1 := t.cell 1; have u2 := t.cell 2; have u3 := t.cell 3; have u4 := t.cell 4; have u5 := t.cell 5; have u6 := t.cell 6; have u7 := t.cell 7; have u8 := t.cell 8; simp at u0 u1 u2 u3 u4 u5 u6 u7 u8; clear t)); go_simp; (try with_reducible rfl))
     try simp only [Act.put, List.setIfInBounds_toArray, List.set_cons_zero, List.set_cons_succ])
  refine wpMixS_eff rfl rfl (fun K hK => ?_)
  go_simp
  refine (hof _).mono ?_
  rintro e w2 ⟨rfl, nb⟩
  have HN2 := Lib.hid (HN1.out.drew.below nb HN1.out.lt)
  have HE2 := Lib.hid ((HE1.out.below (Below.refl _ _).drew).below nb)
  have HB2 := Lib.hid (HB1.out.drew.trans (nb.mono HB1.out.size))
  refine hK.out _ _ _ (fun _ h => h) (fun _ => HN2.out) ?_
  clear hK K nb HN1 HE1 HB1
  try simp only [Act.put, List.setIfInBounds_toArray, List.set_cons_zero, List.set_cons_succ]
  refine wpMixS_eff rfl rfl (fun K hK => ?_)
  go_simp
  refine (hen _).mono ?_
  rintro e w3 ⟨rfl, nb⟩
  have HN3 := Lib.hid (HN2.out.below nb HN2.out.lt)
  have HE3 := Lib.hid (HE2.out.below nb)
  have HB3 := Lib.hid (HB2.out.trans (nb.mono HB2.out.size))
  refine hK.out _ _ _ (fun _ h => h) (fun _ => HN3.out) ?_
  clear hK K nb HN2 HE2 HB2
  try simp only [Act.put, List.setIfInBounds_toArray, List.set_cons_zero, List.set_cons_succ]
  refine wpMixS_eff rfl rfl (fun K hK => ?_)
  go_simp
  refine (hset _ HE3.out).mono ?_
  rintro e w4 ⟨rfl, h4, f4⟩
  refine hK.out _ _ _ (fun _ h => h) (fun _ => f4.blk HN3.out (by decide) (by decide)) ?_
  clear hK K
  try simp only [Act.put, List.setIfInBounds_toArray, List.set_cons_zero, List.set_cons_succ]
  iterate 1
    (refine wpMixS_read (v := ?_) rfl rfl (fun w' hS => ?_) ?_
     rotate_left
     · ((try clear hS); go_simp; (try with_reducible rfl))
     try simp only [Act.put, List.setIfInBounds_toArray, List.set_cons_zero, List.set_cons_succ])
  refine wpMixS_nil ?_
  go_wp2_with fail
  go_ret
  exact ⟨rfl, h4, (VF.of_below HB3.out).trans f4⟩
set_option maxRecDepth 100000 in
set_option maxHeartbeats 4000000 in
theorem registers_any (w : World) (B v n : Nat) (V : Val) (who : List UInt8) (g : Rg) (h : Env w B v V n) (hw : Who who) (hg : g.Ok) (hV : V (oR who) = some (encT g 9)) (hn : n ≤ 100000) :
    Calls Tryz.prog 16 #[.pointer (some ⟨v, 0, none⟩), .string (strL who)] w fun e w' => e = .returned (.tuple #[.agg g.vals.toArray, .int .i64 0]) ∧ Below w.heap.size w w' := by
  have hva := fun W => validW who hw W
  have hof := fun W => ofRegisters_any W who
  have hhit := fun W (h : Env W B v V n) => h.hit (okR hw) hV hn
  have hde := fun W => decodeReg_any W (encT g 9) (encT_len g)
  rw [dec_enc_vals g hg] at hde
  unfold oR at *
  obtain ⟨x, hx⟩ : ∃ x, x = obV ⟨2, who, 0⟩ := ⟨_, rfl⟩
  rw [← hx] at hhit hof
  obtain ⟨s, hs⟩ : ∃ s, s = strL (encT g 9) := ⟨_, rfl⟩
  rw [← hs] at hde hhit
  clear hx hs hV
  unfold Rg.vals at *
  have HN := Lib.hid (Blk.new w 51 #[.int .u32 0, .int .u32 0, .int .u32 0, .int .u32 0, .int .u32 0, .int .u32 0, .int .u32 0, .int .u32 0, .int .u32 0])
  have HB0 := Lib.hid ((Below.refl w.heap.size w).alloc (Nat.le_refl _) (.cells #[.int .u32 0, .int .u32 0, .int .u32 0, .int .u32 0, .int .u32 0, .int .u32 0, .int .u32 0, .int .u32 0, .int .u32 0] 51))
  have HE := Lib.hid (h.below HB0.out)
  clear h hg
  go_enter Tryz.func16, Tryz.ntmps16
  go_wp2_with fail
  refine (hva _).mono ?_
  rintro e w1 ⟨rfl, nb⟩
  have HN1 := Lib.hid (HN.out.below nb HN.out.lt)
  have HE1 := Lib.hid (HE.out.below nb)
  have HB1 := Lib.hid (HB0.out.trans (nb.mono HB0.out.size))
  clear nb HN HE HB0
  go_wp2_with fail
  refine (hof _).mono ?_
  rintro e w2 ⟨rfl, nb⟩
  have HN2 := Lib.hid (HN1.out.below nb HN1.out.lt)
  have HE2 := Lib.hid (HE1.out.below nb)
  have HB2 := Lib.hid (HB1.out.trans (nb.mono HB1.out.size))
  clear nb HN1 HE1 HB1
  go_wp2_with fail
  refine (hhit _ HE2.out).mono ?_
  rintro e w3 ⟨rfl, nb⟩
  have HN3 := Lib.hid (HN2.out.below nb HN2.out.lt)
  have HB3 := Lib.hid (HB2.out.trans (nb.mono HB2.out.size))
  clear nb HN2 HE2 HB2
  go_wp2_with fail
  refine (hde _).mono ?_
  rintro e w4 ⟨rfl, nb⟩
  have HN4 := Lib.hid (HN3.out.below nb HN3.out.lt)
  have HB4 := Lib.hid (HB3.out.trans (nb.mono HB3.out.size))
  have HQ := Lib.hid (Blk.new w4 51 #[.int .u32 0, .int .u32 0, .int .u32 0, .int .u32 0, .int .u32 0, .int .u32 0, .int .u32 0, .int .u32 0, .int .u32 0])
  clear nb HN3 HB3
  have hz := zero51
  go_upto_region 9 with (refine wpList_store_blk rfl 51 (.tmp 8) (.tmp 30) rfl w4.heap.size rfl _ rfl HQ.out rfl info44a rfl ?_; intro w5 hk5 hf5)
  have HQ5 := Lib.hid hk5
  have hb5 : Below w4.heap.size w4 w5 := belowFr1 ((Below.refl _ _).alloc (Nat.le_refl _) _) hf5 (Nat.le_refl _) (Nat.le_refl _)
  have HN5 := Lib.hid (HN4.out.below hb5 HN4.out.lt)
  have HB5 := Lib.hid (HB4.out.trans (hb5.mono HB4.out.size))
  clear hk5 hf5 hb5 HQ HN4 HB4
  go_wp2_with (first | refine wpList_load_blk rfl 51 (.tmp 8) rfl w4.heap.size rfl HQ5.out _ Tryz.underlying51 rfl info44a ?_ | (refine wpList_store_blk rfl 51 (.tmp 4) (.tmp 35) rfl w.heap.size rfl _ rfl HN5.out rfl info44a rfl ?_; intro w6 hk6 hf6))
  exact end_cell_tmp rfl rfl hk6 Tryz.underlying51 rfl info44a ⟨rfl, belowFr1 HB5.out hf6 (Nat.le_refl _) (Nat.le_refl _)⟩
end Go.Proofs.YtkoomlbnfhdhcaaGreatDoor
