/-
  Walks: registers decoded.
-/
import Derived.Test.YtpadpggdealgkaaDoorRRREnA
import Derived.Lib.EndianBits
namespace Go.Proofs.YtpadpggdealgkaaDoorRRR
open Go.RowKit
set_option linter.unusedVariables false
set_option linter.unusedSectionVars false
set_option linter.unusedSimpArgs false

/-- The i-th word of a string. -/
def wdS (l : List UInt8) (i : Nat) : Nat := leV ((l.drop (4 * i)).take 4)
def strL (l : List UInt8) : ByteArray := ⟨l.toArray⟩
theorem strL_size (l : List UInt8) : (strL l).size = l.length := by show l.toArray.size = _; simp
theorem strL_data (s : ByteArray) : strL s.data.toList = s := by cases s; rfl
theorem idx_at (W : World) (l : List UInt8) (b : UInt8) (j : Nat) (h : l[j]? = some b) : (Instr.index 9 (.string (strL l)) (.int .i64 (j : Int))).run Tryd.prog W = .ok (.int .u8 b.toNat) W := by
  obtain ⟨hj, hb⟩ := List.getElem?_eq_some_iff.1 h
  have hz := strL_size l
  rw [run_index_string W 9 _ _ _ Tryd.underlying9, dif_pos ⟨by omega, by omega⟩]
  have : (strL l)[(j : Int).toNat]'(by omega) = b := by
    rw [← hb]
    rfl
  rw [this]
theorem from_at (W : World) (l : List UInt8) (j : Nat) (h : j ≤ l.length) : (Instr.slice 9 (.string (strL l)) (some (.int .i64 (j : Int))) none none).run Tryd.prog W = .ok (.string (strL (l.drop j))) W := by
  have hz := strL_size l
  rw [run_slice_string_from_if W 9 _ _ _ Tryd.underlying9, if_pos ⟨by omega, by omega⟩]
  congr 2
  apply ByteArray.ext
  rw [ByteArray.data_extract, hz]
  unfold strL
  dsimp only
  rw [List.extract_toArray]
  simp only [List.extract_eq_take_drop]
  rw [List.take_of_length_le (by rw [List.length_drop]; omega)]
  rfl
theorem take4 (l : List UInt8) (h : 4 ≤ l.length) : ∃ b0 b1 b2 b3, l.take 4 = [b0, b1, b2, b3] ∧ l[0]? = some b0 ∧ l[1]? = some b1 ∧ l[2]? = some b2 ∧ l[3]? = some b3 := by
  match l, h with
  | b0 :: b1 :: b2 :: b3 :: l, _ => exact ⟨b0, b1, b2, b3, rfl, rfl, rfl, rfl, rfl⟩
theorem wd_or (b0 b1 b2 b3 : UInt8) : bits BinOp.or IntKind.u32 (bits BinOp.or IntKind.u32 (bits BinOp.or IntKind.u32 (IntKind.u32.wrap (b0.toNat : Int)) (IntKind.u32.wrap (IntKind.u32.wrap (b1.toNat : Int) * 256))) (IntKind.u32.wrap (IntKind.u32.wrap (b2.toNat : Int) * 65536))) (IntKind.u32.wrap (IntKind.u32.wrap (b3.toNat : Int) * 16777216)) = (leV [b0, b1, b2, b3] : Nat) := by
  have h0 := b0.toNat_lt
  have h1 := b1.toNat_lt
  have h2 := b2.toNat_lt
  have h3 := b3.toNat_lt
  rw [IntWalk.u32_in (b0.toNat : Int) (by omega), IntWalk.u32_in (b1.toNat : Int) (by omega), IntWalk.u32_in (b2.toNat : Int) (by omega), IntWalk.u32_in (b3.toNat : Int) (by omega),
    IntWalk.u32_in ((b1.toNat : Int) * 256) (by omega), IntWalk.u32_in ((b2.toNat : Int) * 65536) (by omega), IntWalk.u32_in ((b3.toNat : Int) * 16777216) (by omega),
    u32_or8 (b0.toNat : Int) ((b1.toNat : Int) * 256) (by omega) (by omega) (by omega) (by omega) (by omega), u32_or16 ((b0.toNat : Int) + (b1.toNat : Int) * 256) ((b2.toNat : Int) * 65536) (by omega) (by omega) (by omega) (by omega) (by omega), u32_or24 ((b0.toNat : Int) + (b1.toNat : Int) * 256 + (b2.toNat : Int) * 65536) ((b3.toNat : Int) * 16777216) (by omega) (by omega) (by omega) (by omega) (by omega)]
  show _ = ((b0.toNat + 256 * (b1.toNat + 256 * (b2.toNat + 256 * (b3.toNat + 256 * 0))) : Nat) : Int)
  omega
set_option maxRecDepth 100000 in
theorem word_any (w : World) (b k : Nat) (l : List UInt8) (hl : l.length = 36) (hk : k < 9) (hb : Blk w b 9 #[.string (strL l)]) :
    Calls Tryd.prog 43 #[.int .i64 k, .pointer (some ⟨b, 0, none⟩)] w fun e w' => e = .returned (.int .u32 (wdS l k)) ∧ Fr [] w w' := by
  obtain ⟨b0, b1, b2, b3, ht, t0, t1, t2, t3⟩ := take4 (l.drop (4 * k)) (by rw [List.length_drop]; omega)
  have hw : wdS l k = leV [b0, b1, b2, b3] := by unfold wdS; rw [ht]
  rw [hw, ← wd_or]
  have hfr := fun W => from_at W l (4 * k) (by omega)
  rw [show ((4 * k : Nat) : Int) = (k : Int) * 4 by omega] at hfr
  generalize l.drop (4 * k) = t at *
  have i0 := fun W => idx_at W t b0 0 t0
  have i1 := fun W => idx_at W t b1 1 t1
  have i2 := fun W => idx_at W t b2 2 t2
  have i3 := fun W => idx_at W t b3 3 t3
  simp only [Int.natCast_zero, Int.natCast_one, Int.cast_ofNat_Int] at i0 i1 i2 i3
  have c0 : w.cell? ⟨b, 0, none⟩ = some (.string (strL l)) := hb.cell 0
  have k0 : (0 : Int) ≤ k := by omega
  have k1 : (k : Int) < 9 := by omega
  have h0 := b0.toNat_lt
  have h1 := b1.toNat_lt
  have h2 := b2.toNat_lt
  have h3 := b3.toNat_lt
  clear ht t0 t1 t2 t3 hw hl hk
  go_enter Tryd.func43, Tryd.ntmps43
  go_wp2_with fail
  refine wp_region_mixL (fun _ => True) [0, 1, 2, 3, 4, 5, 6, 7, 8, 9, 10, 11, 12, 13, 14, 15, 16] [] [0, 1, 2, 3, 4, 5, 6, 7, 8, 9, 10, 11, 12, 13, 14, 15, 16, 17, 18] (by kernel_rfl) (by kernel_rfl) trivial ?_
  simp only [inOrder, opAt]
  iterate 19
    (refine wpMixS_read (v := ?_) rfl rfl (fun w' hS => ?_) ?_
     rotate_left
     · ((try clear hS); go_simp; (try with_reducible rfl))
     try simp only [Act.put, List.setIfInBounds_toArray, List.set_cons_zero, List.set_cons_succ])
  refine wpMixS_nil ?_
  go_wp2_with fail
  go_ret
  exact ⟨rfl, (Fr.refl _ _).drew⟩
/-- Registers of a string. -/
def decR (l : List UInt8) : Rg := ⟨fun i => (wdS l i : Nat), (wdS l 8 : Nat)⟩
def rgK (l : List UInt8) (k : Nat) : Rg := ⟨fun i => if i < k then ((wdS l i : Nat) : Int) else 0, 0⟩
theorem rgK_set (l : List UInt8) (k : Nat) (hk : k < 8) : (rgK l k).vals.toArray.setIfInBounds k (.int .u32 (wdS l k)) = (rgK l (k + 1)).vals.toArray := by
  match k, hk with
  | 0, _ | 1, _ | 2, _ | 3, _ | 4, _ | 5, _ | 6, _ | 7, _ => rfl
theorem rgK_end (l : List UInt8) : (rgK l 8).vals.toArray.setIfInBounds 8 (.int .u32 (wdS l 8)) = (decR l).vals.toArray := rfl
theorem rgK_cell (l : List UInt8) (k : Nat) (hk : k < 8) : (rgK l k).vals.toArray[k]? = some (.int .u32 0) := by
  match k, hk with
  | 0, _ | 1, _ | 2, _ | 3, _ | 4, _ | 5, _ | 6, _ | 7, _ => rfl
theorem info44a : (Tryd.prog.info? 44).map (·.size) = some 9 := by kernel_rfl
theorem build44 (W : World) : (Instr.build 44 #[]).run Tryd.prog W = .ok (.agg #[.int .u32 0, .int .u32 0, .int .u32 0, .int .u32 0, .int .u32 0, .int .u32 0, .int .u32 0, .int .u32 0, .int .u32 0]) W := by kernel_rfl
set_option maxRecDepth 100000 in
theorem decShort_any (w : World) (s : ByteArray) (h : s.size < 36) : Calls Tryd.prog 21 #[.string s] w fun e w' => e = .returned (.tuple #[.agg #[.int .u32 0, .int .u32 0, .int .u32 0, .int .u32 0, .int .u32 0, .int .u32 0, .int .u32 0, .int .u32 0, .int .u32 0], .int .i64 4]) ∧ Below w.heap.size w w' := by
  have h1 : (s.size : Int) < 36 := by omega
  obtain ⟨k1, k2⟩ := two_blk w #[.string s] #[.int .u32 0, .int .u32 0, .int .u32 0, .int .u32 0, .int .u32 0, .int .u32 0, .int .u32 0, .int .u32 0, .int .u32 0] 9 44
  have hbd := build44
  clear h
  go_enter Tryd.func21, Tryd.ntmps21
  go_wp2_with fail
  exact end_cell_tmp rfl rfl k1 Tryd.underlying44 rfl info44a ⟨rfl, k2⟩
set_option maxRecDepth 100000 in
theorem decLong_any (w : World) (s : ByteArray) (h : 36 < s.size) : Calls Tryd.prog 21 #[.string s] w fun e w' => e = .returned (.tuple #[.agg #[.int .u32 0, .int .u32 0, .int .u32 0, .int .u32 0, .int .u32 0, .int .u32 0, .int .u32 0, .int .u32 0, .int .u32 0], .int .i64 5]) ∧ Below w.heap.size w w' := by
  have h1 : (36 : Int) < (s.size : Int) := by omega
  have h2 : decide ((s.size : Int) < 36) = false := decide_eq_false (by omega)
  obtain ⟨k1, k2⟩ := two_blk w #[.string s] #[.int .u32 0, .int .u32 0, .int .u32 0, .int .u32 0, .int .u32 0, .int .u32 0, .int .u32 0, .int .u32 0, .int .u32 0] 9 44
  have hbd := build44
  clear h
  go_enter Tryd.func21, Tryd.ntmps21
  go_wp2_with fail
  exact end_cell_tmp rfl rfl k1 Tryd.underlying44 rfl info44a ⟨rfl, k2⟩
set_option maxRecDepth 100000 in
set_option maxHeartbeats 4000000 in
theorem decodeReg_any (w : World) (l : List UInt8) (hl : l.length = 36) : Calls Tryd.prog 21 #[.string (strL l)] w fun e w' => e = .returned (.tuple #[.agg (decR l).vals.toArray, .int .i64 0]) ∧ Below w.heap.size w w' := by
  have hz := strL_size l
  have h1 : decide (((strL l).size : Int) < 36) = false := decide_eq_false (by omega)
  have h2 : decide ((36 : Int) < ((strL l).size : Int)) = false := decide_eq_false (by omega)
  obtain ⟨k1, k2⟩ := two_blk w #[.string (strL l)] #[.int .u32 0, .int .u32 0, .int .u32 0, .int .u32 0, .int .u32 0, .int .u32 0, .int .u32 0, .int .u32 0, .int .u32 0] 9 44
  have k0 := (Blk.new w 9 #[.string (strL l)]).alloc (.cells #[.int .u32 0, .int .u32 0, .int .u32 0, .int .u32 0, .int .u32 0, .int .u32 0, .int .u32 0, .int .u32 0, .int .u32 0] 44)
  have K0 := Lib.hid (k0.alloc (.cells #[.int .u32 0, .int .u32 0, .int .u32 0, .int .u32 0, .int .u32 0, .int .u32 0, .int .u32 0, .int .u32 0, .int .u32 0] 44))
  have K1 := Lib.hid (k1.alloc (.cells #[.int .u32 0, .int .u32 0, .int .u32 0, .int .u32 0, .int .u32 0, .int .u32 0, .int .u32 0, .int .u32 0, .int .u32 0] 44))
  have K2 : Hid (Blk (((w.alloc (.cells #[.string (strL l)] 9)).alloc (.cells #[.int .u32 0, .int .u32 0, .int .u32 0, .int .u32 0, .int .u32 0, .int .u32 0, .int .u32 0, .int .u32 0, .int .u32 0] 44)).alloc (.cells #[.int .u32 0, .int .u32 0, .int .u32 0, .int .u32 0, .int .u32 0, .int .u32 0, .int .u32 0, .int .u32 0, .int .u32 0] 44)) (w.heap.size + 1 + 1) 44 (rgK l 0).vals.toArray) := by
    have := Blk.new ((w.alloc (.cells #[.string (strL l)] 9)).alloc (.cells #[.int .u32 0, .int .u32 0, .int .u32 0, .int .u32 0, .int .u32 0, .int .u32 0, .int .u32 0, .int .u32 0, .int .u32 0] 44)) 44 #[.int .u32 0, .int .u32 0, .int .u32 0, .int .u32 0, .int .u32 0, .int .u32 0, .int .u32 0, .int .u32 0, .int .u32 0]
    rw [show ((w.alloc (.cells #[.string (strL l)] 9)).alloc (.cells #[.int .u32 0, .int .u32 0, .int .u32 0, .int .u32 0, .int .u32 0, .int .u32 0, .int .u32 0, .int .u32 0, .int .u32 0] 44)).heap.size = w.heap.size + 1 + 1 by simp] at this
    exact Lib.hid this
  have HB := Lib.hid (k2.alloc (by simp; omega) (.cells #[.int .u32 0, .int .u32 0, .int .u32 0, .int .u32 0, .int .u32 0, .int .u32 0, .int .u32 0, .int .u32 0, .int .u32 0] 44))
  have HLN := Lib.hid hl
  clear hz k0 k1 k2 hl
  go_enter Tryd.func21, Tryd.ntmps21
  go_upto_region 7 with (fail)
  generalize ((w.alloc (.cells #[.string (strL l)] 9)).alloc (.cells #[.int .u32 0, .int .u32 0, .int .u32 0, .int .u32 0, .int .u32 0, .int .u32 0, .int .u32 0, .int .u32 0, .int .u32 0] 44)).alloc (.cells #[.int .u32 0, .int .u32 0, .int .u32 0, .int .u32 0, .int .u32 0, .int .u32 0, .int .u32 0, .int .u32 0, .int .u32 0] 44) = W0 at *
  go_wp2_with fail
  go_loopg [16] (8) (fun q iv wr => ∃ k : Nat, q = 8 - k ∧ k ≤ 8 ∧ iv = .int .i64 k ∧ Blk wr w.heap.size 9 #[.string (strL l)] ∧ Blk wr (w.heap.size + 1) 44 #[.int .u32 0, .int .u32 0, .int .u32 0, .int .u32 0, .int .u32 0, .int .u32 0, .int .u32 0, .int .u32 0, .int .u32 0] ∧ Blk wr (w.heap.size + 1 + 1) 44 (rgK l k).vals.toArray ∧ Below w.heap.size w wr)
  case atStart => exact ⟨0, rfl, by omega, rfl, K0.out, K1.out, K2.out, HB.out⟩
  case round =>
    obtain ⟨k, rfl, hk, rfl, b0, b1, b2, hbl⟩ := hrel
    have B0 := Lib.hid b0
    have B1 := Lib.hid b1
    have B2 := Lib.hid b2
    have HL := Lib.hid hbl
    have hlt2 := b2.lt
    clear b0 b1 b2 hbl K0 K1 K2 HB
    by_cases hlt : k < 8
    · have i1 : (k : Int) < 8 := by omega
      have i0 : (0 : Int) ≤ k := by omega
      go_wp2_with fail
      refine (word_any wr w.heap.size k l HLN.out (by omega) B0.out).mono ?_
      rintro e w1 ⟨rfl, hf⟩
      have B01 := Lib.hid (B0.out.fr hf (by simp))
      have B11 := Lib.hid (B1.out.fr hf (by simp))
      have b21 := B2.out.fr hf (by simp)
      have HL1 : Hid (Below w.heap.size w w1) := Lib.hid (HL.out.trans (hf.nil_below.mono HL.out.size))
      have c2 : w1.cell? ⟨w.heap.size + 1 + 1, k, none⟩ = some (.int .u32 0) := (b21.cell k).trans (rgK_cell l k hlt)
      have f2 := b21.frozen k
      have B22 : Hid (Blk (w1.setCell ⟨w.heap.size + 1 + 1, k, none⟩ (.int .u32 (wdS l k))) (w.heap.size + 1 + 1) 44 (rgK l (k + 1)).vals.toArray) := Lib.hid (by rw [← rgK_set l k hlt]; exact b21.set_ k _)
      have hl1 := b21.lt
      clear b21 hf
      dsimp only
      go_wp2_with fail
      go_roundg (8 - (k + 1))
      case measure => omega
      case rel => exact ⟨k + 1, rfl, by omega, by go_num, B01.out.far (by show w.heap.size ≠ w.heap.size + 1 + 1; omega) _, B11.out.far (by show w.heap.size + 1 ≠ w.heap.size + 1 + 1; omega) _, B22.out, HL1.out.setCell (by show w.heap.size ≤ w.heap.size + 1 + 1; omega) _⟩
    · obtain rfl : k = 8 := by omega
      go_wp2_with fail
      have hwd := word_any wr w.heap.size 8 l HLN.out (by omega) B0.out
      simp only [Int.cast_ofNat_Int] at hwd
      refine hwd.mono ?_
      rintro e w1 ⟨rfl, hf⟩
      have B11 := Lib.hid (B1.out.fr hf (by simp))
      have b21 := B2.out.fr hf (by simp)
      have HL1 : Hid (Below w.heap.size w w1) := Lib.hid (HL.out.trans (hf.nil_below.mono HL.out.size))
      have c2 : w1.cell? ⟨w.heap.size + 1 + 1, 8, none⟩ = some (.int .u32 0) := b21.cell 8
      have f2 := b21.frozen 8
      obtain ⟨w2, hw2⟩ : ∃ w2, w2 = w1.setCell ⟨w.heap.size + 1 + 1, 8, none⟩ (.int .u32 (wdS l 8)) := ⟨_, rfl⟩
      have B22 : Hid (Blk w2 (w.heap.size + 1 + 1) 44 (decR l).vals.toArray) := Lib.hid (by rw [hw2, ← rgK_end l]; exact b21.set_ 8 _)
      have B12 : Hid (Blk w2 (w.heap.size + 1) 44 #[.int .u32 0, .int .u32 0, .int .u32 0, .int .u32 0, .int .u32 0, .int .u32 0, .int .u32 0, .int .u32 0, .int .u32 0]) := Lib.hid (by rw [hw2]; exact B11.out.far (by show w.heap.size + 1 ≠ w.heap.size + 1 + 1; omega) _)
      have HL2 : Hid (Below w.heap.size w w2) := Lib.hid (by rw [hw2]; exact HL1.out.setCell (by show w.heap.size ≤ w.heap.size + 1 + 1; omega) _)
      have hl1 := b21.lt
      clear b21 hf hwd B0 B1 B2 HL
      dsimp only
      go_upto_region 13 with (fail)
      rw [← hw2]
      clear hw2 c2 f2
      go_wp2_with (first
        | refine wpList_load_blk rfl 44 (.tmp 5) rfl (w.heap.size + 1 + 1) rfl B22.out _ Tryd.underlying44 rfl info44a ?_
        | (refine wpList_store_blk rfl 44 (.tmp 2) (.tmp 29) rfl (w.heap.size + 1) rfl _ rfl B12.out rfl info44a rfl ?_; intro w5 hk5 hf5))
      exact end_cell_tmp rfl rfl hk5 Tryd.underlying44 rfl info44a ⟨rfl, belowFr HL2.out hf5 (by omega) (Nat.le_refl _)⟩
end Go.Proofs.YtpadpggdealgkaaDoorRRR
