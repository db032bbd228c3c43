/-
  Walks: CpuDecodes.
-/
import Derived.Test.YtpadpggdealgkaaDoorRRREnB
namespace Go.Proofs.YtpadpggdealgkaaDoorRRR
open Go.RowKit
set_option linter.unusedVariables false
set_option linter.unusedSectionVars false
set_option linter.unusedSimpArgs false

theorem ofNat_eq (n : Nat) (b : UInt8) (h : n % 256 = b.toNat) : UInt8.ofNat n = b := UInt8.toNat_inj.1 (by rw [UInt8.toNat_ofNat']; exact h)
theorem le4_leV (b0 b1 b2 b3 : UInt8) : le4 (leV [b0, b1, b2, b3]) = [b0, b1, b2, b3] := by
  have h0 := b0.toNat_lt
  have h1 := b1.toNat_lt
  have h2 := b2.toNat_lt
  have h3 := b3.toNat_lt
  have e : leV [b0, b1, b2, b3] = b0.toNat + 256 * (b1.toNat + 256 * (b2.toNat + 256 * (b3.toNat + 256 * 0))) := rfl
  rw [e]
  unfold le4
  rw [ofNat_eq _ b0 (by omega), ofNat_eq _ b1 (by omega), ofNat_eq _ b2 (by omega), ofNat_eq _ b3 (by omega)]
theorem leV_le4 (n : Nat) (h : n < 4294967296) : leV (le4 n) = n := by
  show (UInt8.ofNat n).toNat + 256 * ((UInt8.ofNat (n / 256)).toNat + 256 * ((UInt8.ofNat (n / 65536)).toNat + 256 * ((UInt8.ofNat (n / 16777216)).toNat + 256 * 0))) = n
  rw [UInt8.toNat_ofNat', UInt8.toNat_ofNat', UInt8.toNat_ofNat', UInt8.toNat_ofNat']
  omega
theorem rgW_dec (l : List UInt8) (k : Nat) (hk : k < 9) : rgW (decR l) k = (wdS l k : Nat) := by
  unfold rgW
  by_cases h : k < 8
  · rw [if_pos h]; rfl
  · obtain rfl : k = 8 := by omega
    rfl
theorem enc_dec (l : List UInt8) (hl : l.length = 36) : encT (decR l) 9 = l := by
  have h : ∀ k, k ≤ 9 → encT (decR l) k = l.take (4 * k) := by
    intro k
    induction k with
    | zero => intro _; rfl
    | succ k ih =>
      intro hk
      rw [encT_succ, ih (by omega), rgW_dec l k (by omega), Int.toNat_natCast, show 4 * (k + 1) = 4 * k + 4 by omega, List.take_add]
      congr 1
      unfold wdS
      obtain ⟨b0, b1, b2, b3, ht, _⟩ := take4 (l.drop (4 * k)) (by rw [List.length_drop]; omega)
      rw [ht, le4_leV]
  rw [h 9 (Nat.le_refl _), List.take_of_length_le (by omega)]
theorem wd_enc (g : Rg) (hg : g.Ok) (k : Nat) (hk : k < 9) : ((wdS (encT g 9) k : Nat) : Int) = rgW g k := by
  have e : ((encT g 9).drop (4 * k)).take 4 = le4 (rgW g k).toNat := by
    match k, hk with
    | 0, _ | 1, _ | 2, _ | 3, _ | 4, _ | 5, _ | 6, _ | 7, _ | 8, _ => rfl
  have h := rgW_ok hg k
  unfold wdS
  rw [e, leV_le4 _ (by omega)]
  omega
theorem dec_enc_vals (g : Rg) (hg : g.Ok) : (decR (encT g 9)).vals = g.vals := by
  have h := wd_enc g hg
  unfold Rg.vals decR
  dsimp only
  rw [h 0 (by omega), h 1 (by omega), h 2 (by omega), h 3 (by omega), h 4 (by omega), h 5 (by omega), h 6 (by omega), h 7 (by omega), h 8 (by omega)]
  rfl
theorem to_at (W : World) (l : List UInt8) (j : Nat) (h : j ≤ l.length) : (Instr.slice 9 (.string (strL l)) none (some (.int .i64 (j : Int))) none).run Tryd.prog W = .ok (.string (strL (l.take j))) W := by
  have hz := strL_size l
  rw [run_slice_string_to_if W 9 _ _ _ Tryd.underlying9, if_pos ⟨by omega, by omega⟩]
  congr 2
  apply ByteArray.ext
  rw [ByteArray.data_extract]
  unfold strL
  dsimp only
  rw [List.extract_toArray]
  simp only [List.extract_eq_take_drop]
  rfl
theorem eq44_zero (W : World) : (binOp BinOp.eql 44 (.agg #[.int .u32 0, .int .u32 0, .int .u32 0, .int .u32 0, .int .u32 0, .int .u32 0, .int .u32 0, .int .u32 0, .int .u32 0]) (.agg #[.int .u32 0, .int .u32 0, .int .u32 0, .int .u32 0, .int .u32 0, .int .u32 0, .int .u32 0, .int .u32 0, .int .u32 0])).run Tryd.prog W = .ok (.bool true) W := eq44_refl 0 0 0 0 0 0 0 0 0 W
theorem decR_ok (l : List UInt8) : (decR l).Ok := by
  have h : ∀ k, wdS l k < 4294967296 := fun k => by unfold wdS; exact leV_lt _ (by rw [List.length_take]; omega)
  exact ⟨fun k => by show (0 : Int) ≤ (wdS l k : Nat); omega, fun k => by have := h k; show ((wdS l k : Nat) : Int) < 4294967296; omega, by show (0 : Int) ≤ (wdS l 8 : Nat); omega, by have := h 8; show ((wdS l 8 : Nat) : Int) < 4294967296; omega⟩
/-- The law's string, cut. -/
theorem cutS (w : World) (s : ByteArray) : ∃ (m : Nat) (t : List UInt8), t.length = m ∧ m ≤ 60 ∧ (if (60 : Int) < (s.size : Int) then (60 : Int) else (s.size : Int)) = (m : Int) ∧ min (s.size : Int) 60 = (m : Int) ∧ (∀ W, (Instr.slice 9 (.string s) none (some (.int .i64 (m : Int))) none).run Tryd.prog W = .ok (.string (strL t)) W) := by
  have hz : s.data.toList.length = s.size := by rw [← strL_size, strL_data]
  refine ⟨min s.size 60, s.data.toList.take (min s.size 60), by rw [List.length_take]; omega, by omega, by split <;> omega, by omega, fun W => ?_⟩
  have := to_at W s.data.toList (min s.size 60) (by omega)
  rw [strL_data] at this
  exact this
set_option maxRecDepth 100000 in
set_option maxHeartbeats 4000000 in
theorem cpuDecodes_any (w : World) (s : ByteArray) (ho : Ops w) : Calls Tryd.prog 7 #[.string s] w fun e w' => e = .returned (.bool true) ∧ Below w.heap.size w w' := by
  obtain ⟨m, t, hl, hm, e1, e2, hsl⟩ := cutS w s
  have HOP := Lib.hid ho
  clear ho
  have hz := strL_size t
  by_cases h1 : t.length < 36
  · have HD := Lib.hid (fun W => decShort_any W (strL t) (by omega))
    have hsz : ((strL t).size : Int) < 36 := by omega
    have hq := eq44_zero
    have hbd := build44
    clear hl hm hz
    go_enter Tryd.func7, Tryd.ntmps7
    go_wp2_with fail
    refine (HD.out _).mono ?_
    rintro e w1 ⟨rfl, nb⟩
    obtain ⟨w2, hw2⟩ : ∃ w2, w2 = w1.alloc (.cells #[.int .u32 0, .int .u32 0, .int .u32 0, .int .u32 0, .int .u32 0, .int .u32 0, .int .u32 0, .int .u32 0, .int .u32 0] 44) := ⟨_, rfl⟩
    obtain ⟨b, hb⟩ : ∃ b, b = w1.heap.size := ⟨_, rfl⟩
    have HBb := Lib.hid hb
    have HX : Hid (Blk w2 b 44 #[.int .u32 0, .int .u32 0, .int .u32 0, .int .u32 0, .int .u32 0, .int .u32 0, .int .u32 0, .int .u32 0, .int .u32 0]) := Lib.hid (by rw [hw2, hb]; exact Blk.new _ _ _)
    have HB : Hid (Below w.heap.size w w2) := Lib.hid (by rw [hw2]; exact nb.alloc nb.size _)
    clear nb hb
    dsimp only
    go_upto_region 3 with (fail)
    rw [← hw2, ← HBb.out]
    clear hw2
    go_wp2_with fail
    refine (known_any w2 (HOP.out.belowS HB.out)).mono ?_
    rintro e w3 ⟨rfl, nb⟩
    have hk := HX.out.below nb HX.out.lt
    have HB3 : Hid (Below w.heap.size w w3) := Lib.hid (HB.out.trans (nb.mono HB.out.size))
    have c0 := hk.cell 0
    have c1 := hk.cell 1
    have c2 := hk.cell 2
    have c3 := hk.cell 3
    have c4 := hk.cell 4
    have c5 := hk.cell 5
    have c6 := hk.cell 6
    have c7 := hk.cell 7
    have c8 := hk.cell 8
    simp at c0 c1 c2 c3 c4 c5 c6 c7 c8
    clear nb hk HB HX HD
    dsimp only
    go_wp2_with fail
    go_ret
    exact ⟨rfl, HB3.out⟩
  by_cases h2 : 36 < t.length
  · have HD := Lib.hid (fun W => decLong_any W (strL t) (by omega))
    have hsz : (36 : Int) < ((strL t).size : Int) := by omega
    have hsz2 : decide (((strL t).size : Int) < 36) = false := decide_eq_false (by omega)
    have hq := eq44_zero
    have hbd := build44
    clear hl hm hz
    go_enter Tryd.func7, Tryd.ntmps7
    go_wp2_with fail
    refine (HD.out _).mono ?_
    rintro e w1 ⟨rfl, nb⟩
    obtain ⟨w2, hw2⟩ : ∃ w2, w2 = w1.alloc (.cells #[.int .u32 0, .int .u32 0, .int .u32 0, .int .u32 0, .int .u32 0, .int .u32 0, .int .u32 0, .int .u32 0, .int .u32 0] 44) := ⟨_, rfl⟩
    obtain ⟨b, hb⟩ : ∃ b, b = w1.heap.size := ⟨_, rfl⟩
    have HBb := Lib.hid hb
    have HX : Hid (Blk w2 b 44 #[.int .u32 0, .int .u32 0, .int .u32 0, .int .u32 0, .int .u32 0, .int .u32 0, .int .u32 0, .int .u32 0, .int .u32 0]) := Lib.hid (by rw [hw2, hb]; exact Blk.new _ _ _)
    have HB : Hid (Below w.heap.size w w2) := Lib.hid (by rw [hw2]; exact nb.alloc nb.size _)
    clear nb hb
    dsimp only
    go_upto_region 3 with (fail)
    rw [← hw2, ← HBb.out]
    clear hw2
    go_wp2_with fail
    refine (known_any w2 (HOP.out.belowS HB.out)).mono ?_
    rintro e w3 ⟨rfl, nb⟩
    have hk := HX.out.below nb HX.out.lt
    have HB3 : Hid (Below w.heap.size w w3) := Lib.hid (HB.out.trans (nb.mono HB.out.size))
    have c0 := hk.cell 0
    have c1 := hk.cell 1
    have c2 := hk.cell 2
    have c3 := hk.cell 3
    have c4 := hk.cell 4
    have c5 := hk.cell 5
    have c6 := hk.cell 6
    have c7 := hk.cell 7
    have c8 := hk.cell 8
    simp at c0 c1 c2 c3 c4 c5 c6 c7 c8
    clear nb hk HB HX HD
    dsimp only
    go_wp2_with fail
    go_ret
    exact ⟨rfl, HB3.out⟩
  · have h36 : t.length = 36 := by omega
    have hd := fun W => decodeReg_any W t h36
    unfold Rg.vals at hd
    have HD := Lib.hid hd
    have he := fun W => encReg_any W (decR t) (decR_ok t)
    rw [enc_dec t h36] at he
    unfold Rg.vals at he
    have HE := Lib.hid he
    have hsz : decide ((36 : Int) < ((strL t).size : Int)) = false := decide_eq_false (by omega)
    have hsz2 : decide (((strL t).size : Int) < 36) = false := decide_eq_false (by omega)
    clear hl hm hz hd he h36 h1 h2
    go_enter Tryd.func7, Tryd.ntmps7
    go_wp2_with fail
    refine (HD.out _).mono ?_
    rintro e w1 ⟨rfl, nb⟩
    obtain ⟨w2, hw2⟩ : ∃ w2, w2 = w1.alloc (.cells #[.int .u32 ((decR t).r 0), .int .u32 ((decR t).r 1), .int .u32 ((decR t).r 2), .int .u32 ((decR t).r 3), .int .u32 ((decR t).r 4), .int .u32 ((decR t).r 5), .int .u32 ((decR t).r 6), .int .u32 ((decR t).r 7), .int .u32 (decR t).pc] 44) := ⟨_, rfl⟩
    obtain ⟨b, hb⟩ : ∃ b, b = w1.heap.size := ⟨_, rfl⟩
    have HBb := Lib.hid hb
    have HX : Hid (Blk w2 b 44 #[.int .u32 ((decR t).r 0), .int .u32 ((decR t).r 1), .int .u32 ((decR t).r 2), .int .u32 ((decR t).r 3), .int .u32 ((decR t).r 4), .int .u32 ((decR t).r 5), .int .u32 ((decR t).r 6), .int .u32 ((decR t).r 7), .int .u32 (decR t).pc]) := Lib.hid (by rw [hw2, hb]; exact Blk.new _ _ _)
    have HB : Hid (Below w.heap.size w w2) := Lib.hid (by rw [hw2]; exact nb.alloc nb.size _)
    clear nb hb
    dsimp only
    go_upto_region 3 with (fail)
    rw [← hw2, ← HBb.out]
    clear hw2
    go_wp2_with fail
    refine (known_any w2 (HOP.out.belowS HB.out)).mono ?_
    rintro e w3 ⟨rfl, nb⟩
    have hk := HX.out.below nb HX.out.lt
    have HB3 : Hid (Below w.heap.size w w3) := Lib.hid (HB.out.trans (nb.mono HB.out.size))
    have c0 := hk.cell 0
    have c1 := hk.cell 1
    have c2 := hk.cell 2
    have c3 := hk.cell 3
    have c4 := hk.cell 4
    have c5 := hk.cell 5
    have c6 := hk.cell 6
    have c7 := hk.cell 7
    have c8 := hk.cell 8
    simp at c0 c1 c2 c3 c4 c5 c6 c7 c8
    clear nb hk HB HX HD
    dsimp only
    go_wp2_with fail
    refine (HE.out _).mono ?_
    rintro e w4 ⟨rfl, nb⟩
    have HB4 : Hid (Below w.heap.size w w4) := Lib.hid (HB3.out.trans (nb.mono HB3.out.size))
    clear nb
    have hst : (⟨t.toArray⟩ : ByteArray) = strL t := rfl
    rw [hst]
    clear hst
    dsimp only
    go_wp2_with fail
    go_ret
    exact ⟨rfl, HB4.out⟩
theorem cpuDecodes_row (w : World) (s : ByteArray) (_ : s.size ≤ maxLen) (ho : Ops w) : Calls Tryd.prog 7 #[.string s] w fun e w' => e = .returned (.bool true) ∧ Below w.heap.size w w' := cpuDecodes_any w s ho
end Go.Proofs.YtpadpggdealgkaaDoorRRR
