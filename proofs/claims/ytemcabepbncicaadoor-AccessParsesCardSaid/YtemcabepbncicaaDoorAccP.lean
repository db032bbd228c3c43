/-
  Walks: the reference's Text.
-/
import Derived.Test.YtemcabepbncicaaDoorAccN
namespace Go.Proofs.YtemcabepbncicaaDoor
open Go.RowKit

theorem idx_rwx9_all (W : World) : (Instr.index 9 (.string ⟨#[114, 119, 120, 114, 119, 120, 114, 119, 120]⟩) (.int .i64 0)).run Tryd.prog W = .ok (.int .u8 114) W ∧ (Instr.index 9 (.string ⟨#[114, 119, 120, 114, 119, 120, 114, 119, 120]⟩) (.int .i64 1)).run Tryd.prog W = .ok (.int .u8 119) W ∧ (Instr.index 9 (.string ⟨#[114, 119, 120, 114, 119, 120, 114, 119, 120]⟩) (.int .i64 2)).run Tryd.prog W = .ok (.int .u8 120) W ∧ (Instr.index 9 (.string ⟨#[114, 119, 120, 114, 119, 120, 114, 119, 120]⟩) (.int .i64 3)).run Tryd.prog W = .ok (.int .u8 114) W ∧ (Instr.index 9 (.string ⟨#[114, 119, 120, 114, 119, 120, 114, 119, 120]⟩) (.int .i64 4)).run Tryd.prog W = .ok (.int .u8 119) W ∧ (Instr.index 9 (.string ⟨#[114, 119, 120, 114, 119, 120, 114, 119, 120]⟩) (.int .i64 5)).run Tryd.prog W = .ok (.int .u8 120) W ∧ (Instr.index 9 (.string ⟨#[114, 119, 120, 114, 119, 120, 114, 119, 120]⟩) (.int .i64 6)).run Tryd.prog W = .ok (.int .u8 114) W ∧ (Instr.index 9 (.string ⟨#[114, 119, 120, 114, 119, 120, 114, 119, 120]⟩) (.int .i64 7)).run Tryd.prog W = .ok (.int .u8 119) W ∧ (Instr.index 9 (.string ⟨#[114, 119, 120, 114, 119, 120, 114, 119, 120]⟩) (.int .i64 8)).run Tryd.prog W = .ok (.int .u8 120) W := by
  refine ⟨?_, ?_, ?_, ?_, ?_, ?_, ?_, ?_, ?_⟩ <;> kernel_rfl

theorem idx_rwx9 (p : Nat) (h : p < 9) (W : World) : (Instr.index 9 (.string ⟨#[114, 119, 120, 114, 119, 120, 114, 119, 120]⟩) (.int .i64 p)).run Tryd.prog W = .ok (.int .u8 (letterN p).toNat) W := by
  obtain ⟨h0, h1, h2, h3, h4, h5, h6, h7, h8⟩ := idx_rwx9_all W
  have : p = 0 ∨ p = 1 ∨ p = 2 ∨ p = 3 ∨ p = 4 ∨ p = 5 ∨ p = 6 ∨ p = 7 ∨ p = 8 := by omega
  rcases this with rfl | rfl | rfl | rfl | rfl | rfl | rfl | rfl | rfl
  · exact h0
  · exact h1
  · exact h2
  · exact h3
  · exact h4
  · exact h5
  · exact h6
  · exact h7
  · exact h8

theorem ba_append (a b : List UInt8) : ((⟨a.toArray⟩ : ByteArray) ++ (⟨b.toArray⟩ : ByteArray)) = ⟨(a ++ b).toArray⟩ := by
  apply ByteArray.ext
  simp

set_option maxHeartbeats 8000000 in
theorem rtext_any (w : World) (n : Nat) (hn : n ≤ 2047) :
    Calls Tryd.prog 29 #[.int .i64 n] w fun e w' => e = .returned (.string ⟨(textN n).toArray⟩) ∧ Below w.heap.size w w' := by
  obtain ⟨i0, hi, hz0, hz1, hz2⟩ := info_parts info5
  go_enter Tryd.func29, Tryd.ntmps29
  go_wp2_with fail
  go_loopg [3, 4] 9 (fun q tv iv wr => ∃ (p : Nat) (OA : Option Addr) (oc : Nat), iv = .int .i64 p ∧ q = 9 - p ∧ p ≤ 9 ∧ tv = .slice OA p oc ∧ wr.ownsRow w.heap.size 5 1 (.slice OA p oc) p (bs (textGo n p)) ∧ Below w.heap.size w wr)
  case atStart => exact ⟨0, none, 0, rfl, by omega, by omega, rfl, World.ownsRow_nil _ _ _ _, Below.refl _ _⟩
  case round =>
    obtain ⟨p, OA, oc, rfl, rfl, hp, rfl, hown, hbl⟩ := hrel
    have hszr := hbl.size
    by_cases hlt : p < 9
    · have i1 : (p : Int) < 9 := by omega
      have hix := idx_rwx9 p hlt
      have hdv : (n : Int) / 2 ^ (8 - p) = ((n / 2 ^ (8 - p) : Nat) : Int) := by rw [Int.natCast_ediv, Int.natCast_pow]; rfl
      have hX : bits .and .i64 ((n : Int) / 2 ^ (8 - p)) 1 = ((n / 2 ^ (8 - p) % 2 : Nat) : Int) := by
        rw [hdv]
        have := i64_and_nat (n / 2 ^ (8 - p)) 1 (Nat.lt_of_le_of_lt (Nat.div_le_self _ _) (by omega)) (by omega)
        rw [show (n / 2 ^ (8 - p)) &&& 1 = n / 2 ^ (8 - p) % 2 from Nat.and_two_pow_sub_one_eq_mod _ 1] at this
        exact this
      have hnext : textGo n (p + 1) = textGo n p ++ [if n / 2 ^ (8 - p) % 2 = 1 then letterN p else 45] := rfl
      have HN := Lib.hid hnext
      have hy : n / 2 ^ (8 - p) % 2 < 2 := Nat.mod_lt _ (by omega)
      clear hnext hdv
      generalize n / 2 ^ (8 - p) % 2 = y at *
      generalize textGo n p = u at *
      rcases Nat.lt_or_ge y 1 with h0 | h1
      · obtain rfl : y = 0 := by omega
        have hX0 : bits .and .i64 ((n : Int) / 2 ^ (8 - p)) 1 = 0 := hX
        clear hX h0 hy hix
        go_wp2_with (at_builtin; refine wpList_append_lies _ rfl (.tmp 21) (.tmp 22) _ rfl w.heap.size 5 i0 _ 1 1 Tryd.underlying72 hi hz0 hz1 hz2 rfl (by omega) (.slice OA p oc) p (bs u) rfl (hown.alloc _) ⟨wr.heap.size, 0, none⟩ 1 1 [.int .u8 45] rfl rfl (World.news_of_block (t := 5) (fr := (0, 0)) (heap_alloc_new wr _)) (by simp [Value.oneCell']) (by omega) (by unfold maxLen; omega) (by omega) (by simp; omega) (wr.heap.size + 1) (by simp) ?_; intro gg oc2 w4 hown4 hgrow4 hat4 hlt4)
        go_roundg (9 - (p + 1))
        case measure => omega
        case rel => exact ⟨p + 1, some ⟨gg, 0, none⟩, oc2, by go_num, rfl, by omega, rfl, by rw [HN.out, bs_append]; exact hown4, (hbl.alloc hszr _).grown hgrow4 (by simp; omega) (fun g hg => (hown.lt g hg).1)⟩
      · obtain rfl : y = 1 := by omega
        have hX0 : bits .and .i64 ((n : Int) / 2 ^ (8 - p)) 1 = 1 := hX
        clear hX h1 hy
        generalize letterN p = x at *
        go_wp2_with (at_builtin; refine wpList_append_lies _ rfl (.tmp 16) (.tmp 19) _ rfl w.heap.size 5 i0 _ 1 1 Tryd.underlying72 hi hz0 hz1 hz2 rfl (by omega) (.slice OA p oc) p (bs u) rfl (hown.alloc _) ⟨wr.heap.size, 0, none⟩ 1 1 [.int .u8 x.toNat] rfl rfl (World.news_of_block (t := 5) (fr := (0, 0)) (heap_alloc_new wr _)) (by simp [Value.oneCell']) (by omega) (by unfold maxLen; omega) (by omega) (by simp; omega) (wr.heap.size + 1) (by simp) ?_; intro gg oc2 w4 hown4 hgrow4 hat4 hlt4)
        go_roundg (9 - (p + 1))
        case measure => omega
        case rel => exact ⟨p + 1, some ⟨gg, 0, none⟩, oc2, by go_num, rfl, by omega, rfl, by rw [HN.out, bs_append]; exact hown4, (hbl.alloc hszr _).grown hgrow4 (by simp; omega) (fun g hg => (hown.lt g hg).1)⟩
    · obtain rfl : p = 9 := by omega
      have hu : textN n = textGo n 9 ++ (if 512 ≤ n then [43] else []) ++ (if n / 512 % 2 = 1 then [115] else []) ++ (if n / 1024 % 2 = 1 then [116] else []) := rfl
      have HU := Lib.hid hu
      have cv := run_convert_string (src := 72) (dst := 9) Tryd.underlying72 Tryd.underlying5 Tryd.underlying9 (RdB.of_own hown rfl)
      obtain ⟨x, hx⟩ : ∃ x : Nat, x = n / 512 % 2 := ⟨_, rfl⟩
      obtain ⟨y, hy⟩ : ∃ y : Nat, y = n / 1024 % 2 := ⟨_, rfl⟩
      obtain ⟨x0, hx0⟩ : ∃ x : Nat, x = n / 512 := ⟨_, rfl⟩
      obtain ⟨y0, hy0⟩ : ∃ y : Nat, y = n / 1024 := ⟨_, rfl⟩
      have d1 : (n : Int) / 512 = (x0 : Int) := by omega
      have d2 : (n : Int) / 1024 = (y0 : Int) := by omega
      have f1 : (x0 : Int) % 2 = (x : Int) := by omega
      have f2 : (y0 : Int) % 2 = (y : Int) := by omega
      have g1 : x0 ≤ 3 := by omega
      have g2 : y0 ≤ 1 := by omega
      clear hx0 hy0
      have HX := Lib.hid hx
      have HY := Lib.hid hy
      have hx2 : x = 0 ∨ x = 1 := by omega
      have hy2 : y = 0 ∨ y = 1 := by omega
      have hul : (textGo n 9).length ≤ 9 := by rw [textGo_length]; exact Nat.le_refl _
      have q1 := fun a : List UInt8 => ba_append a [43]
      have q2 := fun a : List UInt8 => ba_append a [115]
      have q3 := fun a : List UInt8 => ba_append a [116]
      have Q1 := Lib.hid q1
      have Q2 := Lib.hid q2
      have Q3 := Lib.hid q3
      clear hu hx hy q1 q2 q3
      generalize textGo n 9 = u at *
      by_cases h5 : 512 ≤ n
      · have e5 : decide ((512 : Int) ≤ n) = true := decide_eq_true (by omega)
        rcases hx2 with rfl | rfl <;> rcases hy2 with rfl | rfl
        all_goals
          have hf := HU.out
          rw [if_pos h5, ← HX.out, ← HY.out] at hf
          simp at hf
          have HF := Lib.hid hf
          clear hf h5
          simp only [Int.natCast_zero, Int.natCast_one] at f1 f2
          go_wp2_with fail
          go_ret
          refine ⟨?_, hbl⟩
          have h1 := Q1.out u
          have h2 := Q2.out (u ++ [43])
          have h3 := Q3.out (u ++ [43])
          have h4 := Q3.out (u ++ [43] ++ [115])
          rw [HF.out]
          simp only [List.append_assoc, List.cons_append, List.nil_append] at h1 h2 h3 h4
          first | (show Ending.returned (Value.string _) = _; rw [h1, h2, h4]) | (show Ending.returned (Value.string _) = _; rw [h1, h3]) | (show Ending.returned (Value.string _) = _; rw [h1, h2]) | (show Ending.returned (Value.string _) = _; rw [h1])
      · have e5 : decide ((512 : Int) ≤ n) = false := decide_eq_false (by omega)
        obtain rfl : x = 0 := by have := HX.out; omega
        obtain rfl : y = 0 := by have := HY.out; omega
        have hf := HU.out
        rw [if_neg h5, ← HX.out, ← HY.out] at hf
        simp at hf
        have HF := Lib.hid hf
        clear hf h5 hx2 hy2
        go_wp2_with fail
        go_ret
        exact ⟨by rw [HF.out]; rfl, hbl⟩
end Go.Proofs.YtemcabepbncicaaDoor
