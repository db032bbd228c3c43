/-
  Walks: letterAt, Text.
-/
import Derived.Test.YtemcabepbncicaaDoorAccM
namespace Go.Proofs.YtemcabepbncicaaDoor
open Go.RowKit

def letterN (p : Nat) : UInt8 := if p % 3 = 0 then 114 else if p % 3 = 1 then 119 else 120

theorem idx_rwx (W : World) : (Instr.index 9 (.string ⟨#[114, 119, 120]⟩) (.int .i64 0)).run Tryd.prog W = .ok (.int .u8 114) W ∧ (Instr.index 9 (.string ⟨#[114, 119, 120]⟩) (.int .i64 1)).run Tryd.prog W = .ok (.int .u8 119) W ∧ (Instr.index 9 (.string ⟨#[114, 119, 120]⟩) (.int .i64 2)).run Tryd.prog W = .ok (.int .u8 120) W := by
  refine ⟨?_, ?_, ?_⟩ <;> kernel_rfl

theorem letterAt_any (w : World) (p : Nat) (hp : p ≤ 1000) : Calls Tryd.prog 38 #[.int .i64 p] w fun e w' => e = .returned (.int .u8 (letterN p).toNat) ∧ w = w' := by
  have i0 := fun W => (idx_rwx W).1
  have i1 := fun W => (idx_rwx W).2.1
  have i2 := fun W => (idx_rwx W).2.2
  have h3 : p % 3 < 3 := Nat.mod_lt _ (by omega)
  rcases Nat.lt_or_ge (p % 3) 1 with h | h
  · have e : (p : Int) % 3 = 0 := by omega
    have hl : Hid (letterN p = 114) := Lib.hid (by unfold letterN; rw [if_pos (by omega)])
    clear h h3
    go_enter Tryd.func38, Tryd.ntmps38
    go_wp2_with fail
    go_ret
    exact ⟨by rw [hl.out]; rfl, rfl⟩
  · rcases Nat.lt_or_ge (p % 3) 2 with h2 | h2
    · have e : (p : Int) % 3 = 1 := by omega
      have hl : Hid (letterN p = 119) := Lib.hid (by unfold letterN; rw [if_neg (by omega), if_pos (by omega)])
      clear h h3 h2
      go_enter Tryd.func38, Tryd.ntmps38
      go_wp2_with fail
      go_ret
      exact ⟨by rw [hl.out]; rfl, rfl⟩
    · have e : (p : Int) % 3 = 2 := by omega
      have hl : Hid (letterN p = 120) := Lib.hid (by unfold letterN; rw [if_neg (by omega), if_neg (by omega)])
      clear h h3 h2
      go_enter Tryd.func38, Tryd.ntmps38
      go_wp2_with fail
      go_ret
      exact ⟨by rw [hl.out]; rfl, rfl⟩

theorem info5 : (Tryd.prog.info? 5).map (fun i => (i.zero, i.size, i.bytes)) = some (some (.int .u8 0), 1, 1) := by kernel_rfl

/-- The letters of a mode's first nine bits. -/
def textGo (n : Nat) : Nat → List UInt8
  | 0 => []
  | p + 1 => textGo n p ++ [if n / 2 ^ (8 - p) % 2 = 1 then letterN p else 45]
theorem textGo_length (n : Nat) : ∀ p, (textGo n p).length = p
  | 0 => rfl
  | p + 1 => by rw [textGo, List.length_append, textGo_length n p]; rfl
/-- The text of a mode. -/
def textN (n : Nat) : List UInt8 :=
  textGo n 9 ++ (if 512 ≤ n then [43] else []) ++ (if n / 512 % 2 = 1 then [115] else []) ++ (if n / 1024 % 2 = 1 then [116] else [])

theorem and_flags : ∀ n < 2048, n &&& 512 = n / 512 % 2 * 512 ∧ n &&& 1024 = n / 1024 % 2 * 1024 := by decide +kernel

set_option maxHeartbeats 8000000 in
theorem text_any (w : World) (n : Nat) (hn : n ≤ 2047) :
    Calls Tryd.prog 27 #[.int .i64 n] w fun e w' => e = .returned (.tuple #[.string ⟨(textN n).toArray⟩, .int .i64 0]) ∧ Below w.heap.size w w' := by
  obtain ⟨i0, hi, hz0, hz1, hz2⟩ := info_parts info5
  have hmb := Lib.hid (modeB_yes (x := (n : Int)) (by omega) (by omega))
  go_enter Tryd.func27, Tryd.ntmps27
  go_wp2_with fail
  refine (isMode_any _ _).mono ?_
  rintro e w' ⟨rfl, rfl⟩
  rw [hmb.out]
  dsimp only
  go_wp2_with fail
  go_loopg [4, 9] 9 (fun q tv iv wr => ∃ (p : Nat) (OA : Option Addr) (oc : Nat), iv = .int .i64 p ∧ q = 9 - p ∧ p ≤ 9 ∧ tv = .slice OA p oc ∧ wr.ownsRow w.heap.size 5 1 (.slice OA p oc) p (bs (textGo n p)) ∧ Below w.heap.size w wr)
  case atStart => exact ⟨0, none, 0, rfl, by omega, by omega, rfl, World.ownsRow_nil _ _ _ _, Below.refl _ _⟩
  case round =>
    obtain ⟨p, OA, oc, rfl, rfl, hp, rfl, hown, hbl⟩ := hrel
    have hszr := hbl.size
    by_cases hlt : p < 9
    · have i1 : (p : Int) < 9 := by omega
      have hdv : (n : Int) / 2 ^ (8 - p) = ((n / 2 ^ (8 - p) : Nat) : Int) := by rw [Int.natCast_ediv, Int.natCast_pow]; rfl
      have hX : bits .and .i64 ((n : Int) / 2 ^ (8 - p)) 1 = ((n / 2 ^ (8 - p) % 2 : Nat) : Int) := by
        rw [hdv]
        have := i64_and_nat (n / 2 ^ (8 - p)) 1 (Nat.lt_of_le_of_lt (Nat.div_le_self _ _) (by omega)) (by omega)
        rw [show (n / 2 ^ (8 - p)) &&& 1 = n / 2 ^ (8 - p) % 2 from Nat.and_two_pow_sub_one_eq_mod _ 1] at this
        exact this
      have hnext : textGo n (p + 1) = textGo n p ++ [if n / 2 ^ (8 - p) % 2 = 1 then letterN p else 45] := rfl
      have HN := Lib.hid hnext
      have hy : n / 2 ^ (8 - p) % 2 < 2 := Nat.mod_lt _ (by omega)
      clear hnext hdv
      generalize n / 2 ^ (8 - p) % 2 = y at *
      generalize textGo n p = u at *
      rcases Nat.lt_or_ge y 1 with h0 | h1
      · obtain rfl : y = 0 := by omega
        have hX0 : bits .and .i64 ((n : Int) / 2 ^ (8 - p)) 1 = 0 := hX
        clear hX h0 hy
        go_wp2_with (at_builtin; refine wpList_append_lies _ rfl (.tmp 23) (.tmp 24) _ rfl w.heap.size 5 i0 _ 1 1 Tryd.underlying72 hi hz0 hz1 hz2 rfl (by omega) (.slice OA p oc) p (bs u) rfl (hown.alloc _) ⟨wr.heap.size, 0, none⟩ 1 1 [.int .u8 45] rfl rfl (World.news_of_block (t := 5) (fr := (0, 0)) (heap_alloc_new wr _)) (by simp [Value.oneCell']) (by omega) (by unfold maxLen; omega) (by omega) (by simp; omega) (wr.heap.size + 1) (by simp) ?_; intro gg oc2 w4 hown4 hgrow4 hat4 hlt4)
        go_roundg (9 - (p + 1))
        case measure => omega
        case rel => exact ⟨p + 1, some ⟨gg, 0, none⟩, oc2, by go_num, rfl, by omega, rfl, by rw [HN.out, bs_append]; exact hown4, (hbl.alloc hszr _).grown hgrow4 (by simp; omega) (fun g hg => (hown.lt g hg).1)⟩
      · obtain rfl : y = 1 := by omega
        have hX0 : bits .and .i64 ((n : Int) / 2 ^ (8 - p)) 1 = 1 := hX
        clear hX h1 hy
        go_wp2_with fail
        refine (letterAt_any _ p (by omega)).mono ?_
        rintro e w' ⟨rfl, rfl⟩
        generalize letterN p = x at *
        dsimp only
        go_wp2_with (at_builtin; refine wpList_append_lies _ rfl (.tmp 18) (.tmp 21) _ rfl w.heap.size 5 i0 _ 1 1 Tryd.underlying72 hi hz0 hz1 hz2 rfl (by omega) (.slice OA p oc) p (bs u) rfl (hown.alloc _) ⟨wr.heap.size, 0, none⟩ 1 1 [.int .u8 x.toNat] rfl rfl (World.news_of_block (t := 5) (fr := (0, 0)) (heap_alloc_new wr _)) (by simp [Value.oneCell']) (by omega) (by unfold maxLen; omega) (by omega) (by simp; omega) (wr.heap.size + 1) (by simp) ?_; intro gg oc2 w4 hown4 hgrow4 hat4 hlt4)
        go_roundg (9 - (p + 1))
        case measure => omega
        case rel => exact ⟨p + 1, some ⟨gg, 0, none⟩, oc2, by go_num, rfl, by omega, rfl, by rw [HN.out, bs_append]; exact hown4, (hbl.alloc hszr _).grown hgrow4 (by simp; omega) (fun g hg => (hown.lt g hg).1)⟩
    · obtain rfl : p = 9 := by omega
      have hbb := and_flags n (by omega)
      have f1 := i64_and_nat n 512 (by omega) (by omega)
      have f2 := i64_and_nat n 1024 (by omega) (by omega)
      rw [hbb.1] at f1
      rw [hbb.2] at f2
      have hu : textN n = textGo n 9 ++ (if 512 ≤ n then [43] else []) ++ (if n / 512 % 2 = 1 then [115] else []) ++ (if n / 1024 % 2 = 1 then [116] else []) := rfl
      have HU := Lib.hid hu
      have bl0 := hbl
      clear hbb hu hbl
      generalize textGo n 9 = u at *
      by_cases h5 : 512 ≤ n
      rotate_left
      focus
        have a1 : n / 512 % 2 = 0 := by omega
        have a2 : n / 1024 % 2 = 0 := by omega
        have hf : textN n = u := by rw [HU.out, if_neg h5, if_neg (by omega), if_neg (by omega)]; simp
        have HF := Lib.hid hf
        rw [a1] at f1
        rw [a2] at f2
        have f1' : bits .and .i64 (n : Int) 512 = 0 := f1
        have f2' : bits .and .i64 (n : Int) 1024 = 0 := f2
        have e5 : decide ((512 : Int) ≤ n) = false := decide_eq_false (by omega)
        have cv := run_convert_string (src := 72) (dst := 9) Tryd.underlying72 Tryd.underlying5 Tryd.underlying9 (RdB.of_own hown rfl)
        clear f1 f2 a1 a2 h5 hf
        go_wp2_with fail
        go_ret2
        exact ⟨by rw [HF.out]; rfl, bl0⟩
      have e5 : decide ((512 : Int) ≤ n) = true := decide_eq_true (by omega)
      have q1 : n / 512 % 2 < 2 := Nat.mod_lt _ (by omega)
      have q2 : n / 1024 % 2 < 2 := Nat.mod_lt _ (by omega)
      rcases Nat.lt_or_ge (n / 512 % 2) 1 with a1 | a1
      focus
        have a1' : n / 512 % 2 = 0 := by omega
        have a2' : n / 1024 % 2 = 1 := by omega
        have hf : textN n = u ++ [43, 116] := by rw [HU.out, if_pos h5, if_neg (by omega), if_pos a2']; simp
        have HF := Lib.hid hf
        rw [a1'] at f1
        rw [a2'] at f2
        have f1' : bits .and .i64 (n : Int) 512 = 0 := f1
        have f2' : bits .and .i64 (n : Int) 1024 = 1024 := f2
        clear f1 f2 a1 a1' a2' q1 q2 h5 hf
        go_wp2_with (first
          | (at_builtin; refine wpList_append_lies _ rfl (.tmp 29) (.tmp 30) _ rfl w.heap.size 5 i0 _ 1 1 Tryd.underlying72 hi hz0 hz1 hz2 rfl (by omega) (.slice OA 9 oc) 9 (bs u) rfl (hown.alloc _) ⟨wr.heap.size, 0, none⟩ 1 1 [.int .u8 43] rfl rfl (World.news_of_block (t := 5) (fr := (0, 0)) (heap_alloc_new wr _)) (by simp [Value.oneCell']) (by omega) (by unfold maxLen; omega) (by omega) (by simp; omega) (wr.heap.size + 1) (by simp) ?_; intro g1 c1 v1 own1 grow1 _ _; replace own1 : v1.ownsRow w.heap.size 5 1 (.slice (some ⟨g1, 0, none⟩) (9 + 1) c1) (9 + 1) (bs (u ++ [43])) := (by rw [bs_append]; exact own1); have bl1 : Below w.heap.size w v1 := (bl0.alloc bl0.size _).grown grow1 (by have := bl0.size; simp; omega) (fun g hg => (hown.lt g hg).1); have sz1 := bl1.size; have cv1 := run_convert_string (src := 72) (dst := 9) Tryd.underlying72 Tryd.underlying5 Tryd.underlying9 (RdB.of_own own1 rfl); simp only [Nat.reduceAdd] at own1 cv1)
          | (at_builtin; refine wpList_append_lies _ rfl (.tmp 41) (.tmp 42) _ rfl w.heap.size 5 i0 _ 1 1 Tryd.underlying72 hi hz0 hz1 hz2 rfl (by omega) (.slice (some ⟨g1, 0, none⟩) 10 c1) 10 (bs (u ++ [43])) rfl (own1.alloc _) ⟨v1.heap.size, 0, none⟩ 1 1 [.int .u8 116] rfl rfl (World.news_of_block (t := 5) (fr := (0, 0)) (heap_alloc_new v1 _)) (by simp [Value.oneCell']) (by omega) (by unfold maxLen; omega) (by omega) (by simp; omega) (v1.heap.size + 1) (by simp) ?_; intro g2 c2 v2 own2 grow2 _ _; replace own2 : v2.ownsRow w.heap.size 5 1 (.slice (some ⟨g2, 0, none⟩) (10 + 1) c2) (10 + 1) (bs ((u ++ [43]) ++ [116])) := (by rw [bs_append]; exact own2); have bl2 : Below w.heap.size w v2 := (bl1.alloc bl1.size _).grown grow2 (by have := bl1.size; simp; omega) (fun g hg => (own1.lt g hg).1); have sz2 := bl2.size; have cv2 := run_convert_string (src := 72) (dst := 9) Tryd.underlying72 Tryd.underlying5 Tryd.underlying9 (RdB.of_own own2 rfl); simp only [Nat.reduceAdd] at own2 cv2))
        go_ret2
        exact ⟨by rw [HF.out]; rfl, bl2⟩
      have a1' : n / 512 % 2 = 1 := by omega
      rw [a1'] at f1
      have f1' : bits .and .i64 (n : Int) 512 = 512 := f1
      rcases Nat.lt_or_ge (n / 1024 % 2) 1 with a2 | a2
      focus
        have a2' : n / 1024 % 2 = 0 := by omega
        have hf : textN n = u ++ [43, 115] := by rw [HU.out, if_pos h5, if_pos a1', if_neg (by omega)]; simp
        have HF := Lib.hid hf
        rw [a2'] at f2
        have f2' : bits .and .i64 (n : Int) 1024 = 0 := f2
        clear f1 f2 a1 a1' a2 a2' q1 q2 h5 hf
        go_wp2_with (first
          | (at_builtin; refine wpList_append_lies _ rfl (.tmp 29) (.tmp 30) _ rfl w.heap.size 5 i0 _ 1 1 Tryd.underlying72 hi hz0 hz1 hz2 rfl (by omega) (.slice OA 9 oc) 9 (bs u) rfl (hown.alloc _) ⟨wr.heap.size, 0, none⟩ 1 1 [.int .u8 43] rfl rfl (World.news_of_block (t := 5) (fr := (0, 0)) (heap_alloc_new wr _)) (by simp [Value.oneCell']) (by omega) (by unfold maxLen; omega) (by omega) (by simp; omega) (wr.heap.size + 1) (by simp) ?_; intro g1 c1 v1 own1 grow1 _ _; replace own1 : v1.ownsRow w.heap.size 5 1 (.slice (some ⟨g1, 0, none⟩) (9 + 1) c1) (9 + 1) (bs (u ++ [43])) := (by rw [bs_append]; exact own1); have bl1 : Below w.heap.size w v1 := (bl0.alloc bl0.size _).grown grow1 (by have := bl0.size; simp; omega) (fun g hg => (hown.lt g hg).1); have sz1 := bl1.size; have cv1 := run_convert_string (src := 72) (dst := 9) Tryd.underlying72 Tryd.underlying5 Tryd.underlying9 (RdB.of_own own1 rfl); simp only [Nat.reduceAdd] at own1 cv1)
          | (at_builtin; refine wpList_append_lies _ rfl (.tmp 35) (.tmp 36) _ rfl w.heap.size 5 i0 _ 1 1 Tryd.underlying72 hi hz0 hz1 hz2 rfl (by omega) (.slice (some ⟨g1, 0, none⟩) 10 c1) 10 (bs (u ++ [43])) rfl (own1.alloc _) ⟨v1.heap.size, 0, none⟩ 1 1 [.int .u8 115] rfl rfl (World.news_of_block (t := 5) (fr := (0, 0)) (heap_alloc_new v1 _)) (by simp [Value.oneCell']) (by omega) (by unfold maxLen; omega) (by omega) (by simp; omega) (v1.heap.size + 1) (by simp) ?_; intro g2 c2 v2 own2 grow2 _ _; replace own2 : v2.ownsRow w.heap.size 5 1 (.slice (some ⟨g2, 0, none⟩) (10 + 1) c2) (10 + 1) (bs ((u ++ [43]) ++ [115])) := (by rw [bs_append]; exact own2); have bl2 : Below w.heap.size w v2 := (bl1.alloc bl1.size _).grown grow2 (by have := bl1.size; simp; omega) (fun g hg => (own1.lt g hg).1); have sz2 := bl2.size; have cv2 := run_convert_string (src := 72) (dst := 9) Tryd.underlying72 Tryd.underlying5 Tryd.underlying9 (RdB.of_own own2 rfl); simp only [Nat.reduceAdd] at own2 cv2))
        go_ret2
        exact ⟨by rw [HF.out]; rfl, bl2⟩
      have a2' : n / 1024 % 2 = 1 := by omega
      have hf : textN n = u ++ [43, 115, 116] := by rw [HU.out, if_pos h5, if_pos a1', if_pos a2']; simp
      have HF := Lib.hid hf
      rw [a2'] at f2
      have f2' : bits .and .i64 (n : Int) 1024 = 1024 := f2
      clear f1 f2 a1 a1' a2 a2' q1 q2 h5 hf
      go_wp2_with (first
        | (at_builtin; refine wpList_append_lies _ rfl (.tmp 29) (.tmp 30) _ rfl w.heap.size 5 i0 _ 1 1 Tryd.underlying72 hi hz0 hz1 hz2 rfl (by omega) (.slice OA 9 oc) 9 (bs u) rfl (hown.alloc _) ⟨wr.heap.size, 0, none⟩ 1 1 [.int .u8 43] rfl rfl (World.news_of_block (t := 5) (fr := (0, 0)) (heap_alloc_new wr _)) (by simp [Value.oneCell']) (by omega) (by unfold maxLen; omega) (by omega) (by simp; omega) (wr.heap.size + 1) (by simp) ?_; intro g1 c1 v1 own1 grow1 _ _; replace own1 : v1.ownsRow w.heap.size 5 1 (.slice (some ⟨g1, 0, none⟩) (9 + 1) c1) (9 + 1) (bs (u ++ [43])) := (by rw [bs_append]; exact own1); have bl1 : Below w.heap.size w v1 := (bl0.alloc bl0.size _).grown grow1 (by have := bl0.size; simp; omega) (fun g hg => (hown.lt g hg).1); have sz1 := bl1.size; have cv1 := run_convert_string (src := 72) (dst := 9) Tryd.underlying72 Tryd.underlying5 Tryd.underlying9 (RdB.of_own own1 rfl); simp only [Nat.reduceAdd] at own1 cv1)
        | (at_builtin; refine wpList_append_lies _ rfl (.tmp 35) (.tmp 36) _ rfl w.heap.size 5 i0 _ 1 1 Tryd.underlying72 hi hz0 hz1 hz2 rfl (by omega) (.slice (some ⟨g1, 0, none⟩) 10 c1) 10 (bs (u ++ [43])) rfl (own1.alloc _) ⟨v1.heap.size, 0, none⟩ 1 1 [.int .u8 115] rfl rfl (World.news_of_block (t := 5) (fr := (0, 0)) (heap_alloc_new v1 _)) (by simp [Value.oneCell']) (by omega) (by unfold maxLen; omega) (by omega) (by simp; omega) (v1.heap.size + 1) (by simp) ?_; intro g2 c2 v2 own2 grow2 _ _; replace own2 : v2.ownsRow w.heap.size 5 1 (.slice (some ⟨g2, 0, none⟩) (10 + 1) c2) (10 + 1) (bs ((u ++ [43]) ++ [115])) := (by rw [bs_append]; exact own2); have bl2 : Below w.heap.size w v2 := (bl1.alloc bl1.size _).grown grow2 (by have := bl1.size; simp; omega) (fun g hg => (own1.lt g hg).1); have sz2 := bl2.size; have cv2 := run_convert_string (src := 72) (dst := 9) Tryd.underlying72 Tryd.underlying5 Tryd.underlying9 (RdB.of_own own2 rfl); simp only [Nat.reduceAdd] at own2 cv2)
        | (at_builtin; refine wpList_append_lies _ rfl (.tmp 41) (.tmp 42) _ rfl w.heap.size 5 i0 _ 1 1 Tryd.underlying72 hi hz0 hz1 hz2 rfl (by omega) (.slice (some ⟨g2, 0, none⟩) 11 c2) 11 (bs (u ++ [43] ++ [115])) rfl (own2.alloc _) ⟨v2.heap.size, 0, none⟩ 1 1 [.int .u8 116] rfl rfl (World.news_of_block (t := 5) (fr := (0, 0)) (heap_alloc_new v2 _)) (by simp [Value.oneCell']) (by omega) (by unfold maxLen; omega) (by omega) (by simp; omega) (v2.heap.size + 1) (by simp) ?_; intro g3 c3 v3 own3 grow3 _ _; replace own3 : v3.ownsRow w.heap.size 5 1 (.slice (some ⟨g3, 0, none⟩) (11 + 1) c3) (11 + 1) (bs ((u ++ [43] ++ [115]) ++ [116])) := (by rw [bs_append]; exact own3); have bl3 : Below w.heap.size w v3 := (bl2.alloc bl2.size _).grown grow3 (by have := bl2.size; simp; omega) (fun g hg => (own2.lt g hg).1); have sz3 := bl3.size; have cv3 := run_convert_string (src := 72) (dst := 9) Tryd.underlying72 Tryd.underlying5 Tryd.underlying9 (RdB.of_own own3 rfl); simp only [Nat.reduceAdd] at own3 cv3))
      go_ret2
      exact ⟨by rw [HF.out]; rfl, bl3⟩
end Go.Proofs.YtemcabepbncicaaDoor
