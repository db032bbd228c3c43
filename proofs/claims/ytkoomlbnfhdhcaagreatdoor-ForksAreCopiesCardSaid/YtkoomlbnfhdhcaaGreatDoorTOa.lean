/-
  Words for strings; walks: names of processes.
-/
import Derived.Test.YtkoomlbnfhdhcaaGreatDoorMCb
import Derived.RangeFuncNested
import Derived.RangeFuncBound
import Derived.RangeFuncCalls
import Derived.RangeFuncLeaves
import Derived.RangeFuncBox
import Derived.Shelf.Abstract
import Derived.Shelf.RegionOpen
import Derived.WalkKit
import Derived.OwnWalkIn
import Derived.TacticsInMore
import Derived.LoopNIn
import Derived.LoopIn
import Derived.Maps.AppendAt
import Derived.Lib.AppendStr
namespace Go.Proofs.YtkoomlbnfhdhcaaGreatDoor
open Go.RowKit
set_option linter.unusedVariables false

def strL (l : List UInt8) : ByteArray := ⟨l.toArray⟩
theorem strL_size (l : List UInt8) : (strL l).size = l.length := rfl
theorem idx_at (W : World) (l : List UInt8) (b : UInt8) (j : Nat) (h : l[j]? = some b) : (Instr.index 9 (.string (strL l)) (.int .i64 (j : Int))).run Tryz.prog W = .ok (.int .u8 b.toNat) W := by
  obtain ⟨hj, hb⟩ := List.getElem?_eq_some_iff.1 h
  have hz := strL_size l
  rw [run_index_string W 9 _ _ _ Tryz.underlying9, dif_pos ⟨by omega, by omega⟩]
  have : (strL l)[(j : Int).toNat]'(by omega) = b := by
    rw [← hb]
    rfl
  rw [this]
theorem belowFr1 {B b : Nat} {w w' w'' : World} (h : Below B w w') (hf : Fr [b] w' w'') (hb : B ≤ b) (hB : B ≤ w.heap.size) : Below B w w'' :=
  ⟨hf.os.trans h.os, hf.tape.trans h.tape, hf.output.trans h.output, Nat.le_trans h.size hf.size, fun k hk => (hf.block k (by have := h.size; omega) (by simp; omega)).trans (h.block k hk)⟩
theorem isDigit_any (w : World) (c : Nat) (hc : c < 256) : Calls Tryz.prog 166 #[.int .u8 (c : Int)] w fun e w' => e = .returned (.bool (decide (48 ≤ c ∧ c ≤ 57))) ∧ w = w' := by
  by_cases h0 : 48 ≤ c
  · have e0 : decide ((48 : Int) ≤ (c : Int)) = true := decide_eq_true (by omega)
    by_cases h1 : c ≤ 57
    · have hr : Hid (decide (48 ≤ c ∧ c ≤ 57) = true) := Lib.hid (decide_eq_true ⟨h0, h1⟩)
      have e1 : decide ((c : Int) ≤ 57) = true := decide_eq_true (by omega)
      go_enter Tryz.func166, Tryz.ntmps166
      go_wp2_with fail
      go_ret
      exact ⟨by rw [hr.out]; rfl, rfl⟩
    · have hr : Hid (decide (48 ≤ c ∧ c ≤ 57) = false) := Lib.hid (decide_eq_false (fun h => h1 h.2))
      have e1 : decide ((c : Int) ≤ 57) = false := decide_eq_false (by omega)
      go_enter Tryz.func166, Tryz.ntmps166
      go_wp2_with fail
      go_ret
      exact ⟨by rw [hr.out]; rfl, rfl⟩
  · have hr : Hid (decide (48 ≤ c ∧ c ≤ 57) = false) := Lib.hid (decide_eq_false (fun h => h0 h.1))
    have e0 : decide ((48 : Int) ≤ (c : Int)) = false := decide_eq_false (by omega)
    go_enter Tryz.func166, Tryz.ntmps166
    go_wp2_with fail
    go_ret
    exact ⟨by rw [hr.out]; rfl, rfl⟩
theorem info175 : (Tryz.prog.info? 175).map (·.size) = some 3 := by kernel_rfl
/-- A digit and what follows it. -/
structure Dig (l : List UInt8) (at_ : Nat) (d : UInt8) : Prop where
  here : l[at_]? = some d
  low : 49 ≤ d.toNat
  high : d.toNat ≤ 57
  next : ∀ c, l[at_ + 1]? = some c → c.toNat = 46
  len : l.length < 100
def partV (o at_ e : Int) : Value := .agg #[.int .i64 o, .int .i64 at_, .int .i64 e]
set_option maxRecDepth 100000 in
set_option maxHeartbeats 8000000 in
theorem first_any (w : World) (l : List UInt8) (at_ count : Nat) (d : UInt8) (h : Dig l at_ d) (hc : count < 8) :
    Calls Tryz.prog 141 #[.string (strL l), .int .i64 (at_ : Int), .int .i64 (count : Int)] w fun e w' => e = .returned (.tuple #[partV ((d.toNat : Int) - 48) at_ 0, .int .i64 ((at_ : Int) + 1)]) ∧ Below w.heap.size w w' := by
  obtain ⟨h1, h2, h3, h4, h5⟩ := h
  have hlt : at_ < l.length := (List.getElem?_eq_some_iff.1 h1).1
  have hsz := strL_size l
  have hi := fun W => idx_at W l d at_ h1
  have hdig := fun W => isDigit_any W d.toNat (by omega)
  rw [show decide (48 ≤ d.toNat ∧ d.toNat ≤ 57) = true from decide_eq_true ⟨by omega, h3⟩] at hdig
  obtain ⟨D, hD⟩ : ∃ D, D = d.toNat := ⟨_, rfl⟩
  rw [← hD] at hi hdig h2 h3 ⊢
  clear hD
  go_enter Tryz.func141, Tryz.ntmps141
  go_wp2_with fail
  go_loopg [8, 9] 1 (fun q ev ov wr => ∃ (k : Nat), k ≤ 1 ∧ q = 1 - k ∧ ev = .int .i64 ((at_ + k : Nat) : Int) ∧ ov = .int .i64 (if k = 0 then 0 else (D : Int) - 48) ∧ Blk wr w.heap.size 175 #[.int .i64 0, .int .i64 0, .int .i64 0] ∧ Below w.heap.size w wr)
  case atStart => exact ⟨0, by omega, rfl, rfl, rfl, Blk.new _ _ _, (Below.refl _ _).alloc (Nat.le_refl _) _⟩
  case round =>
    obtain ⟨k, hk, rfl, rfl, rfl, hb, hbl⟩ := hrel
    have HB := Lib.hid hb
    have HBL := Lib.hid hbl
    clear hb hbl
    rcases (show k = 0 ∨ k = 1 by omega) with rfl | rfl
    · go_wp2_with fail
      refine (hdig wr).mono ?_
      rintro e w' ⟨rfl, rfl⟩
      go_wp2_with fail
      go_roundg 0
      case measure => omega
      case rel => exact ⟨1, by omega, rfl, by go_num, by go_num, HB.out, HBL.out⟩
    · have hD10 : ((D : Int) - 48 + 10 * 0) = (D : Int) - 48 := by omega
      have hsub : ((at_ + 1 : Nat) : Int) - (at_ : Int) = 1 := by omega
      rcases Nat.lt_or_ge (at_ + 1) l.length with hlt1 | hge1
      · obtain ⟨c, hc1⟩ : ∃ c, l[at_ + 1]? = some c := ⟨_, List.getElem?_eq_getElem hlt1⟩
        have hcv := h4 c hc1
        have hi1 : ∀ W, (Instr.index 9 (.string (strL l)) (.int .i64 ((at_ : Int) + 1))).run Tryz.prog W = .ok (.int .u8 46) W := fun W => by
          have := idx_at W l c (at_ + 1) hc1
          rw [hcv] at this
          exact this
        have hdig1 : ∀ W, Calls Tryz.prog 166 #[.int .u8 46] W fun e w' => e = .returned (.bool false) ∧ W = w' := fun W => isDigit_any W 46 (by omega)
        clear h4
        go_wp2_with fail
        refine (hdig1 wr).mono ?_
        rintro e w' ⟨rfl, rfl⟩
        go_wp2_with (refine wpList_store_blk rfl 175 (.tmp 6) (.tmp 68) rfl w.heap.size rfl _ rfl HB.out rfl info175 rfl ?_; intro w2 hk2 hf2)
        exact end_cell_tmp rfl rfl hk2 Tryz.underlying175 rfl info175 ⟨rfl, belowFr1 HBL.out hf2 (Nat.le_refl _) (Nat.le_refl _)⟩
      · have hle : decide (((at_ : Int) + 1) < (l.length : Int)) = false := decide_eq_false (by omega)
        clear h4
        go_wp2_with (refine wpList_store_blk rfl 175 (.tmp 6) (.tmp 68) rfl w.heap.size rfl _ rfl HB.out rfl info175 rfl ?_; intro w2 hk2 hf2)
        exact end_cell_tmp rfl rfl hk2 Tryz.underlying175 rfl info175 ⟨rfl, belowFr1 HBL.out hf2 (Nat.le_refl _) (Nat.le_refl _)⟩
end Go.Proofs.YtkoomlbnfhdhcaaGreatDoor

/-
  Walks: the ordinals of a name, one after the other.
-/
namespace Go.Proofs.YtkoomlbnfhdhcaaGreatDoor
open Go.RowKit Go.Shelf
set_option linter.unusedVariables false
attribute [local go_sem] Oper.semAt_some

/-- The names that the law comes to: none, one or two ordinals of one digit. -/
inductive NmP : List UInt8 → List (Int × Int) → Prop
  | nil : NmP [] []
  | one (d : UInt8) (h : Dig [d] 0 d) : NmP [d] [((d.toNat : Int) - 48, 0)]
  | two (d e : UInt8) (h : Dig [d, 46, e] 0 d) (h' : Dig [d, 46, e] 2 e) : NmP [d, 46, e] [((d.toNat : Int) - 48, 0), ((e.toNat : Int) - 48, 2)]
/-- What a round leaves as it lay: cells from a block on. -/
def KpB (Bn : Nat) (A B : World) : Prop := A.heap.size ≤ B.heap.size ∧ ∀ k, Bn ≤ k → (∃ cs t fr, A.heap[k]? = some (.cells cs t fr) ∧ (t = 9 ∨ t = 175)) → B.heap[k]? = A.heap[k]?
theorem KpB.blk {Bn k : Nat} {A B : World} {t : TypeId} {cs : Array Value} (h : KpB Bn A B) (hb : Blk A k t cs) (hk : Bn ≤ k) (ht : t = 9 ∨ t = 175) : Blk B k t cs := (h.2 k hk ⟨_, _, _, hb, ht⟩).trans hb
theorem KpB.trans {Bn : Nat} {A B D : World} (h : KpB Bn A B) (h' : KpB Bn B D) : KpB Bn A D :=
  ⟨Nat.le_trans h.1 h'.1, fun k hk hc => (h'.2 k hk (by rw [h.2 k hk hc]; exact hc)).trans (h.2 k hk hc)⟩
theorem KpB.of_below {Bn : Nat} {A B : World} (h : Below A.heap.size A B) : KpB Bn A B :=
  ⟨h.size, fun k _ hc => h.block k (by obtain ⟨cs, t, fr, e, _⟩ := hc; exact (Array.getElem?_eq_some_iff.1 e).1)⟩
theorem KpB.put {Bn : Nat} (W : World) (l : Nat) (o o' : Obj) (h : W.heap[l]? = some o) (hc : o.isCells = false) : KpB Bn W (W.putObj l o') := by
  have hg := grownBy_putObj' W l o'
  refine ⟨hg.size, fun k hk hcs => ?_⟩
  obtain ⟨cs, t, fr, e, _⟩ := hcs
  refine hg.block k (Array.getElem?_eq_some_iff.1 e).1 (fun hh => ?_)
  cases hh
  rw [h] at e
  cases e
  cases hc
theorem grown_of_below {w w' : World} (h : Below w.heap.size w w') : w.grownBy w' none := ⟨h.os, h.tape, h.output, h.size, fun k hk _ => h.block k hk⟩
theorem str_neq (t : TypeId) (l m : List UInt8) (W : World) : (binOp .neq t (.string (strL l)) (.string (strL m))).run Tryz.prog W = .ok (.bool (!(l == m))) W := by
  rw [binOp_string_neq]
  unfold strL
  rw [ByteArray.toList_mk, ByteArray.toList_mk]
  rfl
theorem str_eql (t : TypeId) (l m : List UInt8) (W : World) : (binOp .eql t (.string (strL l)) (.string (strL m))).run Tryz.prog W = .ok (.bool (l == m)) W := by
  rw [binOp_string_eql]
  unfold strL
  rw [ByteArray.toList_mk, ByteArray.toList_mk]
  rfl

set_option maxRecDepth 100000 in
set_option maxHeartbeats 4000000 in
theorem parts1_in (n : Nat) (hn : 2 ≤ n) (l Bn : Nat) (s : List UInt8) (xs : List (Int × Int)) (hx : NmP s xs) (J Jx : List (Int × Int) → World → Prop)
    (W : World) (hJ : AbidesFrom W.heap.size J)
    (hY : ∀ pre x W, J pre W → pre.length < xs.length → YieldAt Fence.wide (n - 1) Tryz.prog l #[partV x.1 x.2 0] W fun e W' =>
      (e = .returned (.bool true) ∧ J (pre ++ [x]) W' ∧ KpB Bn W W') ∨ (e = .returned (.bool false) ∧ Jx (pre ++ [x]) W'))
    (hBn : Blk W Bn 9 #[.string (strL s)]) (h0 : J [] W) :
    CallsIn Fence.wide n Tryz.prog 140 #[.func (.yield l) #[] #[], .pointer (some ⟨Bn, 0, none⟩)] W fun e W' => (∃ v, e = .returned v) ∧
      ((∃ ys, ys = xs ∧ J ys W') ∨ (∃ pre, pre <+: xs ∧ Jx pre W')) := by
  refine callsIn_of_wp Tryz.func140 rfl trivial ?_ rfl
  simp only [Tryz.ntmps140, List.size_toArray, List.length_cons, List.length_nil, Nat.reduceAdd, Nat.reduceSub, Array.replicate_succ, Array.replicate_zero, List.push_toArray, List.append_toArray, List.nil_append, List.cons_append]
  gi_wp2
  gi_loopw [3, 4] (fun p q wr => ((p = .int .i64 0 ∧ q = .int .i64 0 ∧ J [] wr) ∨ (p = .int .i64 2 ∧ q = .int .i64 1 ∧ xs.length = 2 ∧ J (xs.take 1) wr)) ∧ Blk wr Bn 9 #[.string (strL s)] ∧ W.heap.size ≤ wr.heap.size)
    (fun p q wr => match q with | .int _ k => (3 - k).toNat | _ => 0)
  case atStart => exact ⟨.inl ⟨rfl, rfl, h0⟩, hBn, Nat.le_refl _⟩
  case round =>
    obtain ⟨hcase, hB, hsz⟩ := hrel
    have cB := hB.cell 0
    cases hx with
    | nil =>
      obtain ⟨rfl, rfl, hJs⟩ := hcase.resolve_right (fun h => by have := h.2.2.1; simp at this)
      have hq : (strL []).toList.isEmpty = true := by unfold strL; rw [ByteArray.toList_mk]; rfl
      gi_wp2
      go_end0
      exact ⟨⟨_, rfl⟩, .inl hJs⟩
    | one d h =>
      obtain ⟨rfl, rfl, hJs⟩ := hcase.resolve_right (fun h => by have := h.2.2.1; simp at this)
      have hq : (strL [d]).toList.isEmpty = false := by unfold strL; rw [ByteArray.toList_mk]; rfl
      have hf := fun W => first_any W [d] 0 0 d h (by omega)
      unfold partV at hf
      have hsz : (strL [d]).size = 1 := rfl
      gi_wp2
      refine ⟨trivial, fun _ => by omega, (callsIn_wide.2 (hf wr)).mono ?_⟩
      rintro e w1 ⟨rfl, nb⟩
      obtain ⟨W2, hW2⟩ : ∃ W2, W2 = w1.alloc (.cells #[.int .i64 ((d.toNat : Int) - 48), .int .i64 0, .int .i64 0] 175) := ⟨_, rfl⟩
      have hJ1 : J [] W2 := by rw [hW2]; exact hJ [] _ _ none (hJ [] _ _ none hJs (grown_of_below nb) (fun _ e => by cases e)) (grown_of_below ((Below.refl _ _).alloc (Nat.le_refl _) _)) (fun _ e => by cases e)
      obtain ⟨fn, tmps, assign, body, hy, hR⟩ := hY [] ((d.toNat : Int) - 48, 0) W2 hJ1 (by simp)
      rw [hW2] at hy hR
      dsimp only [partV] at hy
      have hP : Blk W2 w1.heap.size 175 #[.int .i64 ((d.toNat : Int) - 48), .int .i64 0, .int .i64 0] := by rw [hW2]; exact Blk.new _ _ _
      have hB2 : Blk W2 Bn 9 #[.string (strL [d])] := by rw [hW2]; exact (hB.below nb hB.lt).alloc _
      have hge : Bn ≤ w1.heap.size := Nat.le_of_lt (Nat.lt_of_lt_of_le hB.lt nb.size)
      rw [← hW2] at hR
      gi_wp2
      rw [← hW2]
      refine ⟨fun _ => by omega, hR.mono ?_⟩
      rintro e W3 (⟨rfl, hJ3, hk3⟩ | ⟨rfl, hx3⟩)
      · have c3 := (hk3.blk hP hge (by decide)).cell 2
        have c4 := (hk3.blk hB2 (Nat.le_refl _) (by decide)).cell 0
        simp at c3 c4
        gi_wp2
        refine bodyPost_ret (results_none rfl _ _ _) rfl ?_
        exact ⟨⟨_, rfl⟩, .inl ⟨_, rfl, hJ3⟩⟩
      · gi_wp2
        refine bodyPost_ret (results_none rfl _ _ _) rfl ?_
        exact ⟨⟨_, rfl⟩, .inr ⟨_, List.prefix_refl _, hx3⟩⟩
    | two d e h h' =>
      have hq : (strL [d, 46, e]).toList.isEmpty = false := by unfold strL; rw [ByteArray.toList_mk]; rfl
      have hsz3 : (strL [d, 46, e]).size = 3 := rfl
      have hi1 : ∀ W, (Instr.index 9 (.string (strL [d, 46, e])) (.int .i64 1)).run Tryz.prog W = .ok (.int .u8 46) W := fun W => idx_at W [d, 46, e] 46 1 rfl
      rcases hcase with ⟨rfl, rfl, hJs⟩ | ⟨rfl, rfl, _, hJs⟩
      · have hf := fun W => first_any W [d, 46, e] 0 0 d h (by omega)
        unfold partV at hf
        gi_wp2
        refine ⟨trivial, fun _ => by omega, (callsIn_wide.2 (hf wr)).mono ?_⟩
        rintro e1 w1 ⟨rfl, nb⟩
        obtain ⟨W2, hW2⟩ : ∃ W2, W2 = w1.alloc (.cells #[.int .i64 ((d.toNat : Int) - 48), .int .i64 0, .int .i64 0] 175) := ⟨_, rfl⟩
        have hJ1 : J [] W2 := by rw [hW2]; exact hJ [] _ _ none (hJ [] _ _ none hJs (grown_of_below nb) (fun _ e => by cases e)) (grown_of_below ((Below.refl _ _).alloc (Nat.le_refl _) _)) (fun _ e => by cases e)
        obtain ⟨fn, tmps, assign, body, hy, hR⟩ := hY [] ((d.toNat : Int) - 48, 0) W2 hJ1 (by simp)
        rw [hW2] at hy hR
        dsimp only [partV] at hy
        have hP : Blk W2 w1.heap.size 175 #[.int .i64 ((d.toNat : Int) - 48), .int .i64 0, .int .i64 0] := by rw [hW2]; exact Blk.new _ _ _
        have hB2 : Blk W2 Bn 9 #[.string (strL [d, 46, e])] := by rw [hW2]; exact (hB.below nb hB.lt).alloc _
        have hge : Bn ≤ w1.heap.size := Nat.le_of_lt (Nat.lt_of_lt_of_le hB.lt nb.size)
        have hsW2 : W.heap.size ≤ W2.heap.size := by rw [hW2]; have := nb.size; simp; omega
        rw [← hW2] at hR
        gi_wp2
        rw [← hW2]
        refine ⟨fun _ => by omega, hR.mono ?_⟩
        rintro e1 W3 (⟨rfl, hJ3, hk3⟩ | ⟨rfl, hx3⟩)
        · have c3 := (hk3.blk hP hge (by decide)).cell 2
          have B4 := hk3.blk hB2 (Nat.le_refl _) (by decide)
          have c4 := B4.cell 0
          simp at c3 c4
          gi_wp2
          go_roundw
          case rel => exact ⟨.inr ⟨by go_num, by go_num, rfl, hJ3⟩, B4, Nat.le_trans hsW2 hk3.1⟩
          case measure => decide
        · gi_wp2
          refine bodyPost_ret (results_none rfl _ _ _) rfl ?_
          exact ⟨⟨_, rfl⟩, .inr ⟨_, ⟨[((e.toNat : Int) - 48, 2)], rfl⟩, hx3⟩⟩
      · have hf := fun W => first_any W [d, 46, e] 2 1 e h' (by omega)
        unfold partV at hf
        gi_wp2
        refine ⟨trivial, fun _ => by omega, (callsIn_wide.2 (hf wr)).mono ?_⟩
        rintro e1 w1 ⟨rfl, nb⟩
        obtain ⟨W2, hW2⟩ : ∃ W2, W2 = w1.alloc (.cells #[.int .i64 ((e.toNat : Int) - 48), .int .i64 2, .int .i64 0] 175) := ⟨_, rfl⟩
        have hJ1 : J [((d.toNat : Int) - 48, 0)] W2 := by rw [hW2]; exact hJ _ _ _ none (hJ _ _ _ none hJs (grown_of_below nb) (fun _ e => by cases e)) (grown_of_below ((Below.refl _ _).alloc (Nat.le_refl _) _)) (fun _ e => by cases e)
        obtain ⟨fn, tmps, assign, body, hy, hR⟩ := hY _ ((e.toNat : Int) - 48, 2) W2 hJ1 (by simp)
        rw [hW2] at hy hR
        dsimp only [partV] at hy
        have hP : Blk W2 w1.heap.size 175 #[.int .i64 ((e.toNat : Int) - 48), .int .i64 2, .int .i64 0] := by rw [hW2]; exact Blk.new _ _ _
        have hB2 : Blk W2 Bn 9 #[.string (strL [d, 46, e])] := by rw [hW2]; exact (hB.below nb hB.lt).alloc _
        have hge : Bn ≤ w1.heap.size := Nat.le_of_lt (Nat.lt_of_lt_of_le hB.lt nb.size)
        rw [← hW2] at hR
        gi_wp2
        rw [← hW2]
        refine ⟨fun _ => by omega, hR.mono ?_⟩
        rintro e1 W3 (⟨rfl, hJ3, hk3⟩ | ⟨rfl, hx3⟩)
        · have c3 := (hk3.blk hP hge (by decide)).cell 2
          have B4 := hk3.blk hB2 (Nat.le_refl _) (by decide)
          have c4 := B4.cell 0
          simp at c3 c4
          gi_wp2
          refine bodyPost_ret (results_none rfl _ _ _) rfl ?_
          exact ⟨⟨_, rfl⟩, .inl ⟨_, rfl, hJ3⟩⟩
        · gi_wp2
          refine bodyPost_ret (results_none rfl _ _ _) rfl ?_
          exact ⟨⟨_, rfl⟩, .inr ⟨_, List.prefix_refl _, hx3⟩⟩
end Go.Proofs.YtkoomlbnfhdhcaaGreatDoor

/-
  Walks: Parse, Valid.
-/
namespace Go.Proofs.YtkoomlbnfhdhcaaGreatDoor
open Go.RowKit Go.Shelf
set_option linter.unusedVariables false
attribute [local go_sem] Oper.semAt_some

theorem blk_own {k : Nat} {t : TypeId} {cs : Array Value} {A B : World} {row : Option Nat} (h : Blk A k t cs) (hg : A.grownBy B row) (hr : ∀ r, row = some r → ∃ o : Obj, A.heap[r]? = some o ∧ o.isCells = false) : Blk B k t cs :=
  (hg.block k h.lt (fun e => by
    obtain ⟨o, ho, hc⟩ := hr k e.symm
    unfold Blk at h
    rw [h] at ho
    cases ho
    cases hc)).trans h
theorem agg33 (W : World) : (isAgg 33).run Tryz.prog W = .ok false W := by kernel_rfl
theorem agg3 (W : World) : (isAgg 3).run Tryz.prog W = .ok false W := by kernel_rfl
theorem agg26 (W : World) : (isAgg 26).run Tryz.prog W = .ok false W := by kernel_rfl
theorem agg34 (W : World) : (isAgg 34).run Tryz.prog W = .ok false W := by kernel_rfl
theorem loadVar_one {t : TypeId} {w : World} {g : Nat} {v : Value} (ha : ∀ W, (isAgg t).run Tryz.prog W = .ok false W) (h : w.cell? ⟨g, 0, none⟩ = some v) : (loadVar t ⟨g, 0, none⟩).run Tryz.prog w = .ok v w := by
  simp [loadVar, Sem.run_bind, ha, h]
theorem parts_in (n : Nat) (s : List UInt8) (w : World) :
    CallsIn Fence.wide n Tryz.prog 105 #[.string (strL s)] w fun e w' => e = .returned (.func (.func 140) #[] #[.pointer (some ⟨w.heap.size, 0, none⟩)]) ∧ w' = w.alloc (.cells #[.string (strL s)] 9) := by
  refine callsIn_of_wp Tryz.func105 rfl trivial ?_ rfl
  simp only [Tryz.ntmps105, List.size_toArray, List.length_cons, List.length_nil, Nat.reduceAdd, Nat.reduceSub, Array.replicate_succ, Array.replicate_zero, List.push_toArray, List.append_toArray, List.nil_append, List.cons_append]
  gi_wp2
  go_ret
  exact ⟨rfl, rfl⟩
theorem parts_stops (n : Nat) (hn : 2 ≤ n) (Bn : Nat) (s : List UInt8) (xs : List (Int × Int)) (hx : NmP s xs) (w : World) (hBn : Blk w Bn 9 #[.string (strL s)]) :
    SeqStopsK Fence.wide n Tryz.prog 140 #[.pointer (some ⟨Bn, 0, none⟩)] (fun x : Int × Int => #[partV x.1 x.2 0]) (KpB Bn) (fun ys => ys = xs) (fun pre => pre <+: xs) xs.length w := fun l J Jx W hW hJ _ hY h0 =>
  parts1_in n hn l Bn s xs hx J Jx W hJ hY (hBn.below hW hBn.lt) h0

set_option maxRecDepth 100000 in
set_option maxHeartbeats 4000000 in
theorem parse_in (n : Nat) (hn : 4 ≤ n) (s : List UInt8) (xs : List (Int × Int)) (hx : NmP s xs) (w : World) :
    CallsIn Fence.wide n Tryz.prog 56 #[.string (strL s)] w fun e W' => e = .returned (.tuple #[.string (strL s), .int .i64 0, .int .i64 0]) ∧ Below w.heap.size w W' := by
  have h1 : 1 ≤ n := by omega
  refine callsIn_of_wp_marks Tryz.func56 rfl trivial ?_ rfl
  simp only [Tryz.ntmps56, List.size_toArray, List.length_cons, List.length_nil, Nat.reduceAdd, Nat.reduceSub, Array.replicate_succ, Array.replicate_zero, List.push_toArray, List.append_toArray, List.nil_append, List.cons_append]
  gi_wp2_with (refine ⟨trivial, (parts_in (n - 1) s _).mono ?_⟩; rintro e w' ⟨rfl, rfl⟩)
  have b2 := (((Boxed.new w 33 (.string ⟨#[]⟩)).alloc (.cells #[.int .i64 0] 3)).alloc (.cells #[.int .i64 0] 26)).alloc (.cells #[.string (strL s)] 9)
  have b3 := ((Boxed.new (w.alloc (.cells #[.string ⟨#[]⟩] 33)) 3 (.int .i64 0)).alloc (.cells #[.int .i64 0] 26)).alloc (.cells #[.string (strL s)] 9)
  have b4 := (Boxed.new ((w.alloc (.cells #[.string ⟨#[]⟩] 33)).alloc (.cells #[.int .i64 0] 3)) 26 (.int .i64 0)).alloc (.cells #[.string (strL s)] 9)
  have b5 := Blk.new (((w.alloc (.cells #[.string ⟨#[]⟩] 33)).alloc (.cells #[.int .i64 0] 3)).alloc (.cells #[.int .i64 0] 26)) 9 #[.string (strL s)]
  have hB0 : Below w.heap.size w ((((w.alloc (.cells #[.string ⟨#[]⟩] 33)).alloc (.cells #[.int .i64 0] 3)).alloc (.cells #[.int .i64 0] 26)).alloc (.cells #[.string (strL s)] 9)) := ((((Below.refl _ w).alloc (Nat.le_refl _) _).alloc (by simp) _).alloc (by simp; omega) _).alloc (by simp; omega) _
  have hsz : ((((w.alloc (.cells #[.string ⟨#[]⟩] 33)).alloc (.cells #[.int .i64 0] 3)).alloc (.cells #[.int .i64 0] 26)).alloc (.cells #[.string (strL s)] 9)).heap.size = w.heap.size + 1 + 1 + 1 + 1 := by simp
  simp only [World.size_alloc] at b3 b4 b5
  obtain ⟨W0, hW0⟩ : ∃ W0, (((w.alloc (.cells #[.string ⟨#[]⟩] 33)).alloc (.cells #[.int .i64 0] 3)).alloc (.cells #[.int .i64 0] 26)).alloc (.cells #[.string (strL s)] 9) = W0 := ⟨_, rfl⟩
  rw [hW0] at b2 b3 b4 b5 hB0 hsz ⊢
  clear hW0
  refine wpIn_rangeFunc_ownH rfl h1 (gf := 140) (lb := #[.pointer (some ⟨w.heap.size + 1 + 1 + 1, 0, none⟩)]) rfl trivial (enters_of Tryz.func140 (by kernel_rfl) rfl)
    (parts_stops (n - 1) (by omega) (w.heap.size + 1 + 1 + 1) s xs hx W0 b5) KpB.trans (fun W l o o' _ h hc _ => KpB.put W l o o' h hc) (Below.refl _ _) (fun _ => rfl)
    (fun pre W => (Boxed W w.heap.size 33 (.string ⟨#[]⟩) ∧ Boxed W (w.heap.size + 1) 3 (.int .i64 0) ∧ Boxed W (w.heap.size + 1 + 1) 26 (.int .i64 0)) ∧ Below w.heap.size w W)
    (fun _ _ _ => False)
    (OwnFrom.and (Own.from (fun s A B row hs hg hr => ⟨boxed_own _ 33 (fun (_ : Unit) => _) () A B row hs.1 hg hr, boxed_own _ 3 (fun (_ : Unit) => _) () A B row hs.2.1 hg hr, boxed_own _ 26 (fun (_ : Unit) => _) () A B row hs.2.2 hg hr⟩) _) (ownFrom_below (Nat.le_refl _) (by omega)))
    (fun _ _ _ _ _ hs _ _ => hs)
    ⟨⟨b2, b3, b4⟩, hB0⟩
    (fun x a' W => ∃ Bx, w.heap.size + 1 + 1 < Bx ∧ Blk W Bx 175 #[.int .i64 x.1, .int .i64 x.2, .int .i64 0] ∧ a' = { tmps := #[.string (strL s), undef, .pointer (some ⟨w.heap.size, 0, none⟩), .pointer (some ⟨w.heap.size + 1, 0, none⟩), .pointer (some ⟨w.heap.size + 1 + 1, 0, none⟩), .pointer (some ⟨Bx, 0, none⟩), .string (strL s), .func (.func 140) #[] #[.pointer (some ⟨w.heap.size + 1 + 1 + 1, 0, none⟩)], partV x.1 x.2 0, undef, undef, undef, undef, undef, undef, undef, undef], defers := [] })
    (fun x a' _ X Y row hs hg hr => by obtain ⟨Bx, h1, h2, h3⟩ := hs; exact ⟨Bx, h1, blk_own h2 hg (fun r e => (hr r e).2), h3⟩)
    ?assign ?body ?done ?stop
  case assign =>
    rintro l pre x W K ⟨⟨i2, i3, i4⟩, hB1⟩ hK
    unfold partV
    dsimp only
    gi_wp2
    exact hK _ _ ((KeepsOthers.alloc _ _).from _) (KpB.of_below ((Below.refl _ W).alloc (Nat.le_refl _) _)) ⟨⟨i2.alloc _, i3.alloc _, i4.alloc _⟩, hB1.alloc hB1.size _⟩ ⟨W.heap.size, i4.lt, Blk.new W 175 _, rfl⟩
  case body =>
    rintro l pre x a' W hl ⟨r, hr⟩ hI ⟨Bx, hBx, bX, rfl⟩ hlt
    have cX := bX.cell 2
    simp at cX
    gi_wp2
    exact ⟨KeepsFrom.refl _ _, KpB.of_below (Below.refl _ _), hI⟩
  case done =>
    rintro D zs W hD rfl ⟨⟨i2, i3, i4⟩, hB1⟩ hK
    have c2 := i2.cell
    have f2 := i2.frozen
    have c3 := i3.cell
    have f3 := i3.frozen
    have c4 := i4.cell
    have f4 := i4.frozen
    gi_wp2
    have j2 := ((i2.set (.string (strL s))).other (B' := w.heap.size + 1) (by omega) (.int .i64 0)).other (B' := w.heap.size + 1 + 1) (by omega) (.int .i64 0)
    have j3 := ((i3.other (B' := w.heap.size) (by omega) (.string (strL s))).set (.int .i64 0)).other (B' := w.heap.size + 1 + 1) (by omega) (.int .i64 0)
    have j4 := ((i4.other (B' := w.heap.size) (by omega) (.string (strL s))).other (B' := w.heap.size + 1) (by omega) (.int .i64 0)).set (.int .i64 0)
    have hBf := ((hB1.setCell (p := ⟨w.heap.size, 0, none⟩) (Nat.le_refl _) (.string (strL s))).setCell (p := ⟨w.heap.size + 1, 0, none⟩) (Nat.le_succ _) (.int .i64 0)).setCell (p := ⟨w.heap.size + 1 + 1, 0, none⟩) (by show _ ≤ w.heap.size + 1 + 1; omega) (.int .i64 0)
    have hKf := (((KeepsOthers.setCell W ⟨w.heap.size, 0, none⟩ (.string (strL s))).trans (KeepsOthers.setCell _ ⟨w.heap.size + 1, 0, none⟩ (.int .i64 0))).trans (KeepsOthers.setCell _ ⟨w.heap.size + 1 + 1, 0, none⟩ (.int .i64 0))).same D _ hK rfl
    generalize (((W.setCell ⟨w.heap.size, 0, none⟩ (.string (strL s))).setCell ⟨w.heap.size + 1, 0, none⟩ (.int .i64 0)).setCell ⟨w.heap.size + 1 + 1, 0, none⟩ (.int .i64 0)) = Wf at *
    refine ⟨by simp, .inl ⟨_, _, rfl, run_takeDeferred hKf, ?_⟩⟩
    have hg := grownBy_putObj' Wf D (.deferred none)
    have k2 := (j2.kept hg (fun e => by cases e; omega)).cell
    have k3 := (j3.kept hg (fun e => by cases e; omega)).cell
    have k4 := (j4.kept hg (fun e => by cases e; omega)).cell
    refine ⟨.tuple #[.string (strL s), .int .i64 0, .int .i64 0], ?_, rfl, hBf.trans (belowK_b (w := w) (Nat.le_refl _) Wf D _ _ (by omega) hKf rfl rfl)⟩
    simp [results, asAddr, loadVar_one agg33 k2, loadVar_one agg3 k3, loadVar_one agg26 k4]
  case stop =>
    rintro D c pre W _ _ h _
    exact h.elim
theorem parse_any (s : List UInt8) (xs : List (Int × Int)) (hx : NmP s xs) (w : World) : Calls Tryz.prog 56 #[.string (strL s)] w fun e W' => e = .returned (.tuple #[.string (strL s), .int .i64 0, .int .i64 0]) ∧ Below w.heap.size w W' :=
  callsIn_wide.1 (parse_in 4 (Nat.le_refl _) s xs hx w)
theorem valid_any (s : List UInt8) (xs : List (Int × Int)) (hx : NmP s xs) (w : World) : Calls Tryz.prog 21 #[.string (strL s)] w fun e W' => e = .returned (.bool true) ∧ Below w.heap.size w W' := by
  go_enter Tryz.func21, Tryz.ntmps21
  go_wp2_with fail
  refine (parse_any s xs hx w).mono ?_
  rintro e w' ⟨rfl, nb⟩
  go_wp2_with fail
  go_ret
  exact ⟨rfl, nb⟩
end Go.Proofs.YtkoomlbnfhdhcaaGreatDoor

/-
  Walks: Ordinals, Depth, Child.
-/
namespace Go.Proofs.YtkoomlbnfhdhcaaGreatDoor
open Go.RowKit Go.Shelf
set_option linter.unusedVariables false
attribute [local go_sem] Oper.semAt_some

theorem info3i : (Tryz.prog.info? 3).map (fun i => (i.zero, i.size, i.bytes)) = some (some (.int .i64 0), 1, 8) := by kernel_rfl
theorem own_slice {w : World} {base e size n : Nat} {v : Value} {xs : List Value} (h : w.ownsRow base e size v n xs) : ∃ OA oc, v = .slice OA n oc := by
  rcases h.2 with ⟨rfl, h2⟩ | ⟨g, cap, cur, rfl, _⟩
  · obtain rfl : n = 0 := by first | exact h2 | exact h2.1
    exact ⟨_, _, rfl⟩
  · exact ⟨_, _, rfl⟩
def ordV (l : List (Int × Int)) : List Value := l.map fun x => .int .i64 x.1
set_option maxRecDepth 100000 in
set_option maxHeartbeats 4000000 in
theorem ordinals_in (n : Nat) (hn : 4 ≤ n) (s : List UInt8) (xs : List (Int × Int)) (hx : NmP s xs) (w : World) :
    CallsIn Fence.wide n Tryz.prog 145 #[.string (strL s)] w fun e W' => ∃ OA oc, e = .returned (.slice OA xs.length oc) ∧ Below w.heap.size w W' := by
  have h1 : 1 ≤ n := by omega
  have hlen : xs.length ≤ 2 := by cases hx <;> simp
  obtain ⟨i0, hi, hz0, hz1, hz2⟩ := info_parts info3i
  refine callsIn_of_wp_marks Tryz.func145 rfl trivial ?_ rfl
  simp only [Tryz.ntmps145, List.size_toArray, List.length_cons, List.length_nil, Nat.reduceAdd, Nat.reduceSub, Array.replicate_succ, Array.replicate_zero, List.push_toArray, List.append_toArray, List.nil_append, List.cons_append]
  gi_wp2_with (refine ⟨trivial, (parts_in (n - 1) s _).mono ?_⟩; rintro e w' ⟨rfl, rfl⟩)
  have b2 := ((Boxed.new w 34 (.slice none 0 0)).alloc (.cells #[.slice none 0 0] 34)).alloc (.cells #[.string (strL s)] 9)
  have b3 := (Boxed.new (w.alloc (.cells #[.slice none 0 0] 34)) 34 (.slice none 0 0)).alloc (.cells #[.string (strL s)] 9)
  have b5 := Blk.new ((w.alloc (.cells #[.slice none 0 0] 34)).alloc (.cells #[.slice none 0 0] 34)) 9 #[.string (strL s)]
  have hB0 : Below w.heap.size w (((w.alloc (.cells #[.slice none 0 0] 34)).alloc (.cells #[.slice none 0 0] 34)).alloc (.cells #[.string (strL s)] 9)) := (((Below.refl _ w).alloc (Nat.le_refl _) _).alloc (by simp) _).alloc (by simp; omega) _
  have hsz : (((w.alloc (.cells #[.slice none 0 0] 34)).alloc (.cells #[.slice none 0 0] 34)).alloc (.cells #[.string (strL s)] 9)).heap.size = w.heap.size + 1 + 1 + 1 := by simp
  simp only [World.size_alloc] at b3 b5
  obtain ⟨W0, hW0⟩ : ∃ W0, ((w.alloc (.cells #[.slice none 0 0] 34)).alloc (.cells #[.slice none 0 0] 34)).alloc (.cells #[.string (strL s)] 9) = W0 := ⟨_, rfl⟩
  rw [hW0] at b2 b3 b5 hB0 hsz ⊢
  clear hW0
  refine wpIn_rangeFunc_ownH rfl h1 (gf := 140) (lb := #[.pointer (some ⟨w.heap.size + 1 + 1, 0, none⟩)]) rfl trivial (enters_of Tryz.func140 (by kernel_rfl) rfl)
    (parts_stops (n - 1) (by omega) (w.heap.size + 1 + 1) s xs hx W0 b5) KpB.trans (fun W l o o' _ h hc _ => KpB.put W l o o' h hc) (Below.refl _ _) (fun _ => rfl)
    (fun pre W => ((∃ v, Boxed W (w.heap.size + 1) 34 v ∧ W.ownsRow w.heap.size 3 1 v (ordV pre).length (ordV pre) ∧ True) ∧ Boxed W w.heap.size 34 (.slice none 0 0)) ∧ Below w.heap.size w W)
    (fun _ _ _ => False)
    (OwnFrom.and (OwnFrom.and (Own.from (holdsRow_own w.heap.size (w.heap.size + 1) 34 3 1 (fun pre => (ordV pre).length) (fun pre => ordV pre) (fun _ _ => True)) _) (Own.from (fun s A B row hs hg hr => boxed_own _ 34 (fun (_ : Unit) => _) () A B row hs hg hr) _)) (ownFrom_below (Nat.le_refl _) (by omega)))
    (fun _ _ _ _ _ hs _ _ => hs)
    ⟨⟨⟨_, b3, World.ownsRow_nil _ _ _ _, trivial⟩, b2⟩, hB0⟩
    (fun x a' W => ∃ Bx, w.heap.size + 1 < Bx ∧ Blk W Bx 175 #[.int .i64 x.1, .int .i64 x.2, .int .i64 0] ∧ a' = { tmps := #[.string (strL s), undef, .pointer (some ⟨w.heap.size, 0, none⟩), .pointer (some ⟨w.heap.size + 1, 0, none⟩), .pointer (some ⟨Bx, 0, none⟩), .string (strL s), .func (.func 140) #[] #[.pointer (some ⟨w.heap.size + 1 + 1, 0, none⟩)], partV x.1 x.2 0, undef, undef, undef, undef, undef, undef, undef, undef, undef], defers := [] })
    (fun x a' _ X Y row hs hg hr => by obtain ⟨Bx, h1, h2, h3⟩ := hs; exact ⟨Bx, h1, blk_own h2 hg (fun r e => (hr r e).2), h3⟩)
    ?assign ?body ?done ?stop
  case assign =>
    rintro l pre x W K hI hK
    have hszW := hI.2.size
    have hI1 := (OwnFrom.and (OwnFrom.and (Own.from (holdsRow_own w.heap.size (w.heap.size + 1) 34 3 1 (fun pre => (ordV pre).length) (fun pre => ordV pre) (fun _ _ => True)) W0.heap.size) (Own.from (fun s A B row hs hg hr => boxed_own _ 34 (fun (_ : Unit) => .slice none 0 0) () A B row hs hg hr) _)) (ownFrom_below (n₀ := w.heap.size) (Nat.le_refl _) (by omega))).alloc (.cells #[.int .i64 x.1, .int .i64 x.2, .int .i64 0] 175) hI
    have hl := hI.1.2.lt
    obtain ⟨v, hv, _⟩ := hI.1.1
    have hl1 := hv.lt
    unfold partV
    dsimp only
    gi_wp2
    refine hK _ _ ((KeepsOthers.alloc _ _).from _) (KpB.of_below ((Below.refl _ W).alloc (Nat.le_refl _) _)) hI1 ⟨W.heap.size, hl1, Blk.new W 175 _, rfl⟩
  case body =>
    rintro l pre x a' W hl ⟨r, hr⟩ ⟨⟨⟨v, hv, hrow, _⟩, b2⟩, hB⟩ ⟨Bx, hBx, bX, rfl⟩ hlt
    have cX := bX.cell 2
    have cY := bX.cell 0
    simp at cX cY
    have hc := hv.cell
    have hpl : (ordV pre).length = pre.length := by simp [ordV]
    gi_wp2_with (gi_at_builtin; refine wpListIn_append_own _ rfl _ _ 34 rfl w.heap.size 3 i0 (.int .i64 0) 1 8 Tryz.underlying34 hi hz0 hz1 hz2 rfl (by decide) _ _ _ rfl (hrow.alloc _) ⟨W.heap.size, 0, none⟩ 1 1 [.int .i64 x.1] rfl rfl (cell_one_new _ _ _) (by simp [Value.oneCell']) (by unfold maxLen; omega) (by omega) (by have := hB.size; simp; omega) ?_; intro v' w1 hown' hgrow _; obtain ⟨g', cap', rfl⟩ := ownsRow_succ hown'; obtain ⟨hv1, hv2, hr2, hk2, hb2⟩ := hv.appended (by decide) hrow hB.size (by omega) hown' hgrow; have hc1 := hv1.cell; have hf1 := hv1.frozen)
    have hkp : KpB (w.heap.size + 1 + 1) W (w1.setCell ⟨w.heap.size + 1, 0, none⟩ (.slice (some ⟨g', 0, none⟩) ((ordV pre).length + 1) cap')) := by
      refine ⟨hb2.size, fun k hk hcs => ?_⟩
      obtain ⟨cs, t, fr, e, ht⟩ := hcs
      have hkl := (Array.getElem?_eq_some_iff.1 e).1
      have n1 : some k ≠ v.ownBlock := fun hh => by
        obtain ⟨cs2, hcs2⟩ := own_blk hrow k hh.symm
        unfold Blk at hcs2
        rw [e] at hcs2
        cases hcs2
        rcases ht with h | h <;> cases h
      have n2 : k ≠ w.heap.size + 1 := fun hh => by
        subst hh
        rw [show W.heap[w.heap.size + 1]? = _ from hv] at e
        cases e
        rcases ht with h | h <;> cases h
      rw [Below.heap_setCell _ _ _ _ n2, hgrow.block k (by simp; omega) n1]
      exact Below.heap_alloc _ _ _ hkl
    have hb3 := ((b2.alloc (.cells #[.int .i64 x.1] 3)).kept hgrow (b2.not_row (by decide) hrow)).other (B' := w.heap.size + 1) (by omega) (.slice (some ⟨g', 0, none⟩) ((ordV pre).length + 1) cap')
    rw [hpl] at hv2 hr2 hk2 hb2 hkp hb3
    exact ⟨hk2.from _, hkp, ⟨⟨_, hv2, by simpa [ordV] using hr2, trivial⟩, hb3⟩, hB.trans hb2⟩
  case done =>
    rintro D zs W hD rfl ⟨⟨⟨v, hv, hrow, _⟩, b2⟩, hB⟩ hK
    obtain ⟨OA, oc, rfl⟩ := own_slice hrow
    have hlv : (ordV zs).length = zs.length := by simp [ordV]
    rw [hlv] at hv hrow
    have hc := hv.cell
    have c2 := b2.cell
    have f2 := b2.frozen
    gi_wp2
    have j2 := b2.set (.slice OA zs.length oc)
    have hBf := hB.setCell (p := ⟨w.heap.size, 0, none⟩) (Nat.le_refl _) (.slice OA zs.length oc)
    have hKf := (KeepsOthers.setCell W ⟨w.heap.size, 0, none⟩ (.slice OA zs.length oc)).same D _ hK rfl
    generalize W.setCell ⟨w.heap.size, 0, none⟩ (.slice OA zs.length oc) = Wf at *
    refine ⟨by simp, .inl ⟨_, _, rfl, run_takeDeferred hKf, ?_⟩⟩
    have hg := grownBy_putObj' Wf D (.deferred none)
    have k2 := (j2.kept hg (fun e => by cases e; omega)).cell
    refine ⟨.slice OA zs.length oc, ?_, OA, oc, rfl, hBf.trans (belowK_b (w := w) (Nat.le_refl _) Wf D _ _ (by omega) hKf rfl rfl)⟩
    simp [results, asAddr, loadVar_one agg34 k2]
  case stop =>
    rintro D c pre W _ _ h _
    exact h.elim
theorem depth_any (s : List UInt8) (xs : List (Int × Int)) (hx : NmP s xs) (w : World) : Calls Tryz.prog 120 #[.string (strL s)] w fun e W' => e = .returned (.int .i64 xs.length) ∧ Below w.heap.size w W' := by
  go_enter Tryz.func120, Tryz.ntmps120
  go_wp2_with fail
  refine (callsIn_wide.1 (ordinals_in 4 (Nat.le_refl _) s xs hx w)).mono ?_
  rintro e w' ⟨OA, oc, rfl, nb⟩
  go_wp2_with fail
  go_ret
  exact ⟨rfl, nb⟩
theorem isOrdinal_any (w : World) (c : Int) (h : 1 ≤ c ∧ c ≤ 999999) : Calls Tryz.prog 119 #[.int .i64 c] w fun e w' => e = .returned (.bool true) ∧ w = w' := by
  obtain ⟨h1, h2⟩ := h
  go_enter Tryz.func119, Tryz.ntmps119
  go_wp2_with fail
  go_ret
  exact ⟨rfl, rfl⟩
end Go.Proofs.YtkoomlbnfhdhcaaGreatDoor

/-
  Walks: Itoa of one digit, Child.
-/
namespace Go.Proofs.YtkoomlbnfhdhcaaGreatDoor
open Go.RowKit
set_option linter.unusedVariables false

theorem strL_append (l m : List UInt8) : strL l ++ strL m = strL (l ++ m) := by
  apply ByteArray.ext
  simp [strL]
theorem small_any (w : World) (k : Int) (h : k = 1 ∨ k = 2) : Calls Tryz.prog 194 #[.int .i64 k] w fun e w' => e = .returned (.string (strL [UInt8.ofNat (48 + k.toNat)])) ∧ w = w' := by
  rcases h with rfl | rfl
  · go_enter Tryz.func194, Tryz.ntmps194
    go_wp2_with fail
    go_ret
    exact ⟨rfl, rfl⟩
  · go_enter Tryz.func194, Tryz.ntmps194
    go_wp2_with fail
    go_ret
    exact ⟨rfl, rfl⟩
theorem itoa_any (w : World) (k : Int) (h : k = 1 ∨ k = 2) : Calls Tryz.prog 121 #[.int .i64 k] w fun e w' => e = .returned (.string (strL [UInt8.ofNat (48 + k.toNat)])) ∧ w = w' := by
  have hs := fun W => small_any W k h
  have h0 : 0 ≤ k := by omega
  have h1 : k < 100 := by omega
  obtain ⟨v, hv⟩ : ∃ v, v = Value.string (strL [UInt8.ofNat (48 + k.toNat)]) := ⟨_, rfl⟩
  rw [← hv] at hs ⊢
  clear hv h
  have hf : ∀ W, Calls Tryz.prog 167 #[.int .i64 k, .int .i64 10] W fun e w' => e = .returned v ∧ W = w' := by
    intro W
    go_enter Tryz.func167, Tryz.ntmps167
    go_wp2_with fail
    refine (hs W).mono ?_
    rintro e w' ⟨rfl, rfl⟩
    go_wp2_with fail
    go_ret
    exact ⟨rfl, rfl⟩
  have hg : ∀ W, Calls Tryz.prog 146 #[.int .i64 k] W fun e w' => e = .returned v ∧ W = w' := by
    intro W
    go_enter Tryz.func146, Tryz.ntmps146
    go_wp2_with fail
    refine (hf W).mono ?_
    rintro e w' ⟨rfl, rfl⟩
    go_wp2_with fail
    go_ret
    exact ⟨rfl, rfl⟩
  go_enter Tryz.func121, Tryz.ntmps121
  go_wp2_with fail
  refine (hg w).mono ?_
  rintro e w' ⟨rfl, rfl⟩
  go_wp2_with fail
  go_ret
  exact ⟨rfl, rfl⟩
abbrev n0 : List UInt8 := []
abbrev n1 : List UInt8 := [49]
abbrev n11 : List UInt8 := [49, 46, 49]
abbrev n12 : List UInt8 := [49, 46, 50]
theorem nm0 : NmP n0 [] := .nil
theorem nm1 : NmP n1 [(1, 0)] := .one 49 ⟨rfl, by decide, by decide, by decide, by decide⟩
theorem nm11 : NmP n11 [(1, 0), (1, 2)] := .two 49 49 ⟨rfl, by decide, by decide, by decide, by decide⟩ ⟨rfl, by decide, by decide, by decide, by decide⟩
theorem nm12 : NmP n12 [(1, 0), (2, 2)] := .two 49 50 ⟨rfl, by decide, by decide, by decide, by decide⟩ ⟨rfl, by decide, by decide, by decide, by decide⟩
/-- The names of processes that the law comes to. -/
def Who (l : List UInt8) : Prop := l = n1 ∨ l = n11 ∨ l = n12
theorem Who.nm {l : List UInt8} (h : Who l) : ∃ xs, NmP l xs := by
  rcases h with rfl | rfl | rfl
  · exact ⟨_, nm1⟩
  · exact ⟨_, nm11⟩
  · exact ⟨_, nm12⟩
theorem validW (l : List UInt8) (h : Who l) (w : World) : Calls Tryz.prog 21 #[.string (strL l)] w fun e W' => e = .returned (.bool true) ∧ Below w.heap.size w W' :=
  let ⟨xs, hx⟩ := h.nm; valid_any l xs hx w
theorem child_any (w : World) (k : Int) (h : k = 1 ∨ k = 2) : Calls Tryz.prog 71 #[.string (strL n1), .int .i64 k] w fun e w' => e = .returned (.tuple #[.string (strL [49, 46, UInt8.ofNat (48 + k.toNat)]), .int .i64 0]) ∧ Below w.heap.size w w' := by
  have hv := fun W => valid_any n1 _ nm1 W
  have hd : ∀ W, Calls Tryz.prog 120 #[.string (strL n1)] W fun e W' => e = .returned (.int .i64 1) ∧ Below W.heap.size W W' := fun W => depth_any n1 _ nm1 W
  have ho := fun W => isOrdinal_any W k (by omega)
  have hi := fun W => itoa_any W k h
  have hq : ∀ W, (binOp .eql 33 (.string (strL n1)) (.string ⟨#[]⟩)).run Tryz.prog W = .ok (.bool false) W := fun W => str_eql 33 n1 [] W
  have hz : (strL n1).toList.isEmpty = false := by unfold strL; rw [ByteArray.toList_mk]; rfl
  obtain ⟨d, hD⟩ : ∃ d, d = UInt8.ofNat (48 + k.toNat) := ⟨_, rfl⟩
  rw [← hD] at hi ⊢
  clear hD h
  go_enter Tryz.func71, Tryz.ntmps71
  go_wp2_with fail
  refine (hv w).mono ?_
  rintro e w1 ⟨rfl, nb1⟩
  go_wp2_with fail
  refine (ho w1).mono ?_
  rintro e w1' ⟨rfl, rfl⟩
  go_wp2_with fail
  refine (hd w1).mono ?_
  rintro e w2 ⟨rfl, nb2⟩
  go_wp2_with fail
  refine (hi w2).mono ?_
  rintro e w2' ⟨rfl, rfl⟩
  go_wp2_with fail
  refine bodyPost_ret (results_tmp2 rfl _ _ _) rfl ?_
  exact ⟨by simp only [strL_append, show (⟨#[46]⟩ : ByteArray) = strL [46] from rfl]; rfl, nb1.trans (nb2.mono nb1.size)⟩
end Go.Proofs.YtkoomlbnfhdhcaaGreatDoor

/-
  Walks: names of objects.
-/
namespace Go.Proofs.YtkoomlbnfhdhcaaGreatDoor
open Go.RowKit
set_option linter.unusedVariables false

/-- A name of an object: its kind, its owner, its index. -/
structure Ob where
  k : Nat
  o : List UInt8
  i : Nat
  deriving DecidableEq
def obCells (x : Ob) : Array Value := #[.int .i64 (x.k : Int), .string (strL x.o), .int .i64 0, .int .i64 (x.i : Int), .string ⟨#[]⟩]
def obV (x : Ob) : Value := .agg (obCells x)
/-- The names that the law comes to. -/
def ObOk (x : Ob) : Prop := (Who x.o ∧ ((x.k = 1 ∨ x.k = 2 ∨ x.k = 5) ∧ x.i = 0 ∨ x.k = 3 ∧ x.i < 64)) ∨ (x.k = 20 ∧ x.o = [] ∧ x.i = 0)
def usgCells (s : ByteArray) (ow ix : Bool) (most : Int) : List Value := [.string s, .bool ow, .bool false, .bool ix, .bool false, .int .i64 most]
/-- The table of usages, as far as the law looks at it. -/
def Usg (w : World) : Prop := 1 < w.heap.size ∧ (∀ k : Nat, (k = 1 ∨ k = 2 ∨ k = 5) → ∃ s m, w.rangeAt 1 (k * 6) (usgCells s true false m)) ∧ (∃ s, w.rangeAt 1 18 (usgCells s true true 63)) ∧ (∃ s m, w.rangeAt 1 120 (usgCells s false false m))
theorem Usg.below {w w' : World} {B : Nat} (h : Usg w) (hb : Below B w w') (hB : 1 < B) : Usg w' := by
  have key : ∀ {o : Nat} {l : List Value}, w.rangeAt 1 o l → w'.rangeAt 1 o l := fun hr j x hx => by rw [← hr j x hx]; exact hb.cell (by exact hB)
  obtain ⟨h1, h2, ⟨s, h3⟩, ⟨t, m, h4⟩⟩ := h
  exact ⟨Nat.lt_of_lt_of_le h1 hb.size, fun k hk => let ⟨s, m, hr⟩ := h2 k hk; ⟨s, m, key hr⟩, ⟨s, key h3⟩, ⟨t, m, key h4⟩⟩
theorem Usg.belowS {w w' : World} (h : Usg w) (hb : Below w.heap.size w w') : Usg w' := h.below hb h.1
theorem range_alloc1 {w : World} {b o : Nat} {l : List Value} (h : w.rangeAt b o l) (hb : b < w.heap.size) (x : Obj) : (w.alloc x).rangeAt b o l := fun j v hv => by
  rw [← h j v hv]
  exact World.cell?_alloc_lt w x ⟨b, o + j, none⟩ hb
theorem info209 : (Tryz.prog.info? 209).map (·.size) = some 6 := by kernel_rfl
theorem info81 : (Tryz.prog.info? 81).map (·.size) = some 5 := by kernel_rfl
theorem isKind_any (w : World) (k : Nat) (h : 1 ≤ k ∧ k ≤ 20) : Calls Tryz.prog 137 #[.int .i64 (k : Int)] w fun e w' => e = .returned (.bool true) ∧ w = w' := by
  have h1 : 1 ≤ (k : Int) := by omega
  have h2 : (k : Int) ≤ 20 := by omega
  go_enter Tryz.func137, Tryz.ntmps137
  go_wp2_with fail
  go_ret
  exact ⟨rfl, rfl⟩
theorem within_any (w : World) (k m : Int) (h : 0 ≤ k ∧ k ≤ m) : Calls Tryz.prog 106 #[.int .i64 k, .int .i64 m] w fun e w' => e = .returned (.bool true) ∧ w = w' := by
  obtain ⟨h1, h2⟩ := h
  go_enter Tryz.func106, Tryz.ntmps106
  go_wp2_with fail
  go_ret
  exact ⟨rfl, rfl⟩
set_option maxRecDepth 100000 in
set_option maxHeartbeats 4000000 in
theorem obCheckA (w : World) (k : Nat) (l : List UInt8) (s : ByteArray) (m : Int) (hk : 1 ≤ k ∧ k ≤ 20) (hl : Who l) (hw : 1 < w.heap.size) (hr : w.rangeAt 1 (k * 6) (usgCells s true false m)) :
    Calls Tryz.prog 96 #[obV ⟨k, l, 0⟩] w fun e w' => e = .returned (.int .i64 0) ∧ Below w.heap.size w w' := by
  have HR := Lib.hid (range_alloc1 hr hw (.cells (obCells ⟨k, l, 0⟩) 81))
  have hkk := fun W => isKind_any W k hk
  have hv := fun W => validW l hl W
  have k1 : (k : Int) < 21 := by omega
  clear hl
  clear hr
  unfold obV obCells usgCells at *
  obtain ⟨nc, hnc⟩ : ∃ nc, nc = (#[.int .i64 (k : Int), .string (strL l), .int .i64 0, .int .i64 ((0 : Nat) : Int), .string ⟨#[]⟩] : Array Value) := ⟨_, rfl⟩
  obtain ⟨uc, huc⟩ : ∃ uc : Array Value, uc = #[Value.string s, .bool true, .bool false, .bool false, .bool false, .int .i64 m] := ⟨_, rfl⟩
  have HU := Lib.hid (Blk.new_ (g := w.heap.size + 1) (w.alloc (.cells nc 81)) 209 uc (by simp))
  have HN := Lib.hid ((Blk.new w 81 nc).alloc (.cells uc 209))
  have HB0 := Lib.hid (((Below.refl w.heap.size w).alloc (Nat.le_refl _) (.cells nc 81)).alloc (by simp) (.cells uc 209))
  rw [hnc, huc] at HU HN HB0
  clear hnc huc
  go_enter Tryz.func96, Tryz.ntmps96
  go_wp2_with fail
  refine (hkk _).mono ?_
  rintro e w' ⟨rfl, rfl⟩
  go_wp2_with (refine wpList_load_mid rfl 209 (.tmp 10) rfl 1 (k * 6) rfl _ _ HR.out Tryz.underlying209 rfl info209 ?_)
  refine (hv _).mono ?_
  rintro e w' ⟨rfl, nb⟩
  have hU := HU.out.below nb HU.out.lt
  have hN := HN.out.below nb HN.out.lt
  have u2 := hU.cell 2
  have u3 := hU.cell 3
  have u4 := hU.cell 4
  have u5 := hU.cell 5
  have v3 := hN.cell 3
  simp at u2 u3 u4 u5 v3
  have zb := HB0.out.size
  have zc := nb.size
  go_wp2_with fail
  go_ret
  exact ⟨rfl, HB0.out.trans (nb.mono HB0.out.size)⟩
set_option maxRecDepth 100000 in
set_option maxHeartbeats 4000000 in
theorem obCheckP (w : World) (i : Nat) (l : List UInt8) (s : ByteArray) (hi : i < 64) (hl : Who l) (hw : 1 < w.heap.size) (hr : w.rangeAt 1 18 (usgCells s true true 63)) :
    Calls Tryz.prog 96 #[obV ⟨3, l, i⟩] w fun e w' => e = .returned (.int .i64 0) ∧ Below w.heap.size w w' := by
  have HR := Lib.hid (range_alloc1 hr hw (.cells (obCells ⟨3, l, i⟩) 81))
  have hkk : ∀ W, Calls Tryz.prog 137 #[.int .i64 3] W fun e w' => e = .returned (.bool true) ∧ W = w' := fun W => isKind_any W 3 (by omega)
  have hv := fun W => validW l hl W
  have hin := fun W => within_any W i 63 (by omega)
  clear hl
  clear hr
  unfold obV obCells usgCells at *
  obtain ⟨nc, hnc⟩ : ∃ nc, nc = (#[.int .i64 ((3 : Nat) : Int), .string (strL l), .int .i64 0, .int .i64 (i : Int), .string ⟨#[]⟩] : Array Value) := ⟨_, rfl⟩
  obtain ⟨uc, huc⟩ : ∃ uc : Array Value, uc = #[Value.string s, .bool true, .bool false, .bool true, .bool false, .int .i64 63] := ⟨_, rfl⟩
  have HU := Lib.hid (Blk.new_ (g := w.heap.size + 1) (w.alloc (.cells nc 81)) 209 uc (by simp))
  have HN := Lib.hid ((Blk.new w 81 nc).alloc (.cells uc 209))
  have HB0 := Lib.hid (((Below.refl w.heap.size w).alloc (Nat.le_refl _) (.cells nc 81)).alloc (by simp) (.cells uc 209))
  rw [hnc, huc] at HU HN HB0
  clear hnc huc
  go_enter Tryz.func96, Tryz.ntmps96
  go_wp2_with fail
  refine (hkk _).mono ?_
  rintro e w' ⟨rfl, rfl⟩
  go_wp2_with (refine wpList_load_mid rfl 209 (.tmp 10) rfl 1 18 rfl _ _ HR.out Tryz.underlying209 rfl info209 ?_)
  refine (hv _).mono ?_
  rintro e w' ⟨rfl, nb⟩
  have hU := HU.out.below nb HU.out.lt
  have hN := HN.out.below nb HN.out.lt
  have u2 := hU.cell 2
  have u3 := hU.cell 3
  have u4 := hU.cell 4
  have u5 := hU.cell 5
  have v3 := hN.cell 3
  simp at u2 u3 u4 u5 v3
  have zb := HB0.out.size
  have zc := nb.size
  go_wp2_with fail
  refine (hin _).mono ?_
  rintro e w'' ⟨rfl, rfl⟩
  go_wp2_with fail
  go_ret
  exact ⟨rfl, HB0.out.trans (nb.mono HB0.out.size)⟩
set_option maxRecDepth 100000 in
set_option maxHeartbeats 4000000 in
theorem obCheckE (w : World) (s : ByteArray) (m : Int) (hw : 1 < w.heap.size) (hr : w.rangeAt 1 120 (usgCells s false false m)) :
    Calls Tryz.prog 96 #[obV ⟨20, [], 0⟩] w fun e w' => e = .returned (.int .i64 0) ∧ Below w.heap.size w w' := by
  have HR := Lib.hid (range_alloc1 hr hw (.cells (obCells ⟨20, [], 0⟩) 81))
  have hkk : ∀ W, Calls Tryz.prog 137 #[.int .i64 20] W fun e w' => e = .returned (.bool true) ∧ W = w' := fun W => isKind_any W 20 (by omega)
  have hz : (strL []).toList.isEmpty = true := by unfold strL; rw [ByteArray.toList_mk]; rfl
  clear hr
  unfold obV obCells usgCells at *
  obtain ⟨nc, hnc⟩ : ∃ nc, nc = (#[.int .i64 ((20 : Nat) : Int), .string (strL []), .int .i64 0, .int .i64 ((0 : Nat) : Int), .string ⟨#[]⟩] : Array Value) := ⟨_, rfl⟩
  obtain ⟨uc, huc⟩ : ∃ uc : Array Value, uc = #[Value.string s, .bool false, .bool false, .bool false, .bool false, .int .i64 m] := ⟨_, rfl⟩
  have HU := Lib.hid (Blk.new_ (g := w.heap.size + 1) (w.alloc (.cells nc 81)) 209 uc (by simp))
  have HN := Lib.hid ((Blk.new w 81 nc).alloc (.cells uc 209))
  have HB0 := Lib.hid (((Below.refl w.heap.size w).alloc (Nat.le_refl _) (.cells nc 81)).alloc (by simp) (.cells uc 209))
  rw [hnc, huc] at HU HN HB0
  clear hnc huc
  go_enter Tryz.func96, Tryz.ntmps96
  go_wp2_with fail
  refine (hkk _).mono ?_
  rintro e w' ⟨rfl, rfl⟩
  go_wp2_with (refine wpList_load_mid rfl 209 (.tmp 10) rfl 1 120 rfl _ _ HR.out Tryz.underlying209 rfl info209 ?_)
  go_ret
  exact ⟨rfl, HB0.out⟩
theorem obCheck_any (w : World) (x : Ob) (h : ObOk x) (hu : Usg w) : Calls Tryz.prog 96 #[obV x] w fun e w' => e = .returned (.int .i64 0) ∧ Below w.heap.size w w' := by
  obtain ⟨k, l, i⟩ := x
  obtain ⟨h1, h2, ⟨s, h3⟩, ⟨t, m, h4⟩⟩ := hu
  rcases h with ⟨hl, ⟨hk, hi⟩ | ⟨hk, hi⟩⟩ | ⟨hk, hl, hi⟩
  · obtain ⟨s, m, hr⟩ := h2 k hk
    dsimp only at hi hk hl
    subst hi
    exact obCheckA w k l s m (by omega) hl h1 hr
  · dsimp only at hi hk hl
    subst hk
    exact obCheckP w i l s hi hl h1 h3
  · dsimp only at hi hk hl
    subst hk hl hi
    exact obCheckE w t m h1 h4
theorem ofProcess_any (w : World) (l : List UInt8) : Calls Tryz.prog 25 #[.string (strL l)] w fun e w' => e = .returned (obV ⟨1, l, 0⟩) ∧ Below w.heap.size w w' := by
  go_enter Tryz.func25, Tryz.ntmps25
  go_wp2_with fail
  exact end_cell rfl rfl (Blk.new _ _ _) Tryz.underlying81 rfl info81 ⟨rfl, (Below.refl _ _).alloc (Nat.le_refl _) _⟩
theorem ofRegisters_any (w : World) (l : List UInt8) : Calls Tryz.prog 46 #[.string (strL l)] w fun e w' => e = .returned (obV ⟨2, l, 0⟩) ∧ Below w.heap.size w w' := by
  go_enter Tryz.func46, Tryz.ntmps46
  go_wp2_with fail
  exact end_cell rfl rfl (Blk.new _ _ _) Tryz.underlying81 rfl info81 ⟨rfl, (Below.refl _ _).alloc (Nat.le_refl _) _⟩
theorem ofPage_any (w : World) (l : List UInt8) (i : Nat) : Calls Tryz.prog 50 #[.string (strL l), .int .i64 (i : Int)] w fun e w' => e = .returned (obV ⟨3, l, i⟩) ∧ Below w.heap.size w w' := by
  go_enter Tryz.func50, Tryz.ntmps50
  go_wp2_with fail
  exact end_cell rfl rfl (Blk.new _ _ _) Tryz.underlying81 rfl info81 ⟨rfl, (Below.refl _ _).alloc (Nat.le_refl _) _⟩
theorem ofEpoch_any (w : World)  : Calls Tryz.prog 60 #[] w fun e w' => e = .returned (obV ⟨20, [], 0⟩) ∧ Below w.heap.size w w' := by
  go_enter Tryz.func60, Tryz.ntmps60
  go_wp2_with fail
  exact end_cell rfl rfl (Blk.new _ _ _) Tryz.underlying81 rfl info81 ⟨rfl, (Below.refl _ _).alloc (Nat.le_refl _) _⟩
theorem ofCounter_any (w : World) (l : List UInt8) : Calls Tryz.prog 117 #[.string (strL l)] w fun e w' => e = .returned (obV ⟨5, l, 0⟩) ∧ Below w.heap.size w w' := by
  go_enter Tryz.func117, Tryz.ntmps117
  go_wp2_with fail
  exact end_cell rfl rfl (Blk.new _ _ _) Tryz.underlying81 rfl info81 ⟨rfl, (Below.refl _ _).alloc (Nat.le_refl _) _⟩
theorem birthCheck_any (w : World) : Calls Tryz.prog 59 #[.agg #[.string (strL []), .int .i64 0]] w fun e w' => e = .returned (.int .i64 0) ∧ Below w.heap.size w w' := by
  have hv := fun W => valid_any [] _ nm0 W
  have hi := fun W => within_any W 0 1073741824 (by omega)
  have HN := Lib.hid (Blk.new w 38 #[.string (strL []), .int .i64 0])
  have HB0 := Lib.hid ((Below.refl w.heap.size w).alloc (Nat.le_refl _) (.cells #[.string (strL []), .int .i64 0] 38))
  go_enter Tryz.func59, Tryz.ntmps59
  go_wp2_with fail
  refine (hv _).mono ?_
  rintro e w' ⟨rfl, nb⟩
  have hN := HN.out.below nb HN.out.lt
  have u1 := hN.cell 1
  simp at u1
  go_wp2_with fail
  refine (hi _).mono ?_
  rintro e w'' ⟨rfl, rfl⟩
  go_wp2_with fail
  go_ret
  exact ⟨rfl, HB0.out.trans (nb.mono HB0.out.size)⟩
end Go.Proofs.YtkoomlbnfhdhcaaGreatDoor

/-
  Walks: codec's Writer, for small numbers and short texts.
-/
namespace Go.Proofs.YtkoomlbnfhdhcaaGreatDoor
open Go.RowKit
set_option linter.unusedVariables false

set_option maxRecDepth 100000 in
set_option maxHeartbeats 4000000 in
theorem appNat_any (w : World) (B : Nat) (v : Value) (l : List UInt8) (u : Nat) (hu : u < 128) (h : w.ownsRow B 5 1 v l.length (bs l)) (hl : l.length < 1000) (hB : B ≤ w.heap.size) :
    Calls Tryz.prog 144 #[v, .int .u64 (u : Int)] w fun e w' => ∃ v', e = .returned v' ∧ w'.ownsRow B 5 1 v' (l ++ [UInt8.ofNat u]).length (bs (l ++ [UInt8.ofNat u])) ∧ w.grownBy w' v.ownBlock := by
  obtain ⟨i5, hi, hz0, hz1, hz2⟩ := info_parts info5
  have u1 : (u : Int) < 128 := by omega
  have u0 : (0 : Int) ≤ (u : Int) := by omega
  have hm : (u : Int) % 256 = u := by omega
  have hbu : bs l ++ [Value.int .u8 (u : Int)] = bs (l ++ [UInt8.ofNat u]) := by
    rw [bs_append]
    have : (UInt8.ofNat u).toNat = u := by rw [UInt8.toNat_ofNat']; omega
    simp [bs, this]
  obtain ⟨OA, oc, rfl⟩ : ∃ OA oc, v = .slice OA l.length oc := by
    rcases h.2 with ⟨rfl, h2⟩ | ⟨g, cap, cur, rfl, _⟩
    · have h3 : l.length = 0 := by first | exact h2 | exact h2.1
      rw [h3]
      exact ⟨none, 0, rfl⟩
    · exact ⟨_, _, rfl⟩
  have HOWN := Lib.hid h
  have HBU := Lib.hid hbu
  clear h hbu
  go_enter Tryz.func144, Tryz.ntmps144
  go_wp2_with fail
  go_loopg [0, 1] 0 (fun q tv uv wr => q = 0 ∧ tv = .slice OA l.length oc ∧ uv = .int .u64 (u : Int) ∧ wr = w)
  case atStart => exact ⟨rfl, rfl, rfl, rfl⟩
  case round =>
    obtain ⟨rfl, rfl, rfl, rfl⟩ := hrel
    go_wp2_with (at_builtin; refine wpList_append_lies _ rfl _ _ _ rfl B 5 i5 _ 1 1 Tryz.underlying24 hi hz0 hz1 hz2 rfl (by omega) (.slice OA l.length oc) l.length (bs l) rfl (HOWN.out.alloc _) ⟨wr.heap.size, 0, none⟩ 1 1 [.int .u8 (u : Int)] rfl rfl (World.news_of_block (t := 5) (fr := (0, 0)) (heap_alloc_new wr _)) (by simp [Value.oneCell']) (by omega) (by unfold maxLen; omega) (by omega) (by simp; omega) (wr.heap.size + 1) (by simp) ?_; intro gg oc4 w4 hown4 hgrow4 hat4 hlt4)
    go_ret
    refine ⟨_, rfl, ?_, (World.grownBy_alloc _ _ _).trans hgrow4⟩
    rw [HBU.out] at hown4
    simpa using hown4
/-- A writer that works. -/
structure Wr (w : World) (B p : Nat) (l : List UInt8) : Prop where
  ex : ∃ v, Blk w p 221 #[v, .int .i64 0] ∧ w.ownsRow B 5 1 v l.length (bs l)
  le : B ≤ p
theorem Wr.lt {w : World} {B p : Nat} {l : List UInt8} (h : Wr w B p l) : p < w.heap.size := let ⟨_, hb, _⟩ := h.ex; hb.lt
theorem newWriter_any (w : World) : Calls Tryz.prog 111 #[] w fun e w' => e = .returned (ptrV (some w.heap.size)) ∧ Wr w' w.heap.size w.heap.size [] ∧ Below w.heap.size w w' := by
  go_enter Tryz.func111, Tryz.ntmps111
  go_wp2_with fail
  go_ret
  exact ⟨rfl, ⟨⟨_, Blk.new _ _ _, World.ownsRow_nil _ _ _ _⟩, Nat.le_refl _⟩, (Below.refl _ _).alloc (Nat.le_refl _) _⟩
theorem works_any (w : World) (B p : Nat) (l : List UInt8) (h : Wr w B p l) : Calls Tryz.prog 143 #[.pointer (some ⟨p, 0, none⟩)] w fun e w' => e = .returned (.bool true) ∧ w = w' := by
  obtain ⟨⟨v, hb, _⟩, _⟩ := h
  have c1 := hb.cell 1
  simp at c1
  go_enter Tryz.func143, Tryz.ntmps143
  go_wp2_with fail
  go_ret
  exact ⟨rfl, rfl⟩
theorem own_none_ne {w : World} {base n : Nat} {v : Value} {xs : List Value} {p : Nat} {cs : Array Value} (h : w.ownsRow base 5 1 v n xs) (hb : Blk w p 221 cs) : some p ≠ v.ownBlock := fun e => own_blk_ne h hb (by decide) e.symm
set_option maxRecDepth 100000 in
set_option maxHeartbeats 4000000 in
theorem number_any (w : World) (B p : Nat) (l : List UInt8) (n : Nat) (hn : n < 128) (h : Wr w B p l) (hl : l.length < 1000) (hB : B ≤ w.heap.size) :
    Calls Tryz.prog 112 #[.pointer (some ⟨p, 0, none⟩), .int .i64 (n : Int)] w fun e w' => (∃ v, e = .returned v) ∧ Wr w' B p (l ++ [UInt8.ofNat n]) ∧ Below B w w' := by
  have hwk := works_any w B p l h
  obtain ⟨⟨v, hb, hown⟩, hle⟩ := h
  have n1 : (0 : Int) ≤ n := by omega
  have c0 := hb.cell 0
  simp at c0
  have hap := appNat_any w B v l n hn hown hl hB
  have HB := Lib.hid hb
  have HOWN := Lib.hid hown
  clear hb hown
  go_enter Tryz.func112, Tryz.ntmps112
  go_wp2_with fail
  refine hwk.mono ?_
  rintro e w' ⟨rfl, rfl⟩
  go_wp2_with fail
  refine hap.mono ?_
  rintro e w1 ⟨v', rfl, hown1, hgrow1⟩
  obtain ⟨OA, oc, rfl⟩ := own_slice hown1
  have hB1 := HB.out.grown hgrow1 (own_none_ne HOWN.out HB.out)
  have k0 := hB1.cell 0
  have f0 := hB1.frozen 0
  simp at k0
  have hbel : Below B w w1 := (Below.refl B w).grown hgrow1 hB (fun k hk => (HOWN.out.lt k hk).1)
  have hset := hB1.set_ 0 (.slice OA (l ++ [UInt8.ofNat n]).length oc)
  simp at hset
  have hown2 := own_fr hown1 ((Fr.refl [p] w1).setCell (p := ⟨p, 0, none⟩) (.inl (by simp)) (.slice OA (l ++ [UInt8.ofNat n]).length oc)) (fun g hg => by
    have := own_none_ne hown1 hB1
    simp
    rintro rfl
    exact this hg.symm)
  have hbel2 := hbel.setCell (p := ⟨p, 0, none⟩) hle (.slice OA (l ++ [UInt8.ofNat n]).length oc)
  go_wp2_with fail
  go_end0
  simp only [List.length_append, List.length_cons, List.length_nil, Nat.zero_add] at hset hown2 hbel2
  exact ⟨⟨_, rfl⟩, ⟨⟨_, hset, by simpa using hown2⟩, hle⟩, hbel2⟩
theorem strCells_bs (s : List UInt8) : Lib.strCells (strL s) = bs s := by
  simp [Lib.strCells, strL, bs]
set_option maxRecDepth 100000 in
set_option maxHeartbeats 4000000 in
theorem text_any (w : World) (B p : Nat) (l s : List UInt8) (hs : s.length < 100) (h : Wr w B p l) (hl : l.length < 900) (hB : B ≤ w.heap.size) :
    Calls Tryz.prog 113 #[.pointer (some ⟨p, 0, none⟩), .string (strL s)] w fun e w' => (∃ v, e = .returned v) ∧ Wr w' B p (l ++ UInt8.ofNat s.length :: s) ∧ Below B w w' := by
  obtain ⟨i5, hi, hz0, hz1, hz2⟩ := info_parts info5
  have hwk := works_any w B p l h
  have hsz := strL_size s
  obtain ⟨⟨v, hb, hown⟩, hle⟩ := h
  have n1 : (0 : Int) ≤ s.length := by omega
  have n2 : decide ((s.length : Int) > 16777216) = false := decide_eq_false (by omega)
  have n3 : ¬ ((16777216 : Int) < s.length) := by omega
  have c0 := hb.cell 0
  simp at c0
  have hap := appNat_any w B v l s.length (by omega) hown (by omega) hB
  have HB := Lib.hid hb
  have HOWN := Lib.hid hown
  clear hb hown
  go_enter Tryz.func113, Tryz.ntmps113
  go_wp2_with fail
  refine hwk.mono ?_
  rintro e w' ⟨rfl, rfl⟩
  go_wp2_with fail
  refine hap.mono ?_
  rintro e w1 ⟨v', rfl, hown1, hgrow1⟩
  obtain ⟨OA, oc, rfl⟩ := own_slice hown1
  have hlen : (l ++ [UInt8.ofNat s.length]).length = l.length + 1 := by simp
  rw [hlen] at hown1
  have hB1 := HB.out.grown hgrow1 (own_none_ne HOWN.out HB.out)
  have hbel : Below B w w1 := (Below.refl B w).grown hgrow1 hB (fun k hk => (HOWN.out.lt k hk).1)
  have HN1 := Lib.hid hown1
  have HB1 := Lib.hid hB1
  have hne1 := own_none_ne hown1 hB1
  have hs1 := hbel.size
  rw [hlen]
  dsimp only
  clear hown1 hB1 c0 hlen
  go_wp2_with (at_builtin; go_must (refine Lib.wpList_append_own_string _ rfl _ _ 24 9 rfl B 5 i5 Tryz.underlying24 Tryz.underlying9 hi hz0 hz1 hz2 _ _ _ rfl HN1.out (strL s) rfl (by unfold maxLen; omega) (by omega) (by omega) ?_; intro v2 w2 hown2 hgrow2 _; obtain ⟨OA2, oc2, rfl⟩ := own_slice hown2; have k2 := HB1.out.grown hgrow2 hne1; have k0 := k2.cell 0; have f0 := k2.frozen 0; simp at k0))
  go_end0
  have hset := k2.set_ 0 (.slice OA2 (l.length + 1 + (strL s).size) oc2)
  simp only [Array.setIfInBounds_def] at hset
  have hne2 := own_none_ne hown2 k2
  have hown3 := own_fr hown2 ((Fr.refl [p] w2).setCell (p := ⟨p, 0, none⟩) (.inl (by simp)) (.slice OA2 (l.length + 1 + (strL s).size) oc2)) (fun g hg => by
    simp
    rintro rfl
    exact hne2 hg.symm)
  have hbel2 : Below B w w2 := hbel.grown hgrow2 (Nat.le_trans hB hs1) (fun k hk => (HN1.out.lt k hk).1)
  have hbel3 := hbel2.setCell (p := ⟨p, 0, none⟩) hle (.slice OA2 (l.length + 1 + (strL s).size) oc2)
  rw [hsz] at hset hown3 hbel3
  have hfin : (l ++ UInt8.ofNat s.length :: s).length = l.length + 1 + s.length := by simp; omega
  have hbf : bs (l ++ [UInt8.ofNat s.length]) ++ Lib.strCells (strL s) = bs (l ++ UInt8.ofNat s.length :: s) := by rw [strCells_bs, ← bs_append]; simp
  rw [hbf] at hown3
  exact ⟨⟨_, rfl⟩, ⟨⟨_, hset, by rw [hfin]; exact hown3⟩, hle⟩, hbel3⟩
end Go.Proofs.YtkoomlbnfhdhcaaGreatDoor

/-
  Walks: slices.Clone of bytes; Writer's Bytes.
-/
namespace Go.Proofs.YtkoomlbnfhdhcaaGreatDoor
open Go.RowKit
set_option linter.unusedVariables false

theorem sl_nil (n c : Nat) (W : World) : (binOp .eql 24 (.slice none n c) (.slice none 0 0)).run Tryz.prog W = .ok (.bool true) W := by kernel_rfl
theorem sl_some (ad : Addr) (n c : Nat) (W : World) : (binOp .eql 24 (.slice (some ad) n c) (.slice none 0 0)).run Tryz.prog W = .ok (.bool false) W := by kernel_rfl
set_option maxRecDepth 100000 in
set_option maxHeartbeats 4000000 in
theorem clone_any (w : World) (v : Value) (l : List UInt8) (h : RdB w w.heap.size v l) (hl : l.length ≤ 4000000) :
    Calls Tryz.prog 107 #[v] w fun e w' => ∃ v', e = .returned v' ∧ w'.ownsRow w.heap.size 5 1 v' l.length (bs l) ∧ Below w.heap.size w w' := by
  obtain ⟨i5, hi, hz0, hz1, hz2⟩ := info_parts info5
  obtain ⟨A, cap, rfl, h1, h2, h3⟩ := h
  cases A with
  | none =>
    have hl0 : l = [] := by
      rcases Nat.eq_zero_or_pos l.length with h0 | h0
      · exact List.eq_nil_of_length_eq_zero h0
      · obtain ⟨ad, h, _⟩ := h3.2 h0
        cases h
    subst hl0
    have hq := sl_nil
    go_enter Tryz.func107, Tryz.ntmps107
    go_wp2_with fail
    go_ret
    exact ⟨_, rfl, World.ownsRow_nil _ _ _ _, Below.refl _ _⟩
  | some ad =>
    have H3 := Lib.hid h3
    clear h3
    have hq := sl_some
    go_enter Tryz.func107, Tryz.ntmps107
    go_wp2_with (at_builtin; go_must (refine wpList_append_any _ rfl _ _ 24 rfl w.heap.size 5 i5 _ 1 1 Tryz.underlying24 hi hz0 hz1 hz2 rfl (by omega) _ 0 [] rfl (World.ownsRow_lit w #[] 0 (Nat.le_refl _) (by simp [maxLen]) rfl) w.heap.size (some ad) l.length cap (bs l) rfl (H3.out.alloc (Nat.le_refl _) (.cells #[] 5)) (bs_one l) (by unfold maxLen; omega) (by omega) (by simp) ?_; intro v2 w2 hown2 hgrow2 _))
    go_ret
    refine ⟨_, rfl, by simpa using hown2, ((Below.refl _ _).alloc (Nat.le_refl _) _).grown hgrow2 (by simp) (fun k hk => ?_)⟩
    cases hk
    exact Nat.le_refl _
/-- Bytes: what has been written. -/
theorem bytes_any (w : World) (B p : Nat) (l : List UInt8) (h : Wr w B p l) (hl : l.length ≤ 4000000) :
    Calls Tryz.prog 114 #[.pointer (some ⟨p, 0, none⟩)] w fun e w' => ∃ v', e = .returned (.tuple #[v', .int .i64 0]) ∧ w'.ownsRow w.heap.size 5 1 v' l.length (bs l) ∧ Below w.heap.size w w' := by
  obtain ⟨⟨v, hb, hown⟩, hle⟩ := h
  have c0 := hb.cell 0
  have c1 := hb.cell 1
  simp at c0 c1
  have hc := clone_any w v l (RdB.of_own hown rfl) hl
  have zb := hb.lt
  clear hown hb
  go_enter Tryz.func114, Tryz.ntmps114
  go_wp2_with fail
  refine hc.mono ?_
  rintro e w1 ⟨v', rfl, hown1, nb⟩
  go_wp2_with fail
  refine bodyPost_ret (results_tmp2 rfl _ _ _) rfl ?_
  exact ⟨v', rfl, hown1, nb⟩
end Go.Proofs.YtkoomlbnfhdhcaaGreatDoor

/-
  Walks: codec's Reader, for small numbers and short texts.
-/
namespace Go.Proofs.YtkoomlbnfhdhcaaGreatDoor
open Go.RowKit
set_option linter.unusedVariables false

set_option maxRecDepth 100000 in
theorem low7F : ∀ C : Fin 128, bits .or .u64 0 (IntKind.u64.wrap (bits .and .u8 (C.val : Int) 127)) = (C.val : Int) := by decide +kernel
theorem low7 (C : Nat) (h : C < 128) : bits .or .u64 0 (IntKind.u64.wrap (bits .and .u8 (C : Int) 127)) = (C : Int) := low7F ⟨C, h⟩
set_option maxRecDepth 100000 in
set_option maxHeartbeats 4000000 in
theorem parseNat_any (w : World) (B : Nat) (v : Value) (c : UInt8) (l : List UInt8) (hc : c.toNat < 128) (h : RdB w B v (c :: l)) (hl : l.length < 1000) :
    Calls Tryz.prog 142 #[v, .int .i64 9] w fun e w' => e = .returned (.tuple #[.int .u64 (c.toNat : Nat), .int .i64 1, .int .i64 0]) ∧ Below w.heap.size w w' := by
  obtain ⟨A, cap, rfl, hcap, _, hb⟩ := h.byte
  obtain ⟨ad, rfl, c0⟩ := hb 0 (by simp)
  simp [Addr.add_zero'] at c0
  obtain ⟨C, hC⟩ : ∃ C, C = c.toNat := ⟨_, rfl⟩
  rw [← hC] at c0 hc ⊢
  clear hC hb
  have e1 : decide ((C : Int) ≥ 128) = false := decide_eq_false (by omega)
  have e2 : ¬ ((128 : Int) ≤ C) := by omega
  have e3 : (C : Int) < 128 := by omega
  have e4 : (0 : Int) ≤ C := by omega
  obtain ⟨n, hn⟩ : ∃ n, n = (c :: l).length := ⟨_, rfl⟩
  have n1 : 1 ≤ n := by rw [hn]; simp
  have n2 : n ≤ 1000 := by rw [hn]; simp; omega
  rw [← hn] at hcap ⊢
  clear hn hl h
  go_enter Tryz.func142, Tryz.ntmps142
  go_wp2_with fail
  go_loopg [7] 0 (fun q tv wr => q = 0 ∧ tv = .int .i64 0 ∧ wr = w)
  case atStart => exact ⟨rfl, rfl, rfl⟩
  case round =>
    obtain ⟨rfl, rfl, rfl⟩ := hrel
    go_wp2_with fail
    go_loopg [8, 9] 1 (fun q uv iv wr' => ((q = 1 ∧ uv = .int .u64 0 ∧ iv = .int .i64 0) ∨ (q = 0 ∧ uv = .int .u64 (C : Int) ∧ iv = .int .i64 (-1))) ∧ wr' = wr)
    case atStart => exact ⟨.inl ⟨rfl, rfl, rfl⟩, rfl⟩
    case round =>
      obtain ⟨⟨rfl, rfl, rfl⟩ | ⟨rfl, rfl, rfl⟩, rfl⟩ := hrel
      · go_wp2_with fail
        go_roundg 0
        case measure => omega
        case rel => exact ⟨.inr ⟨rfl, by rw [low7 C hc], rfl⟩, rfl⟩
      · go_wp2_with fail
        refine bodyPost_ret (results_tmp3 rfl _ _ _) rfl ?_
        exact ⟨rfl, Below.refl _ _⟩
/-- A reader of these bytes. -/
structure Rdr (w : World) (B p : Nat) (l : List UInt8) : Prop where
  ex : ∃ v at_, Blk w p 178 #[v, .int .i64 at_, .int .i64 0] ∧ RdB w B v l ∧ 0 ≤ at_ ∧ at_ + l.length ≤ 100000
  le : B ≤ p
theorem newReader_any (w : World) (v : Value) (l : List UInt8) (h : RdB w w.heap.size v l) (hl : l.length ≤ 90000) : Calls Tryz.prog 61 #[v] w fun e w' => ∃ B p, e = .returned (ptrV (some p)) ∧ Rdr w' B p l ∧ w.heap.size ≤ B ∧ Below w.heap.size w w' := by
  have hc := clone_any w v l h (by omega)
  go_enter Tryz.func61, Tryz.ntmps61
  go_wp2_with fail
  refine hc.mono ?_
  rintro e w1 ⟨v', rfl, hown, nb⟩
  obtain ⟨OA, oc, rfl⟩ := own_slice hown
  have hr := RdB.of_own hown rfl
  go_wp2_with fail
  go_ret
  exact ⟨w1.heap.size, w1.heap.size, rfl, ⟨⟨_, 0, Blk.new _ _ _, hr.below ((Below.refl _ _).alloc (Nat.le_refl _) _), by omega, by omega⟩, Nat.le_refl _⟩, nb.size, nb.alloc nb.size _⟩
theorem parse110_any (w : World) (B : Nat) (v : Value) (c : UInt8) (l : List UInt8) (hc : c.toNat < 128) (h : RdB w B v (c :: l)) (hl : l.length < 1000) :
    Calls Tryz.prog 110 #[v] w fun e w' => e = .returned (.tuple #[.int .i64 (c.toNat : Nat), .int .i64 1, .int .i64 0]) ∧ Below w.heap.size w w' := by
  have hp := parseNat_any w B v c l hc h hl
  have c1 : ((c.toNat : Nat) : Int) < 128 := by omega
  go_enter Tryz.func110, Tryz.ntmps110
  go_wp2_with fail
  refine hp.mono ?_
  rintro e w1 ⟨rfl, nb⟩
  go_wp2_with fail
  refine bodyPost_ret (results_tmp3 rfl _ _ _) rfl ?_
  exact ⟨rfl, nb⟩
end Go.Proofs.YtkoomlbnfhdhcaaGreatDoor

/-
  Walks: codec's Reader: Number.
-/
namespace Go.Proofs.YtkoomlbnfhdhcaaGreatDoor
open Go.RowKit
set_option linter.unusedVariables false

theorem num1_any (w : World) (B bx : Nat) (v : Value) (c : UInt8) (l : List UInt8) (m : Int) (hc : c.toNat < 128) (hm : (c.toNat : Int) ≤ m) (h : RdB w B v (c :: l)) (hl : l.length < 1000) (hb : Blk w bx 3 #[.int .i64 m]) :
    Calls Tryz.prog 109 #[v, .pointer (some ⟨bx, 0, none⟩)] w fun e w' => e = .returned (.tuple #[.int .i64 (c.toNat : Nat), .int .i64 1, .int .i64 0]) ∧ Below w.heap.size w w' := by
  have hp := parse110_any w B v c l hc h hl
  have HB := Lib.hid hb
  have hm2 : ¬ (m < (c.toNat : Int)) := by omega
  go_enter Tryz.func109, Tryz.ntmps109
  go_wp2_with fail
  refine hp.mono ?_
  rintro e w1 ⟨rfl, nb⟩
  have c1 := (HB.out.below nb HB.out.lt).cell 0
  simp at c1
  go_wp2_with fail
  refine bodyPost_ret (results_tmp3 rfl _ _ _) rfl ?_
  exact ⟨rfl, nb⟩
theorem Rdr.lt {w : World} {B p : Nat} {l : List UInt8} (h : Rdr w B p l) : p < w.heap.size := let ⟨_, _, hb, _⟩ := h.ex; hb.lt
theorem Rdr.below {w w' : World} {B p : Nat} {l : List UInt8} (h : Rdr w B p l) (hb : Below w.heap.size w w') : Rdr w' B p l :=
  let ⟨v, a, h1, h2, h3⟩ := h.ex; ⟨⟨v, a, h1.below hb h1.lt, h2.below (hb.mono (Nat.le_trans h.le (Nat.le_of_lt h1.lt))), h3⟩, h.le⟩
set_option maxRecDepth 100000 in
set_option maxHeartbeats 4000000 in
theorem readInt_any (w : World) (B p bx : Nat) (c : UInt8) (l : List UInt8) (m : Int) (hc : c.toNat < 128) (hm : (c.toNat : Int) ≤ m) (h : Rdr w B p (c :: l)) (hl : l.length < 1000) (hbx : Blk w bx 3 #[.int .i64 m]) :
    Calls Tryz.prog 108 #[.pointer (some ⟨p, 0, none⟩), .func (.func 109) #[] #[.pointer (some ⟨bx, 0, none⟩)]] w fun e w' => e = .returned (.int .i64 (c.toNat : Nat)) ∧ Rdr w' B p l ∧ Below B w w' ∧ Fr [p] w w' := by
  obtain ⟨⟨v, at_, hb, hr, ha0, ha1⟩, hle⟩ := h
  have hf := num1_any w B bx v c l m hc hm hr hl hbx
  obtain ⟨i5, hi, hz0, hz1, hz2⟩ := info_parts info5
  obtain ⟨A, cap, rfl, hr1, hr2, hr3⟩ := hr
  obtain ⟨A', c', hsl, hr'⟩ := slice_from (P := Tryz.prog) Tryz.underlying24 hi hz1 ⟨A, cap, rfl, hr1, hr2, hr3⟩ 1 (by simp) .i64
  have c0 := hb.cell 0
  have c1 := hb.cell 1
  have c2 := hb.cell 2
  simp at c0 c1 c2
  simp only [List.length_cons, List.drop_succ_cons, List.drop_zero, Nat.add_sub_cancel] at hsl hr' c0 hf ha1
  have hsl1 : ∀ W, (Instr.slice 24 (.slice A (l.length + 1) cap) (some (.int .i64 1)) none none).run Tryz.prog W = .ok (.slice A' l.length c') W := hsl
  have HB := Lib.hid hb
  have HR := Lib.hid hr'
  clear hb hr' hr1 hr2 hr3 hsl
  go_enter Tryz.func108, Tryz.ntmps108
  go_wp2_with fail
  refine hf.mono ?_
  rintro e w1 ⟨rfl, nb⟩
  have hb1 := HB.out.below nb HB.out.lt
  have k0 := hb1.cell 0
  have k1 := hb1.cell 1
  have f0 := hb1.frozen 0
  have f1 := hb1.frozen 1
  simp at k0 k1
  go_wp2_with fail
  go_ret
  have hs := (hb1.set_ 0 (.slice A' l.length c')).set_ 1 (.int .i64 (at_ + 1))
  simp at hs
  have hBw : B ≤ w.heap.size := Nat.le_trans hle (Nat.le_of_lt HB.out.lt)
  have hbl : Below B w ((w1.setCell ⟨p, 0, none⟩ (.slice A' l.length c')).setCell ⟨p, 1, none⟩ (.int .i64 (at_ + 1))) := ((nb.mono hBw).setCell (p := ⟨p, 0, none⟩) hle _).setCell (p := ⟨p, 1, none⟩) hle _
  exact ⟨rfl, ⟨⟨_, _, hs, HR.out.below hbl, by omega, by push_cast at ha1; omega⟩, hle⟩, hbl, ((Fr.of_below nb).setCell (p := ⟨p, 0, none⟩) (.inl (by simp)) _).setCell (p := ⟨p, 1, none⟩) (.inl (by simp)) _⟩
theorem readNum_any (w : World) (B p : Nat) (c : UInt8) (l : List UInt8) (m : Int) (hc : c.toNat < 128) (hm : (c.toNat : Int) ≤ m) (h : Rdr w B p (c :: l)) (hl : l.length < 1000) :
    Calls Tryz.prog 62 #[.pointer (some ⟨p, 0, none⟩), .int .i64 m] w fun e w' => e = .returned (.int .i64 (c.toNat : Nat)) ∧ Rdr w' B p l ∧ Below B w w' ∧ Fr [p] w w' := by
  have hbl : Below w.heap.size w (w.alloc (.cells #[.int .i64 m] 3)) := (Below.refl _ _).alloc (Nat.le_refl _) _
  have hr := readInt_any (w.alloc (.cells #[.int .i64 m] 3)) B p w.heap.size c l m hc hm (h.below hbl) hl (Blk.new _ _ _)
  have hBw : B ≤ w.heap.size := Nat.le_trans h.le (Nat.le_of_lt h.lt)
  go_enter Tryz.func62, Tryz.ntmps62
  go_wp2_with fail
  refine hr.mono ?_
  rintro e w1 ⟨rfl, h1, h2, h3⟩
  go_wp2_with fail
  go_ret
  exact ⟨rfl, h1, (hbl.mono hBw).trans h2, (Fr.of_below hbl).trans h3 (fun x hx => .inl hx)⟩
theorem close_any (w : World) (B p : Nat) (h : Rdr w B p []) : Calls Tryz.prog 63 #[.pointer (some ⟨p, 0, none⟩)] w fun e w' => e = .returned (.int .i64 0) ∧ w = w' := by
  obtain ⟨⟨v, at_, hb, ⟨A, cap, rfl, _⟩, _⟩, hle⟩ := h
  have c0 := hb.cell 0
  have c2 := hb.cell 2
  simp at c0 c2
  go_enter Tryz.func63, Tryz.ntmps63
  go_wp2_with fail
  go_ret
  exact ⟨rfl, rfl⟩
end Go.Proofs.YtkoomlbnfhdhcaaGreatDoor

/-
  Walks: codec's Reader: Text.
-/
namespace Go.Proofs.YtkoomlbnfhdhcaaGreatDoor
open Go.RowKit
set_option linter.unusedVariables false

set_option maxRecDepth 100000 in
set_option maxHeartbeats 4000000 in
theorem text1_any (w : World) (B bx : Nat) (v : Value) (c : UInt8) (s l : List UInt8) (m : Int) (hc : c.toNat = s.length) (hs : s.length < 100) (hm : (s.length : Int) ≤ m) (h : RdB w B v (c :: (s ++ l))) (hB : B ≤ w.heap.size) (hl : l.length < 800) (hb : Blk w bx 3 #[.int .i64 m]) :
    Calls Tryz.prog 199 #[v, .pointer (some ⟨bx, 0, none⟩)] w fun e w' => e = .returned (.tuple #[.string (strL s), .int .i64 ((s.length : Int) + 1), .int .i64 0]) ∧ Below w.heap.size w w' := by
  have hp := parse110_any w B v c (s ++ l) (by omega) h (by simp; omega)
  rw [hc] at hp
  have HB := Lib.hid hb
  obtain ⟨i5, hi, hz0, hz1, hz2⟩ := info_parts info5
  obtain ⟨A, cap, rfl, hr1, hr2, hr3⟩ := h
  obtain ⟨A', c', hsl, hr'⟩ := slice_mid (P := Tryz.prog) Tryz.underlying24 hi hz1 ⟨A, cap, rfl, hr1, hr2, hr3⟩ 1 (1 + s.length) (by omega) (by simp; omega) .i64 .i64
  have hd1 : decide (m < (s.length : Int)) = false := decide_eq_false (by omega)
  have hd2 : decide ((16777216 : Int) < (s.length : Int)) = false := decide_eq_false (by omega)
  have hd3 : decide ((s.length : Int) + (l.length : Int) < (s.length : Int)) = false := decide_eq_false (by omega)
  have hlen : (c :: (s ++ l)).length = s.length + l.length + 1 := by simp [Nat.add_assoc]
  rw [hlen] at hsl hp ⊢
  have hsl1 : ∀ W, (Instr.slice 24 (.slice A (s.length + l.length + 1) cap) (some (.int .i64 1)) (some (.int .i64 (1 + (s.length : Int)))) none).run Tryz.prog W = .ok (.slice A' s.length c') W := fun W => by
    have := hsl W
    rw [show 1 + s.length - 1 = s.length by omega] at this
    simpa using this
  rw [show 1 + s.length - 1 = s.length by omega, show ((c :: (s ++ l)).take (1 + s.length)).drop 1 = s by rw [Nat.add_comm]; simp] at hr'
  have HR := Lib.hid hr'
  clear hr1 hr2 hr3 hsl hr' hlen
  go_enter Tryz.func199, Tryz.ntmps199
  go_wp2_with fail
  refine hp.mono ?_
  rintro e w1 ⟨rfl, nb⟩
  have c1 := (HB.out.below nb HB.out.lt).cell 0
  simp at c1
  have hcv : (convert 24 9 (.slice A' s.length c')).run Tryz.prog w1 = .ok (.string (strL s)) w1 := run_convert_string Tryz.underlying24 Tryz.underlying5 Tryz.underlying9 (HR.out.below (nb.mono hB))
  go_wp2_with fail
  refine bodyPost_ret (results_tmp3 rfl _ _ _) rfl ?_
  exact ⟨by simp [Int.add_comm], nb⟩
set_option maxRecDepth 100000 in
set_option maxHeartbeats 4000000 in
theorem readStr_any (w : World) (B p bx : Nat) (c : UInt8) (s l : List UInt8) (m : Int) (hc : c.toNat = s.length) (hs : s.length < 100) (hm : (s.length : Int) ≤ m) (h : Rdr w B p (c :: (s ++ l))) (hl : l.length < 800) (hbx : Blk w bx 3 #[.int .i64 m]) :
    Calls Tryz.prog 198 #[.pointer (some ⟨p, 0, none⟩), .func (.func 199) #[] #[.pointer (some ⟨bx, 0, none⟩)]] w fun e w' => e = .returned (.string (strL s)) ∧ Rdr w' B p l ∧ Below B w w' ∧ Fr [p] w w' := by
  obtain ⟨⟨v, at_, hb, hr, ha0, ha1⟩, hle⟩ := h
  have hBw : B ≤ w.heap.size := Nat.le_trans hle (Nat.le_of_lt hb.lt)
  have hf := text1_any w B bx v c s l m hc hs hm hr hBw hl hbx
  obtain ⟨i5, hi, hz0, hz1, hz2⟩ := info_parts info5
  obtain ⟨A, cap, rfl, hr1, hr2, hr3⟩ := hr
  obtain ⟨A', c', hsl, hr'⟩ := slice_from (P := Tryz.prog) Tryz.underlying24 hi hz1 ⟨A, cap, rfl, hr1, hr2, hr3⟩ (s.length + 1) (by simp) .i64
  have c0 := hb.cell 0
  have c1 := hb.cell 1
  have c2 := hb.cell 2
  simp at c0 c1 c2
  have hlen : (c :: (s ++ l)).length = s.length + l.length + 1 := by simp [Nat.add_assoc]
  have hlen2 : (s ++ l).length + 1 = s.length + l.length + 1 := by simp [Nat.add_assoc]
  rw [show (c :: (s ++ l)).drop (s.length + 1) = l by simp, hlen, show s.length + l.length + 1 - (s.length + 1) = l.length by omega] at hr'
  rw [hlen] at hsl hf ha1
  have hsl1 : ∀ W, (Instr.slice 24 (.slice A (s.length + l.length + 1) cap) (some (.int .i64 ((s.length : Int) + 1))) none none).run Tryz.prog W = .ok (.slice A' l.length c') W := fun W => by
    have := hsl W
    rw [show s.length + l.length + 1 - (s.length + 1) = l.length by omega] at this
    simpa using this
  have c0' : w.cell? ⟨p, 0, none⟩ = some (.slice A (s.length + l.length + 1) cap) := by simpa [Nat.add_assoc] using c0
  have HB := Lib.hid hb
  have HR := Lib.hid hr'
  have HL := Lib.hid hlen
  clear hb hr' hr1 hr2 hr3 hsl c0 hlen hlen2
  go_enter Tryz.func198, Tryz.ntmps198
  go_wp2_with fail
  refine hf.mono ?_
  rintro e w1 ⟨rfl, nb⟩
  have hb1 := HB.out.below nb HB.out.lt
  rw [HL.out] at hb1
  have k0 := hb1.cell 0
  have k1 := hb1.cell 1
  have f0 := hb1.frozen 0
  have f1 := hb1.frozen 1
  simp at k0 k1
  go_wp2_with fail
  go_ret
  have hs := (hb1.set_ 0 (.slice A' l.length c')).set_ 1 (.int .i64 (at_ + (s.length + 1)))
  simp at hs
  have hbl : Below B w ((w1.setCell ⟨p, 0, none⟩ (.slice A' l.length c')).setCell ⟨p, 1, none⟩ (.int .i64 (at_ + (s.length + 1)))) := ((nb.mono hBw).setCell (p := ⟨p, 0, none⟩) hle _).setCell (p := ⟨p, 1, none⟩) hle _
  exact ⟨rfl, ⟨⟨_, _, hs, HR.out.below hbl, by omega, by push_cast at ha1; omega⟩, hle⟩, hbl, ((Fr.of_below nb).setCell (p := ⟨p, 0, none⟩) (.inl (by simp)) _).setCell (p := ⟨p, 1, none⟩) (.inl (by simp)) _⟩
theorem readText_any (w : World) (B p : Nat) (c : UInt8) (s l : List UInt8) (m : Int) (hc : c.toNat = s.length) (hs : s.length < 100) (hm : (s.length : Int) ≤ m) (h : Rdr w B p (c :: (s ++ l))) (hl : l.length < 800) :
    Calls Tryz.prog 168 #[.pointer (some ⟨p, 0, none⟩), .int .i64 m] w fun e w' => e = .returned (.string (strL s)) ∧ Rdr w' B p l ∧ Below B w w' ∧ Fr [p] w w' := by
  have hbl : Below w.heap.size w (w.alloc (.cells #[.int .i64 m] 3)) := (Below.refl _ _).alloc (Nat.le_refl _) _
  have hr := readStr_any (w.alloc (.cells #[.int .i64 m] 3)) B p w.heap.size c s l m hc hs hm (h.below hbl) hl (Blk.new _ _ _)
  have hBw : B ≤ w.heap.size := Nat.le_trans h.le (Nat.le_of_lt h.lt)
  go_enter Tryz.func168, Tryz.ntmps168
  go_wp2_with fail
  refine hr.mono ?_
  rintro e w1 ⟨rfl, h1, h2, h3⟩
  go_wp2_with fail
  go_ret
  exact ⟨rfl, h1, (hbl.mono hBw).trans h2, (Fr.of_below hbl).trans h3 (fun x hx => .inl hx)⟩
end Go.Proofs.YtkoomlbnfhdhcaaGreatDoor

/-
  Walks: Check of a process.
-/
namespace Go.Proofs.YtkoomlbnfhdhcaaGreatDoor
open Go.RowKit
set_option linter.unusedVariables false

theorem in_any (w : World) (k m : Int) (h : 0 ≤ k ∧ k ≤ m) : Calls Tryz.prog 104 #[.int .i64 k, .int .i64 m] w fun e w' => e = .returned (.bool true) ∧ w = w' := by
  obtain ⟨h1, h2⟩ := h
  go_enter Tryz.func104, Tryz.ntmps104
  go_wp2_with fail
  go_ret
  exact ⟨rfl, rfl⟩
/-- The groups that the law comes to: none, or 1 and 5. -/
def GrOk (w : World) (B : Nat) (gv : Value) (gs : List Nat) : Prop :=
  (gs = [] ∧ gv = .slice none 0 0) ∨ (gs = [1, 5] ∧ ∃ b c cur, gv = .slice (some ⟨b, 0, none⟩) 2 c ∧ Blk w b 3 cur ∧ cur[0]? = some (.int .i64 1) ∧ cur[1]? = some (.int .i64 5) ∧ b < B)
theorem GrOk.old {w : World} {B : Nat} {gv : Value} {gs : List Nat} (h : GrOk w B gv gs) : (gs = [] ∧ gv = .slice none 0 0) ∨ (gs = [1, 5] ∧ ∃ b c, gv = .slice (some ⟨b, 0, none⟩) 2 c ∧ w.cell? ⟨b, 0, none⟩ = some (.int .i64 1) ∧ w.cell? ⟨b, 1, none⟩ = some (.int .i64 5) ∧ b < B) := by
  rcases h with h | ⟨h1, b, c, cur, h2, hb, h3, h4, h5⟩
  · exact .inl h
  · exact .inr ⟨h1, b, c, h2, (hb.cell 0).trans h3, (hb.cell 1).trans h4, h5⟩
theorem GrOk.keep {w w' : World} {B : Nat} {gv : Value} {gs : List Nat} (h : GrOk w B gv gs) (hk : ∀ b cur, Blk w b 3 cur → b < B → Blk w' b 3 cur) : GrOk w' B gv gs := by
  rcases h with h | ⟨h1, b, c, cur, h2, hb, h3, h4, h5⟩
  · exact .inl h
  · exact .inr ⟨h1, b, c, cur, h2, hk b cur hb h5, h3, h4, h5⟩
theorem GrOk.below {w w' : World} {B : Nat} {gv : Value} {gs : List Nat} (h : GrOk w B gv gs) (hb : Below B w w') : GrOk w' B gv gs := h.keep fun _ _ h1 h2 => h1.below hb h2
theorem GrOk.more {w : World} {B B' : Nat} {gv : Value} {gs : List Nat} (h : GrOk w B gv gs) (hb : B ≤ B') : GrOk w B' gv gs := by
  rcases h with h | ⟨h1, b, c, cur, h2, h3, h4, h6, h5⟩
  · exact .inl h
  · exact .inr ⟨h1, b, c, cur, h2, h3, h4, h6, Nat.lt_of_lt_of_le h5 hb⟩
theorem GrOk.fr {w w' : World} {B q : Nat} {t : TypeId} {cs : Array Value} {gv : Value} {gs : List Nat} (h : GrOk w B gv gs) (hf : Fr [q] w w') (hq : Blk w q t cs) (ht : t ≠ 3) : GrOk w' B gv gs :=
  h.keep fun b cur h1 _ => h1.fr hf (by have := h1.ne_ hq (fun e => ht e.symm); simpa using this)
set_option maxRecDepth 100000 in
set_option maxHeartbeats 4000000 in
theorem checkGroups_any (w : World) (B : Nat) (gv : Value) (gs : List Nat) (h : GrOk w B gv gs) : Calls Tryz.prog 58 #[gv] w fun e w' => e = .returned (.int .i64 0) ∧ Below w.heap.size w w' := by
  rcases h.old with ⟨rfl, rfl⟩ | ⟨rfl, b, c, rfl, c0, c1, hb⟩
  · go_enter Tryz.func58, Tryz.ntmps58
    go_wp2_with fail
    go_loopg [11] 0 (fun q iv wr => q = 0 ∧ iv = .int .i64 0 ∧ wr = w)
    case atStart => exact ⟨rfl, rfl, rfl⟩
    case round =>
      obtain ⟨rfl, rfl, rfl⟩ := hrel
      go_wp2_with fail
      go_loopg [5] 0 (fun q iv wr' => q = 0 ∧ iv = .int .i64 1 ∧ wr' = wr)
      case atStart => exact ⟨rfl, rfl, rfl⟩
      case round =>
        obtain ⟨rfl, rfl, rfl⟩ := hrel
        go_wp2_with fail
        go_ret
        exact ⟨rfl, Below.refl _ _⟩
  · have hi1 := fun W => in_any W 1 65535 (by omega)
    have hi5 := fun W => in_any W 5 65535 (by omega)
    go_enter Tryz.func58, Tryz.ntmps58
    go_wp2_with fail
    go_loopg [11] 2 (fun q iv wr => ((q = 2 ∧ iv = .int .i64 0) ∨ (q = 1 ∧ iv = .int .i64 1) ∨ (q = 0 ∧ iv = .int .i64 2)) ∧ wr = w)
    case atStart => exact ⟨.inl ⟨rfl, rfl⟩, rfl⟩
    case round =>
      obtain ⟨⟨rfl, rfl⟩ | ⟨rfl, rfl⟩ | ⟨rfl, rfl⟩, rfl⟩ := hrel
      · go_wp2_with fail
        refine (hi1 wr).mono ?_
        rintro e w' ⟨rfl, rfl⟩
        go_wp2_with fail
        go_roundg 1
        case measure => omega
        case rel => exact ⟨.inr (.inl ⟨rfl, by go_num⟩), rfl⟩
      · go_wp2_with fail
        refine (hi5 wr).mono ?_
        rintro e w' ⟨rfl, rfl⟩
        go_wp2_with fail
        go_roundg 0
        case measure => omega
        case rel => exact ⟨.inr (.inr ⟨rfl, by go_num⟩), rfl⟩
      · go_wp2_with fail
        go_loopg [5] 1 (fun q iv wr' => (q = 1 ∧ iv = .int .i64 1 ∧ wr' = wr) ∨ (q = 0 ∧ iv = .int .i64 2 ∧ Below wr.heap.size wr wr'))
        case atStart => exact .inl ⟨rfl, rfl, rfl⟩
        case round =>
          obtain ⟨rfl, rfl, rfl⟩ | ⟨rfl, rfl, nb⟩ := hrel
          · go_wp2_with fail
            refine wp_region_mix (fun W => W.cell? ⟨b, 0, none⟩ = some (.int .i64 1) ∧ W.cell? ⟨b, 1, none⟩ = some (.int .i64 5)) [0, 1, 2, 3, 4, 5, 6, 7, 8, 9] [] [0, 1, 2, 3, 4, 5, 6, 7, 8, 9] (by kernel_rfl) (by kernel_rfl) ⟨c0, c1⟩ ?_
            simp only [inOrder, opAt]
            have hw0 : IntKind.i64.wrap 0 = 0 := by decide
            iterate 10
              (refine wpMix_read (v := ?_) rfl rfl (fun w' hS => ?_) ?_
               rotate_left
               · (obtain ⟨d0, d1⟩ := hS rfl; go_simp; (try with_reducible rfl))
               try simp only [Act.put, List.setIfInBounds_toArray, List.set_cons_zero, List.set_cons_succ])
            refine wpMix_nil ?_
            go_wp2_with fail
            go_roundg 0
            case measure => omega
            case rel => exact .inr ⟨rfl, by go_num, (Below.refl _ _).drew⟩
          · go_wp2_with fail
            go_ret
            exact ⟨rfl, nb⟩
/-- A process: its state, its code, its user, its groups, the process whose memory it uses, its pages, its terminal. -/
structure Pr where
  st : Nat
  code : Nat
  user : Nat
  gs : List Nat
  sp : List UInt8
  pages : Nat
  term : Nat
def prCells (p : Pr) (gv : Value) : Array Value := #[.int .i64 1, .int .i64 (p.st : Int), .int .i64 (p.code : Int), .int .i64 0, .int .i64 (p.user : Int), gv, .string (strL p.sp), .int .i64 (p.pages : Int), .string (strL []), .int .i64 0, .int .i64 (p.term : Int)]
def prV (p : Pr) (gv : Value) : Value := .agg (prCells p gv)
structure PrOk (p : Pr) : Prop where
  st : 1 ≤ p.st ∧ p.st ≤ 3
  code : p.code < 128
  run : p.st = 1 → p.code = 0
  user : p.user < 128
  sp : Who p.sp
  pages : p.pages ≤ 64
  term : p.term ≤ 99
theorem info40 : (Tryz.prog.info? 40).map (·.size) = some 11 := by kernel_rfl
theorem info38 : (Tryz.prog.info? 38).map (·.size) = some 2 := by kernel_rfl
set_option maxRecDepth 100000 in
set_option maxHeartbeats 4000000 in
theorem inRange_any (w : World) (p : Pr) (gv : Value) (h : PrOk p) : Calls Tryz.prog 57 #[prV p gv] w fun e w' => e = .returned (.bool true) ∧ Below w.heap.size w w' := by
  obtain ⟨st, code, user, gs, sp, pages, term⟩ := p
  obtain ⟨⟨h1, h2⟩, h3, h4, h5, h6, h7, h8⟩ := h
  dsimp only at h1 h2 h3 h4 h5 h6 h7 h8
  have i1 := fun W => in_any W code 410 (by omega)
  have i2 := fun W => in_any W 0 1073741824 (by omega)
  have i3 := fun W => in_any W user 65535 (by omega)
  have i4 := fun W => in_any W pages 64 (by omega)
  have i5 := fun W => in_any W term 99 (by omega)
  unfold prV prCells
  dsimp only
  by_cases hs : st = 1
  · obtain rfl := h4 hs
    subst hs
    clear h4 h6
    go_enter Tryz.func57, Tryz.ntmps57
    go_wp2_with fail
    refine (i1 _).mono ?_
    rintro e w' ⟨rfl, rfl⟩
    go_wp2_with fail
    refine (i2 _).mono ?_
    rintro e w' ⟨rfl, rfl⟩
    go_wp2_with fail
    refine (i3 _).mono ?_
    rintro e w' ⟨rfl, rfl⟩
    go_wp2_with fail
    refine (i4 _).mono ?_
    rintro e w' ⟨rfl, rfl⟩
    go_wp2_with fail
    refine (i5 _).mono ?_
    rintro e w' ⟨rfl, rfl⟩
    go_wp2_with fail
    go_ret
    exact ⟨rfl, (Below.refl _ _).alloc (Nat.le_refl _) _⟩
  · have hn : ((st : Int) != 1) = true := by simp; omega
    have hn2 : ¬ ((st : Int) = 1) := by omega
    clear h4 h6
    go_enter Tryz.func57, Tryz.ntmps57
    go_wp2_with fail
    refine (i1 _).mono ?_
    rintro e w' ⟨rfl, rfl⟩
    go_wp2_with fail
    refine (i2 _).mono ?_
    rintro e w' ⟨rfl, rfl⟩
    go_wp2_with fail
    refine (i3 _).mono ?_
    rintro e w' ⟨rfl, rfl⟩
    go_wp2_with fail
    refine (i4 _).mono ?_
    rintro e w' ⟨rfl, rfl⟩
    go_wp2_with fail
    refine (i5 _).mono ?_
    rintro e w' ⟨rfl, rfl⟩
    go_wp2_with fail
    go_ret
    exact ⟨rfl, (Below.refl _ _).alloc (Nat.le_refl _) _⟩
set_option maxRecDepth 100000 in
set_option maxHeartbeats 4000000 in
theorem prCheck_any (w : World) (B : Nat) (p : Pr) (gv : Value) (h : PrOk p) (hg : GrOk w B gv p.gs) (hB : B ≤ w.heap.size) : Calls Tryz.prog 22 #[prV p gv] w fun e w' => e = .returned (.int .i64 0) ∧ Below w.heap.size w w' := by
  have hr := fun W => inRange_any W p gv h
  have hv := fun W => validW p.sp h.sp W
  have hbc := fun W => birthCheck_any W
  obtain ⟨st, code, user, gs, sp, pages, term⟩ := p
  obtain ⟨⟨h1, h2⟩, h3, h4, h5, h6, h7, h8⟩ := h
  dsimp only at h1 h2 h3 h4 h5 h6 h7 h8 hv hg
  unfold prV prCells at *
  dsimp only at hr ⊢
  obtain ⟨nc, hnc⟩ : ∃ nc : Array Value, nc = #[.int .i64 1, .int .i64 (st : Int), .int .i64 (code : Int), .int .i64 0, .int .i64 (user : Int), gv, .string (strL sp), .int .i64 (pages : Int), .string (strL []), .int .i64 0, .int .i64 (term : Int)] := ⟨_, rfl⟩
  have HN := Lib.hid (Blk.new w 40 nc)
  have HB0 := Lib.hid ((Below.refl w.heap.size w).alloc (Nat.le_refl _) (.cells nc 40))
  have HG := Lib.hid (hg.below (HB0.out.mono hB))
  rw [hnc] at HN HB0 HG
  clear hnc hg
  have s1 : ¬ ((st : Int) < 1) := by omega
  have s2 : ¬ ((3 : Int) < st) := by omega
  have d1 : decide ((st : Int) < 1) = false := decide_eq_false s1
  have d2 : decide ((3 : Int) < (st : Int)) = false := decide_eq_false s2
  clear h4 h6 s1 s2
  go_enter Tryz.func22, Tryz.ntmps22
  go_wp2_with (refine wpList_load_blk rfl 40 (.tmp 1) rfl w.heap.size rfl HN.out _ Tryz.underlying40 rfl info40 ?_)
  refine (hr _).mono ?_
  rintro e w1 ⟨rfl, nb1⟩
  have HN1 := Lib.hid (HN.out.below nb1 HN.out.lt)
  have HB1 := Lib.hid (HB0.out.trans (nb1.mono HB0.out.size))
  have HG1 := Lib.hid (HG.out.below (nb1.mono (Nat.le_trans hB HB0.out.size)))
  have c5 := HN1.out.cell 5
  simp at c5
  clear nb1 HN HB0 HG
  go_wp2_with fail
  refine (checkGroups_any w1 B gv gs HG1.out).mono ?_
  rintro e w2 ⟨rfl, nb2⟩
  have HN2 := Lib.hid (HN1.out.below nb2 HN1.out.lt)
  have HB2 := Lib.hid (HB1.out.trans (nb2.mono HB1.out.size))
  have c6 := HN2.out.cell 6
  simp at c6
  clear nb2 HN1 HB1 HG1 c5
  go_wp2_with fail
  refine (hv _).mono ?_
  rintro e w3 ⟨rfl, nb3⟩
  have HN3 := Lib.hid (HN2.out.below nb3 HN2.out.lt)
  have HB3 := Lib.hid (HB2.out.trans (nb3.mono HB2.out.size))
  have c8 := HN3.out.cell 8
  have c9 := HN3.out.cell 9
  simp at c8 c9
  clear nb3 HN2 HB2 c6
  go_wp2_with fail
  refine (hbc _).mono ?_
  rintro e w4 ⟨rfl, nb4⟩
  go_wp2_with fail
  go_ret
  exact ⟨rfl, HB3.out.trans (nb4.mono HB3.out.size)⟩
end Go.Proofs.YtkoomlbnfhdhcaaGreatDoor

/-
  Walks: Encode of a process.
-/
namespace Go.Proofs.YtkoomlbnfhdhcaaGreatDoor
open Go.RowKit
set_option linter.unusedVariables false

/-- The bytes of a process. -/
def prEnc (p : Pr) : List UInt8 := [1, UInt8.ofNat p.st, UInt8.ofNat p.code, 0, UInt8.ofNat p.user, UInt8.ofNat p.gs.length] ++ (p.gs.map UInt8.ofNat ++ (UInt8.ofNat p.sp.length :: (p.sp ++ [UInt8.ofNat p.pages, 0, 0, UInt8.ofNat p.term])))
theorem Wr.below {w w' : World} {B p : Nat} {l : List UInt8} (h : Wr w B p l) (hb : Below w.heap.size w w') : Wr w' B p l := by
  obtain ⟨⟨v, h1, h2⟩, h3⟩ := h
  refine ⟨⟨v, h1.below hb h1.lt, own_fr (L := []) h2 (Fr.of_below hb) (fun g hg => List.not_mem_nil)⟩, h3⟩
set_option maxRecDepth 100000 in
set_option maxHeartbeats 8000000 in
theorem prEncode0 (w : World) (B : Nat) (st code user pages term : Nat) (sp : List UInt8) (h : PrOk ⟨st, code, user, [], sp, pages, term⟩) (hB : B ≤ w.heap.size) :
    Calls Tryz.prog 64 #[prV ⟨st, code, user, [], sp, pages, term⟩ (.slice none 0 0)] w fun e w' => e = .returned (.tuple #[.string (strL (prEnc ⟨st, code, user, [], sp, pages, term⟩)), .int .i64 0]) ∧ Below w.heap.size w w' := by
  have hspl : sp.length < 4 := by
    rcases h.sp with e | e | e <;> rw [show sp = _ from e] <;> decide
  obtain ⟨⟨h1, h2⟩, h3, h4, h5, h6, h7, h8⟩ := id h
  dsimp only at h1 h2 h3 h4 h5 h6 h7 h8
  have hck := fun W (hg : GrOk W B (.slice none 0 0) []) (hBW : B ≤ W.heap.size) => prCheck_any W B _ (.slice none 0 0) h hg hBW
  unfold prV prCells at *
  dsimp only at hck ⊢
  obtain ⟨nc, hnc⟩ : ∃ nc : Array Value, nc = #[.int .i64 1, .int .i64 (st : Int), .int .i64 (code : Int), .int .i64 0, .int .i64 (user : Int), (.slice none 0 0), .string (strL sp), .int .i64 (pages : Int), .string (strL []), .int .i64 0, .int .i64 (term : Int)] := ⟨_, rfl⟩
  have HNC := Lib.hid hnc
  have HN := Lib.hid (Blk.new w 40 nc)
  have HB0 := Lib.hid ((Below.refl w.heap.size w).alloc (Nat.le_refl _) (.cells nc 40))
  have hck1 := hck (w.alloc (.cells nc 40)) (.inl ⟨rfl, rfl⟩) (by simp; omega)
  rw [hnc] at HN HB0 hck1
  clear hnc hck h
  go_enter Tryz.func64, Tryz.ntmps64
  go_wp2_with (refine wpList_load_blk rfl 40 (.tmp 1) rfl w.heap.size rfl HN.out _ Tryz.underlying40 rfl info40 ?_)
  refine hck1.mono ?_
  rintro e w1 ⟨rfl, nb1⟩
  clear hck1
  have HN1 := Lib.hid (HN.out.below nb1 HN.out.lt)
  have HB1 := Lib.hid (HB0.out.trans (nb1.mono HB0.out.size))
  clear nb1 HN HB0
  go_wp2_with fail
  refine (newWriter_any w1).mono ?_
  rintro e w2 ⟨rfl, HW, nb2⟩
  obtain ⟨P, hP⟩ : ∃ P, P = w1.heap.size := ⟨_, rfl⟩
  rw [← hP] at HW nb2
  unfold ptrV
  simp only [Option.map_some]
  rw [← hP]
  have HNP : Hid (w.heap.size < P) := Lib.hid (by rw [hP]; exact HN1.out.lt)
  have HN2 := Lib.hid (HN1.out.below nb2 HNP.out)
  have HB2 : Hid (Below w.heap.size w w2) := Lib.hid (HB1.out.trans (nb2.mono (Nat.le_of_lt HNP.out)))
  have HW2 := Lib.hid HW
  have HS2 : Hid (P ≤ w2.heap.size) := Lib.hid (Nat.le_of_lt HW.lt)
  clear HW nb2 HN1 HB1 hP
  have c2 := HN2.out.cell 0
  simp at c2
  go_wp2_with fail
  refine (number_any w2 P P _ 1 (by omega) HW2.out (by simp <;> omega) HS2.out).mono ?_
  rintro e w3 ⟨⟨r3, rfl⟩, hw, nb⟩
  have HW3 := Lib.hid hw
  have HN3 := Lib.hid (HN2.out.below nb HNP.out)
  have HB3 : Hid (Below w.heap.size w w3) := Lib.hid (HB2.out.trans (nb.mono (Nat.le_of_lt HNP.out)))
  have HS3 : Hid (P ≤ w3.heap.size) := Lib.hid (Nat.le_of_lt hw.lt)
  clear hw nb HW2 HN2 HB2 HS2 c2
  have c3 := HN3.out.cell 1
  simp at c3
  go_wp2_with fail
  refine (number_any w3 P P _ st (by omega) HW3.out (by simp <;> omega) HS3.out).mono ?_
  rintro e w4 ⟨⟨r4, rfl⟩, hw, nb⟩
  have HW4 := Lib.hid hw
  have HN4 := Lib.hid (HN3.out.below nb HNP.out)
  have HB4 : Hid (Below w.heap.size w w4) := Lib.hid (HB3.out.trans (nb.mono (Nat.le_of_lt HNP.out)))
  have HS4 : Hid (P ≤ w4.heap.size) := Lib.hid (Nat.le_of_lt hw.lt)
  clear hw nb HW3 HN3 HB3 HS3 c3
  have c4 := HN4.out.cell 2
  simp at c4
  go_wp2_with fail
  refine (number_any w4 P P _ code (by omega) HW4.out (by simp <;> omega) HS4.out).mono ?_
  rintro e w5 ⟨⟨r5, rfl⟩, hw, nb⟩
  have HW5 := Lib.hid hw
  have HN5 := Lib.hid (HN4.out.below nb HNP.out)
  have HB5 : Hid (Below w.heap.size w w5) := Lib.hid (HB4.out.trans (nb.mono (Nat.le_of_lt HNP.out)))
  have HS5 : Hid (P ≤ w5.heap.size) := Lib.hid (Nat.le_of_lt hw.lt)
  clear hw nb HW4 HN4 HB4 HS4 c4
  have c5 := HN5.out.cell 3
  simp at c5
  go_wp2_with fail
  refine (number_any w5 P P _ 0 (by omega) HW5.out (by simp <;> omega) HS5.out).mono ?_
  rintro e w6 ⟨⟨r6, rfl⟩, hw, nb⟩
  have HW6 := Lib.hid hw
  have HN6 := Lib.hid (HN5.out.below nb HNP.out)
  have HB6 : Hid (Below w.heap.size w w6) := Lib.hid (HB5.out.trans (nb.mono (Nat.le_of_lt HNP.out)))
  have HS6 : Hid (P ≤ w6.heap.size) := Lib.hid (Nat.le_of_lt hw.lt)
  clear hw nb HW5 HN5 HB5 HS5 c5
  have c6 := HN6.out.cell 4
  simp at c6
  go_wp2_with fail
  refine (number_any w6 P P _ user (by omega) HW6.out (by simp <;> omega) HS6.out).mono ?_
  rintro e w7 ⟨⟨r7, rfl⟩, hw, nb⟩
  have HW7 := Lib.hid hw
  have HN7 := Lib.hid (HN6.out.below nb HNP.out)
  have HB7 : Hid (Below w.heap.size w w7) := Lib.hid (HB6.out.trans (nb.mono (Nat.le_of_lt HNP.out)))
  have HS7 : Hid (P ≤ w7.heap.size) := Lib.hid (Nat.le_of_lt hw.lt)
  clear hw nb HW6 HN6 HB6 HS6 c6
  have c7 := HN7.out.cell 5
  simp at c7
  go_wp2_with fail
  refine (number_any w7 P P _ 0 (by omega) HW7.out (by simp <;> omega) HS7.out).mono ?_
  rintro e w8 ⟨⟨r8, rfl⟩, hw, nb⟩
  have HW8 := Lib.hid hw
  have HN8 := Lib.hid (HN7.out.below nb HNP.out)
  have HB8 : Hid (Below w.heap.size w w8) := Lib.hid (HB7.out.trans (nb.mono (Nat.le_of_lt HNP.out)))
  have HS8 : Hid (P ≤ w8.heap.size) := Lib.hid (Nat.le_of_lt hw.lt)
  clear hw nb HW7 HN7 HB7 HS7 c7
  have c8 := HN8.out.cell 5
  simp at c8
  go_wp2_with fail
  clear c8
  go_loopg [47] 0 (fun q iv wr => q = 0 ∧ iv = .int .i64 0 ∧ w8 = wr)
  case atStart => exact ⟨rfl, rfl, rfl⟩
  case round =>
    obtain ⟨rfl, rfl, rfl⟩ := hrel
    have c8 := HN8.out.cell 6
    simp at c8
    go_wp2_with fail
    refine (text_any w8 P P _ sp (by omega) HW8.out (by simp <;> omega) HS8.out).mono ?_
    rintro e w9 ⟨⟨r9, rfl⟩, hw, nb⟩
    have HW9 := Lib.hid hw
    have HN9 := Lib.hid (HN8.out.below nb HNP.out)
    have HB9 : Hid (Below w.heap.size w w9) := Lib.hid (HB8.out.trans (nb.mono (Nat.le_of_lt HNP.out)))
    have HS9 : Hid (P ≤ w9.heap.size) := Lib.hid (Nat.le_of_lt hw.lt)
    clear hw nb HW8 HN8 HB8 HS8 c8
    have c9 := HN9.out.cell 7
    simp at c9
    go_wp2_with fail
    refine (number_any w9 P P _ pages (by omega) HW9.out (by simp <;> omega) HS9.out).mono ?_
    rintro e w10 ⟨⟨r10, rfl⟩, hw, nb⟩
    have HW10 := Lib.hid hw
    have HN10 := Lib.hid (HN9.out.below nb HNP.out)
    have HB10 : Hid (Below w.heap.size w w10) := Lib.hid (HB9.out.trans (nb.mono (Nat.le_of_lt HNP.out)))
    have HS10 : Hid (P ≤ w10.heap.size) := Lib.hid (Nat.le_of_lt hw.lt)
    clear hw nb HW9 HN9 HB9 HS9 c9
    have c10 := HN10.out.cell 8
    simp at c10
    go_wp2_with fail
    refine (text_any w10 P P _ [] (by simp) HW10.out (by simp <;> omega) HS10.out).mono ?_
    rintro e w11 ⟨⟨r11, rfl⟩, hw, nb⟩
    have HW11 := Lib.hid hw
    have HN11 := Lib.hid (HN10.out.below nb HNP.out)
    have HB11 : Hid (Below w.heap.size w w11) := Lib.hid (HB10.out.trans (nb.mono (Nat.le_of_lt HNP.out)))
    have HS11 : Hid (P ≤ w11.heap.size) := Lib.hid (Nat.le_of_lt hw.lt)
    clear hw nb HW10 HN10 HB10 HS10 c10
    have c11 := HN11.out.cell 9
    simp at c11
    go_wp2_with fail
    refine (number_any w11 P P _ 0 (by omega) HW11.out (by simp <;> omega) HS11.out).mono ?_
    rintro e w12 ⟨⟨r12, rfl⟩, hw, nb⟩
    have HW12 := Lib.hid hw
    have HN12 := Lib.hid (HN11.out.below nb HNP.out)
    have HB12 : Hid (Below w.heap.size w w12) := Lib.hid (HB11.out.trans (nb.mono (Nat.le_of_lt HNP.out)))
    have HS12 : Hid (P ≤ w12.heap.size) := Lib.hid (Nat.le_of_lt hw.lt)
    clear hw nb HW11 HN11 HB11 HS11 c11
    have c12 := HN12.out.cell 10
    simp at c12
    go_wp2_with fail
    refine (number_any w12 P P _ term (by omega) HW12.out (by simp <;> omega) HS12.out).mono ?_
    rintro e w13 ⟨⟨r13, rfl⟩, hw, nb⟩
    have HW13 := Lib.hid hw
    have HN13 := Lib.hid (HN12.out.below nb HNP.out)
    have HB13 : Hid (Below w.heap.size w w13) := Lib.hid (HB12.out.trans (nb.mono (Nat.le_of_lt HNP.out)))
    have HS13 : Hid (P ≤ w13.heap.size) := Lib.hid (Nat.le_of_lt hw.lt)
    clear hw nb HW12 HN12 HB12 HS12 c12
    obtain ⟨L, hL, hwL⟩ : ∃ L, L = prEnc ⟨st, code, user, [], sp, pages, term⟩ ∧ Wr w13 P P L := ⟨_, rfl, by have := HW13.out; simpa [prEnc] using this⟩
    have hLl : L.length ≤ 4000000 := by rw [hL]; simp [prEnc]; omega
    have HL := Lib.hid hL
    clear hL
    go_wp2_with fail
    refine (bytes_any w13 P P L hwL hLl).mono ?_
    rintro e w14 ⟨v2, rfl, hown, nb⟩
    obtain ⟨OA, oc, rfl⟩ := own_slice hown
    have hcv : (convert 24 9 (.slice OA L.length oc)).run Tryz.prog w14 = .ok (.string (strL L)) w14 := run_convert_string Tryz.underlying24 Tryz.underlying5 Tryz.underlying9 (RdB.of_own hown rfl)
    go_wp2_with fail
    refine bodyPost_ret (results_tmp2 rfl _ _ _) rfl ?_
    exact ⟨by rw [← HL.out]; rfl, HB13.out.trans (nb.mono HB13.out.size)⟩
set_option maxRecDepth 100000 in
set_option maxHeartbeats 8000000 in
theorem prEncode2 (w : World) (B : Nat) (st code user pages term : Nat) (sp : List UInt8) (b c : Nat) (h : PrOk ⟨st, code, user, [1, 5], sp, pages, term⟩) (g0 : w.cell? ⟨b, 0, none⟩ = some (.int .i64 1)) (g1 : w.cell? ⟨b, 1, none⟩ = some (.int .i64 5)) (gb : b < B) (hgr : GrOk w B (.slice (some ⟨b, 0, none⟩) 2 c) [1, 5]) (hB : B ≤ w.heap.size) :
    Calls Tryz.prog 64 #[prV ⟨st, code, user, [1, 5], sp, pages, term⟩ (.slice (some ⟨b, 0, none⟩) 2 c)] w fun e w' => e = .returned (.tuple #[.string (strL (prEnc ⟨st, code, user, [1, 5], sp, pages, term⟩)), .int .i64 0]) ∧ Below w.heap.size w w' := by
  have hspl : sp.length < 4 := by
    rcases h.sp with e | e | e <;> rw [show sp = _ from e] <;> decide
  obtain ⟨⟨h1, h2⟩, h3, h4, h5, h6, h7, h8⟩ := id h
  dsimp only at h1 h2 h3 h4 h5 h6 h7 h8
  have hck := fun W (hg : GrOk W B (.slice (some ⟨b, 0, none⟩) 2 c) [1, 5]) (hBW : B ≤ W.heap.size) => prCheck_any W B _ (.slice (some ⟨b, 0, none⟩) 2 c) h hg hBW
  unfold prV prCells at *
  dsimp only at hck ⊢
  obtain ⟨nc, hnc⟩ : ∃ nc : Array Value, nc = #[.int .i64 1, .int .i64 (st : Int), .int .i64 (code : Int), .int .i64 0, .int .i64 (user : Int), (.slice (some ⟨b, 0, none⟩) 2 c), .string (strL sp), .int .i64 (pages : Int), .string (strL []), .int .i64 0, .int .i64 (term : Int)] := ⟨_, rfl⟩
  have HNC := Lib.hid hnc
  have HN := Lib.hid (Blk.new w 40 nc)
  have HB0 := Lib.hid ((Below.refl w.heap.size w).alloc (Nat.le_refl _) (.cells nc 40))
  have HGG : Hid ((w.alloc (.cells nc 40)).cell? ⟨b, 0, none⟩ = some (.int .i64 1) ∧ (w.alloc (.cells nc 40)).cell? ⟨b, 1, none⟩ = some (.int .i64 5)) := Lib.hid ⟨(HB0.out.cell (p := ⟨b, 0, none⟩) (Nat.lt_of_lt_of_le gb hB)).trans g0, (HB0.out.cell (p := ⟨b, 1, none⟩) (Nat.lt_of_lt_of_le gb hB)).trans g1⟩
  have HGB : Hid (b < w.heap.size) := Lib.hid (Nat.lt_of_lt_of_le gb hB)
  have hck1 := hck (w.alloc (.cells nc 40)) (hgr.below (HB0.out.mono hB)) (by simp; omega)
  rw [hnc] at HN HB0 HGG hck1
  clear hnc hck h g0 g1 hgr
  go_enter Tryz.func64, Tryz.ntmps64
  go_wp2_with (refine wpList_load_blk rfl 40 (.tmp 1) rfl w.heap.size rfl HN.out _ Tryz.underlying40 rfl info40 ?_)
  refine hck1.mono ?_
  rintro e w1 ⟨rfl, nb1⟩
  clear hck1
  have HN1 := Lib.hid (HN.out.below nb1 HN.out.lt)
  have HB1 := Lib.hid (HB0.out.trans (nb1.mono HB0.out.size))
  have hgg := HGG.out
  have zz := HB0.out.size
  have HG1 : Hid (w1.cell? ⟨b, 0, none⟩ = some (.int .i64 1) ∧ w1.cell? ⟨b, 1, none⟩ = some (.int .i64 5)) := Lib.hid ⟨(nb1.cell (p := ⟨b, 0, none⟩) (Nat.lt_of_lt_of_le HGB.out zz)).trans hgg.1, (nb1.cell (p := ⟨b, 1, none⟩) (Nat.lt_of_lt_of_le HGB.out zz)).trans hgg.2⟩
  clear hgg zz HGG
  clear nb1 HN HB0
  go_wp2_with fail
  refine (newWriter_any w1).mono ?_
  rintro e w2 ⟨rfl, HW, nb2⟩
  obtain ⟨P, hP⟩ : ∃ P, P = w1.heap.size := ⟨_, rfl⟩
  rw [← hP] at HW nb2
  unfold ptrV
  simp only [Option.map_some]
  rw [← hP]
  have HNP : Hid (w.heap.size < P) := Lib.hid (by rw [hP]; exact HN1.out.lt)
  have HN2 := Lib.hid (HN1.out.below nb2 HNP.out)
  have HB2 : Hid (Below w.heap.size w w2) := Lib.hid (HB1.out.trans (nb2.mono (Nat.le_of_lt HNP.out)))
  have HW2 := Lib.hid HW
  have HS2 : Hid (P ≤ w2.heap.size) := Lib.hid (Nat.le_of_lt HW.lt)
  have HG2 : Hid (w2.cell? ⟨b, 0, none⟩ = some (.int .i64 1) ∧ w2.cell? ⟨b, 1, none⟩ = some (.int .i64 5)) := Lib.hid ⟨(nb2.cell (p := ⟨b, 0, none⟩) (Nat.lt_trans HGB.out HNP.out)).trans HG1.out.1, (nb2.cell (p := ⟨b, 1, none⟩) (Nat.lt_trans HGB.out HNP.out)).trans HG1.out.2⟩
  clear HG1
  clear HW nb2 HN1 HB1 hP
  have c2 := HN2.out.cell 0
  simp at c2
  go_wp2_with fail
  refine (number_any w2 P P _ 1 (by omega) HW2.out (by simp <;> omega) HS2.out).mono ?_
  rintro e w3 ⟨⟨r3, rfl⟩, hw, nb⟩
  have HW3 := Lib.hid hw
  have HN3 := Lib.hid (HN2.out.below nb HNP.out)
  have HB3 : Hid (Below w.heap.size w w3) := Lib.hid (HB2.out.trans (nb.mono (Nat.le_of_lt HNP.out)))
  have HS3 : Hid (P ≤ w3.heap.size) := Lib.hid (Nat.le_of_lt hw.lt)
  have HG3 : Hid (w3.cell? ⟨b, 0, none⟩ = some (.int .i64 1) ∧ w3.cell? ⟨b, 1, none⟩ = some (.int .i64 5)) := Lib.hid ⟨(nb.cell (p := ⟨b, 0, none⟩) (Nat.lt_trans HGB.out HNP.out)).trans HG2.out.1, (nb.cell (p := ⟨b, 1, none⟩) (Nat.lt_trans HGB.out HNP.out)).trans HG2.out.2⟩
  clear hw nb HW2 HN2 HB2 HS2 HG2 c2
  have c3 := HN3.out.cell 1
  simp at c3
  go_wp2_with fail
  refine (number_any w3 P P _ st (by omega) HW3.out (by simp <;> omega) HS3.out).mono ?_
  rintro e w4 ⟨⟨r4, rfl⟩, hw, nb⟩
  have HW4 := Lib.hid hw
  have HN4 := Lib.hid (HN3.out.below nb HNP.out)
  have HB4 : Hid (Below w.heap.size w w4) := Lib.hid (HB3.out.trans (nb.mono (Nat.le_of_lt HNP.out)))
  have HS4 : Hid (P ≤ w4.heap.size) := Lib.hid (Nat.le_of_lt hw.lt)
  have HG4 : Hid (w4.cell? ⟨b, 0, none⟩ = some (.int .i64 1) ∧ w4.cell? ⟨b, 1, none⟩ = some (.int .i64 5)) := Lib.hid ⟨(nb.cell (p := ⟨b, 0, none⟩) (Nat.lt_trans HGB.out HNP.out)).trans HG3.out.1, (nb.cell (p := ⟨b, 1, none⟩) (Nat.lt_trans HGB.out HNP.out)).trans HG3.out.2⟩
  clear hw nb HW3 HN3 HB3 HS3 HG3 c3
  have c4 := HN4.out.cell 2
  simp at c4
  go_wp2_with fail
  refine (number_any w4 P P _ code (by omega) HW4.out (by simp <;> omega) HS4.out).mono ?_
  rintro e w5 ⟨⟨r5, rfl⟩, hw, nb⟩
  have HW5 := Lib.hid hw
  have HN5 := Lib.hid (HN4.out.below nb HNP.out)
  have HB5 : Hid (Below w.heap.size w w5) := Lib.hid (HB4.out.trans (nb.mono (Nat.le_of_lt HNP.out)))
  have HS5 : Hid (P ≤ w5.heap.size) := Lib.hid (Nat.le_of_lt hw.lt)
  have HG5 : Hid (w5.cell? ⟨b, 0, none⟩ = some (.int .i64 1) ∧ w5.cell? ⟨b, 1, none⟩ = some (.int .i64 5)) := Lib.hid ⟨(nb.cell (p := ⟨b, 0, none⟩) (Nat.lt_trans HGB.out HNP.out)).trans HG4.out.1, (nb.cell (p := ⟨b, 1, none⟩) (Nat.lt_trans HGB.out HNP.out)).trans HG4.out.2⟩
  clear hw nb HW4 HN4 HB4 HS4 HG4 c4
  have c5 := HN5.out.cell 3
  simp at c5
  go_wp2_with fail
  refine (number_any w5 P P _ 0 (by omega) HW5.out (by simp <;> omega) HS5.out).mono ?_
  rintro e w6 ⟨⟨r6, rfl⟩, hw, nb⟩
  have HW6 := Lib.hid hw
  have HN6 := Lib.hid (HN5.out.below nb HNP.out)
  have HB6 : Hid (Below w.heap.size w w6) := Lib.hid (HB5.out.trans (nb.mono (Nat.le_of_lt HNP.out)))
  have HS6 : Hid (P ≤ w6.heap.size) := Lib.hid (Nat.le_of_lt hw.lt)
  have HG6 : Hid (w6.cell? ⟨b, 0, none⟩ = some (.int .i64 1) ∧ w6.cell? ⟨b, 1, none⟩ = some (.int .i64 5)) := Lib.hid ⟨(nb.cell (p := ⟨b, 0, none⟩) (Nat.lt_trans HGB.out HNP.out)).trans HG5.out.1, (nb.cell (p := ⟨b, 1, none⟩) (Nat.lt_trans HGB.out HNP.out)).trans HG5.out.2⟩
  clear hw nb HW5 HN5 HB5 HS5 HG5 c5
  have c6 := HN6.out.cell 4
  simp at c6
  go_wp2_with fail
  refine (number_any w6 P P _ user (by omega) HW6.out (by simp <;> omega) HS6.out).mono ?_
  rintro e w7 ⟨⟨r7, rfl⟩, hw, nb⟩
  have HW7 := Lib.hid hw
  have HN7 := Lib.hid (HN6.out.below nb HNP.out)
  have HB7 : Hid (Below w.heap.size w w7) := Lib.hid (HB6.out.trans (nb.mono (Nat.le_of_lt HNP.out)))
  have HS7 : Hid (P ≤ w7.heap.size) := Lib.hid (Nat.le_of_lt hw.lt)
  have HG7 : Hid (w7.cell? ⟨b, 0, none⟩ = some (.int .i64 1) ∧ w7.cell? ⟨b, 1, none⟩ = some (.int .i64 5)) := Lib.hid ⟨(nb.cell (p := ⟨b, 0, none⟩) (Nat.lt_trans HGB.out HNP.out)).trans HG6.out.1, (nb.cell (p := ⟨b, 1, none⟩) (Nat.lt_trans HGB.out HNP.out)).trans HG6.out.2⟩
  clear hw nb HW6 HN6 HB6 HS6 HG6 c6
  have c7 := HN7.out.cell 5
  simp at c7
  go_wp2_with fail
  refine (number_any w7 P P _ 2 (by omega) HW7.out (by simp <;> omega) HS7.out).mono ?_
  rintro e w8 ⟨⟨r8, rfl⟩, hw, nb⟩
  have HW8 := Lib.hid hw
  have HN8 := Lib.hid (HN7.out.below nb HNP.out)
  have HB8 : Hid (Below w.heap.size w w8) := Lib.hid (HB7.out.trans (nb.mono (Nat.le_of_lt HNP.out)))
  have HS8 : Hid (P ≤ w8.heap.size) := Lib.hid (Nat.le_of_lt hw.lt)
  have HG8 : Hid (w8.cell? ⟨b, 0, none⟩ = some (.int .i64 1) ∧ w8.cell? ⟨b, 1, none⟩ = some (.int .i64 5)) := Lib.hid ⟨(nb.cell (p := ⟨b, 0, none⟩) (Nat.lt_trans HGB.out HNP.out)).trans HG7.out.1, (nb.cell (p := ⟨b, 1, none⟩) (Nat.lt_trans HGB.out HNP.out)).trans HG7.out.2⟩
  clear hw nb HW7 HN7 HB7 HS7 HG7 c7
  have c8 := HN8.out.cell 5
  simp at c8
  go_wp2_with fail
  clear c8
  go_loopg [47] 2 (fun q iv wr => ((q = 2 ∧ iv = .int .i64 0 ∧ Wr wr P P ([] ++ [UInt8.ofNat 1] ++ [UInt8.ofNat st] ++ [UInt8.ofNat code] ++ [UInt8.ofNat 0] ++ [UInt8.ofNat user] ++ [UInt8.ofNat 2])) ∨ (q = 1 ∧ iv = .int .i64 1 ∧ Wr wr P P (([] ++ [UInt8.ofNat 1] ++ [UInt8.ofNat st] ++ [UInt8.ofNat code] ++ [UInt8.ofNat 0] ++ [UInt8.ofNat user] ++ [UInt8.ofNat 2]) ++ [UInt8.ofNat 1])) ∨ (q = 0 ∧ iv = .int .i64 2 ∧ Wr wr P P (([] ++ [UInt8.ofNat 1] ++ [UInt8.ofNat st] ++ [UInt8.ofNat code] ++ [UInt8.ofNat 0] ++ [UInt8.ofNat user] ++ [UInt8.ofNat 2]) ++ [UInt8.ofNat 1] ++ [UInt8.ofNat 5]))) ∧ Blk wr w.heap.size 40 #[.int .i64 1, .int .i64 (st : Int), .int .i64 (code : Int), .int .i64 0, .int .i64 (user : Int), (.slice (some ⟨b, 0, none⟩) 2 c), .string (strL sp), .int .i64 (pages : Int), .string (strL []), .int .i64 0, .int .i64 (term : Int)] ∧ Below w.heap.size w wr ∧ P ≤ wr.heap.size ∧ wr.cell? ⟨b, 0, none⟩ = some (.int .i64 1) ∧ wr.cell? ⟨b, 1, none⟩ = some (.int .i64 5))
  case atStart => exact ⟨.inl ⟨rfl, rfl, HW8.out⟩, HN8.out, HB8.out, HS8.out, HG8.out.1, HG8.out.2⟩
  case round =>
    clear HW8 HN8 HB8 HS8 HG8
    obtain ⟨hcase, hn, hb, hs, g0, g1⟩ := hrel
    obtain ⟨rfl, rfl, hw⟩ | ⟨rfl, rfl, hw⟩ | ⟨rfl, rfl, hw⟩ := hcase
    · have HW := Lib.hid hw
      have HN := Lib.hid hn
      have HB := Lib.hid hb
      have HS := Lib.hid hs
      have HG := Lib.hid (And.intro g0 g1)
      clear hw hn hb hs
      go_wp2_with fail
      refine (number_any wr P P _ 1 (by omega) HW.out (by simp <;> omega) HS.out).mono ?_
      rintro e w2 ⟨⟨r, rfl⟩, hw2, nb⟩
      have hnb := HN.out.below nb HNP.out
      have hbb := HB.out.trans (nb.mono (Nat.le_of_lt HNP.out))
      have gg0 := (nb.cell (p := ⟨b, 0, none⟩) (Nat.lt_trans HGB.out HNP.out)).trans HG.out.1
      have gg1 := (nb.cell (p := ⟨b, 1, none⟩) (Nat.lt_trans HGB.out HNP.out)).trans HG.out.2
      go_wp2_with fail
      go_roundg 1
      case measure => omega
      case rel => exact ⟨.inr (.inl ⟨rfl, by go_num, hw2⟩), hnb, hbb, Nat.le_of_lt hw2.lt, gg0, gg1⟩
    · have HW := Lib.hid hw
      have HN := Lib.hid hn
      have HB := Lib.hid hb
      have HS := Lib.hid hs
      have HG := Lib.hid (And.intro g0 g1)
      clear hw hn hb hs
      go_wp2_with fail
      refine (number_any wr P P _ 5 (by omega) HW.out (by simp <;> omega) HS.out).mono ?_
      rintro e w2 ⟨⟨r, rfl⟩, hw2, nb⟩
      have hnb := HN.out.below nb HNP.out
      have hbb := HB.out.trans (nb.mono (Nat.le_of_lt HNP.out))
      have gg0 := (nb.cell (p := ⟨b, 0, none⟩) (Nat.lt_trans HGB.out HNP.out)).trans HG.out.1
      have gg1 := (nb.cell (p := ⟨b, 1, none⟩) (Nat.lt_trans HGB.out HNP.out)).trans HG.out.2
      go_wp2_with fail
      go_roundg 0
      case measure => omega
      case rel => exact ⟨.inr (.inr ⟨rfl, by go_num, hw2⟩), hnb, hbb, Nat.le_of_lt hw2.lt, gg0, gg1⟩
    · obtain ⟨w20, hw20⟩ : ∃ W, W = wr := ⟨_, rfl⟩
      subst hw20
      have HW20 := Lib.hid hw
      have HN20 := Lib.hid hn
      have HB20 := Lib.hid hb
      have HS20 := Lib.hid hs
      have HG20 := Lib.hid (And.intro g0 g1)
      clear hw hn hb hs g0 g1
      have c20 := HN20.out.cell 6
      simp at c20
      go_wp2_with fail
      refine (text_any w20 P P _ sp (by omega) HW20.out (by simp <;> omega) HS20.out).mono ?_
      rintro e w21 ⟨⟨r21, rfl⟩, hw, nb⟩
      have HW21 := Lib.hid hw
      have HN21 := Lib.hid (HN20.out.below nb HNP.out)
      have HB21 : Hid (Below w.heap.size w w21) := Lib.hid (HB20.out.trans (nb.mono (Nat.le_of_lt HNP.out)))
      have HS21 : Hid (P ≤ w21.heap.size) := Lib.hid (Nat.le_of_lt hw.lt)
      have HG21 : Hid (w21.cell? ⟨b, 0, none⟩ = some (.int .i64 1) ∧ w21.cell? ⟨b, 1, none⟩ = some (.int .i64 5)) := Lib.hid ⟨(nb.cell (p := ⟨b, 0, none⟩) (Nat.lt_trans HGB.out HNP.out)).trans HG20.out.1, (nb.cell (p := ⟨b, 1, none⟩) (Nat.lt_trans HGB.out HNP.out)).trans HG20.out.2⟩
      clear hw nb HW20 HN20 HB20 HS20 HG20 c20
      have c21 := HN21.out.cell 7
      simp at c21
      go_wp2_with fail
      refine (number_any w21 P P _ pages (by omega) HW21.out (by simp <;> omega) HS21.out).mono ?_
      rintro e w22 ⟨⟨r22, rfl⟩, hw, nb⟩
      have HW22 := Lib.hid hw
      have HN22 := Lib.hid (HN21.out.below nb HNP.out)
      have HB22 : Hid (Below w.heap.size w w22) := Lib.hid (HB21.out.trans (nb.mono (Nat.le_of_lt HNP.out)))
      have HS22 : Hid (P ≤ w22.heap.size) := Lib.hid (Nat.le_of_lt hw.lt)
      have HG22 : Hid (w22.cell? ⟨b, 0, none⟩ = some (.int .i64 1) ∧ w22.cell? ⟨b, 1, none⟩ = some (.int .i64 5)) := Lib.hid ⟨(nb.cell (p := ⟨b, 0, none⟩) (Nat.lt_trans HGB.out HNP.out)).trans HG21.out.1, (nb.cell (p := ⟨b, 1, none⟩) (Nat.lt_trans HGB.out HNP.out)).trans HG21.out.2⟩
      clear hw nb HW21 HN21 HB21 HS21 HG21 c21
      have c22 := HN22.out.cell 8
      simp at c22
      go_wp2_with fail
      refine (text_any w22 P P _ [] (by simp) HW22.out (by simp <;> omega) HS22.out).mono ?_
      rintro e w23 ⟨⟨r23, rfl⟩, hw, nb⟩
      have HW23 := Lib.hid hw
      have HN23 := Lib.hid (HN22.out.below nb HNP.out)
      have HB23 : Hid (Below w.heap.size w w23) := Lib.hid (HB22.out.trans (nb.mono (Nat.le_of_lt HNP.out)))
      have HS23 : Hid (P ≤ w23.heap.size) := Lib.hid (Nat.le_of_lt hw.lt)
      have HG23 : Hid (w23.cell? ⟨b, 0, none⟩ = some (.int .i64 1) ∧ w23.cell? ⟨b, 1, none⟩ = some (.int .i64 5)) := Lib.hid ⟨(nb.cell (p := ⟨b, 0, none⟩) (Nat.lt_trans HGB.out HNP.out)).trans HG22.out.1, (nb.cell (p := ⟨b, 1, none⟩) (Nat.lt_trans HGB.out HNP.out)).trans HG22.out.2⟩
      clear hw nb HW22 HN22 HB22 HS22 HG22 c22
      have c23 := HN23.out.cell 9
      simp at c23
      go_wp2_with fail
      refine (number_any w23 P P _ 0 (by omega) HW23.out (by simp <;> omega) HS23.out).mono ?_
      rintro e w24 ⟨⟨r24, rfl⟩, hw, nb⟩
      have HW24 := Lib.hid hw
      have HN24 := Lib.hid (HN23.out.below nb HNP.out)
      have HB24 : Hid (Below w.heap.size w w24) := Lib.hid (HB23.out.trans (nb.mono (Nat.le_of_lt HNP.out)))
      have HS24 : Hid (P ≤ w24.heap.size) := Lib.hid (Nat.le_of_lt hw.lt)
      have HG24 : Hid (w24.cell? ⟨b, 0, none⟩ = some (.int .i64 1) ∧ w24.cell? ⟨b, 1, none⟩ = some (.int .i64 5)) := Lib.hid ⟨(nb.cell (p := ⟨b, 0, none⟩) (Nat.lt_trans HGB.out HNP.out)).trans HG23.out.1, (nb.cell (p := ⟨b, 1, none⟩) (Nat.lt_trans HGB.out HNP.out)).trans HG23.out.2⟩
      clear hw nb HW23 HN23 HB23 HS23 HG23 c23
      have c24 := HN24.out.cell 10
      simp at c24
      go_wp2_with fail
      refine (number_any w24 P P _ term (by omega) HW24.out (by simp <;> omega) HS24.out).mono ?_
      rintro e w25 ⟨⟨r25, rfl⟩, hw, nb⟩
      have HW25 := Lib.hid hw
      have HN25 := Lib.hid (HN24.out.below nb HNP.out)
      have HB25 : Hid (Below w.heap.size w w25) := Lib.hid (HB24.out.trans (nb.mono (Nat.le_of_lt HNP.out)))
      have HS25 : Hid (P ≤ w25.heap.size) := Lib.hid (Nat.le_of_lt hw.lt)
      have HG25 : Hid (w25.cell? ⟨b, 0, none⟩ = some (.int .i64 1) ∧ w25.cell? ⟨b, 1, none⟩ = some (.int .i64 5)) := Lib.hid ⟨(nb.cell (p := ⟨b, 0, none⟩) (Nat.lt_trans HGB.out HNP.out)).trans HG24.out.1, (nb.cell (p := ⟨b, 1, none⟩) (Nat.lt_trans HGB.out HNP.out)).trans HG24.out.2⟩
      clear hw nb HW24 HN24 HB24 HS24 HG24 c24
      obtain ⟨L, hL, hwL⟩ : ∃ L, L = prEnc ⟨st, code, user, [1, 5], sp, pages, term⟩ ∧ Wr w25 P P L := ⟨_, rfl, by have := HW25.out; simpa [prEnc] using this⟩
      have hLl : L.length ≤ 4000000 := by rw [hL]; simp [prEnc]; omega
      have HL := Lib.hid hL
      clear hL
      go_wp2_with fail
      refine (bytes_any w25 P P L hwL hLl).mono ?_
      rintro e w26 ⟨v2, rfl, hown, nb⟩
      obtain ⟨OA, oc, rfl⟩ := own_slice hown
      have hcv : (convert 24 9 (.slice OA L.length oc)).run Tryz.prog w26 = .ok (.string (strL L)) w26 := run_convert_string Tryz.underlying24 Tryz.underlying5 Tryz.underlying9 (RdB.of_own hown rfl)
      go_wp2_with fail
      refine bodyPost_ret (results_tmp2 rfl _ _ _) rfl ?_
      exact ⟨by rw [← HL.out]; rfl, HB25.out.trans (nb.mono HB25.out.size)⟩
theorem prEncode_any (w : World) (B : Nat) (p : Pr) (gv : Value) (h : PrOk p) (hg : GrOk w B gv p.gs) (hB : B ≤ w.heap.size) :
    Calls Tryz.prog 64 #[prV p gv] w fun e w' => e = .returned (.tuple #[.string (strL (prEnc p)), .int .i64 0]) ∧ Below w.heap.size w w' := by
  obtain ⟨st, code, user, gs, sp, pages, term⟩ := p
  rcases hg.old with ⟨hgs, rfl⟩ | ⟨hgs, b, c, rfl, c0, c1, hb⟩
  · dsimp only at hgs
    subst hgs
    exact prEncode0 w B st code user pages term sp h hB
  · dsimp only at hgs
    subst hgs
    exact prEncode2 w B st code user pages term sp b c h c0 c1 hb hg hB
end Go.Proofs.YtkoomlbnfhdhcaaGreatDoor

/-
  Walks: a reader of a string; Decode of a process.
-/
namespace Go.Proofs.YtkoomlbnfhdhcaaGreatDoor
open Go.RowKit
set_option linter.unusedVariables false

theorem str_rdB (w : World) (l : List UInt8) (hl : l.length ≤ 4000000) : ∃ c w2, (convert 9 24 (.string (strL l))).run Tryz.prog w = .ok (.slice (some ⟨w.heap.size, 0, none⟩) l.length c) w2 ∧ RdB w2 w2.heap.size (.slice (some ⟨w.heap.size, 0, none⟩) l.length c) l ∧ Below w.heap.size w w2 ∧ w2.heap.size = w.heap.size + 1 := by
  have h := run_bytes_of_string w 9 24 5 (strL l) Tryz.underlying9 Tryz.underlying24 Tryz.underlying5
  rw [strL_size] at h
  refine ⟨_, _, h, ⟨_, _, rfl, grownCap_ge _ _ _ _, grownCap_le_maxLen _ _ _ _ (by unfold maxLen; omega), ?_⟩, ((Below.refl _ _).drew).alloc (Nat.le_refl _) _, by simp⟩
  refine ⟨by simp [bs], fun h0 => ⟨_, rfl, by simp, fun j v hv => ?_⟩⟩
  have hj : j < l.length := by rw [← bs_length l]; exact (List.getElem?_eq_some_iff.1 hv).1
  have h9 := cell_of_row (w.drew.alloc (.cells (bytesRow (strL l) (grownCap w l.length 0 5)) 5 ((bytesRow (strL l) (grownCap w l.length 0 5)).size, (bytesRow (strL l) (grownCap w l.length 0 5)).size + 1))) w.heap.size (0 + j) _ 5 _ (heap_alloc_new w.drew _)
  rw [add_at, h9, ← hv]
  unfold bytesRow bs strL
  rw [Nat.zero_add, Array.getElem?_append_left (by simpa using hj)]
  simp
end Go.Proofs.YtkoomlbnfhdhcaaGreatDoor

/-
  Walks: Decode of a process.
-/
namespace Go.Proofs.YtkoomlbnfhdhcaaGreatDoor
open Go.RowKit
set_option linter.unusedVariables false

theorem Rdr.far {w : World} {B p Q k : Nat} {l : List UInt8} (h : Rdr w B p l) (hne : p ≠ Q) (hB : B ≤ Q) (u : Value) : Rdr (w.setCell ⟨Q, k, none⟩ u) B p l :=
  let ⟨v, a, h1, h2, h3⟩ := h.ex; ⟨⟨v, a, h1.far (p := ⟨Q, k, none⟩) hne u, h2.below ((Below.refl B w).setCell (p := ⟨Q, k, none⟩) hB u), h3⟩, h.le⟩
theorem readN_any (w : World) (B p : Nat) (n : Nat) (l : List UInt8) (m : Int) (hn : n < 128) (hm : (n : Int) ≤ m) (h : Rdr w B p (UInt8.ofNat n :: l)) (hl : l.length < 1000) :
    Calls Tryz.prog 62 #[.pointer (some ⟨p, 0, none⟩), .int .i64 m] w fun e w' => e = .returned (.int .i64 (n : Int)) ∧ Rdr w' B p l ∧ Below B w w' ∧ Fr [p] w w' := by
  have e : (UInt8.ofNat n).toNat = n := by rw [UInt8.toNat_ofNat']; omega
  have := readNum_any w B p (UInt8.ofNat n) l m (by omega) (by omega) h hl
  rw [e] at this
  exact this
theorem Rdr.belowC {w w' : World} {B p C : Nat} {l : List UInt8} (h : Rdr w B p l) (hb : Below C w w') (hp : p < C) : Rdr w' B p l :=
  let ⟨v, a, h1, h2, h3⟩ := h.ex; ⟨⟨v, a, h1.below hb hp, h2.below (hb.mono (Nat.le_trans h.le (Nat.le_of_lt hp))), h3⟩, h.le⟩
theorem gr_of_own {w : World} {Q c : Nat} {A : Option Addr} (h : w.ownsRow Q 3 1 (.slice A 2 c) 2 [.int .i64 1, .int .i64 5]) : GrOk w w.heap.size (.slice A 2 c) [1, 5] := by
  rcases h.2 with ⟨h2, _⟩ | ⟨g, cap, cur, hv, hg, hh, h1, h3, h4, h5⟩
  · cases h2
  · injection hv with e1 e2 e3
    subst e1 e3
    have hb : Blk w g 3 cur := hh
    refine .inr ⟨rfl, g, c, cur, rfl, hb, ?_, ?_, hb.lt⟩
    · have := congrArg (fun l => l[0]?) h5
      simpa using this
    · have := congrArg (fun l => l[1]?) h5
      simpa using this
theorem reads_one (w : World) (v : Value) (t : TypeId) : Reads (w.alloc (.cells #[v] t)) (w.heap.size + 1) 1 (some ⟨w.heap.size, 0, none⟩) 1 [v] := by
  refine ⟨by simp, fun _ => ⟨_, rfl, by simp, fun j u hu => ?_⟩⟩
  have hj : j < 1 := (List.getElem?_eq_some_iff.1 hu).1
  obtain rfl : j = 0 := by omega
  rw [add_at, (Blk.new w t #[v]).cell]
  simpa using hu
theorem readT_any (w : World) (B p : Nat) (s l : List UInt8) (m : Int) (hs : s.length < 100) (hm : (s.length : Int) ≤ m) (h : Rdr w B p (UInt8.ofNat s.length :: (s ++ l))) (hl : l.length < 800) :
    Calls Tryz.prog 168 #[.pointer (some ⟨p, 0, none⟩), .int .i64 m] w fun e w' => e = .returned (.string (strL s)) ∧ Rdr w' B p l ∧ Below B w w' ∧ Fr [p] w w' :=
  readText_any w B p (UInt8.ofNat s.length) s l m (by rw [UInt8.toNat_ofNat']; omega) hs hm h hl
set_option maxRecDepth 100000 in
set_option maxHeartbeats 8000000 in
theorem prDecode0 (w : World) (st code user pages term : Nat) (sp : List UInt8) (h : PrOk ⟨st, code, user, [], sp, pages, term⟩) :
    Calls Tryz.prog 147 #[.string (strL (prEnc ⟨st, code, user, [], sp, pages, term⟩))] w fun e w' => ∃ gv, e = .returned (.tuple #[prV ⟨st, code, user, [], sp, pages, term⟩ gv, .int .i64 0]) ∧ GrOk w' w'.heap.size gv [] ∧ Below w.heap.size w w' := by
  have hspl : sp.length < 4 := by
    rcases h.sp with e | e | e <;> rw [show sp = _ from e] <;> decide
  obtain ⟨⟨h1, h2⟩, h3, h4, h5, h6, h7, h8⟩ := id h
  dsimp only at h1 h2 h3 h4 h5 h6 h7 h8
  obtain ⟨L, hL⟩ : ∃ L, L = prEnc ⟨st, code, user, [], sp, pages, term⟩ := ⟨_, rfl⟩
  rw [← hL]
  have hLl : L.length ≤ 90000 := by rw [hL]; simp [prEnc]; omega
  have hL2 : L = UInt8.ofNat 1 :: UInt8.ofNat st :: UInt8.ofNat code :: UInt8.ofNat 0 :: UInt8.ofNat user :: UInt8.ofNat 0 :: UInt8.ofNat sp.length :: (sp ++ (UInt8.ofNat pages :: UInt8.ofNat ([] : List UInt8).length :: (([] : List UInt8) ++ [UInt8.ofNat 0, UInt8.ofNat term]))) := by rw [hL]; simp [prEnc]
  have HL := Lib.hid hL2
  have HH := Lib.hid h
  clear hL hL2 h
  unfold prV prCells
  dsimp only
  obtain ⟨zc, hzc⟩ : ∃ zc : Array Value, zc = #[.int .i64 0, .int .i64 0, .int .i64 0, .int .i64 0, .int .i64 0, .slice none 0 0, .string ⟨#[]⟩, .int .i64 0, .string ⟨#[]⟩, .int .i64 0, .int .i64 0] := ⟨_, rfl⟩
  have HC0 := Lib.hid (Blk.new w 40 zc)
  have HB0 := Lib.hid ((Below.refl w.heap.size w).alloc (Nat.le_refl _) (.cells zc 40))
  obtain ⟨cp, w2, hcv, hrd, hb2, hz2⟩ := str_rdB (w.alloc (.cells zc 40)) L (by omega)
  simp only [World.size_alloc] at hcv hrd
  rw [hzc] at HC0 HB0 hcv hb2
  clear hzc
  have HRD := Lib.hid hrd
  have HC2 := Lib.hid (HC0.out.below hb2 HC0.out.lt)
  have HB2 := Lib.hid (HB0.out.trans (hb2.mono HB0.out.size))
  clear hrd hb2 hz2 HC0 HB0
  go_enter Tryz.func147, Tryz.ntmps147
  go_wp2_with fail
  refine (newReader_any w2 _ L HRD.out hLl).mono ?_
  rintro e w3 ⟨B, R, rfl, hR, hBw, nb⟩
  rw [HL.out] at hR
  obtain ⟨Q, hQ⟩ : ∃ Q, Q = w3.heap.size := ⟨_, rfl⟩
  have HRQ : Hid (R < Q) := Lib.hid (by rw [hQ]; exact hR.lt)
  have HBR : Hid (B ≤ R) := Lib.hid hR.le
  have HwB : Hid (w.heap.size < B) := Lib.hid (Nat.lt_of_lt_of_le HC2.out.lt hBw)
  have HC3 := Lib.hid (HC2.out.below nb HC2.out.lt)
  have HB3 := Lib.hid (HB2.out.trans (nb.mono HB2.out.size))
  have HR3 := Lib.hid hR
  clear hR nb HC2 HB2 HRD hBw
  unfold ptrV
  simp only [Option.map_some]
  go_wp2_with fail
  obtain ⟨w4, hw4⟩ : ∃ w4, w4 = w3.alloc (.cells #[.int .i64 0, .int .i64 0, .int .i64 0, .int .i64 0, .int .i64 0, .slice none 0 0, .string ⟨#[]⟩, .int .i64 0, .string ⟨#[]⟩, .int .i64 0, .int .i64 0] 40) := ⟨_, rfl⟩
  have hbl4 : Below w3.heap.size w3 w4 := by rw [hw4]; exact (Below.refl _ _).alloc (Nat.le_refl _) _
  have HQ4 : Hid (Blk w4 Q 40 #[.int .i64 0, .int .i64 0, .int .i64 0, .int .i64 0, .int .i64 0, .slice none 0 0, .string ⟨#[]⟩, .int .i64 0, .string ⟨#[]⟩, .int .i64 0, .int .i64 0]) := Lib.hid (by rw [hw4, hQ]; exact Blk.new _ _ _)
  have HR4 := Lib.hid (HR3.out.below hbl4)
  have HC4 := Lib.hid (HC3.out.below hbl4 HC3.out.lt)
  have HB4 := Lib.hid (HB3.out.trans (hbl4.mono HB3.out.size))
  rw [← hw4, ← hQ]
  clear hw4 hbl4 HR3 HC3 HB3 hQ HL
  refine (readN_any w4 B R 1 _ 2 (by omega) (by omega) HR4.out (by simp <;> omega)).mono ?_
  rintro e w' ⟨rfl, hr, hb, hf⟩
  have hq := HQ4.out.fr hf (by simp; have := HRQ.out; omega)
  have ck := hq.cell 0
  have fk := hq.frozen 0
  simp at ck
  go_wp2_with fail
  obtain ⟨w5, hW⟩ : ∃ W, W = w'.setCell ⟨Q, 0, none⟩ (.int .i64 1) := ⟨_, rfl⟩
  have HQ5 : Hid (Blk w5 Q 40 #[.int .i64 1, .int .i64 0, .int .i64 0, .int .i64 0, .int .i64 0, .slice none 0 0, .string ⟨#[]⟩, .int .i64 0, .string ⟨#[]⟩, .int .i64 0, .int .i64 0]) := Lib.hid (by rw [hW]; have := hq.set_ 0 (.int .i64 1); simpa using this)
  have HR5 := Lib.hid (hr.far (Q := Q) (k := 0) (by have := HRQ.out; omega) (by have := HRQ.out; have := HBR.out; omega) (.int .i64 1))
  have HC5 : Hid (Blk w5 w.heap.size 40 _) := Lib.hid (by rw [hW]; exact (HC4.out.below hb HwB.out).far (p := ⟨Q, 0, none⟩) (by have := HwB.out; have := HRQ.out; have := HBR.out; show w.heap.size ≠ Q; omega) _)
  have HB5 : Hid (Below w.heap.size w w5) := Lib.hid (by rw [hW]; exact (HB4.out.trans (hb.mono (Nat.le_of_lt HwB.out))).setCell (p := ⟨Q, 0, none⟩) (by have := HwB.out; have := HRQ.out; have := HBR.out; show w.heap.size ≤ Q; omega) _)
  rw [← hW] at HR5 ⊢
  clear hW hq ck fk hr hb hf HQ4 HR4 HC4 HB4
  refine (readN_any w5 B R st _ 3 (by omega) (by omega) HR5.out (by simp <;> omega)).mono ?_
  rintro e w' ⟨rfl, hr, hb, hf⟩
  have hq := HQ5.out.fr hf (by simp; have := HRQ.out; omega)
  have ck := hq.cell 1
  have fk := hq.frozen 1
  simp at ck
  go_wp2_with fail
  obtain ⟨w6, hW⟩ : ∃ W, W = w'.setCell ⟨Q, 1, none⟩ (.int .i64 (st : Int)) := ⟨_, rfl⟩
  have HQ6 : Hid (Blk w6 Q 40 #[.int .i64 1, .int .i64 (st : Int), .int .i64 0, .int .i64 0, .int .i64 0, .slice none 0 0, .string ⟨#[]⟩, .int .i64 0, .string ⟨#[]⟩, .int .i64 0, .int .i64 0]) := Lib.hid (by rw [hW]; have := hq.set_ 1 (.int .i64 (st : Int)); simpa using this)
  have HR6 := Lib.hid (hr.far (Q := Q) (k := 1) (by have := HRQ.out; omega) (by have := HRQ.out; have := HBR.out; omega) (.int .i64 (st : Int)))
  have HC6 : Hid (Blk w6 w.heap.size 40 _) := Lib.hid (by rw [hW]; exact (HC5.out.below hb HwB.out).far (p := ⟨Q, 1, none⟩) (by have := HwB.out; have := HRQ.out; have := HBR.out; show w.heap.size ≠ Q; omega) _)
  have HB6 : Hid (Below w.heap.size w w6) := Lib.hid (by rw [hW]; exact (HB5.out.trans (hb.mono (Nat.le_of_lt HwB.out))).setCell (p := ⟨Q, 1, none⟩) (by have := HwB.out; have := HRQ.out; have := HBR.out; show w.heap.size ≤ Q; omega) _)
  rw [← hW] at HR6 ⊢
  clear hW hq ck fk hr hb hf HQ5 HR5 HC5 HB5
  refine (readN_any w6 B R code _ 410 (by omega) (by omega) HR6.out (by simp <;> omega)).mono ?_
  rintro e w' ⟨rfl, hr, hb, hf⟩
  have hq := HQ6.out.fr hf (by simp; have := HRQ.out; omega)
  have ck := hq.cell 2
  have fk := hq.frozen 2
  simp at ck
  go_wp2_with fail
  obtain ⟨w7, hW⟩ : ∃ W, W = w'.setCell ⟨Q, 2, none⟩ (.int .i64 (code : Int)) := ⟨_, rfl⟩
  have HQ7 : Hid (Blk w7 Q 40 #[.int .i64 1, .int .i64 (st : Int), .int .i64 (code : Int), .int .i64 0, .int .i64 0, .slice none 0 0, .string ⟨#[]⟩, .int .i64 0, .string ⟨#[]⟩, .int .i64 0, .int .i64 0]) := Lib.hid (by rw [hW]; have := hq.set_ 2 (.int .i64 (code : Int)); simpa using this)
  have HR7 := Lib.hid (hr.far (Q := Q) (k := 2) (by have := HRQ.out; omega) (by have := HRQ.out; have := HBR.out; omega) (.int .i64 (code : Int)))
  have HC7 : Hid (Blk w7 w.heap.size 40 _) := Lib.hid (by rw [hW]; exact (HC6.out.below hb HwB.out).far (p := ⟨Q, 2, none⟩) (by have := HwB.out; have := HRQ.out; have := HBR.out; show w.heap.size ≠ Q; omega) _)
  have HB7 : Hid (Below w.heap.size w w7) := Lib.hid (by rw [hW]; exact (HB6.out.trans (hb.mono (Nat.le_of_lt HwB.out))).setCell (p := ⟨Q, 2, none⟩) (by have := HwB.out; have := HRQ.out; have := HBR.out; show w.heap.size ≤ Q; omega) _)
  rw [← hW] at HR7 ⊢
  clear hW hq ck fk hr hb hf HQ6 HR6 HC6 HB6
  refine (readN_any w7 B R 0 _ 1073741824 (by omega) (by omega) HR7.out (by simp <;> omega)).mono ?_
  rintro e w' ⟨rfl, hr, hb, hf⟩
  have hq := HQ7.out.fr hf (by simp; have := HRQ.out; omega)
  have ck := hq.cell 3
  have fk := hq.frozen 3
  simp at ck
  go_wp2_with fail
  obtain ⟨w8, hW⟩ : ∃ W, W = w'.setCell ⟨Q, 3, none⟩ (.int .i64 0) := ⟨_, rfl⟩
  have HQ8 : Hid (Blk w8 Q 40 #[.int .i64 1, .int .i64 (st : Int), .int .i64 (code : Int), .int .i64 0, .int .i64 0, .slice none 0 0, .string ⟨#[]⟩, .int .i64 0, .string ⟨#[]⟩, .int .i64 0, .int .i64 0]) := Lib.hid (by rw [hW]; have := hq.set_ 3 (.int .i64 0); simpa using this)
  have HR8 := Lib.hid (hr.far (Q := Q) (k := 3) (by have := HRQ.out; omega) (by have := HRQ.out; have := HBR.out; omega) (.int .i64 0))
  have HC8 : Hid (Blk w8 w.heap.size 40 _) := Lib.hid (by rw [hW]; exact (HC7.out.below hb HwB.out).far (p := ⟨Q, 3, none⟩) (by have := HwB.out; have := HRQ.out; have := HBR.out; show w.heap.size ≠ Q; omega) _)
  have HB8 : Hid (Below w.heap.size w w8) := Lib.hid (by rw [hW]; exact (HB7.out.trans (hb.mono (Nat.le_of_lt HwB.out))).setCell (p := ⟨Q, 3, none⟩) (by have := HwB.out; have := HRQ.out; have := HBR.out; show w.heap.size ≤ Q; omega) _)
  rw [← hW] at HR8 ⊢
  clear hW hq ck fk hr hb hf HQ7 HR7 HC7 HB7
  refine (readN_any w8 B R user _ 65535 (by omega) (by omega) HR8.out (by simp <;> omega)).mono ?_
  rintro e w' ⟨rfl, hr, hb, hf⟩
  have hq := HQ8.out.fr hf (by simp; have := HRQ.out; omega)
  have ck := hq.cell 4
  have fk := hq.frozen 4
  simp at ck
  go_wp2_with fail
  obtain ⟨w9, hW⟩ : ∃ W, W = w'.setCell ⟨Q, 4, none⟩ (.int .i64 (user : Int)) := ⟨_, rfl⟩
  have HQ9 : Hid (Blk w9 Q 40 #[.int .i64 1, .int .i64 (st : Int), .int .i64 (code : Int), .int .i64 0, .int .i64 (user : Int), .slice none 0 0, .string ⟨#[]⟩, .int .i64 0, .string ⟨#[]⟩, .int .i64 0, .int .i64 0]) := Lib.hid (by rw [hW]; have := hq.set_ 4 (.int .i64 (user : Int)); simpa using this)
  have HR9 := Lib.hid (hr.far (Q := Q) (k := 4) (by have := HRQ.out; omega) (by have := HRQ.out; have := HBR.out; omega) (.int .i64 (user : Int)))
  have HC9 : Hid (Blk w9 w.heap.size 40 _) := Lib.hid (by rw [hW]; exact (HC8.out.below hb HwB.out).far (p := ⟨Q, 4, none⟩) (by have := HwB.out; have := HRQ.out; have := HBR.out; show w.heap.size ≠ Q; omega) _)
  have HB9 : Hid (Below w.heap.size w w9) := Lib.hid (by rw [hW]; exact (HB8.out.trans (hb.mono (Nat.le_of_lt HwB.out))).setCell (p := ⟨Q, 4, none⟩) (by have := HwB.out; have := HRQ.out; have := HBR.out; show w.heap.size ≤ Q; omega) _)
  rw [← hW] at HR9 ⊢
  clear hW hq ck fk hr hb hf HQ8 HR8 HC8 HB8
  refine (readN_any w9 B R 0 _ 8 (by omega) (by omega) HR9.out (by simp <;> omega)).mono ?_
  rintro e w10 ⟨rfl, hr, hb, hf⟩
  have HQ10 := Lib.hid (HQ9.out.fr hf (by simp; have := HRQ.out; omega))
  have HR10 := Lib.hid hr
  have HC10 := Lib.hid (HC9.out.below hb HwB.out)
  have HB10 := Lib.hid (HB9.out.trans (hb.mono (Nat.le_of_lt HwB.out)))
  clear hr hb hf HQ9 HR9 HC9 HB9
  go_wp2_with fail
  go_loopg [27] 0 (fun q iv wr => q = 0 ∧ iv = .int .i64 0 ∧ w10 = wr)
  case atStart => exact ⟨rfl, rfl, rfl⟩
  case round =>
    obtain ⟨rfl, rfl, rfl⟩ := hrel
    go_wp2_with fail
    refine (readT_any w10 B R sp _ 65536 (by omega) (by omega) HR10.out (by simp <;> omega)).mono ?_
    rintro e w' ⟨rfl, hr, hb, hf⟩
    have hq := HQ10.out.fr hf (by simp; have := HRQ.out; omega)
    have ck := hq.cell 6
    have fk := hq.frozen 6
    simp at ck
    go_wp2_with fail
    obtain ⟨w11, hW⟩ : ∃ W, W = w'.setCell ⟨Q, 6, none⟩ (.string (strL sp)) := ⟨_, rfl⟩
    have HQ11 : Hid (Blk w11 Q 40 #[.int .i64 1, .int .i64 (st : Int), .int .i64 (code : Int), .int .i64 0, .int .i64 (user : Int), .slice none 0 0, .string (strL sp), .int .i64 0, .string ⟨#[]⟩, .int .i64 0, .int .i64 0]) := Lib.hid (by rw [hW]; have := hq.set_ 6 (.string (strL sp)); simpa using this)
    have HR11 := Lib.hid (hr.far (Q := Q) (k := 6) (by have := HRQ.out; omega) (by have := HRQ.out; have := HBR.out; omega) (.string (strL sp)))
    have HC11 : Hid (Blk w11 w.heap.size 40 _) := Lib.hid (by rw [hW]; exact (HC10.out.below hb HwB.out).far (p := ⟨Q, 6, none⟩) (by have := HwB.out; have := HRQ.out; have := HBR.out; show w.heap.size ≠ Q; omega) _)
    have HB11 : Hid (Below w.heap.size w w11) := Lib.hid (by rw [hW]; exact (HB10.out.trans (hb.mono (Nat.le_of_lt HwB.out))).setCell (p := ⟨Q, 6, none⟩) (by have := HwB.out; have := HRQ.out; have := HBR.out; show w.heap.size ≤ Q; omega) _)
    rw [← hW] at HR11 ⊢
    clear hW hq ck fk hr hb hf HQ10 HR10 HC10 HB10
    refine (readN_any w11 B R pages _ 64 (by omega) (by omega) HR11.out (by simp <;> omega)).mono ?_
    rintro e w' ⟨rfl, hr, hb, hf⟩
    have hq := HQ11.out.fr hf (by simp; have := HRQ.out; omega)
    have ck := hq.cell 7
    have fk := hq.frozen 7
    simp at ck
    go_wp2_with fail
    obtain ⟨w12, hW⟩ : ∃ W, W = w'.setCell ⟨Q, 7, none⟩ (.int .i64 (pages : Int)) := ⟨_, rfl⟩
    have HQ12 : Hid (Blk w12 Q 40 #[.int .i64 1, .int .i64 (st : Int), .int .i64 (code : Int), .int .i64 0, .int .i64 (user : Int), .slice none 0 0, .string (strL sp), .int .i64 (pages : Int), .string ⟨#[]⟩, .int .i64 0, .int .i64 0]) := Lib.hid (by rw [hW]; have := hq.set_ 7 (.int .i64 (pages : Int)); simpa using this)
    have HR12 := Lib.hid (hr.far (Q := Q) (k := 7) (by have := HRQ.out; omega) (by have := HRQ.out; have := HBR.out; omega) (.int .i64 (pages : Int)))
    have HC12 : Hid (Blk w12 w.heap.size 40 _) := Lib.hid (by rw [hW]; exact (HC11.out.below hb HwB.out).far (p := ⟨Q, 7, none⟩) (by have := HwB.out; have := HRQ.out; have := HBR.out; show w.heap.size ≠ Q; omega) _)
    have HB12 : Hid (Below w.heap.size w w12) := Lib.hid (by rw [hW]; exact (HB11.out.trans (hb.mono (Nat.le_of_lt HwB.out))).setCell (p := ⟨Q, 7, none⟩) (by have := HwB.out; have := HRQ.out; have := HBR.out; show w.heap.size ≤ Q; omega) _)
    rw [← hW] at HR12 ⊢
    clear hW hq ck fk hr hb hf HQ11 HR11 HC11 HB11
    refine (readT_any w12 B R [] _ 65536 (by simp) (by simp) HR12.out (by simp <;> omega)).mono ?_
    rintro e w' ⟨rfl, hr, hb, hf⟩
    have hq := HQ12.out.fr hf (by simp; have := HRQ.out; omega)
    have ck := hq.cell 8
    have fk := hq.frozen 8
    simp at ck
    go_wp2_with fail
    obtain ⟨w13, hW⟩ : ∃ W, W = w'.setCell ⟨Q, 8, none⟩ (.string (strL [])) := ⟨_, rfl⟩
    have HQ13 : Hid (Blk w13 Q 40 #[.int .i64 1, .int .i64 (st : Int), .int .i64 (code : Int), .int .i64 0, .int .i64 (user : Int), .slice none 0 0, .string (strL sp), .int .i64 (pages : Int), .string (strL []), .int .i64 0, .int .i64 0]) := Lib.hid (by rw [hW]; have := hq.set_ 8 (.string (strL [])); simpa using this)
    have HR13 := Lib.hid (hr.far (Q := Q) (k := 8) (by have := HRQ.out; omega) (by have := HRQ.out; have := HBR.out; omega) (.string (strL [])))
    have HC13 : Hid (Blk w13 w.heap.size 40 _) := Lib.hid (by rw [hW]; exact (HC12.out.below hb HwB.out).far (p := ⟨Q, 8, none⟩) (by have := HwB.out; have := HRQ.out; have := HBR.out; show w.heap.size ≠ Q; omega) _)
    have HB13 : Hid (Below w.heap.size w w13) := Lib.hid (by rw [hW]; exact (HB12.out.trans (hb.mono (Nat.le_of_lt HwB.out))).setCell (p := ⟨Q, 8, none⟩) (by have := HwB.out; have := HRQ.out; have := HBR.out; show w.heap.size ≤ Q; omega) _)
    rw [← hW] at HR13 ⊢
    clear hW hq ck fk hr hb hf HQ12 HR12 HC12 HB12
    refine (readN_any w13 B R 0 _ 1073741824 (by omega) (by omega) HR13.out (by simp <;> omega)).mono ?_
    rintro e w' ⟨rfl, hr, hb, hf⟩
    have hq := HQ13.out.fr hf (by simp; have := HRQ.out; omega)
    have ck := hq.cell 9
    have fk := hq.frozen 9
    simp at ck
    go_wp2_with fail
    obtain ⟨w14, hW⟩ : ∃ W, W = w'.setCell ⟨Q, 9, none⟩ (.int .i64 0) := ⟨_, rfl⟩
    have HQ14 : Hid (Blk w14 Q 40 #[.int .i64 1, .int .i64 (st : Int), .int .i64 (code : Int), .int .i64 0, .int .i64 (user : Int), .slice none 0 0, .string (strL sp), .int .i64 (pages : Int), .string (strL []), .int .i64 0, .int .i64 0]) := Lib.hid (by rw [hW]; have := hq.set_ 9 (.int .i64 0); simpa using this)
    have HR14 := Lib.hid (hr.far (Q := Q) (k := 9) (by have := HRQ.out; omega) (by have := HRQ.out; have := HBR.out; omega) (.int .i64 0))
    have HC14 : Hid (Blk w14 w.heap.size 40 _) := Lib.hid (by rw [hW]; exact (HC13.out.below hb HwB.out).far (p := ⟨Q, 9, none⟩) (by have := HwB.out; have := HRQ.out; have := HBR.out; show w.heap.size ≠ Q; omega) _)
    have HB14 : Hid (Below w.heap.size w w14) := Lib.hid (by rw [hW]; exact (HB13.out.trans (hb.mono (Nat.le_of_lt HwB.out))).setCell (p := ⟨Q, 9, none⟩) (by have := HwB.out; have := HRQ.out; have := HBR.out; show w.heap.size ≤ Q; omega) _)
    rw [← hW] at HR14 ⊢
    clear hW hq ck fk hr hb hf HQ13 HR13 HC13 HB13
    refine (readN_any w14 B R term _ 99 (by omega) (by omega) HR14.out (by simp <;> omega)).mono ?_
    rintro e w' ⟨rfl, hr, hb, hf⟩
    have hq := HQ14.out.fr hf (by simp; have := HRQ.out; omega)
    have ck := hq.cell 10
    have fk := hq.frozen 10
    simp at ck
    go_wp2_with fail
    obtain ⟨w15, hW⟩ : ∃ W, W = w'.setCell ⟨Q, 10, none⟩ (.int .i64 (term : Int)) := ⟨_, rfl⟩
    have HQ15 : Hid (Blk w15 Q 40 #[.int .i64 1, .int .i64 (st : Int), .int .i64 (code : Int), .int .i64 0, .int .i64 (user : Int), .slice none 0 0, .string (strL sp), .int .i64 (pages : Int), .string (strL []), .int .i64 0, .int .i64 (term : Int)]) := Lib.hid (by rw [hW]; have := hq.set_ 10 (.int .i64 (term : Int)); simpa using this)
    have HR15 := Lib.hid (hr.far (Q := Q) (k := 10) (by have := HRQ.out; omega) (by have := HRQ.out; have := HBR.out; omega) (.int .i64 (term : Int)))
    have HC15 : Hid (Blk w15 w.heap.size 40 _) := Lib.hid (by rw [hW]; exact (HC14.out.below hb HwB.out).far (p := ⟨Q, 10, none⟩) (by have := HwB.out; have := HRQ.out; have := HBR.out; show w.heap.size ≠ Q; omega) _)
    have HB15 : Hid (Below w.heap.size w w15) := Lib.hid (by rw [hW]; exact (HB14.out.trans (hb.mono (Nat.le_of_lt HwB.out))).setCell (p := ⟨Q, 10, none⟩) (by have := HwB.out; have := HRQ.out; have := HBR.out; show w.heap.size ≤ Q; omega) _)
    rw [← hW] at HR15 ⊢
    clear hW hq ck fk hr hb hf HQ14 HR14 HC14 HB14
    have hQi := HQ15.out
    refine (close_any w15 B R HR15.out).mono ?_
    rintro e w' ⟨rfl, rfl⟩
    have hck := prCheck_any w15 B ⟨st, code, user, [], sp, pages, term⟩ (.slice none 0 0) HH.out (.inl ⟨rfl, rfl⟩) (Nat.le_trans HBR.out (Nat.le_of_lt HR15.out.lt))
    unfold prV prCells at hck
    dsimp only at hck
    have q0 := HQ15.out.cell 0
    have q1 := HQ15.out.cell 1
    have q2 := HQ15.out.cell 2
    have q3 := HQ15.out.cell 3
    have q4 := HQ15.out.cell 4
    have q5 := HQ15.out.cell 5
    have q6 := HQ15.out.cell 6
    have q7 := HQ15.out.cell 7
    have q8 := HQ15.out.cell 8
    have q9 := HQ15.out.cell 9
    have q10 := HQ15.out.cell 10
    simp at q0 q1 q2 q3 q4 q5 q6 q7 q8 q9 q10
    go_wp2_with fail
    clear q0 q1 q2 q3 q4 q5 q6 q7 q8 q9 q10
    refine hck.mono ?_
    rintro e w' ⟨rfl, nb⟩
    clear hck
    have HQf := Lib.hid (HQ15.out.below nb HQ15.out.lt)
    have HCf := Lib.hid (HC15.out.below nb HC15.out.lt)
    have HBf := Lib.hid (HB15.out.trans (nb.mono HB15.out.size))
    go_wp2_with (first | refine wpList_load_blk rfl 40 (.tmp 5) rfl Q rfl HQf.out _ Tryz.underlying40 rfl info40 ?_ | (refine wpList_store_blk rfl 40 (.tmp 2) (.tmp 65) rfl w.heap.size rfl _ rfl HCf.out rfl info40 rfl ?_; intro w2 hk2 hf2))
    exact end_cell_tmp rfl rfl hk2 Tryz.underlying40 rfl info40 ⟨_, rfl, .inl ⟨rfl, rfl⟩, belowFr1 HBf.out hf2 (Nat.le_refl _) (Nat.le_refl _)⟩
set_option maxRecDepth 100000 in
set_option maxHeartbeats 8000000 in
theorem prDecode2 (w : World) (st code user pages term : Nat) (sp : List UInt8) (h : PrOk ⟨st, code, user, [1, 5], sp, pages, term⟩) :
    Calls Tryz.prog 147 #[.string (strL (prEnc ⟨st, code, user, [1, 5], sp, pages, term⟩))] w fun e w' => ∃ gv, e = .returned (.tuple #[prV ⟨st, code, user, [1, 5], sp, pages, term⟩ gv, .int .i64 0]) ∧ GrOk w' w'.heap.size gv [1, 5] ∧ Below w.heap.size w w' := by
  have hspl : sp.length < 4 := by
    rcases h.sp with e | e | e <;> rw [show sp = _ from e] <;> decide
  obtain ⟨⟨h1, h2⟩, h3, h4, h5, h6, h7, h8⟩ := id h
  dsimp only at h1 h2 h3 h4 h5 h6 h7 h8
  obtain ⟨L, hL⟩ : ∃ L, L = prEnc ⟨st, code, user, [1, 5], sp, pages, term⟩ := ⟨_, rfl⟩
  rw [← hL]
  have hLl : L.length ≤ 90000 := by rw [hL]; simp [prEnc]; omega
  have hL2 : L = UInt8.ofNat 1 :: UInt8.ofNat st :: UInt8.ofNat code :: UInt8.ofNat 0 :: UInt8.ofNat user :: UInt8.ofNat 2 :: UInt8.ofNat 1 :: UInt8.ofNat 5 :: UInt8.ofNat sp.length :: (sp ++ (UInt8.ofNat pages :: UInt8.ofNat ([] : List UInt8).length :: (([] : List UInt8) ++ [UInt8.ofNat 0, UInt8.ofNat term]))) := by rw [hL]; simp [prEnc]
  have HL := Lib.hid hL2
  have HH := Lib.hid h
  clear hL hL2 h
  unfold prV prCells
  dsimp only
  obtain ⟨zc, hzc⟩ : ∃ zc : Array Value, zc = #[.int .i64 0, .int .i64 0, .int .i64 0, .int .i64 0, .int .i64 0, .slice none 0 0, .string ⟨#[]⟩, .int .i64 0, .string ⟨#[]⟩, .int .i64 0, .int .i64 0] := ⟨_, rfl⟩
  have HC0 := Lib.hid (Blk.new w 40 zc)
  have HB0 := Lib.hid ((Below.refl w.heap.size w).alloc (Nat.le_refl _) (.cells zc 40))
  obtain ⟨cp, w2, hcv, hrd, hb2, hz2⟩ := str_rdB (w.alloc (.cells zc 40)) L (by omega)
  simp only [World.size_alloc] at hcv hrd
  rw [hzc] at HC0 HB0 hcv hb2
  clear hzc
  have HRD := Lib.hid hrd
  have HC2 := Lib.hid (HC0.out.below hb2 HC0.out.lt)
  have HB2 := Lib.hid (HB0.out.trans (hb2.mono HB0.out.size))
  clear hrd hb2 hz2 HC0 HB0
  go_enter Tryz.func147, Tryz.ntmps147
  go_wp2_with fail
  refine (newReader_any w2 _ L HRD.out hLl).mono ?_
  rintro e w3 ⟨B, R, rfl, hR, hBw, nb⟩
  rw [HL.out] at hR
  obtain ⟨Q, hQ⟩ : ∃ Q, Q = w3.heap.size := ⟨_, rfl⟩
  have HRQ : Hid (R < Q) := Lib.hid (by rw [hQ]; exact hR.lt)
  have HBR : Hid (B ≤ R) := Lib.hid hR.le
  have HwB : Hid (w.heap.size < B) := Lib.hid (Nat.lt_of_lt_of_le HC2.out.lt hBw)
  have HC3 := Lib.hid (HC2.out.below nb HC2.out.lt)
  have HB3 := Lib.hid (HB2.out.trans (nb.mono HB2.out.size))
  have HR3 := Lib.hid hR
  clear hR nb HC2 HB2 HRD hBw
  unfold ptrV
  simp only [Option.map_some]
  go_wp2_with fail
  obtain ⟨w4, hw4⟩ : ∃ w4, w4 = w3.alloc (.cells #[.int .i64 0, .int .i64 0, .int .i64 0, .int .i64 0, .int .i64 0, .slice none 0 0, .string ⟨#[]⟩, .int .i64 0, .string ⟨#[]⟩, .int .i64 0, .int .i64 0] 40) := ⟨_, rfl⟩
  have hbl4 : Below w3.heap.size w3 w4 := by rw [hw4]; exact (Below.refl _ _).alloc (Nat.le_refl _) _
  have HQ4 : Hid (Blk w4 Q 40 #[.int .i64 0, .int .i64 0, .int .i64 0, .int .i64 0, .int .i64 0, .slice none 0 0, .string ⟨#[]⟩, .int .i64 0, .string ⟨#[]⟩, .int .i64 0, .int .i64 0]) := Lib.hid (by rw [hw4, hQ]; exact Blk.new _ _ _)
  have HR4 := Lib.hid (HR3.out.below hbl4)
  have HC4 := Lib.hid (HC3.out.below hbl4 HC3.out.lt)
  have HB4 := Lib.hid (HB3.out.trans (hbl4.mono HB3.out.size))
  rw [← hw4, ← hQ]
  clear hw4 hbl4 HR3 HC3 HB3 hQ HL
  refine (readN_any w4 B R 1 _ 2 (by omega) (by omega) HR4.out (by simp <;> omega)).mono ?_
  rintro e w' ⟨rfl, hr, hb, hf⟩
  have hq := HQ4.out.fr hf (by simp; have := HRQ.out; omega)
  have ck := hq.cell 0
  have fk := hq.frozen 0
  simp at ck
  go_wp2_with fail
  obtain ⟨w5, hW⟩ : ∃ W, W = w'.setCell ⟨Q, 0, none⟩ (.int .i64 1) := ⟨_, rfl⟩
  have HQ5 : Hid (Blk w5 Q 40 #[.int .i64 1, .int .i64 0, .int .i64 0, .int .i64 0, .int .i64 0, .slice none 0 0, .string ⟨#[]⟩, .int .i64 0, .string ⟨#[]⟩, .int .i64 0, .int .i64 0]) := Lib.hid (by rw [hW]; have := hq.set_ 0 (.int .i64 1); simpa using this)
  have HR5 := Lib.hid (hr.far (Q := Q) (k := 0) (by have := HRQ.out; omega) (by have := HRQ.out; have := HBR.out; omega) (.int .i64 1))
  have HC5 : Hid (Blk w5 w.heap.size 40 _) := Lib.hid (by rw [hW]; exact (HC4.out.below hb HwB.out).far (p := ⟨Q, 0, none⟩) (by have := HwB.out; have := HRQ.out; have := HBR.out; show w.heap.size ≠ Q; omega) _)
  have HB5 : Hid (Below w.heap.size w w5) := Lib.hid (by rw [hW]; exact (HB4.out.trans (hb.mono (Nat.le_of_lt HwB.out))).setCell (p := ⟨Q, 0, none⟩) (by have := HwB.out; have := HRQ.out; have := HBR.out; show w.heap.size ≤ Q; omega) _)
  rw [← hW] at HR5 ⊢
  clear hW hq ck fk hr hb hf HQ4 HR4 HC4 HB4
  refine (readN_any w5 B R st _ 3 (by omega) (by omega) HR5.out (by simp <;> omega)).mono ?_
  rintro e w' ⟨rfl, hr, hb, hf⟩
  have hq := HQ5.out.fr hf (by simp; have := HRQ.out; omega)
  have ck := hq.cell 1
  have fk := hq.frozen 1
  simp at ck
  go_wp2_with fail
  obtain ⟨w6, hW⟩ : ∃ W, W = w'.setCell ⟨Q, 1, none⟩ (.int .i64 (st : Int)) := ⟨_, rfl⟩
  have HQ6 : Hid (Blk w6 Q 40 #[.int .i64 1, .int .i64 (st : Int), .int .i64 0, .int .i64 0, .int .i64 0, .slice none 0 0, .string ⟨#[]⟩, .int .i64 0, .string ⟨#[]⟩, .int .i64 0, .int .i64 0]) := Lib.hid (by rw [hW]; have := hq.set_ 1 (.int .i64 (st : Int)); simpa using this)
  have HR6 := Lib.hid (hr.far (Q := Q) (k := 1) (by have := HRQ.out; omega) (by have := HRQ.out; have := HBR.out; omega) (.int .i64 (st : Int)))
  have HC6 : Hid (Blk w6 w.heap.size 40 _) := Lib.hid (by rw [hW]; exact (HC5.out.below hb HwB.out).far (p := ⟨Q, 1, none⟩) (by have := HwB.out; have := HRQ.out; have := HBR.out; show w.heap.size ≠ Q; omega) _)
  have HB6 : Hid (Below w.heap.size w w6) := Lib.hid (by rw [hW]; exact (HB5.out.trans (hb.mono (Nat.le_of_lt HwB.out))).setCell (p := ⟨Q, 1, none⟩) (by have := HwB.out; have := HRQ.out; have := HBR.out; show w.heap.size ≤ Q; omega) _)
  rw [← hW] at HR6 ⊢
  clear hW hq ck fk hr hb hf HQ5 HR5 HC5 HB5
  refine (readN_any w6 B R code _ 410 (by omega) (by omega) HR6.out (by simp <;> omega)).mono ?_
  rintro e w' ⟨rfl, hr, hb, hf⟩
  have hq := HQ6.out.fr hf (by simp; have := HRQ.out; omega)
  have ck := hq.cell 2
  have fk := hq.frozen 2
  simp at ck
  go_wp2_with fail
  obtain ⟨w7, hW⟩ : ∃ W, W = w'.setCell ⟨Q, 2, none⟩ (.int .i64 (code : Int)) := ⟨_, rfl⟩
  have HQ7 : Hid (Blk w7 Q 40 #[.int .i64 1, .int .i64 (st : Int), .int .i64 (code : Int), .int .i64 0, .int .i64 0, .slice none 0 0, .string ⟨#[]⟩, .int .i64 0, .string ⟨#[]⟩, .int .i64 0, .int .i64 0]) := Lib.hid (by rw [hW]; have := hq.set_ 2 (.int .i64 (code : Int)); simpa using this)
  have HR7 := Lib.hid (hr.far (Q := Q) (k := 2) (by have := HRQ.out; omega) (by have := HRQ.out; have := HBR.out; omega) (.int .i64 (code : Int)))
  have HC7 : Hid (Blk w7 w.heap.size 40 _) := Lib.hid (by rw [hW]; exact (HC6.out.below hb HwB.out).far (p := ⟨Q, 2, none⟩) (by have := HwB.out; have := HRQ.out; have := HBR.out; show w.heap.size ≠ Q; omega) _)
  have HB7 : Hid (Below w.heap.size w w7) := Lib.hid (by rw [hW]; exact (HB6.out.trans (hb.mono (Nat.le_of_lt HwB.out))).setCell (p := ⟨Q, 2, none⟩) (by have := HwB.out; have := HRQ.out; have := HBR.out; show w.heap.size ≤ Q; omega) _)
  rw [← hW] at HR7 ⊢
  clear hW hq ck fk hr hb hf HQ6 HR6 HC6 HB6
  refine (readN_any w7 B R 0 _ 1073741824 (by omega) (by omega) HR7.out (by simp <;> omega)).mono ?_
  rintro e w' ⟨rfl, hr, hb, hf⟩
  have hq := HQ7.out.fr hf (by simp; have := HRQ.out; omega)
  have ck := hq.cell 3
  have fk := hq.frozen 3
  simp at ck
  go_wp2_with fail
  obtain ⟨w8, hW⟩ : ∃ W, W = w'.setCell ⟨Q, 3, none⟩ (.int .i64 0) := ⟨_, rfl⟩
  have HQ8 : Hid (Blk w8 Q 40 #[.int .i64 1, .int .i64 (st : Int), .int .i64 (code : Int), .int .i64 0, .int .i64 0, .slice none 0 0, .string ⟨#[]⟩, .int .i64 0, .string ⟨#[]⟩, .int .i64 0, .int .i64 0]) := Lib.hid (by rw [hW]; have := hq.set_ 3 (.int .i64 0); simpa using this)
  have HR8 := Lib.hid (hr.far (Q := Q) (k := 3) (by have := HRQ.out; omega) (by have := HRQ.out; have := HBR.out; omega) (.int .i64 0))
  have HC8 : Hid (Blk w8 w.heap.size 40 _) := Lib.hid (by rw [hW]; exact (HC7.out.below hb HwB.out).far (p := ⟨Q, 3, none⟩) (by have := HwB.out; have := HRQ.out; have := HBR.out; show w.heap.size ≠ Q; omega) _)
  have HB8 : Hid (Below w.heap.size w w8) := Lib.hid (by rw [hW]; exact (HB7.out.trans (hb.mono (Nat.le_of_lt HwB.out))).setCell (p := ⟨Q, 3, none⟩) (by have := HwB.out; have := HRQ.out; have := HBR.out; show w.heap.size ≤ Q; omega) _)
  rw [← hW] at HR8 ⊢
  clear hW hq ck fk hr hb hf HQ7 HR7 HC7 HB7
  refine (readN_any w8 B R user _ 65535 (by omega) (by omega) HR8.out (by simp <;> omega)).mono ?_
  rintro e w' ⟨rfl, hr, hb, hf⟩
  have hq := HQ8.out.fr hf (by simp; have := HRQ.out; omega)
  have ck := hq.cell 4
  have fk := hq.frozen 4
  simp at ck
  go_wp2_with fail
  obtain ⟨w9, hW⟩ : ∃ W, W = w'.setCell ⟨Q, 4, none⟩ (.int .i64 (user : Int)) := ⟨_, rfl⟩
  have HQ9 : Hid (Blk w9 Q 40 #[.int .i64 1, .int .i64 (st : Int), .int .i64 (code : Int), .int .i64 0, .int .i64 (user : Int), .slice none 0 0, .string ⟨#[]⟩, .int .i64 0, .string ⟨#[]⟩, .int .i64 0, .int .i64 0]) := Lib.hid (by rw [hW]; have := hq.set_ 4 (.int .i64 (user : Int)); simpa using this)
  have HR9 := Lib.hid (hr.far (Q := Q) (k := 4) (by have := HRQ.out; omega) (by have := HRQ.out; have := HBR.out; omega) (.int .i64 (user : Int)))
  have HC9 : Hid (Blk w9 w.heap.size 40 _) := Lib.hid (by rw [hW]; exact (HC8.out.below hb HwB.out).far (p := ⟨Q, 4, none⟩) (by have := HwB.out; have := HRQ.out; have := HBR.out; show w.heap.size ≠ Q; omega) _)
  have HB9 : Hid (Below w.heap.size w w9) := Lib.hid (by rw [hW]; exact (HB8.out.trans (hb.mono (Nat.le_of_lt HwB.out))).setCell (p := ⟨Q, 4, none⟩) (by have := HwB.out; have := HRQ.out; have := HBR.out; show w.heap.size ≤ Q; omega) _)
  rw [← hW] at HR9 ⊢
  clear hW hq ck fk hr hb hf HQ8 HR8 HC8 HB8
  refine (readN_any w9 B R 2 _ 8 (by omega) (by omega) HR9.out (by simp <;> omega)).mono ?_
  rintro e w10 ⟨rfl, hr, hb, hf⟩
  have HQ10 := Lib.hid (HQ9.out.fr hf (by simp; have := HRQ.out; omega))
  have HR10 := Lib.hid hr
  have HC10 := Lib.hid (HC9.out.below hb HwB.out)
  have HB10 := Lib.hid (HB9.out.trans (hb.mono (Nat.le_of_lt HwB.out)))
  clear hr hb hf HQ9 HR9 HC9 HB9
  obtain ⟨i3, hi3, hz0, hz1, hz2⟩ := info_parts info3i
  go_wp2_with fail
  go_loopg [27] 2 (fun q iv wr => (∃ v, ((q = 2 ∧ iv = .int .i64 0 ∧ Rdr wr B R (UInt8.ofNat 1 :: UInt8.ofNat 5 :: (UInt8.ofNat sp.length :: (sp ++ (UInt8.ofNat pages :: UInt8.ofNat ([] : List UInt8).length :: (([] : List UInt8) ++ [UInt8.ofNat 0, UInt8.ofNat term]))))) ∧ wr.ownsRow (Q + 1) 3 1 v 0 []) ∨ (q = 1 ∧ iv = .int .i64 1 ∧ Rdr wr B R (UInt8.ofNat 5 :: (UInt8.ofNat sp.length :: (sp ++ (UInt8.ofNat pages :: UInt8.ofNat ([] : List UInt8).length :: (([] : List UInt8) ++ [UInt8.ofNat 0, UInt8.ofNat term]))))) ∧ wr.ownsRow (Q + 1) 3 1 v 1 [.int .i64 1]) ∨ (q = 0 ∧ iv = .int .i64 2 ∧ Rdr wr B R (UInt8.ofNat sp.length :: (sp ++ (UInt8.ofNat pages :: UInt8.ofNat ([] : List UInt8).length :: (([] : List UInt8) ++ [UInt8.ofNat 0, UInt8.ofNat term])))) ∧ wr.ownsRow (Q + 1) 3 1 v 2 [.int .i64 1, .int .i64 5])) ∧ Blk wr Q 40 #[.int .i64 1, .int .i64 (st : Int), .int .i64 (code : Int), .int .i64 0, .int .i64 (user : Int), v, .string ⟨#[]⟩, .int .i64 0, .string ⟨#[]⟩, .int .i64 0, .int .i64 0]) ∧ Blk wr w.heap.size 40 _ ∧ Below w.heap.size w wr)
  case atStart => exact ⟨⟨.slice none 0 0, .inl ⟨rfl, rfl, HR10.out, World.ownsRow_nil _ _ _ _⟩, HQ10.out⟩, HC10.out, HB10.out⟩
  case round =>
    clear HQ10 HR10 HC10 HB10
    obtain ⟨⟨v, hcase, hq⟩, hc, hbl⟩ := hrel
    have hzq := hq.lt
    obtain ⟨rfl, rfl, hr, hown⟩ | ⟨rfl, rfl, hr, hown⟩ | ⟨rfl, rfl, hr, hown⟩ := hcase
    · obtain ⟨OA, oc, rfl⟩ := own_slice hown
      have HQ := Lib.hid hq
      have HR := Lib.hid hr
      have HC := Lib.hid hc
      have HB := Lib.hid hbl
      have HO := Lib.hid hown
      clear hr hc hbl hown
      have q5 := hq.cell 5
      simp at q5
      have HS := Lib.hid q5
      clear hq q5
      go_wp2_with fail
      refine wp_region_mixL (fun W => W.cell? ⟨Q, 5, none⟩ = some (.slice OA 0 oc)) [2, 4, 5] [4, 5, 6, 9] [0, 1, 2, 3, 4, 5, 6, 7, 8, 9] (by kernel_rfl) (by kernel_rfl) HS.out ?_
      simp only [inOrder, opAt]
      iterate 4
        (refine wpMixS_read (v := ?_) rfl rfl (fun w' hS => ?_) ?_
         rotate_left
         · ((try replace hS := hS rfl); (try dsimp only at hS); go_simp; (try with_reducible rfl))
         try simp only [Act.put, List.setIfInBounds_toArray, List.set_cons_zero, List.set_cons_succ])
      refine wpMixS_eff rfl rfl (fun K hK => ?_)
      go_simp
      refine (readN_any wr.drew B R 1 _ 65535 (by omega) (by omega) (HR.out.below ((Below.refl _ _).drew)) (by simp <;> omega)).mono ?_
      rintro e w1 ⟨rfl, hr1, hb1, hf1⟩
      have hq1 := HQ.out.drew.fr hf1 (by simp; have := HRQ.out; omega)
      have hs1 : w1.cell? ⟨Q, 5, none⟩ = some (.slice OA 0 oc) := by simpa using hq1.cell 5
      have own1 := own_fr HO.out.drew hf1 (fun g hg => by have := (HO.out.lt g hg).1; have := HRQ.out; simp; omega)
      have HQ1 := Lib.hid hq1
      have HR1 := Lib.hid hr1
      have HC1 := Lib.hid (HC.out.drew.below hb1 HwB.out)
      have HB1 := Lib.hid ((HB.out.drew).trans (hb1.mono (Nat.le_of_lt HwB.out)))
      have HO1 := Lib.hid own1
      have HZ1 : Hid (Q + 1 ≤ w1.heap.size) := Lib.hid hq1.lt
      clear hr1 hb1 hf1 hq1 own1 HQ HR HC HB HO HS
      refine hK.out _ _ _ (fun _ h => h) (fun _ => hs1) ?_
      clear hK K
      try simp only [Act.put, List.setIfInBounds_toArray, List.set_cons_zero, List.set_cons_succ]
      refine wpMixS_eff rfl rfl (fun K hK => ?_)
      go_simp
      refine hK.out _ _ _ (fun _ h => h) (fun _ => (World.cell?_alloc_lt w1 _ ⟨Q, 5, none⟩ HZ1.out).trans hs1) ?_
      clear hK K
      try simp only [Act.put, List.setIfInBounds_toArray, List.set_cons_zero, List.set_cons_succ]
      refine wpMixS_eff rfl rfl (fun K hK => ?_)
      refine wp_append_any _ _ _ 34 rfl (Q + 1) 3 i3 _ 1 8 Tryz.underlying34 hi3 hz0 hz1 hz2 rfl (by omega) (.slice OA 0 oc) 0 _ rfl (HO1.out.alloc _) (w1.heap.size + 1) (some ⟨w1.heap.size, 0, none⟩) 1 1 [.int .i64 1] rfl (reads_one w1 _ 3) (by simp [Value.oneCell']) (by unfold maxLen; omega) (by omega) (by have := HZ1.out; simp; omega) ?_
      intro v2 w2 hown2 hgrow2 _
      obtain ⟨OA2, oc2, rfl⟩ := own_slice hown2
      have hbel : Below (Q + 1) w1 w2 := ((Below.refl _ _).alloc HZ1.out _).grown hgrow2 (by have := HZ1.out; simp; omega) (fun k hk => (HO1.out.lt k hk).1)
      have HQ2 := Lib.hid (HQ1.out.below hbel (Nat.lt_succ_self _))
      have HR2 := Lib.hid (HR1.out.belowC hbel (by have := HRQ.out; omega))
      have HC2 := Lib.hid (HC1.out.below hbel (by have := HRQ.out; have := HwB.out; have := HBR.out; omega))
      have HB2 := Lib.hid (HB1.out.trans (hbel.mono (by have := HRQ.out; have := HwB.out; have := HBR.out; omega)))
      have HO2 := Lib.hid hown2
      clear hown2 hgrow2 hbel HQ1 HR1 HC1 HB1 HO1 HZ1 hs1
      refine hK.out _ _ _ (fun _ h => h) (fun h => by cases h) ?_
      clear hK K
      try simp only [Act.put, List.setIfInBounds_toArray, List.set_cons_zero, List.set_cons_succ]
      iterate 2
        (refine wpMixS_read (v := ?_) rfl rfl (fun w' hS => ?_) ?_
         rotate_left
         · ((try clear hS); go_simp; (try with_reducible rfl))
         try simp only [Act.put, List.setIfInBounds_toArray, List.set_cons_zero, List.set_cons_succ])
      refine wpMixS_eff rfl rfl (fun K hK => ?_)
      have q5 := HQ2.out.cell 5
      have f5 := HQ2.out.frozen 5
      simp at q5
      go_simp
      refine hK.out _ _ _ (fun _ h => h) (fun h => by cases h) ?_
      clear hK K
      try simp only [Act.put, List.setIfInBounds_toArray, List.set_cons_zero, List.set_cons_succ]
      refine wpMixS_nil ?_
      go_wp2_with fail
      go_roundg 1
      case measure => omega
      case rel =>
        refine ⟨⟨.slice OA2 1 oc2, .inr (.inl ⟨rfl, by go_num, HR2.out.far (by have := HRQ.out; omega) (by have := HRQ.out; have := HBR.out; omega) _, own_fr HO2.out ((Fr.refl [Q] w2).setCell (p := ⟨Q, 5, none⟩) (.inl (by simp)) _) (fun g hg => by have := (HO2.out.lt g hg).1; simp; omega)⟩), by have := HQ2.out.set_ 5 (.slice OA2 1 oc2); simpa using this⟩, HC2.out.far (p := ⟨Q, 5, none⟩) (by have := HwB.out; have := HRQ.out; have := HBR.out; show w.heap.size ≠ Q; omega) _, HB2.out.setCell (p := ⟨Q, 5, none⟩) (by have := HwB.out; have := HRQ.out; have := HBR.out; show w.heap.size ≤ Q; omega) _⟩
    · obtain ⟨OA, oc, rfl⟩ := own_slice hown
      have HQ := Lib.hid hq
      have HR := Lib.hid hr
      have HC := Lib.hid hc
      have HB := Lib.hid hbl
      have HO := Lib.hid hown
      clear hr hc hbl hown
      have q5 := hq.cell 5
      simp at q5
      have HS := Lib.hid q5
      clear hq q5
      go_wp2_with fail
      refine wp_region_mixL (fun W => W.cell? ⟨Q, 5, none⟩ = some (.slice OA 1 oc)) [2, 4, 5] [4, 5, 6, 9] [0, 1, 2, 3, 4, 5, 6, 7, 8, 9] (by kernel_rfl) (by kernel_rfl) HS.out ?_
      simp only [inOrder, opAt]
      iterate 4
        (refine wpMixS_read (v := ?_) rfl rfl (fun w' hS => ?_) ?_
         rotate_left
         · ((try replace hS := hS rfl); (try dsimp only at hS); go_simp; (try with_reducible rfl))
         try simp only [Act.put, List.setIfInBounds_toArray, List.set_cons_zero, List.set_cons_succ])
      refine wpMixS_eff rfl rfl (fun K hK => ?_)
      go_simp
      refine (readN_any wr.drew B R 5 _ 65535 (by omega) (by omega) (HR.out.below ((Below.refl _ _).drew)) (by simp <;> omega)).mono ?_
      rintro e w1 ⟨rfl, hr1, hb1, hf1⟩
      have hq1 := HQ.out.drew.fr hf1 (by simp; have := HRQ.out; omega)
      have hs1 : w1.cell? ⟨Q, 5, none⟩ = some (.slice OA 1 oc) := by simpa using hq1.cell 5
      have own1 := own_fr HO.out.drew hf1 (fun g hg => by have := (HO.out.lt g hg).1; have := HRQ.out; simp; omega)
      have HQ1 := Lib.hid hq1
      have HR1 := Lib.hid hr1
      have HC1 := Lib.hid (HC.out.drew.below hb1 HwB.out)
      have HB1 := Lib.hid ((HB.out.drew).trans (hb1.mono (Nat.le_of_lt HwB.out)))
      have HO1 := Lib.hid own1
      have HZ1 : Hid (Q + 1 ≤ w1.heap.size) := Lib.hid hq1.lt
      clear hr1 hb1 hf1 hq1 own1 HQ HR HC HB HO HS
      refine hK.out _ _ _ (fun _ h => h) (fun _ => hs1) ?_
      clear hK K
      try simp only [Act.put, List.setIfInBounds_toArray, List.set_cons_zero, List.set_cons_succ]
      refine wpMixS_eff rfl rfl (fun K hK => ?_)
      go_simp
      refine hK.out _ _ _ (fun _ h => h) (fun _ => (World.cell?_alloc_lt w1 _ ⟨Q, 5, none⟩ HZ1.out).trans hs1) ?_
      clear hK K
      try simp only [Act.put, List.setIfInBounds_toArray, List.set_cons_zero, List.set_cons_succ]
      refine wpMixS_eff rfl rfl (fun K hK => ?_)
      refine wp_append_any _ _ _ 34 rfl (Q + 1) 3 i3 _ 1 8 Tryz.underlying34 hi3 hz0 hz1 hz2 rfl (by omega) (.slice OA 1 oc) 1 _ rfl (HO1.out.alloc _) (w1.heap.size + 1) (some ⟨w1.heap.size, 0, none⟩) 1 1 [.int .i64 5] rfl (reads_one w1 _ 3) (by simp [Value.oneCell']) (by unfold maxLen; omega) (by omega) (by have := HZ1.out; simp; omega) ?_
      intro v2 w2 hown2 hgrow2 _
      obtain ⟨OA2, oc2, rfl⟩ := own_slice hown2
      have hbel : Below (Q + 1) w1 w2 := ((Below.refl _ _).alloc HZ1.out _).grown hgrow2 (by have := HZ1.out; simp; omega) (fun k hk => (HO1.out.lt k hk).1)
      have HQ2 := Lib.hid (HQ1.out.below hbel (Nat.lt_succ_self _))
      have HR2 := Lib.hid (HR1.out.belowC hbel (by have := HRQ.out; omega))
      have HC2 := Lib.hid (HC1.out.below hbel (by have := HRQ.out; have := HwB.out; have := HBR.out; omega))
      have HB2 := Lib.hid (HB1.out.trans (hbel.mono (by have := HRQ.out; have := HwB.out; have := HBR.out; omega)))
      have HO2 := Lib.hid hown2
      clear hown2 hgrow2 hbel HQ1 HR1 HC1 HB1 HO1 HZ1 hs1
      refine hK.out _ _ _ (fun _ h => h) (fun h => by cases h) ?_
      clear hK K
      try simp only [Act.put, List.setIfInBounds_toArray, List.set_cons_zero, List.set_cons_succ]
      iterate 2
        (refine wpMixS_read (v := ?_) rfl rfl (fun w' hS => ?_) ?_
         rotate_left
         · ((try clear hS); go_simp; (try with_reducible rfl))
         try simp only [Act.put, List.setIfInBounds_toArray, List.set_cons_zero, List.set_cons_succ])
      refine wpMixS_eff rfl rfl (fun K hK => ?_)
      have q5 := HQ2.out.cell 5
      have f5 := HQ2.out.frozen 5
      simp at q5
      go_simp
      refine hK.out _ _ _ (fun _ h => h) (fun h => by cases h) ?_
      clear hK K
      try simp only [Act.put, List.setIfInBounds_toArray, List.set_cons_zero, List.set_cons_succ]
      refine wpMixS_nil ?_
      go_wp2_with fail
      go_roundg 0
      case measure => omega
      case rel =>
        refine ⟨⟨.slice OA2 2 oc2, .inr (.inr ⟨rfl, by go_num, HR2.out.far (by have := HRQ.out; omega) (by have := HRQ.out; have := HBR.out; omega) _, own_fr HO2.out ((Fr.refl [Q] w2).setCell (p := ⟨Q, 5, none⟩) (.inl (by simp)) _) (fun g hg => by have := (HO2.out.lt g hg).1; simp; omega)⟩), by have := HQ2.out.set_ 5 (.slice OA2 2 oc2); simpa using this⟩, HC2.out.far (p := ⟨Q, 5, none⟩) (by have := HwB.out; have := HRQ.out; have := HBR.out; show w.heap.size ≠ Q; omega) _, HB2.out.setCell (p := ⟨Q, 5, none⟩) (by have := HwB.out; have := HRQ.out; have := HBR.out; show w.heap.size ≤ Q; omega) _⟩
    · obtain ⟨OA, oc, rfl⟩ := own_slice hown
      obtain ⟨w20, hw20⟩ : ∃ W, W = wr := ⟨_, rfl⟩
      subst hw20
      have HQ20 := Lib.hid hq
      have HR20 := Lib.hid hr
      have HC20 := Lib.hid hc
      have HB20 := Lib.hid hbl
      have HO20 := Lib.hid hown
      clear hq hr hc hbl hown
      go_wp2_with fail
      refine (readT_any w20 B R sp _ 65536 (by omega) (by omega) HR20.out (by simp <;> omega)).mono ?_
      rintro e w' ⟨rfl, hr, hb, hf⟩
      have hq := HQ20.out.fr hf (by simp; have := HRQ.out; omega)
      have ck := hq.cell 6
      have fk := hq.frozen 6
      simp at ck
      go_wp2_with fail
      obtain ⟨w21, hW⟩ : ∃ W, W = w'.setCell ⟨Q, 6, none⟩ (.string (strL sp)) := ⟨_, rfl⟩
      have HQ21 : Hid (Blk w21 Q 40 #[.int .i64 1, .int .i64 (st : Int), .int .i64 (code : Int), .int .i64 0, .int .i64 (user : Int), .slice OA 2 oc, .string (strL sp), .int .i64 0, .string ⟨#[]⟩, .int .i64 0, .int .i64 0]) := Lib.hid (by rw [hW]; have := hq.set_ 6 (.string (strL sp)); simpa using this)
      have HR21 := Lib.hid (hr.far (Q := Q) (k := 6) (by have := HRQ.out; omega) (by have := HRQ.out; have := HBR.out; omega) (.string (strL sp)))
      have HC21 : Hid (Blk w21 w.heap.size 40 _) := Lib.hid (by rw [hW]; exact (HC20.out.below hb HwB.out).far (p := ⟨Q, 6, none⟩) (by have := HwB.out; have := HRQ.out; have := HBR.out; show w.heap.size ≠ Q; omega) _)
      have HB21 : Hid (Below w.heap.size w w21) := Lib.hid (by rw [hW]; exact (HB20.out.trans (hb.mono (Nat.le_of_lt HwB.out))).setCell (p := ⟨Q, 6, none⟩) (by have := HwB.out; have := HRQ.out; have := HBR.out; show w.heap.size ≤ Q; omega) _)
      have HO21 : Hid (w21.ownsRow (Q + 1) 3 1 (.slice OA 2 oc) 2 [.int .i64 1, .int .i64 5]) := Lib.hid (by rw [hW]; exact own_fr (own_fr HO20.out hf (fun g hg => by have := (HO20.out.lt g hg).1; have := HRQ.out; simp; omega)) ((Fr.refl [Q] _).setCell (p := ⟨Q, 6, none⟩) (.inl (by simp)) _) (fun g hg => by have := (HO20.out.lt g hg).1; simp; omega))
      rw [← hW] at HR21 ⊢
      clear hW hq ck fk hr hb hf HQ20 HR20 HC20 HB20 HO20
      refine (readN_any w21 B R pages _ 64 (by omega) (by omega) HR21.out (by simp <;> omega)).mono ?_
      rintro e w' ⟨rfl, hr, hb, hf⟩
      have hq := HQ21.out.fr hf (by simp; have := HRQ.out; omega)
      have ck := hq.cell 7
      have fk := hq.frozen 7
      simp at ck
      go_wp2_with fail
      obtain ⟨w22, hW⟩ : ∃ W, W = w'.setCell ⟨Q, 7, none⟩ (.int .i64 (pages : Int)) := ⟨_, rfl⟩
      have HQ22 : Hid (Blk w22 Q 40 #[.int .i64 1, .int .i64 (st : Int), .int .i64 (code : Int), .int .i64 0, .int .i64 (user : Int), .slice OA 2 oc, .string (strL sp), .int .i64 (pages : Int), .string ⟨#[]⟩, .int .i64 0, .int .i64 0]) := Lib.hid (by rw [hW]; have := hq.set_ 7 (.int .i64 (pages : Int)); simpa using this)
      have HR22 := Lib.hid (hr.far (Q := Q) (k := 7) (by have := HRQ.out; omega) (by have := HRQ.out; have := HBR.out; omega) (.int .i64 (pages : Int)))
      have HC22 : Hid (Blk w22 w.heap.size 40 _) := Lib.hid (by rw [hW]; exact (HC21.out.below hb HwB.out).far (p := ⟨Q, 7, none⟩) (by have := HwB.out; have := HRQ.out; have := HBR.out; show w.heap.size ≠ Q; omega) _)
      have HB22 : Hid (Below w.heap.size w w22) := Lib.hid (by rw [hW]; exact (HB21.out.trans (hb.mono (Nat.le_of_lt HwB.out))).setCell (p := ⟨Q, 7, none⟩) (by have := HwB.out; have := HRQ.out; have := HBR.out; show w.heap.size ≤ Q; omega) _)
      have HO22 : Hid (w22.ownsRow (Q + 1) 3 1 (.slice OA 2 oc) 2 [.int .i64 1, .int .i64 5]) := Lib.hid (by rw [hW]; exact own_fr (own_fr HO21.out hf (fun g hg => by have := (HO21.out.lt g hg).1; have := HRQ.out; simp; omega)) ((Fr.refl [Q] _).setCell (p := ⟨Q, 7, none⟩) (.inl (by simp)) _) (fun g hg => by have := (HO21.out.lt g hg).1; simp; omega))
      rw [← hW] at HR22 ⊢
      clear hW hq ck fk hr hb hf HQ21 HR21 HC21 HB21 HO21
      refine (readT_any w22 B R [] _ 65536 (by simp) (by simp) HR22.out (by simp <;> omega)).mono ?_
      rintro e w' ⟨rfl, hr, hb, hf⟩
      have hq := HQ22.out.fr hf (by simp; have := HRQ.out; omega)
      have ck := hq.cell 8
      have fk := hq.frozen 8
      simp at ck
      go_wp2_with fail
      obtain ⟨w23, hW⟩ : ∃ W, W = w'.setCell ⟨Q, 8, none⟩ (.string (strL [])) := ⟨_, rfl⟩
      have HQ23 : Hid (Blk w23 Q 40 #[.int .i64 1, .int .i64 (st : Int), .int .i64 (code : Int), .int .i64 0, .int .i64 (user : Int), .slice OA 2 oc, .string (strL sp), .int .i64 (pages : Int), .string (strL []), .int .i64 0, .int .i64 0]) := Lib.hid (by rw [hW]; have := hq.set_ 8 (.string (strL [])); simpa using this)
      have HR23 := Lib.hid (hr.far (Q := Q) (k := 8) (by have := HRQ.out; omega) (by have := HRQ.out; have := HBR.out; omega) (.string (strL [])))
      have HC23 : Hid (Blk w23 w.heap.size 40 _) := Lib.hid (by rw [hW]; exact (HC22.out.below hb HwB.out).far (p := ⟨Q, 8, none⟩) (by have := HwB.out; have := HRQ.out; have := HBR.out; show w.heap.size ≠ Q; omega) _)
      have HB23 : Hid (Below w.heap.size w w23) := Lib.hid (by rw [hW]; exact (HB22.out.trans (hb.mono (Nat.le_of_lt HwB.out))).setCell (p := ⟨Q, 8, none⟩) (by have := HwB.out; have := HRQ.out; have := HBR.out; show w.heap.size ≤ Q; omega) _)
      have HO23 : Hid (w23.ownsRow (Q + 1) 3 1 (.slice OA 2 oc) 2 [.int .i64 1, .int .i64 5]) := Lib.hid (by rw [hW]; exact own_fr (own_fr HO22.out hf (fun g hg => by have := (HO22.out.lt g hg).1; have := HRQ.out; simp; omega)) ((Fr.refl [Q] _).setCell (p := ⟨Q, 8, none⟩) (.inl (by simp)) _) (fun g hg => by have := (HO22.out.lt g hg).1; simp; omega))
      rw [← hW] at HR23 ⊢
      clear hW hq ck fk hr hb hf HQ22 HR22 HC22 HB22 HO22
      refine (readN_any w23 B R 0 _ 1073741824 (by omega) (by omega) HR23.out (by simp <;> omega)).mono ?_
      rintro e w' ⟨rfl, hr, hb, hf⟩
      have hq := HQ23.out.fr hf (by simp; have := HRQ.out; omega)
      have ck := hq.cell 9
      have fk := hq.frozen 9
      simp at ck
      go_wp2_with fail
      obtain ⟨w24, hW⟩ : ∃ W, W = w'.setCell ⟨Q, 9, none⟩ (.int .i64 0) := ⟨_, rfl⟩
      have HQ24 : Hid (Blk w24 Q 40 #[.int .i64 1, .int .i64 (st : Int), .int .i64 (code : Int), .int .i64 0, .int .i64 (user : Int), .slice OA 2 oc, .string (strL sp), .int .i64 (pages : Int), .string (strL []), .int .i64 0, .int .i64 0]) := Lib.hid (by rw [hW]; have := hq.set_ 9 (.int .i64 0); simpa using this)
      have HR24 := Lib.hid (hr.far (Q := Q) (k := 9) (by have := HRQ.out; omega) (by have := HRQ.out; have := HBR.out; omega) (.int .i64 0))
      have HC24 : Hid (Blk w24 w.heap.size 40 _) := Lib.hid (by rw [hW]; exact (HC23.out.below hb HwB.out).far (p := ⟨Q, 9, none⟩) (by have := HwB.out; have := HRQ.out; have := HBR.out; show w.heap.size ≠ Q; omega) _)
      have HB24 : Hid (Below w.heap.size w w24) := Lib.hid (by rw [hW]; exact (HB23.out.trans (hb.mono (Nat.le_of_lt HwB.out))).setCell (p := ⟨Q, 9, none⟩) (by have := HwB.out; have := HRQ.out; have := HBR.out; show w.heap.size ≤ Q; omega) _)
      have HO24 : Hid (w24.ownsRow (Q + 1) 3 1 (.slice OA 2 oc) 2 [.int .i64 1, .int .i64 5]) := Lib.hid (by rw [hW]; exact own_fr (own_fr HO23.out hf (fun g hg => by have := (HO23.out.lt g hg).1; have := HRQ.out; simp; omega)) ((Fr.refl [Q] _).setCell (p := ⟨Q, 9, none⟩) (.inl (by simp)) _) (fun g hg => by have := (HO23.out.lt g hg).1; simp; omega))
      rw [← hW] at HR24 ⊢
      clear hW hq ck fk hr hb hf HQ23 HR23 HC23 HB23 HO23
      refine (readN_any w24 B R term _ 99 (by omega) (by omega) HR24.out (by simp <;> omega)).mono ?_
      rintro e w' ⟨rfl, hr, hb, hf⟩
      have hq := HQ24.out.fr hf (by simp; have := HRQ.out; omega)
      have ck := hq.cell 10
      have fk := hq.frozen 10
      simp at ck
      go_wp2_with fail
      obtain ⟨w25, hW⟩ : ∃ W, W = w'.setCell ⟨Q, 10, none⟩ (.int .i64 (term : Int)) := ⟨_, rfl⟩
      have HQ25 : Hid (Blk w25 Q 40 #[.int .i64 1, .int .i64 (st : Int), .int .i64 (code : Int), .int .i64 0, .int .i64 (user : Int), .slice OA 2 oc, .string (strL sp), .int .i64 (pages : Int), .string (strL []), .int .i64 0, .int .i64 (term : Int)]) := Lib.hid (by rw [hW]; have := hq.set_ 10 (.int .i64 (term : Int)); simpa using this)
      have HR25 := Lib.hid (hr.far (Q := Q) (k := 10) (by have := HRQ.out; omega) (by have := HRQ.out; have := HBR.out; omega) (.int .i64 (term : Int)))
      have HC25 : Hid (Blk w25 w.heap.size 40 _) := Lib.hid (by rw [hW]; exact (HC24.out.below hb HwB.out).far (p := ⟨Q, 10, none⟩) (by have := HwB.out; have := HRQ.out; have := HBR.out; show w.heap.size ≠ Q; omega) _)
      have HB25 : Hid (Below w.heap.size w w25) := Lib.hid (by rw [hW]; exact (HB24.out.trans (hb.mono (Nat.le_of_lt HwB.out))).setCell (p := ⟨Q, 10, none⟩) (by have := HwB.out; have := HRQ.out; have := HBR.out; show w.heap.size ≤ Q; omega) _)
      have HO25 : Hid (w25.ownsRow (Q + 1) 3 1 (.slice OA 2 oc) 2 [.int .i64 1, .int .i64 5]) := Lib.hid (by rw [hW]; exact own_fr (own_fr HO24.out hf (fun g hg => by have := (HO24.out.lt g hg).1; have := HRQ.out; simp; omega)) ((Fr.refl [Q] _).setCell (p := ⟨Q, 10, none⟩) (.inl (by simp)) _) (fun g hg => by have := (HO24.out.lt g hg).1; simp; omega))
      rw [← hW] at HR25 ⊢
      clear hW hq ck fk hr hb hf HQ24 HR24 HC24 HB24 HO24
      have hQi := HQ25.out
      refine (close_any w25 B R HR25.out).mono ?_
      rintro e w' ⟨rfl, rfl⟩
      have hck := prCheck_any w25 w25.heap.size ⟨st, code, user, [1, 5], sp, pages, term⟩ (.slice OA 2 oc) HH.out (gr_of_own HO25.out) (Nat.le_refl _)
      unfold prV prCells at hck
      dsimp only at hck
      have q0 := HQ25.out.cell 0
      have q1 := HQ25.out.cell 1
      have q2 := HQ25.out.cell 2
      have q3 := HQ25.out.cell 3
      have q4 := HQ25.out.cell 4
      have q5 := HQ25.out.cell 5
      have q6 := HQ25.out.cell 6
      have q7 := HQ25.out.cell 7
      have q8 := HQ25.out.cell 8
      have q9 := HQ25.out.cell 9
      have q10 := HQ25.out.cell 10
      simp at q0 q1 q2 q3 q4 q5 q6 q7 q8 q9 q10
      go_wp2_with fail
      clear q0 q1 q2 q3 q4 q5 q6 q7 q8 q9 q10
      refine hck.mono ?_
      rintro e w' ⟨rfl, nb⟩
      clear hck
      have HQf := Lib.hid (HQ25.out.below nb HQ25.out.lt)
      have HOf := Lib.hid (own_fr (L := []) HO25.out (Fr.of_below nb) (fun g hg => List.not_mem_nil))
      have HCf := Lib.hid (HC25.out.below nb HC25.out.lt)
      have HBf := Lib.hid (HB25.out.trans (nb.mono HB25.out.size))
      go_wp2_with (first | refine wpList_load_blk rfl 40 (.tmp 5) rfl Q rfl HQf.out _ Tryz.underlying40 rfl info40 ?_ | (refine wpList_store_blk rfl 40 (.tmp 2) (.tmp 65) rfl w.heap.size rfl _ rfl HCf.out rfl info40 rfl ?_; intro w2 hk2 hf2))
      exact end_cell_tmp rfl rfl hk2 Tryz.underlying40 rfl info40 ⟨_, rfl, gr_of_own (own_fr HOf.out hf2 (fun g hg => by have := (HOf.out.lt g hg).1; have := HwB.out; have := HRQ.out; have := HBR.out; simp; omega)), belowFr1 HBf.out hf2 (Nat.le_refl _) (Nat.le_refl _)⟩
end Go.Proofs.YtkoomlbnfhdhcaaGreatDoor
