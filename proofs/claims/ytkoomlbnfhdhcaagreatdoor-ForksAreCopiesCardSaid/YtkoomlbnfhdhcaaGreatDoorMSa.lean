/-
  Words for a space in memory: a block of 257 cells; pages: blocks of 65 cells.
-/
import Derived.Test.YtkoomlbnfhdhcaaGreatDoorMem2
import Derived.Test.YtkoomlbnfhdhcaaGreatDoorMixL
import Derived.Test.YtkoomlbnfhdhcaaGreatDoorRows
import Derived.WalkSpells
import Derived.WalkLawsBesides
import Derived.Deep.QuietTactic
import Derived.BigQuiet
import Derived.Deep.LoopGhost
import Derived.Deep.RegionHeld3
import Derived.Deep.Cut
import Derived.IntWalk
import Derived.Laws.CopyRow
import Derived.Laws.CopyOwn
import Derived.Deep.WholeRow
namespace Go.Proofs.YtkoomlbnfhdhcaaGreatDoor
open Go.RowKit

def ptrV (o : Option Nat) : Value := .pointer (o.map fun g => ⟨g, 0, none⟩)
/-- A function with another value at a place. -/
def upd {α : Type} (f : Nat → α) (p : Nat) (v : α) : Nat → α := fun q => if q = p then v else f q
theorem upd_at {α : Type} (f : Nat → α) (p : Nat) (v : α) : upd f p v p = v := by simp [upd]
theorem upd_ne {α : Type} (f : Nat → α) (p q : Nat) (v : α) (h : q ≠ p) : upd f p v q = f q := by simp [upd, h]

/-- A space: what asks the source, and what is known, asked for, changed; the blocks of its pages. -/
structure Sp where
  fetch : Value
  known : Nat → Bool
  asked : Nat → Bool
  changed : Nat → Bool
  pg : Nat → Option Nat

def row {α : Type} (c : α → Value) (f : Nat → α) : List Value := (List.range 64).map fun p => c (f p)
theorem row_length {α : Type} (c : α → Value) (f : Nat → α) : (row c f).length = 64 := by simp [row]
theorem row_get {α : Type} (c : α → Value) (f : Nat → α) (p : Nat) (hp : p < 64) : (row c f)[p]? = some (c (f p)) := by simp [row, hp]
theorem row_set {α : Type} (c : α → Value) (f : Nat → α) (p : Nat) (v : α) : (row c f).set p (c v) = row c (upd f p v) := by
  refine List.ext_getElem? fun i => ?_
  by_cases hi : i < 64
  · rw [row_get _ _ i hi]
    by_cases h : i = p
    · subst h
      rw [List.getElem?_set_self (by rw [row_length]; exact hi), upd_at]
    · rw [List.getElem?_set_ne (fun h2 => h h2.symm), row_get _ _ i hi, upd_ne _ _ _ _ h]
  · rw [List.getElem?_eq_none (by rw [List.length_set, row_length]; omega), List.getElem?_eq_none (by rw [row_length]; omega)]

def spL (s : Sp) : List Value := s.fetch :: (row .bool s.known ++ (row .bool s.asked ++ (row .bool s.changed ++ row ptrV s.pg)))
def spCells (s : Sp) : Array Value := (spL s).toArray

section
variable (s : Sp) (p : Nat)
theorem sp_fetch : (spCells s)[0]? = some s.fetch := rfl
theorem sp_known (hp : p < 64) : (spCells s)[1 + p]? = some (.bool (s.known p)) := by
  show (spL s).toArray[1 + p]? = _
  rw [List.getElem?_toArray, spL, Nat.add_comm, List.getElem?_cons_succ, List.getElem?_append_left (by rw [row_length]; exact hp), row_get _ _ p hp]
theorem sp_asked (hp : p < 64) : (spCells s)[65 + p]? = some (.bool (s.asked p)) := by
  show (spL s).toArray[65 + p]? = _
  rw [List.getElem?_toArray, spL, show 65 + p = (64 + p) + 1 by omega, List.getElem?_cons_succ, List.getElem?_append_right (by rw [row_length]; omega), row_length,
    List.getElem?_append_left (by rw [row_length]; omega), show 64 + p - 64 = p by omega, row_get _ _ p hp]
theorem sp_changed (hp : p < 64) : (spCells s)[129 + p]? = some (.bool (s.changed p)) := by
  show (spL s).toArray[129 + p]? = _
  rw [List.getElem?_toArray, spL, show 129 + p = (128 + p) + 1 by omega, List.getElem?_cons_succ, List.getElem?_append_right (by rw [row_length]; omega), row_length,
    List.getElem?_append_right (by rw [row_length]; omega), row_length, List.getElem?_append_left (by rw [row_length]; omega), show 128 + p - 64 - 64 = p by omega, row_get _ _ p hp]
theorem sp_pg (hp : p < 64) : (spCells s)[193 + p]? = some (ptrV (s.pg p)) := by
  show (spL s).toArray[193 + p]? = _
  rw [List.getElem?_toArray, spL, show 193 + p = (192 + p) + 1 by omega, List.getElem?_cons_succ, List.getElem?_append_right (by rw [row_length]; omega), row_length,
    List.getElem?_append_right (by rw [row_length]; omega), row_length, List.getElem?_append_right (by rw [row_length]; omega), row_length, show 192 + p - 64 - 64 - 64 = p by omega, row_get _ _ p hp]
theorem sp_set_fetch (v : Value) : (spCells s).setIfInBounds 0 v = spCells { s with fetch := v } := rfl
theorem sp_set_known (v : Bool) (hp : p < 64) : (spCells s).setIfInBounds (1 + p) (.bool v) = spCells { s with known := upd s.known p v } := by
  unfold spCells
  rw [List.setIfInBounds_toArray]
  congr 1
  unfold spL
  rw [Nat.add_comm, List.set_cons_succ, List.set_append_left _ _ (by rw [row_length]; exact hp), row_set]
theorem sp_set_asked (v : Bool) (hp : p < 64) : (spCells s).setIfInBounds (65 + p) (.bool v) = spCells { s with asked := upd s.asked p v } := by
  unfold spCells
  rw [List.setIfInBounds_toArray]
  congr 1
  unfold spL
  rw [show 65 + p = (64 + p) + 1 by omega, List.set_cons_succ, List.set_append_right _ _ (by rw [row_length]; omega), row_length, List.set_append_left _ _ (by rw [row_length]; omega), show 64 + p - 64 = p by omega, row_set]
theorem sp_set_changed (v : Bool) (hp : p < 64) : (spCells s).setIfInBounds (129 + p) (.bool v) = spCells { s with changed := upd s.changed p v } := by
  unfold spCells
  rw [List.setIfInBounds_toArray]
  congr 1
  unfold spL
  rw [show 129 + p = (128 + p) + 1 by omega, List.set_cons_succ, List.set_append_right _ _ (by rw [row_length]; omega), row_length, List.set_append_right _ _ (by rw [row_length]; omega), row_length, List.set_append_left _ _ (by rw [row_length]; omega), show 128 + p - 64 - 64 = p by omega, row_set]
theorem sp_set_pg (o : Option Nat) (hp : p < 64) : (spCells s).setIfInBounds (193 + p) (ptrV o) = spCells { s with pg := upd s.pg p o } := by
  unfold spCells
  rw [List.setIfInBounds_toArray]
  congr 1
  unfold spL
  rw [show 193 + p = (192 + p) + 1 by omega, List.set_cons_succ, List.set_append_right _ _ (by rw [row_length]; omega), row_length, List.set_append_right _ _ (by rw [row_length]; omega), row_length, List.set_append_right _ _ (by rw [row_length]; omega), row_length, show 192 + p - 64 - 64 - 64 = p by omega, row_set]
end

/-- A page in memory. -/
def heldCells (b : List UInt8) (sh : Bool) : Array Value := (bs b ++ [Value.bool sh]).toArray
section
variable (b : List UInt8) (sh : Bool)
theorem held_byte (i : Nat) (hi : i < b.length) : (heldCells b sh)[i]? = some (.int .u8 (b.getD i 0).toNat) := by
  show (bs b ++ [Value.bool sh]).toArray[i]? = _
  rw [List.getElem?_toArray, List.getElem?_append_left (by rw [bs_length]; exact hi), bs_get, List.getElem?_eq_getElem hi, List.getD_eq_getElem?_getD, List.getElem?_eq_getElem hi]
  rfl
theorem held_shared (hb : b.length = 64) : (heldCells b sh)[64]? = some (.bool sh) := by
  show (bs b ++ [Value.bool sh]).toArray[64]? = _
  rw [List.getElem?_toArray, List.getElem?_append_right (by rw [bs_length]; omega), bs_length, hb]
  rfl
theorem held_set (i : Nat) (x : UInt8) (hi : i < b.length) : (heldCells b sh).setIfInBounds i (.int .u8 x.toNat) = heldCells (b.set i x) sh := by
  unfold heldCells
  rw [List.setIfInBounds_toArray]
  congr 1
  rw [List.set_append_left _ _ (by rw [bs_length]; exact hi)]
  congr 1
  unfold bs
  rw [List.map_set]
theorem held_share (v : Bool) (hb : b.length = 64) : (heldCells b sh).setIfInBounds 64 (.bool v) = heldCells b v := by
  unfold heldCells
  rw [List.setIfInBounds_toArray]
  congr 1
  rw [List.set_append_right _ _ (by rw [bs_length]; omega), bs_length, hb]
  rfl
end
end Go.Proofs.YtkoomlbnfhdhcaaGreatDoor

/-
  Walks: isPage, newHeld, New.
-/
namespace Go.Proofs.YtkoomlbnfhdhcaaGreatDoor
open Go.RowKit
set_option linter.unusedVariables false

def pageB (p : Int) : Bool := decide (0 ≤ p ∧ p < 64)
theorem isPage_any (w : World) (p : Int) : Calls Tryz.prog 40 #[.int .i64 p] w fun e w' => e = .returned (.bool (pageB p)) ∧ w = w' := by
  by_cases h0 : 0 ≤ p
  · have e0 : decide (0 ≤ p) = true := decide_eq_true h0
    by_cases h1 : p < 64
    · have hr : Hid (pageB p = true) := Lib.hid (decide_eq_true ⟨h0, h1⟩)
      have e1 : decide (p < 64) = true := decide_eq_true h1
      go_enter Tryz.func40, Tryz.ntmps40
      go_wp2_with fail
      go_ret
      exact ⟨by rw [hr.out]; rfl, rfl⟩
    · have hr : Hid (pageB p = false) := Lib.hid (decide_eq_false (fun h => h1 h.2))
      have e1 : decide (p < 64) = false := decide_eq_false h1
      go_enter Tryz.func40, Tryz.ntmps40
      go_wp2_with fail
      go_ret
      exact ⟨by rw [hr.out]; rfl, rfl⟩
  · have hr : Hid (pageB p = false) := Lib.hid (decide_eq_false (fun h => h0 h.1))
    have e0 : decide (0 ≤ p) = false := decide_eq_false h0
    go_enter Tryz.func40, Tryz.ntmps40
    go_wp2_with fail
    go_ret
    exact ⟨by rw [hr.out]; rfl, rfl⟩

/-- The bytes of a page. -/
def padL (l : List UInt8) : List UInt8 := (l ++ List.replicate 64 0).take 64
theorem padL_length (l : List UInt8) : (padL l).length = 64 := by
  unfold padL; rw [List.length_take, List.length_append, List.length_replicate]; omega

section
variable {P : Program} (w : World)
/-- copy(dst, s), s a string, dst the head of a block: as many bytes as fit go over. -/
theorem run_copy_head (dT sT ty elem : TypeId) (g dLen dCap : Nat) (s : ByteArray) (cur : Array Value) (t : TypeId)
    (hu : P.underlying dT = some (.slice elem)) (hs : (P.info? elem).map (·.size) = some 1) (hg : Blk w g t cur) (hfit : dLen ≤ cur.size) :
    (Builtin.copy_ #[dT, sT] ty #[.slice (some ⟨g, 0, none⟩) dLen dCap, .string s]).run P w =
      .ok (goInt ((min s.size dLen : Nat))) (w.setRow g (bs (s.data.toList.take (min s.size dLen)) ++ cur.toList.drop (min s.size dLen)).toArray) := by
  have hsz : s.data.toList.length = s.size := by simp
  have hlen : (bs (s.data.toList.take (min s.size dLen))).length = min s.size dLen := by rw [bs_length, List.length_take, hsz]; omega
  have hst := run_storeCells_at P g 0 t (bs (s.data.toList.take (min s.size dLen))) 0 cur w hg (by rw [hlen]; omega) (bs_one _)
  rw [hlen] at hst
  simp only [Nat.add_zero, Nat.zero_add, List.take_zero, List.nil_append] at hst
  cases hq : P.info? elem with
  | none => simp [hq] at hs
  | some i =>
    have htk : List.take (min s.size dLen) (List.map (fun b : UInt8 => Value.int IntKind.u8 (b.toNat : Int)) s.data.toList) = bs (s.data.toList.take (min s.size dLen)) := by
      unfold bs
      rw [List.map_take]
    have hmin : Nat.min s.size dLen = min s.size dLen := rfl
    simp [Builtin.copy_, run_underlying hu, Builtin.lenOf, Builtin.firstCells, sizeOf, typeInfo, hq, hmin]
    rw [htk, hst]
    simp [Result.andThen]
theorem wpList_copy_head {ops : Array Oper} {rest : List Oper} {o : Oper} {a : Act} {Q : Exit → Act → World → Prop} (hgd : o.guard = none) (d x : Operand) (dT sT : TypeId)
    (ho : o.op = .call { callee := .builtin .copy, args := #[d, x], argTypes := #[dT, sT] }) (elem : TypeId) (g dLen dCap : Nat) (s : ByteArray) (cur : Array Value) (t : TypeId)
    (hu : P.underlying dT = some (.slice elem)) (hs : (P.info? elem).map (·.size) = some 1) (hd : a.eval d = .slice (some ⟨g, 0, none⟩) dLen dCap) (hx : a.eval x = .string s) (hg : Blk w g t cur) (hfit : dLen ≤ cur.size)
    (h : wpList P ops Q rest (a.put o.dst (goInt ((min s.size dLen : Nat)))) (w.setRow g (bs (s.data.toList.take (min s.size dLen)) ++ cur.toList.drop (min s.size dLen)).toArray)) : wpList P ops Q (o :: rest) a w :=
  wpList_plain hgd fun _ hK => by
    have hrun := run_copy_head (P := P) w dT sT o.type elem g dLen dCap s cur t hu hs hg hfit
    unfold Oper.wp execOp
    simp only [ho, resolve, invoke, builtin, Sem.run_bind, Sem.run_pure, Result.andThen_ok, List.map_toArray, List.map_cons, List.map_nil, hd, hx, hrun]
    exact hK _ _ h
end

def zeros : List UInt8 := List.replicate 64 0
theorem zeros_length : zeros.length = 64 := by unfold zeros; rw [List.length_replicate]
theorem z91 (w : World) : (zeroValue 125).run Tryz.prog w = .ok (.agg (heldCells zeros false)) w := by kernel_rfl
theorem z86 (w : World) : (zeroValue 98).run Tryz.prog w = .ok (.agg (spCells ⟨.nilFunc, fun _ => false, fun _ => false, fun _ => false, fun _ => none⟩)) w := by kernel_rfl
theorem s5 : (Tryz.prog.info? 5).map (·.size) = some 1 := by kernel_rfl

theorem pad_cells (s : ByteArray) : (bs (s.data.toList.take (min s.size 64)) ++ (heldCells zeros false).toList.drop (min s.size 64)).toArray = heldCells (padL s.data.toList) false := by
  have hsz : s.data.toList.length = s.size := by simp
  unfold heldCells
  congr 1
  show _ ++ List.drop _ (bs zeros ++ [Value.bool false]) = _
  rw [List.drop_append_of_le_length (by rw [bs_length, zeros_length]; omega), ← List.append_assoc, ← bs_drop, ← bs_append]
  congr 2
  unfold padL zeros
  rw [List.drop_replicate]
  rcases Nat.le_total s.size 64 with h | h
  · rw [Nat.min_eq_left h, List.take_of_length_le (by omega), List.take_append, hsz, List.take_of_length_le (by omega), List.take_replicate]
    congr 2
    omega
  · rw [Nat.min_eq_right h, List.take_append_of_le_length (by omega)]
    simp

set_option maxRecDepth 100000 in
set_option maxHeartbeats 4000000 in
theorem newHeld_any (w : World) (s : ByteArray) (hs : s.size ≤ 140737488355328) : Calls Tryz.prog 38 #[.string s] w fun e w' => e = .returned (ptrV (some w.heap.size)) ∧ Blk w' w.heap.size 125 (heldCells (padL s.data.toList) false) ∧ Below w.heap.size w w' := by
  have hz := z91
  have hb := Blk.new w 125 (heldCells zeros false)
  have hlen : 64 ≤ (heldCells zeros false).size := by show _ ≤ (bs zeros ++ [Value.bool false]).length; rw [List.length_append, bs_length, zeros_length]; simp
  have HP := Lib.hid (pad_cells s)
  go_enter Tryz.func38, Tryz.ntmps38
  go_wp2_with ((with_reducible refine wpList_copy_head _ rfl (.tmp 9) (.tmp 10) 24 9 rfl 5 w.heap.size 64 64 s (heldCells zeros false) 125 Tryz.underlying24 s5 rfl rfl hb hlen ?_); rw [HP.out, World.setRow_alloc_new])
  go_ret
  exact ⟨rfl, Blk.new _ _ _, (Below.refl _ _).alloc (Nat.le_refl _) _⟩

set_option maxRecDepth 100000 in
set_option maxHeartbeats 4000000 in
theorem new_nil (w : World) : Calls Tryz.prog 12 #[.nilFunc] w fun e w' => e = .returned (ptrV (some (w.heap.size + 1))) ∧ Blk w' (w.heap.size + 1) 98 (spCells ⟨.nilFunc, fun _ => false, fun _ => false, fun _ => false, fun _ => none⟩) ∧ Below w.heap.size w w' := by
  have hz := z86
  have hq : ∀ W, (binOp BinOp.neq 92 Value.nilFunc Value.nilFunc).run Tryz.prog W = .ok (.bool false) W := fun W => by kernel_rfl
  go_enter Tryz.func12, Tryz.ntmps12
  go_wp2_with fail
  go_ret
  exact ⟨rfl, Blk.new_ _ 98 _ (by simp), ((Below.refl _ _).alloc (Nat.le_refl _) _).alloc (by simp) _⟩
end Go.Proofs.YtkoomlbnfhdhcaaGreatDoor

/-
  Walks: need (without a source), access.
-/
namespace Go.Proofs.YtkoomlbnfhdhcaaGreatDoor
open Go.RowKit
set_option linter.unusedVariables false

/-- A space without a source behind the need of a page. -/
def needN (s : Sp) (p : Nat) : Sp := { s with known := upd s.known p true }
theorem upd_same {α : Type} (f : Nat → α) (p : Nat) (v : α) (h : f p = v) : upd f p v = f := by
  funext q
  unfold upd
  split
  · rename_i hq; rw [hq, h]
  · rfl
theorem needN_known (s : Sp) (p : Nat) (h : s.known p = true) : needN s p = s := by
  unfold needN
  rw [upd_same _ _ _ h]

theorem fn_nil81 (W : World) : (binOp BinOp.neq 93 Value.nilFunc Value.nilFunc).run Tryz.prog W = .ok (.bool false) W := by kernel_rfl

set_option maxRecDepth 100000 in
set_option maxHeartbeats 4000000 in
theorem need_nil (w : World) (g p : Nat) (s : Sp) (hb : Blk w g 98 (spCells s)) (hp : p < 64) (hf : s.fetch = .nilFunc) :
    Calls Tryz.prog 41 #[.pointer (some ⟨g, 0, none⟩), .int .i64 p] w fun e w' => e = .returned (ptrV (s.pg p)) ∧ Blk w' g 98 (spCells (needN s p)) ∧ Fr [g] w w' := by
  have k1 : w.cell? ⟨g, 1 + p, none⟩ = some (.bool (s.known p)) := (hb.cell _).trans (sp_known s p hp)
  have k2 : w.cell? ⟨g, 193 + p, none⟩ = some (ptrV (s.pg p)) := (hb.cell _).trans (sp_pg s p hp)
  have i1 : (p : Int) < 64 := by omega
  have i0 : (0 : Int) ≤ (p : Int) := by omega
  rcases Bool.eq_false_or_eq_true (s.known p) with hk | hk
  · rw [hk] at k1
    have HK := Lib.hid (needN_known s p hk)
    clear hk hf
    go_enter Tryz.func41, Tryz.ntmps41
    go_wp2_with fail
    go_ret
    exact ⟨rfl, by rw [HK.out]; exact hb, Fr.refl _ _⟩
  · rw [hk] at k1
    have f1 := hb.frozen (1 + p)
    have k0 : w.cell? ⟨g, 0, none⟩ = some .nilFunc := by rw [hb.cell, sp_fetch, hf]
    have hq := fn_nil81
    have hne : (1 + p ≠ 193 + p) := by omega
    have hs : Blk (w.setCell ⟨g, 1 + p, none⟩ (.bool true)) g 98 (spCells (needN s p)) := by have := hb.set_ (1 + p) (.bool true); rw [sp_set_known s p true hp] at this; exact this
    have HS := Lib.hid hs
    clear hk hf hs
    go_enter Tryz.func41, Tryz.ntmps41
    go_wp2_with fail

    go_ret
    exact ⟨rfl, HS.out, (Fr.refl _ _).setCell (.inl (by simp)) _⟩
end Go.Proofs.YtkoomlbnfhdhcaaGreatDoor

/-
  Words for all spaces of a world: what stands in memory, what they hold, what may have moved.
-/
namespace Go.Proofs.YtkoomlbnfhdhcaaGreatDoor
open Go.RowKit
set_option linter.unusedVariables false

/-! ### What may have moved: spaces and pages, what X names, and new blocks; nothing below B -/
def SpT (w : World) (k : Nat) : Prop := ∃ cs t fr, w.heap[k]? = some (.cells cs t fr) ∧ (t = 98 ∨ t = 125)
structure Mv (B : Nat) (X : Nat → Prop) (w w' : World) : Prop where
  os : w'.os = w.os
  tape : w'.tape = w.tape
  output : w'.output = w.output
  size : w.heap.size ≤ w'.heap.size
  block : ∀ k, k < w.heap.size → (k < B ∨ (¬ SpT w k ∧ ¬ X k)) → w'.heap[k]? = w.heap[k]?
def NoX : Nat → Prop := fun _ => False

section
variable {B : Nat} {X : Nat → Prop} {w w' w'' : World}
theorem SpT_of_eq {k : Nat} (h : w'.heap[k]? = w.heap[k]?) : SpT w' k ↔ SpT w k := by unfold SpT; rw [h]
theorem Mv.refl (B : Nat) (X : Nat → Prop) (w : World) : Mv B X w w := ⟨rfl, rfl, rfl, Nat.le_refl _, fun _ _ _ => rfl⟩
theorem Mv.trans (h : Mv B X w w') (k : Mv B X w' w'') : Mv B X w w'' :=
  ⟨k.os.trans h.os, k.tape.trans h.tape, k.output.trans h.output, Nat.le_trans h.size k.size, fun i hi hc => by
    have h1 := h.block i hi hc
    refine (k.block i (Nat.lt_of_lt_of_le hi h.size) ?_).trans h1
    rcases hc with hc | ⟨hc1, hc2⟩
    · exact .inl hc
    · exact .inr ⟨fun hs => hc1 ((SpT_of_eq h1).1 hs), hc2⟩⟩
theorem Mv.drew (h : Mv B X w w') : Mv B X w w'.drew := ⟨h.os, h.tape, h.output, h.size, h.block⟩
theorem Mv.drewN (h : Mv B X w w') (n : Nat) : Mv B X w (w'.drewN n) := ⟨h.os, h.tape, h.output, h.size, h.block⟩
theorem Mv.alloc (h : Mv B X w w') (o : Obj) : Mv B X w (w'.alloc o) :=
  ⟨h.os, h.tape, h.output, Nat.le_trans h.size (by simp), fun i hi hc => (Below.heap_alloc w' o i (Nat.lt_of_lt_of_le hi h.size)).trans (h.block i hi hc)⟩
theorem Mv.fr {L : List Nat} (h : Fr L w w') (hL : ∀ g ∈ L, B ≤ g ∧ (SpT w g ∨ X g)) : Mv B X w w' :=
  ⟨h.os, h.tape, h.output, h.size, fun k hk hc => h.block k hk (fun hm => by
    obtain ⟨h1, h2⟩ := hL k hm
    rcases hc with hc | ⟨hc1, hc2⟩
    · omega
    · rcases h2 with h2 | h2
      · exact hc1 h2
      · exact hc2 h2)⟩
theorem Mv.more (h : Mv B NoX w w') : Mv B X w w' := ⟨h.os, h.tape, h.output, h.size, fun k hk hc => h.block k hk (hc.imp id fun hc => ⟨hc.1, fun h => h⟩)⟩
theorem Mv.below (h : Mv B X w w') (hB : B ≤ w.heap.size) : Below B w w' := ⟨h.os, h.tape, h.output, h.size, fun k hk => h.block k (by omega) (.inl hk)⟩
theorem Mv.of_below (h : Below w.heap.size w w') : Mv B X w w' := ⟨h.os, h.tape, h.output, h.size, fun k hk _ => h.block k hk⟩
theorem Mv.blk {g : Nat} {t : TypeId} {cs : Array Value} (h : Mv B X w w') (hb : Blk w g t cs) (h1 : t ≠ 98) (h2 : t ≠ 125) (hx : ¬ X g) : Blk w' g t cs :=
  (h.block g hb.lt (.inr ⟨fun ⟨cs', t', fr, he, ht⟩ => by
    unfold Blk at hb
    rw [hb] at he
    injection he with he
    injection he with _ he
    subst he
    rcases ht with ht | ht
    · exact h1 ht
    · exact h2 ht, hx⟩)).trans hb
theorem spT_86 {g : Nat} {cs : Array Value} (h : Blk w g 98 cs) : SpT w g := ⟨cs, 98, (0, 0), h, .inl rfl⟩
theorem spT_91 {g : Nat} {cs : Array Value} (h : Blk w g 125 cs) : SpT w g := ⟨cs, 125, (0, 0), h, .inr rfl⟩
end

/-! ### All spaces -/
abbrev Pages := Nat → Option (List UInt8 × Bool)
structure Rep (B : Nat) (w : World) (sps : Nat → Option Sp) (hm : Pages) : Prop where
  blk : ∀ g s, sps g = some s → Blk w g 98 (spCells s) ∧ B ≤ g
  mem : ∀ h b sh, hm h = some (b, sh) → b.length = 64 ∧ Blk w h 125 (heldCells b sh) ∧ B ≤ h
  ref : ∀ g s, sps g = some s → ∀ p h, s.pg p = some h → ∃ c, hm h = some c
  own : ∀ g s g' s' p q h b, sps g = some s → sps g' = some s' → s.pg p = some h → s'.pg q = some h → hm h = some (b, false) → g = g' ∧ p = q

/-- What a page of a space holds. -/
def pageOf (hm : Pages) (o : Option Nat) : Option (List UInt8) := o.bind fun h => (hm h).map (·.1)

/-- What a space is, its blocks aside. -/
structure AS where
  src : Option (Nat → Option (List UInt8))
  known : Nat → Bool
  asked : Nat → Bool
  changed : Nat → Bool
  page : Nat → Option (List UInt8)

/-- A source: the value that asks it, what it holds, what must stand in memory if these pages have been asked for; the blocks that it writes. -/
structure Source where
  val : Value
  src : Nat → Option (List UInt8)
  E : (Nat → Bool) → World → Prop
  X : Nat → Prop
  root : Nat
def srcOf (C : Source) (v : Value) : Option (Nat → Option (List UInt8)) := match v with
  | .nilFunc => none
  | _ => some C.src
def view (C : Source) (hm : Pages) (s : Sp) : AS := ⟨srcOf C s.fetch, s.known, s.asked, s.changed, fun p => pageOf hm (s.pg p)⟩

/-- All that stands in memory. -/
structure All (C : Source) (B : Nat) (w : World) (sps : Nat → Option Sp) (hm : Pages) : Prop extends Rep B w sps hm where
  env : ∀ s, sps C.root = some s → s.fetch = .nilFunc ∨ (s.fetch = C.val ∧ C.E s.asked w)
  nosrc : ∀ g s, sps g = some s → g ≠ C.root → s.fetch = .nilFunc
  inv : ∀ g s, sps g = some s → ∀ p, s.known p = false → s.asked p = false ∧ s.pg p = none

/-- .. as the spaces look. -/
def Looks (C : Source) (B : Nat) (w : World) (V : Nat → Option AS) : Prop := ∃ sps hm, All C B w sps hm ∧ ∀ g, V g = (sps g).map (view C hm)

def needA (a : AS) (p : Nat) : AS :=
  if a.known p then a else match a.src with
  | none => { a with known := upd a.known p true }
  | some f => { a with known := upd a.known p true, asked := upd a.asked p true, page := upd a.page p ((f p).map padL) }

/-- A space's pages behind a change of the memory of pages. -/
theorem upd_some {α : Type} (f : Nat → Option α) (g : Nat) (v x : α) (g' : Nat) (h : upd f g (some v) g' = some x) : (g' = g ∧ x = v) ∨ (g' ≠ g ∧ f g' = some x) := by
  unfold upd at h
  split at h
  · rename_i he
    injection h with h
    exact .inl ⟨he, h.symm⟩
  · rename_i he
    exact .inr ⟨he, h⟩
end Go.Proofs.YtkoomlbnfhdhcaaGreatDoor

/-
  How the words for all spaces follow a step: a space's flags, a page's bytes, a page put or taken.
-/
namespace Go.Proofs.YtkoomlbnfhdhcaaGreatDoor
open Go.RowKit
set_option linter.unusedVariables false

/-- Blocks that a space's functions may write: spaces, pages, rows of bytes, of numbers, of changes. -/
def OwnT (w : World) (k : Nat) : Prop := ∃ cs t fr, w.heap[k]? = some (.cells cs t fr) ∧ (t = 98 ∨ t = 125 ∨ t = 5 ∨ t = 3 ∨ t = 148)
structure MvE (w w' : World) : Prop where
  size : w.heap.size ≤ w'.heap.size
  block : ∀ k, k < w.heap.size → ¬ OwnT w k → w'.heap[k]? = w.heap[k]?
theorem Mv.toE {B : Nat} {w w' : World} (h : Mv B NoX w w') : MvE w w' := ⟨h.size, fun k hk hc => h.block k hk (.inr ⟨fun ⟨cs, t, fr, he, ht⟩ => hc ⟨cs, t, fr, he, ht.imp id .inl⟩, fun h => h⟩)⟩
/-- What stands for a source stays where only such blocks move. -/
def Keeps (C : Source) (B : Nat) : Prop := ∀ a w w', C.E a w → MvE w w' → C.E a w'

section
variable {C : Source} {B : Nat} {w w' : World} {sps : Nat → Option Sp} {hm : Pages} {g : Nat} {s : Sp}

theorem Rep.fr_sp (h : Rep B w sps hm) (hg : sps g = some s) (hw : Fr [g] w w') : Mv B NoX w w' :=
  Mv.fr hw fun k hk => by
    rw [List.mem_singleton.1 hk]
    exact ⟨(h.blk g s hg).2, .inl (spT_86 (h.blk g s hg).1)⟩
theorem Rep.page_ne (h : Rep B w sps hm) (hg : sps g = some s) {k : Nat} {c : List UInt8 × Bool} (hk : hm k = some c) : k ≠ g := by
  obtain ⟨b, sh⟩ := c
  exact (h.mem k b sh hk).2.1.ne_ (h.blk g s hg).1 (by decide)

/-- A space's flags. -/
theorem All.flags (h : All C B w sps hm) (hk : Keeps C B) (hg : sps g = some s) (s' : Sp) (h1 : s'.fetch = s.fetch) (h2 : ∀ W, C.E s.asked W → C.E s'.asked W) (h3 : s'.pg = s.pg) (h4 : ∀ p, s'.known p = false → s'.asked p = false ∧ s'.pg p = none) (hw : Fr [g] w w') (hb : Blk w' g 98 (spCells s')) :
    All C B w' (upd sps g (some s')) hm := by
  have hmv := h.toRep.fr_sp hg hw
  refine ⟨⟨fun k x hx => ?_, fun k b sh hx => ?_, fun k x hx p q hq => ?_, fun k x k' x' p q r b hx hx' hr hr' hh => ?_⟩, fun x hx => ?_, fun k x hx hne => ?_, fun k x hx => ?_⟩
  · rcases upd_some _ _ _ _ _ hx with ⟨rfl, rfl⟩ | ⟨hne, hx⟩
    · exact ⟨hb, (h.blk k s hg).2⟩
    · exact ⟨(h.blk k x hx).1.fr hw (by simpa using hne), (h.blk k x hx).2⟩
  · obtain ⟨m1, m2, m3⟩ := h.mem k b sh hx
    exact ⟨m1, m2.fr hw (by simpa using h.toRep.page_ne hg hx), m3⟩
  · rcases upd_some _ _ _ _ _ hx with ⟨rfl, rfl⟩ | ⟨hne, hx⟩
    · rw [h3] at hq; exact h.ref k s hg p q hq
    · exact h.ref k x hx p q hq
  · have key : ∀ k x, upd sps g (some s') k = some x → ∃ y, sps k = some y ∧ y.pg = x.pg := fun k x hx => by
      rcases upd_some _ _ _ _ _ hx with ⟨rfl, rfl⟩ | ⟨hne, hx⟩
      · exact ⟨s, hg, h3.symm⟩
      · exact ⟨x, hx, rfl⟩
    obtain ⟨y, hy, e1⟩ := key k x hx
    obtain ⟨y', hy', e2⟩ := key k' x' hx'
    rw [← e1] at hr
    rw [← e2] at hr'
    exact h.own k y k' y' p q r b hy hy' hr hr' hh
  · rcases upd_some _ _ _ _ _ hx with ⟨rfl, rfl⟩ | ⟨hne, hx⟩
    · rw [h1]
      exact (h.env s hg).imp id fun e => ⟨e.1, h2 _ (hk _ _ _ e.2 hmv.toE)⟩
    · exact (h.env x hx).imp id fun e => ⟨e.1, hk _ _ _ e.2 hmv.toE⟩
  · rcases upd_some _ _ _ _ _ hx with ⟨rfl, rfl⟩ | ⟨hne', hx⟩
    · rw [h1]; exact h.nosrc k s hg hne
    · exact h.nosrc k x hx hne
  · rcases upd_some _ _ _ _ _ hx with ⟨rfl, rfl⟩ | ⟨hne', hx⟩
    · exact h4
    · exact h.inv k x hx

/-- A page's bytes and its mark. -/
theorem All.write (h : All C B w sps hm) (hk : Keeps C B) {q : Nat} {b : List UInt8} {sh : Bool} (hq : hm q = some (b, sh)) (b' : List UInt8) (sh' : Bool) (hl : b'.length = 64) (hsh : sh' = false → sh = false) (hw : Fr [q] w w') (hb : Blk w' q 125 (heldCells b' sh')) :
    All C B w' sps (upd hm q (some (b', sh'))) ∧ Mv B NoX w w' := by
  have hmv : Mv B NoX w w' := Mv.fr hw fun k hk => by
    rw [List.mem_singleton.1 hk]
    exact ⟨(h.mem q b sh hq).2.2, .inl (spT_91 (h.mem q b sh hq).2.1)⟩
  refine ⟨⟨⟨fun k x hx => ?_, fun k c sc hx => ?_, fun k x hx p r hr => ?_, fun k x k' x' p p' r c hx hx' hr hr' hh => ?_⟩, fun x hx => ?_, h.nosrc, h.inv⟩, hmv⟩
  · exact ⟨(h.blk k x hx).1.fr hw (by have := h.toRep.page_ne hx hq; simpa using fun e => this e.symm), (h.blk k x hx).2⟩
  · rcases upd_some _ _ _ _ _ hx with ⟨rfl, he⟩ | ⟨hne, hx⟩
    · injection he with he1 he2
      subst he1 he2
      exact ⟨hl, hb, (h.mem k b sh hq).2.2⟩
    · obtain ⟨m1, m2, m3⟩ := h.mem k c sc hx
      exact ⟨m1, m2.fr hw (by simpa using hne), m3⟩
  · obtain ⟨c, hc⟩ := h.ref k x hx p r hr
    by_cases e : r = q
    · exact ⟨(b', sh'), by rw [e, upd_at]⟩
    · exact ⟨c, by rw [upd_ne _ _ _ _ e]; exact hc⟩
  · rcases upd_some _ _ _ _ _ hh with ⟨rfl, he⟩ | ⟨hne, hh⟩
    · injection he with he1 he2
      have := hsh he2.symm
      subst this
      exact h.own k x k' x' p p' r b hx hx' hr hr' hq
    · exact h.own k x k' x' p p' r c hx hx' hr hr' hh
  · exact (h.env x hx).imp id fun e => ⟨e.1, hk _ _ _ e.2 hmv.toE⟩

/-- A new page is put. -/
theorem All.put (h : All C B w sps hm) (hk : Keeps C B) (hg : sps g = some s) (p : Nat) (s' : Sp) (q : Nat) (b : List UInt8) (h1 : s'.fetch = s.fetch) (h2 : ∀ W, C.E s.asked W → C.E s'.asked W) (h3 : s'.pg = upd s.pg p (some q)) (h4 : ∀ p, s'.known p = false → s'.asked p = false ∧ s'.pg p = none) (hl : b.length = 64)
    (hw : Fr [g] w w') (hb : Blk w' g 98 (spCells s')) (hnew : ∀ c, hm q ≠ some c) (hBq : B ≤ q) (hbq : Blk w' q 125 (heldCells b false)) :
    All C B w' (upd sps g (some s')) (upd hm q (some (b, false))) := by
  have hmv := h.toRep.fr_sp hg hw
  have hold : ∀ k x, sps k = some x → ∀ p', x.pg p' ≠ some q := fun k x hx p' he => by
    obtain ⟨c, hc⟩ := h.ref k x hx p' q he
    exact hnew c hc
  have hpg : ∀ p' r, s'.pg p' = some r → (p' = p ∧ r = q) ∨ (p' ≠ p ∧ s.pg p' = some r) := fun p' r hr => by
    rw [h3] at hr
    exact upd_some _ _ _ _ _ hr
  refine ⟨⟨fun k x hx => ?_, fun k c sc hx => ?_, fun k x hx p' r hr => ?_, fun k x k' x' p1 p2 r c hx hx' hr hr' hh => ?_⟩, fun x hx => ?_, fun k x hx hne => ?_, fun k x hx => ?_⟩
  · rcases upd_some _ _ _ _ _ hx with ⟨rfl, rfl⟩ | ⟨hne, hx⟩
    · exact ⟨hb, (h.blk k s hg).2⟩
    · exact ⟨(h.blk k x hx).1.fr hw (by simpa using hne), (h.blk k x hx).2⟩
  · rcases upd_some _ _ _ _ _ hx with ⟨rfl, he⟩ | ⟨hne, hx⟩
    · injection he with he1 he2
      subst he1 he2
      exact ⟨hl, hbq, hBq⟩
    · obtain ⟨m1, m2, m3⟩ := h.mem k c sc hx
      exact ⟨m1, m2.fr hw (by simpa using h.toRep.page_ne hg hx), m3⟩
  · have hin : ∀ r, (∃ c, hm r = some c) → ∃ c, upd hm q (some (b, false)) r = some c := fun r ⟨c, hc⟩ => by
      by_cases e : r = q
      · exact ⟨_, by rw [e, upd_at]⟩
      · exact ⟨c, by rw [upd_ne _ _ _ _ e]; exact hc⟩
    rcases upd_some _ _ _ _ _ hx with ⟨rfl, rfl⟩ | ⟨hne, hx⟩
    · rcases hpg p' r hr with ⟨rfl, rfl⟩ | ⟨_, hr⟩
      · exact ⟨_, upd_at _ _ _⟩
      · exact hin r (h.ref k s hg p' r hr)
    · exact hin r (h.ref k x hx p' r hr)
  · by_cases e : r = q
    · subst e
      have key : ∀ k x p1, upd sps g (some s') k = some x → x.pg p1 = some r → k = g ∧ p1 = p := fun k x p1 hx hr => by
        rcases upd_some _ _ _ _ _ hx with ⟨rfl, rfl⟩ | ⟨hne, hx⟩
        · rcases hpg p1 r hr with ⟨rfl, _⟩ | ⟨_, hr⟩
          · exact ⟨rfl, rfl⟩
          · exact absurd hr (hold k s hg p1)
        · exact absurd hr (hold k x hx p1)
      obtain ⟨a1, a2⟩ := key k x p1 hx hr
      obtain ⟨b1, b2⟩ := key k' x' p2 hx' hr'
      exact ⟨a1.trans b1.symm, a2.trans b2.symm⟩
    · rw [upd_ne _ _ _ _ e] at hh
      have key : ∀ k x p1, upd sps g (some s') k = some x → x.pg p1 = some r → ∃ y, sps k = some y ∧ y.pg p1 = some r := fun k x p1 hx hr => by
        rcases upd_some _ _ _ _ _ hx with ⟨rfl, rfl⟩ | ⟨hne, hx⟩
        · rcases hpg p1 r hr with ⟨_, h5⟩ | ⟨_, hr⟩
          · exact absurd h5 e
          · exact ⟨s, hg, hr⟩
        · exact ⟨x, hx, hr⟩
      obtain ⟨y, hy, hr1⟩ := key k x p1 hx hr
      obtain ⟨y', hy', hr2⟩ := key k' x' p2 hx' hr'
      exact h.own k y k' y' p1 p2 r c hy hy' hr1 hr2 hh
  · rcases upd_some _ _ _ _ _ hx with ⟨rfl, rfl⟩ | ⟨hne, hx⟩
    · rw [h1]
      exact (h.env s hg).imp id fun e => ⟨e.1, h2 _ (hk _ _ _ e.2 hmv.toE)⟩
    · exact (h.env x hx).imp id fun e => ⟨e.1, hk _ _ _ e.2 hmv.toE⟩
  · rcases upd_some _ _ _ _ _ hx with ⟨rfl, rfl⟩ | ⟨hne', hx⟩
    · rw [h1]; exact h.nosrc k s hg hne
    · exact h.nosrc k x hx hne
  · rcases upd_some _ _ _ _ _ hx with ⟨rfl, rfl⟩ | ⟨hne', hx⟩
    · exact h4
    · exact h.inv k x hx

/-- A page is taken. -/
theorem All.take (h : All C B w sps hm) (hk : Keeps C B) (hg : sps g = some s) (p : Nat) (s' : Sp) (h1 : s'.fetch = s.fetch) (h2 : ∀ W, C.E s.asked W → C.E s'.asked W) (h3 : s'.pg = upd s.pg p none) (h4 : ∀ p, s'.known p = false → s'.asked p = false ∧ s'.pg p = none)
    (hw : Fr [g] w w') (hb : Blk w' g 98 (spCells s')) : All C B w' (upd sps g (some s')) hm := by
  have hmv := h.toRep.fr_sp hg hw
  have hpg : ∀ p' r, s'.pg p' = some r → s.pg p' = some r := fun p' r hr => by
    rw [h3] at hr
    unfold upd at hr
    split at hr
    · cases hr
    · exact hr
  have key : ∀ k x p1 r, upd sps g (some s') k = some x → x.pg p1 = some r → ∃ y, sps k = some y ∧ y.pg p1 = some r := fun k x p1 r hx hr => by
    rcases upd_some _ _ _ _ _ hx with ⟨rfl, rfl⟩ | ⟨hne, hx⟩
    · exact ⟨s, hg, hpg p1 r hr⟩
    · exact ⟨x, hx, hr⟩
  refine ⟨⟨fun k x hx => ?_, fun k b sh hx => ?_, fun k x hx p q hq => ?_, fun k x k' x' p q r b hx hx' hr hr' hh => ?_⟩, fun x hx => ?_, fun k x hx hne => ?_, fun k x hx => ?_⟩
  · rcases upd_some _ _ _ _ _ hx with ⟨rfl, rfl⟩ | ⟨hne, hx⟩
    · exact ⟨hb, (h.blk k s hg).2⟩
    · exact ⟨(h.blk k x hx).1.fr hw (by simpa using hne), (h.blk k x hx).2⟩
  · obtain ⟨m1, m2, m3⟩ := h.mem k b sh hx
    exact ⟨m1, m2.fr hw (by simpa using h.toRep.page_ne hg hx), m3⟩
  · obtain ⟨y, hy, hr⟩ := key k x p q hx hq
    exact h.ref k y hy p q hr
  · obtain ⟨y, hy, hr1⟩ := key k x p r hx hr
    obtain ⟨y', hy', hr2⟩ := key k' x' q r hx' hr'
    exact h.own k y k' y' p q r b hy hy' hr1 hr2 hh
  · rcases upd_some _ _ _ _ _ hx with ⟨rfl, rfl⟩ | ⟨hne, hx⟩
    · rw [h1]
      exact (h.env s hg).imp id fun e => ⟨e.1, h2 _ (hk _ _ _ e.2 hmv.toE)⟩
    · exact (h.env x hx).imp id fun e => ⟨e.1, hk _ _ _ e.2 hmv.toE⟩
  · rcases upd_some _ _ _ _ _ hx with ⟨rfl, rfl⟩ | ⟨hne', hx⟩
    · rw [h1]; exact h.nosrc k s hg hne
    · exact h.nosrc k x hx hne
  · rcases upd_some _ _ _ _ _ hx with ⟨rfl, rfl⟩ | ⟨hne', hx⟩
    · exact h4
    · exact h.inv k x hx
/-- Nothing but what X names, and new blocks, has moved. -/
structure Only (X : Nat → Prop) (w w' : World) : Prop where
  os : w'.os = w.os
  tape : w'.tape = w.tape
  output : w'.output = w.output
  size : w.heap.size ≤ w'.heap.size
  block : ∀ k, k < w.heap.size → ¬ X k → w'.heap[k]? = w.heap[k]?
theorem Only.mv {X : Nat → Prop} (h : Only X w w') (hX : ∀ k, X k → B ≤ k) : Mv B X w w' :=
  ⟨h.os, h.tape, h.output, h.size, fun k hk hc => h.block k hk (fun hx => by
    rcases hc with hc | hc
    · have := hX k hx; omega
    · exact hc.2 hx)⟩
theorem Only.blk {X : Nat → Prop} (h : Only X w w') {k : Nat} {t : TypeId} {cs : Array Value} (hb : Blk w k t cs) (hX : ¬ X k) : Blk w' k t cs := (h.block k hb.lt hX).trans hb

/-- The same source, nothing asked of what stands for it. -/
def bare (C : Source) : Source := { C with E := fun _ _ => True }
theorem All.bare_ (h : All C B w sps hm) : All (bare C) B w sps hm := ⟨h.toRep, fun s hs => (h.env s hs).imp id fun e => ⟨e.1, trivial⟩, h.nosrc, h.inv⟩
theorem bare_keeps (C : Source) (B : Nat) : Keeps (bare C) B := fun _ _ _ _ _ => trivial
theorem All.of_bare (h : All (bare C) B w sps hm) (he : ∀ s, sps C.root = some s → s.fetch = .nilFunc ∨ C.E s.asked w) : All C B w sps hm :=
  ⟨h.toRep, fun s hs => by
    rcases h.env s hs with e | e
    · exact .inl e
    · rcases he s hs with e2 | e2
      · exact .inl e2
      · exact .inr ⟨e.1, e2⟩, h.nosrc, h.inv⟩
/-- What only the source has moved. -/
theorem All.only (h : All (bare C) B w sps hm) {X : Nat → Prop} (hw : Only X w w') (hX : ∀ k, X k → ¬ SpT w k) : All (bare C) B w' sps hm :=
  ⟨⟨fun g s hs => ⟨hw.blk (h.blk g s hs).1 (fun hx => hX g hx (spT_86 (h.blk g s hs).1)), (h.blk g s hs).2⟩,
    fun q b sh hq => ⟨(h.mem q b sh hq).1, hw.blk (h.mem q b sh hq).2.1 (fun hx => hX q hx (spT_91 (h.mem q b sh hq).2.1)), (h.mem q b sh hq).2.2⟩, h.ref, h.own⟩, h.env, h.nosrc, h.inv⟩
end
end Go.Proofs.YtkoomlbnfhdhcaaGreatDoor
