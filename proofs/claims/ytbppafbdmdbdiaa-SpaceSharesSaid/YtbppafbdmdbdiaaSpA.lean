/-
  Words for a space in memory: a block of 257 cells; pages: blocks of 65 cells.
-/
import Derived.Test.YtbppafbdmdbdiaaMem2
import Derived.Test.YtbppafbdmdbdiaaMixL
import Derived.Test.YtbppafbdmdbdiaaRows
import Derived.WalkSpells
import Derived.WalkLawsBesides
import Derived.Deep.QuietTactic
import Derived.BigQuiet
import Derived.Deep.LoopGhost
import Derived.Deep.RegionHeld3
import Derived.Deep.Cut
import Derived.IntWalk
namespace Go.Proofs.Ytbppafbdmdbdiaa
open Go.RowKit

def ptrV (o : Option Nat) : Value := .pointer (o.map fun g => ⟨g, 0, none⟩)
/-- A function with another value at a place. -/
def upd {α : Type} (f : Nat → α) (p : Nat) (v : α) : Nat → α := fun q => if q = p then v else f q
theorem upd_at {α : Type} (f : Nat → α) (p : Nat) (v : α) : upd f p v p = v := by simp [upd]
theorem upd_ne {α : Type} (f : Nat → α) (p q : Nat) (v : α) (h : q ≠ p) : upd f p v q = f q := by simp [upd, h]

/-- A space: what asks the source, and what is known, asked for, changed; the blocks of its pages. -/
structure Sp where
  fetch : Value
  known : Nat → Bool
  asked : Nat → Bool
  changed : Nat → Bool
  pg : Nat → Option Nat

def row {α : Type} (c : α → Value) (f : Nat → α) : List Value := (List.range 64).map fun p => c (f p)
theorem row_length {α : Type} (c : α → Value) (f : Nat → α) : (row c f).length = 64 := by simp [row]
theorem row_get {α : Type} (c : α → Value) (f : Nat → α) (p : Nat) (hp : p < 64) : (row c f)[p]? = some (c (f p)) := by simp [row, hp]
theorem row_set {α : Type} (c : α → Value) (f : Nat → α) (p : Nat) (v : α) : (row c f).set p (c v) = row c (upd f p v) := by
  refine List.ext_getElem? fun i => ?_
  by_cases hi : i < 64
  · rw [row_get _ _ i hi]
    by_cases h : i = p
    · subst h
      rw [List.getElem?_set_self (by rw [row_length]; exact hi), upd_at]
    · rw [List.getElem?_set_ne (fun h2 => h h2.symm), row_get _ _ i hi, upd_ne _ _ _ _ h]
  · rw [List.getElem?_eq_none (by rw [List.length_set, row_length]; omega), List.getElem?_eq_none (by rw [row_length]; omega)]

def spL (s : Sp) : List Value := s.fetch :: (row .bool s.known ++ (row .bool s.asked ++ (row .bool s.changed ++ row ptrV s.pg)))
def spCells (s : Sp) : Array Value := (spL s).toArray

section
variable (s : Sp) (p : Nat)
theorem sp_fetch : (spCells s)[0]? = some s.fetch := rfl
theorem sp_known (hp : p < 64) : (spCells s)[1 + p]? = some (.bool (s.known p)) := by
  show (spL s).toArray[1 + p]? = _
  rw [List.getElem?_toArray, spL, Nat.add_comm, List.getElem?_cons_succ, List.getElem?_append_left (by rw [row_length]; exact hp), row_get _ _ p hp]
theorem sp_asked (hp : p < 64) : (spCells s)[65 + p]? = some (.bool (s.asked p)) := by
  show (spL s).toArray[65 + p]? = _
  rw [List.getElem?_toArray, spL, show 65 + p = (64 + p) + 1 by omega, List.getElem?_cons_succ, List.getElem?_append_right (by rw [row_length]; omega), row_length,
    List.getElem?_append_left (by rw [row_length]; omega), show 64 + p - 64 = p by omega, row_get _ _ p hp]
theorem sp_changed (hp : p < 64) : (spCells s)[129 + p]? = some (.bool (s.changed p)) := by
  show (spL s).toArray[129 + p]? = _
  rw [List.getElem?_toArray, spL, show 129 + p = (128 + p) + 1 by omega, List.getElem?_cons_succ, List.getElem?_append_right (by rw [row_length]; omega), row_length,
    List.getElem?_append_right (by rw [row_length]; omega), row_length, List.getElem?_append_left (by rw [row_length]; omega), show 128 + p - 64 - 64 = p by omega, row_get _ _ p hp]
theorem sp_pg (hp : p < 64) : (spCells s)[193 + p]? = some (ptrV (s.pg p)) := by
  show (spL s).toArray[193 + p]? = _
  rw [List.getElem?_toArray, spL, show 193 + p = (192 + p) + 1 by omega, List.getElem?_cons_succ, List.getElem?_append_right (by rw [row_length]; omega), row_length,
    List.getElem?_append_right (by rw [row_length]; omega), row_length, List.getElem?_append_right (by rw [row_length]; omega), row_length, show 192 + p - 64 - 64 - 64 = p by omega, row_get _ _ p hp]
theorem sp_set_fetch (v : Value) : (spCells s).setIfInBounds 0 v = spCells { s with fetch := v } := rfl
theorem sp_set_known (v : Bool) (hp : p < 64) : (spCells s).setIfInBounds (1 + p) (.bool v) = spCells { s with known := upd s.known p v } := by
  unfold spCells
  rw [List.setIfInBounds_toArray]
  congr 1
  unfold spL
  rw [Nat.add_comm, List.set_cons_succ, List.set_append_left _ _ (by rw [row_length]; exact hp), row_set]
theorem sp_set_asked (v : Bool) (hp : p < 64) : (spCells s).setIfInBounds (65 + p) (.bool v) = spCells { s with asked := upd s.asked p v } := by
  unfold spCells
  rw [List.setIfInBounds_toArray]
  congr 1
  unfold spL
  rw [show 65 + p = (64 + p) + 1 by omega, List.set_cons_succ, List.set_append_right _ _ (by rw [row_length]; omega), row_length, List.set_append_left _ _ (by rw [row_length]; omega), show 64 + p - 64 = p by omega, row_set]
theorem sp_set_changed (v : Bool) (hp : p < 64) : (spCells s).setIfInBounds (129 + p) (.bool v) = spCells { s with changed := upd s.changed p v } := by
  unfold spCells
  rw [List.setIfInBounds_toArray]
  congr 1
  unfold spL
  rw [show 129 + p = (128 + p) + 1 by omega, List.set_cons_succ, List.set_append_right _ _ (by rw [row_length]; omega), row_length, List.set_append_right _ _ (by rw [row_length]; omega), row_length, List.set_append_left _ _ (by rw [row_length]; omega), show 128 + p - 64 - 64 = p by omega, row_set]
theorem sp_set_pg (o : Option Nat) (hp : p < 64) : (spCells s).setIfInBounds (193 + p) (ptrV o) = spCells { s with pg := upd s.pg p o } := by
  unfold spCells
  rw [List.setIfInBounds_toArray]
  congr 1
  unfold spL
  rw [show 193 + p = (192 + p) + 1 by omega, List.set_cons_succ, List.set_append_right _ _ (by rw [row_length]; omega), row_length, List.set_append_right _ _ (by rw [row_length]; omega), row_length, List.set_append_right _ _ (by rw [row_length]; omega), row_length, show 192 + p - 64 - 64 - 64 = p by omega, row_set]
end

/-- A page in memory. -/
def heldCells (b : List UInt8) (sh : Bool) : Array Value := (bs b ++ [Value.bool sh]).toArray
section
variable (b : List UInt8) (sh : Bool)
theorem held_byte (i : Nat) (hi : i < b.length) : (heldCells b sh)[i]? = some (.int .u8 (b.getD i 0).toNat) := by
  show (bs b ++ [Value.bool sh]).toArray[i]? = _
  rw [List.getElem?_toArray, List.getElem?_append_left (by rw [bs_length]; exact hi), bs_get, List.getElem?_eq_getElem hi, List.getD_eq_getElem?_getD, List.getElem?_eq_getElem hi]
  rfl
theorem held_shared (hb : b.length = 64) : (heldCells b sh)[64]? = some (.bool sh) := by
  show (bs b ++ [Value.bool sh]).toArray[64]? = _
  rw [List.getElem?_toArray, List.getElem?_append_right (by rw [bs_length]; omega), bs_length, hb]
  rfl
theorem held_set (i : Nat) (x : UInt8) (hi : i < b.length) : (heldCells b sh).setIfInBounds i (.int .u8 x.toNat) = heldCells (b.set i x) sh := by
  unfold heldCells
  rw [List.setIfInBounds_toArray]
  congr 1
  rw [List.set_append_left _ _ (by rw [bs_length]; exact hi)]
  congr 1
  unfold bs
  rw [List.map_set]
theorem held_share (v : Bool) (hb : b.length = 64) : (heldCells b sh).setIfInBounds 64 (.bool v) = heldCells b v := by
  unfold heldCells
  rw [List.setIfInBounds_toArray]
  congr 1
  rw [List.set_append_right _ _ (by rw [bs_length]; omega), bs_length, hb]
  rfl
end
end Go.Proofs.Ytbppafbdmdbdiaa
