/-
  Plain: what Clauses finds.
-/
import Derived.Test.YtemcabepbncicaaDoorAccV
namespace Go.Proofs.YtemcabepbncicaaDoor
open Go.RowKit

/-- A clause: the letters of its classes, its sign, its letters. -/
structure Cl where
  p : List UInt8
  x : UInt8
  t : List UInt8
def clCells (c : Cl) : List Value := [.bool (clsAt c.p 0), .bool (clsAt c.p 1), .bool (clsAt c.p 2), .int .u8 c.x.toNat, .string ⟨c.t.toArray⟩]
theorem clCells_len (c : Cl) : (clCells c).length = 5 := rfl
def allCells (l : List Cl) : List Value := l.flatMap clCells
theorem allCells_len (l : List Cl) : (allCells l).length = l.length * 5 := by
  induction l with
  | nil => rfl
  | cons c l ih =>
    show (clCells c ++ allCells l).length = _
    rw [List.length_append, ih, clCells_len, List.length_cons]
    omega
theorem allCells_snoc (l : List Cl) (c : Cl) : allCells (l ++ [c]) = allCells l ++ clCells c := by simp [allCells]
theorem allCells_get (l : List Cl) (i j : Nat) (hi : i < l.length) (hj : j < 5) : (allCells l)[i * 5 + j]? = (clCells l[i])[j]? := by
  induction l generalizing i with
  | nil => simp at hi
  | cons c l ih =>
    have e : allCells (c :: l) = clCells c ++ allCells l := rfl
    rw [e]
    cases i with
    | zero => rw [List.getElem?_append_left (by rw [clCells_len]; omega)]; simp
    | succ i =>
      rw [List.getElem?_append_right (by rw [clCells_len]; omega), clCells_len, show (i + 1) * 5 + j - 5 = i * 5 + j by omega, ih i (by simpa using hi)]
      simp

/-- The clause at the beginning. -/
def clOf (l : List UInt8) : Cl := ⟨l.take (lead isCls l), l.getD (lead isCls l) 0, (l.drop (lead isCls l + 1)).take (lead isBit (l.drop (lead isCls l + 1)))⟩
/-- What Clauses does from a place on: the clauses, or the offset of the error. -/
def clausesGo : Nat → Nat → List UInt8 → List Cl → List Cl × Int
  | 0, _, _, _ => ([], 0)
  | f + 1, a, l, acc =>
    if noClause l = true then ([], ((a + lead isCls l : Nat) : Int))
    else if clLen l = l.length then (acc ++ [clOf l], -1)
    else if l.getD (clLen l) 0 = 44 then clausesGo f (a + clLen l + 1) (l.drop (clLen l + 1)) (acc ++ [clOf l])
    else ([], ((a + clLen l : Nat) : Int))
def clausesV (l : List UInt8) : List Cl × Int := clausesGo (l.length + 1) 0 l []

/-- What index of a constant string returns. -/
def IdxB (c : Bool) (e : Ending) : Prop := ∃ n : Int, e = .returned (.int .i64 n) ∧ decide (0 ≤ n) = c ∧ decide (n < 0) = !c
theorem ridx_cls (w : World) (b : UInt8) : Calls Tryd.prog 36 #[.string ⟨#[117, 103, 111, 97]⟩, .int .u8 b.toNat] w fun e w' => IdxB (isCls b) e ∧ w = w' := by
  refine (ridx_any w ⟨#[117, 103, 111, 97]⟩ b (by decide)).mono ?_
  rintro e w' ⟨⟨n, h1, h2, h3⟩, h4⟩
  have e1 : decide (b ∈ bl ⟨#[117, 103, 111, 97]⟩) = isCls b := by
    have : bl ⟨#[117, 103, 111, 97]⟩ = [117, 103, 111, 97] := rfl
    rw [this, Bool.eq_iff_iff]
    simp [isCls, or_assoc]
  exact ⟨⟨n, h1, by rw [h2, e1], by rw [h3, e1]⟩, h4⟩
theorem ridx_sign (w : World) (b : UInt8) : Calls Tryd.prog 36 #[.string ⟨#[43, 45, 61]⟩, .int .u8 b.toNat] w fun e w' => IdxB (signB b) e ∧ w = w' := by
  refine (ridx_any w ⟨#[43, 45, 61]⟩ b (by decide)).mono ?_
  rintro e w' ⟨⟨n, h1, h2, h3⟩, h4⟩
  have e1 : decide (b ∈ bl ⟨#[43, 45, 61]⟩) = signB b := by
    have : bl ⟨#[43, 45, 61]⟩ = [43, 45, 61] := rfl
    rw [this, Bool.eq_iff_iff]
    simp [signB, or_assoc]
  exact ⟨⟨n, h1, by rw [h2, e1], by rw [h3, e1]⟩, h4⟩
theorem ridx_bit (w : World) (b : UInt8) : Calls Tryd.prog 36 #[.string ⟨#[114, 119, 120, 115, 116]⟩, .int .u8 b.toNat] w fun e w' => IdxB (isBit b) e ∧ w = w' := by
  refine (ridx_any w ⟨#[114, 119, 120, 115, 116]⟩ b (by decide)).mono ?_
  rintro e w' ⟨⟨n, h1, h2, h3⟩, h4⟩
  have e1 : decide (b ∈ bl ⟨#[114, 119, 120, 115, 116]⟩) = isBit b := by
    have : bl ⟨#[114, 119, 120, 115, 116]⟩ = [114, 119, 120, 115, 116] := rfl
    rw [this, Bool.eq_iff_iff]
    simp [isBit, or_assoc]
  exact ⟨⟨n, h1, by rw [h2, e1], by rw [h3, e1]⟩, h4⟩
theorem idx_ugo (W : World) : (Instr.index 9 (.string ⟨#[117, 103, 111]⟩) (.int .i64 0)).run Tryd.prog W = .ok (.int .u8 117) W ∧ (Instr.index 9 (.string ⟨#[117, 103, 111]⟩) (.int .i64 1)).run Tryd.prog W = .ok (.int .u8 103) W ∧ (Instr.index 9 (.string ⟨#[117, 103, 111]⟩) (.int .i64 2)).run Tryd.prog W = .ok (.int .u8 111) W := by
  refine ⟨?_, ?_, ?_⟩ <;> kernel_rfl
theorem info51 : (Tryd.prog.info? 51).map (fun i => (i.zero, i.size, i.bytes)) = some (some (.agg #[.bool false, .bool false, .bool false, .int .u8 0, .string ⟨#[]⟩]), 5, 24) := by kernel_rfl
end Go.Proofs.YtemcabepbncicaaDoor
