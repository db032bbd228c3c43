/-
  Plain: bit by bit is the mask.
-/
import Derived.Test.YtemcabepbncicaaDoorOnes
namespace Go.Proofs.YtemcabepbncicaaDoor
open Go.RowKit

/-- A bit behind a letter's step. -/
def stepBit (pr : Bool) (x : UInt8) (e i : Nat) (b : Bool) : Bool := if i = e then (if pr then decide (x ≠ 45) else if x = 61 then false else b) else b
theorem setN_bit (m e : Nat) (on : Bool) (i : Nat) : (setN m e on).testBit i = if i = e then on else m.testBit i := by
  unfold setN
  cases on
  · rw [if_neg (by simp), clr_bit, Nat.testBit_two_pow]
    by_cases h : i = e
    · simp [h]
    · have h' : ¬ e = i := fun h2 => h h2.symm
      simp [h, h']
  · rw [if_pos rfl, Nat.testBit_or, Nat.testBit_two_pow]
    by_cases h : i = e
    · simp [h]
    · have h' : ¬ e = i := fun h2 => h h2.symm
      simp [h, h']
theorem bitStep_bit (x : UInt8) (t : List UInt8) (l : UInt8) (e m i : Nat) (hm : m < 2048) (he : e < 11) : (bitStep x t l (2 ^ e) m).testBit i = stepBit (decide (l ∈ t)) x e i (m.testBit i) := by
  unfold bitStep stepBit
  by_cases h : l ∈ t
  · rw [if_pos h, setV_on m e _ hm he, setN_bit, decide_eq_true h]; rfl
  · rw [if_neg h, decide_eq_false h]
    by_cases h2 : x = 61
    · rw [if_pos h2, setV_on m e _ hm he, setN_bit, if_pos h2]; rfl
    · rw [if_neg h2, if_neg h2]
      split <;> rfl

def clsBit (r w x : Bool) (s : UInt8) (k i : Nat) (b : Bool) : Bool :=
  stepBit x s (3 * (2 - k) + 2 - 2) i (stepBit w s (3 * (2 - k) + 2 - 1) i (stepBit r s (3 * (2 - k) + 2 - 0) i b))
def allBit (q0 q1 q2 r w x : Bool) (s : UInt8) (i : Nat) (b : Bool) : Bool :=
  let b1 := if q0 then clsBit r w x s 0 i b else b
  let b2 := if q1 then clsBit r w x s 1 i b1 else b1
  if q2 then clsBit r w x s 2 i b2 else b2
def oneBit (q0 q1 q2 r w x p t : Bool) (s : UInt8) (i : Nat) (b : Bool) : Bool :=
  let b1 := allBit q0 q1 q2 r w x s i b
  let b2 := if q0 then stepBit p s 9 i b1 else b1
  if q2 then stepBit t s 10 i b2 else b2

theorem clsGo_bit (c : Cl) (k m i : Nat) (hm : m < 2048) (hk : k < 3) : (clsGo c k 3 m).testBit i = clsBit (decide (114 ∈ c.t)) (decide (119 ∈ c.t)) (decide (120 ∈ c.t)) c.x k i (m.testBit i) := by
  have h1 := clsGo_lt c k m hm 1
  have h2 := clsGo_lt c k m hm 2
  show (bitStep c.x c.t (letterN 2) (2 ^ (3 * (2 - k) + 2 - 2)) (clsGo c k 2 m)).testBit i = _
  rw [bitStep_bit _ _ _ _ _ _ h2 (by omega)]
  show stepBit _ _ _ _ ((bitStep c.x c.t (letterN 1) (2 ^ (3 * (2 - k) + 2 - 1)) (clsGo c k 1 m)).testBit i) = _
  rw [bitStep_bit _ _ _ _ _ _ h1 (by omega)]
  show stepBit _ _ _ _ (stepBit _ _ _ _ ((bitStep c.x c.t (letterN 0) (2 ^ (3 * (2 - k) + 2 - 0)) m).testBit i)) = _
  rw [bitStep_bit _ _ _ _ _ _ hm (by omega)]
  rfl
theorem allGo_bit (c : Cl) (m i : Nat) (hm : m < 2048) : (allGo c 3 m).testBit i = allBit (clsAt c.p 0) (clsAt c.p 1) (clsAt c.p 2) (decide (114 ∈ c.t)) (decide (119 ∈ c.t)) (decide (120 ∈ c.t)) c.x i (m.testBit i) := by
  have a1 := allGo_lt c m hm 1
  have a2 := allGo_lt c m hm 2
  have e1 : (allGo c 1 m).testBit i = if clsAt c.p 0 then clsBit (decide (114 ∈ c.t)) (decide (119 ∈ c.t)) (decide (120 ∈ c.t)) c.x 0 i (m.testBit i) else m.testBit i := by
    show (if clsAt c.p 0 then clsGo c 0 3 m else m).testBit i = _
    split
    · exact clsGo_bit c 0 m i hm (by omega)
    · rfl
  have e2 : (allGo c 2 m).testBit i = if clsAt c.p 1 then clsBit (decide (114 ∈ c.t)) (decide (119 ∈ c.t)) (decide (120 ∈ c.t)) c.x 1 i ((allGo c 1 m).testBit i) else (allGo c 1 m).testBit i := by
    show (if clsAt c.p 1 then clsGo c 1 3 (allGo c 1 m) else allGo c 1 m).testBit i = _
    split
    · exact clsGo_bit c 1 _ i a1 (by omega)
    · rfl
  have e3 : (allGo c 3 m).testBit i = if clsAt c.p 2 then clsBit (decide (114 ∈ c.t)) (decide (119 ∈ c.t)) (decide (120 ∈ c.t)) c.x 2 i ((allGo c 2 m).testBit i) else (allGo c 2 m).testBit i := by
    show (if clsAt c.p 2 then clsGo c 2 3 (allGo c 2 m) else allGo c 2 m).testBit i = _
    split
    · exact clsGo_bit c 2 _ i a2 (by omega)
    · rfl
  rw [e3, e2, e1]
  rfl
theorem oneV_bit (c : Cl) (m i : Nat) (hm : m < 2048) : (oneV c m).testBit i = oneBit (clsAt c.p 0) (clsAt c.p 1) (clsAt c.p 2) (decide (114 ∈ c.t)) (decide (119 ∈ c.t)) (decide (120 ∈ c.t)) (decide (115 ∈ c.t)) (decide (116 ∈ c.t)) c.x i (m.testBit i) := by
  have h1 := allGo_lt c m hm 3
  have h2 := oneB_lt c _ h1
  have e2 : (oneB c (allGo c 3 m)).testBit i = if clsAt c.p 0 then stepBit (decide (115 ∈ c.t)) c.x 9 i ((allGo c 3 m).testBit i) else (allGo c 3 m).testBit i := by
    unfold oneB
    split
    · exact bitStep_bit _ _ _ 9 _ _ h1 (by omega)
    · rfl
  have e3 : (oneV c m).testBit i = if clsAt c.p 2 then stepBit (decide (116 ∈ c.t)) c.x 10 i ((oneB c (allGo c 3 m)).testBit i) else (oneB c (allGo c 3 m)).testBit i := by
    unfold oneV oneC
    split
    · exact bitStep_bit _ _ _ 10 _ _ h2 (by omega)
    · rfl
  rw [e3, e2, allGo_bit c m i hm]
  rfl

/-! ### The mask -/
def q3 (q0 q1 q2 : Bool) : Nat → Bool
  | 0 => q0
  | 1 => q1
  | _ => q2
theorem inC_q3 (v : Nat) (c : Nat → Bool) : inC v c 3 = inC v (q3 (c 0) (c 1) (c 2)) 3 := by
  simp only [inC, q3]
theorem bitN_q3 (b : UInt8) (c : Nat → Bool) : bitN b c = bitN b (q3 (c 0) (c 1) (c 2)) := by
  unfold bitN
  rw [inC_q3 4 c, inC_q3 2 c, inC_q3 1 c]
  rfl
theorem allN_q3 (c : Nat → Bool) : allN c = allN (q3 (c 0) (c 1) (c 2)) := by
  unfold allN
  rw [inC_q3 7 c]
  rfl
theorem foldl_bit (c : Nat → Bool) (i : Nat) : ∀ (p : List UInt8) (a : Nat), (p.foldl (fun a b => a ||| bitN b c) a).testBit i = (a.testBit i || p.any fun b => (bitN b c).testBit i)
  | [], a => by simp
  | b :: p, a => by
    rw [List.foldl_cons, foldl_bit c i p, Nat.testBit_or, List.any_cons, Bool.or_assoc]
theorem bitsAcc_bit (p : List UInt8) (c : Nat → Bool) (i : Nat) : (bitsAcc p c).testBit i = p.any fun b => (bitN b c).testBit i := by
  unfold bitsAcc
  rw [foldl_bit]
  simp
/-- What the letters' bits are. -/
def accBit (q : Nat → Bool) (r w x p t : Bool) (i : Nat) : Bool :=
  (r && (bitN 114 q).testBit i) || (w && (bitN 119 q).testBit i) || (x && (bitN 120 q).testBit i) || (p && (bitN 115 q).testBit i) || (t && (bitN 116 q).testBit i)
theorem any_letters (f : UInt8 → Bool) : ∀ t : List UInt8, (∀ b ∈ t, isBit b = true) → (t.any f) = ((decide (114 ∈ t) && f 114) || (decide (119 ∈ t) && f 119) || (decide (120 ∈ t) && f 120) || (decide (115 ∈ t) && f 115) || (decide (116 ∈ t) && f 116))
  | [], _ => by simp
  | b :: t, h => by
    have hb := h b List.mem_cons_self
    have ih := any_letters f t (fun x hx => h x (List.mem_cons_of_mem _ hx))
    rw [List.any_cons, ih]
    unfold isBit at hb
    simp only [Bool.or_eq_true, beq_iff_eq] at hb
    simp only [List.mem_cons, Bool.decide_or]
    rcases hb with (((rfl | rfl) | rfl) | rfl) | rfl
    all_goals
      generalize decide (114 ∈ t) = a1
      generalize decide (119 ∈ t) = a2
      generalize decide (120 ∈ t) = a3
      generalize decide (115 ∈ t) = a4
      generalize decide (116 ∈ t) = a5
      generalize f 114 = f1
      generalize f 119 = f2
      generalize f 120 = f3
      generalize f 115 = f4
      generalize f 116 = f5
      revert a1 a2 a3 a4 a5 f1 f2 f3 f4 f5
      decide
end Go.Proofs.YtemcabepbncicaaDoor
