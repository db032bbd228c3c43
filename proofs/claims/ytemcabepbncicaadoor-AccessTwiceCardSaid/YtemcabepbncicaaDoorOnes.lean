/-
  Plain: what One makes of a mode.
-/
import Derived.Test.YtemcabepbncicaaDoorClauses
import Derived.Test.YtemcabepbncicaaDoorAccN
namespace Go.Proofs.YtemcabepbncicaaDoor
open Go.RowKit

/-- A letter's bit, set or cleared. -/
def bitStep (x : UInt8) (t : List UInt8) (l : UInt8) (b m : Nat) : Nat := if l ∈ t then setV m b (decide (x ≠ 45)) else if x = 61 then setV m b false else m
def clsGo (c : Cl) (k : Nat) : Nat → Nat → Nat
  | 0, m => m
  | j + 1, m => bitStep c.x c.t (letterN j) (2 ^ (3 * (2 - k) + 2 - j)) (clsGo c k j m)
def allGo (c : Cl) : Nat → Nat → Nat
  | 0, m => m
  | k + 1, m => if clsAt c.p k then clsGo c k 3 (allGo c k m) else allGo c k m
def oneB (c : Cl) (m : Nat) : Nat := if clsAt c.p 0 then bitStep c.x c.t 115 512 m else m
def oneC (c : Cl) (m : Nat) : Nat := if clsAt c.p 2 then bitStep c.x c.t 116 1024 m else m
def oneV (c : Cl) (m : Nat) : Nat := oneC c (oneB c (allGo c 3 m))

/-- The bit at e of a mode, set or cleared. -/
def setN (m e : Nat) (on : Bool) : Nat := if on then m ||| 2 ^ e else clr m (2 ^ e)
theorem setV_eq : ∀ e < 11, ∀ m < 2048, setV m (2 ^ e) true = setN m e true ∧ setV m (2 ^ e) false = setN m e false := by decide +kernel
theorem setV_on (m e : Nat) (on : Bool) (hm : m < 2048) (he : e < 11) : setV m (2 ^ e) on = setN m e on := by
  cases on
  · exact (setV_eq e he m hm).2
  · exact (setV_eq e he m hm).1
theorem setN_lt (m e : Nat) (on : Bool) (hm : m < 2048) (he : e < 11) : setN m e on < 2048 := by
  unfold setN
  cases on
  · exact clr_lt m _ 11 hm
  · exact Nat.or_lt_two_pow (n := 11) hm (Nat.pow_lt_pow_right (by omega) he)
theorem bitStep_lt (x : UInt8) (t : List UInt8) (l : UInt8) (e m : Nat) (hm : m < 2048) (he : e < 11) : bitStep x t l (2 ^ e) m < 2048 := by
  unfold bitStep
  split
  · rw [setV_on m e _ hm he]; exact setN_lt m e _ hm he
  · split
    · rw [setV_on m e _ hm he]; exact setN_lt m e _ hm he
    · exact hm
theorem clsGo_lt (c : Cl) (k : Nat) (m : Nat) (hm : m < 2048) : ∀ j, clsGo c k j m < 2048
  | 0 => hm
  | j + 1 => bitStep_lt _ _ _ _ _ (clsGo_lt c k m hm j) (by omega)
theorem allGo_lt (c : Cl) (m : Nat) (hm : m < 2048) : ∀ k, allGo c k m < 2048
  | 0 => hm
  | k + 1 => by
    unfold allGo
    split
    · exact clsGo_lt c k _ (allGo_lt c m hm k) 3
    · exact allGo_lt c m hm k
theorem oneB_lt (c : Cl) (m : Nat) (hm : m < 2048) : oneB c m < 2048 := by
  unfold oneB; split
  · exact bitStep_lt _ _ _ 9 _ hm (by omega)
  · exact hm
theorem oneC_lt (c : Cl) (m : Nat) (hm : m < 2048) : oneC c m < 2048 := by
  unfold oneC; split
  · exact bitStep_lt _ _ _ 10 _ hm (by omega)
  · exact hm
theorem oneV_lt (c : Cl) (m : Nat) (hm : m < 2048) : oneV c m < 2048 := oneC_lt _ _ (oneB_lt _ _ (allGo_lt c m hm 3))
end Go.Proofs.YtemcabepbncicaaDoor
