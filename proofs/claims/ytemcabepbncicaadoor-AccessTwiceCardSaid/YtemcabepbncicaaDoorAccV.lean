/-
  Walks: the reference's index, set.
-/
import Derived.Test.YtemcabepbncicaaDoorAccM
namespace Go.Proofs.YtemcabepbncicaaDoor
open Go.RowKit

theorem ret_int {k : IntKind} {a b : Int} (h : a = b) : Ending.returned (.int k a) = .returned (.int k b) := by rw [h]

/-- What index returns. -/
def IdxRet (l : List UInt8) (c : UInt8) (e : Ending) : Prop := ∃ n : Int, e = .returned (.int .i64 n) ∧ decide (0 ≤ n) = decide (c ∈ l) ∧ decide (n < 0) = !decide (c ∈ l)

theorem mem_bl (s : ByteArray) (c : UInt8) (k : Nat) (h : k < s.size) (hc : s[k] = c) : c ∈ bl s := by
  rw [← hc, ← bl_get s k h]
  have h' : k < (bl s).length := by rw [bl_length]; exact h
  rw [List.getD_eq_getElem?_getD, List.getElem?_eq_getElem h']
  exact List.getElem_mem h'

theorem ridx_any (w : World) (s : ByteArray) (c : UInt8) (hs : s.size ≤ 1000000) :
    Calls Tryd.prog 36 #[.string s, .int .u8 c.toNat] w fun e w' => IdxRet (bl s) c e ∧ w = w' := by
  go_enter Tryd.func36, Tryd.ntmps36
  go_wp2_with fail
  go_loopg [5] s.size (fun n iv wr => wr = w ∧ ∃ k : Nat, iv = .int .i64 k ∧ n = s.size - k ∧ k ≤ s.size ∧ ∀ i, (h : i < s.size) → i < k → s[i] ≠ c)
  case atStart => exact ⟨rfl, 0, rfl, by omega, by omega, fun i _ hi => by omega⟩
  case round =>
    obtain ⟨rfl, k, rfl, rfl, hk, hf⟩ := hrel
    have HF := Lib.hid hf
    clear hf
    by_cases hlt : k < s.size
    · have i1 : (k : Int) < s.size := by omega
      by_cases hx : s[k] = c
      · have e1 : ((s[k].toNat : Int) == (c.toNat : Int)) = true := by rw [hx]; simp
        have HM := Lib.hid (mem_bl s c k hlt hx)
        clear hx
        go_wp2_with fail
        go_ret
        exact ⟨⟨k, rfl, by rw [decide_eq_true HM.out]; exact decide_eq_true (by omega), by rw [decide_eq_true HM.out]; exact decide_eq_false (by omega)⟩, rfl⟩
      · have e1 : ((s[k].toNat : Int) == (c.toNat : Int)) = false := beq_eq_false_iff_ne.2 (fun h => hx (UInt8.toNat_inj.1 (by omega)))
        have HX := Lib.hid hx
        clear hx
        go_wp2_with fail
        go_roundg (s.size - (k + 1))
        case measure => omega
        case rel =>
          refine ⟨rfl, k + 1, by go_num, rfl, by omega, fun i hi hik => ?_⟩
          rcases Nat.lt_or_ge i k with h | h
          · exact HF.out i hi h
          · obtain rfl : i = k := by omega
            exact HX.out
    · obtain rfl : k = s.size := by omega
      have i1 : decide ((s.size : Int) < s.size) = false := decide_eq_false (by omega)
      have hn : c ∉ bl s := by
        intro hm
        obtain ⟨i, hi, he⟩ := List.getElem_of_mem hm
        rw [bl_length] at hi
        refine HF.out i hi hi ?_
        rw [← he]; rfl
      have HN := Lib.hid hn
      clear hn
      go_wp2_with fail
      go_ret
      exact ⟨⟨-1, rfl, by rw [decide_eq_false HN.out]; rfl, by rw [decide_eq_false HN.out]; rfl⟩, rfl⟩

/-- A mode with a bit set or cleared. -/
def setV (m b : Nat) (on : Bool) : Nat := (if m / b % 2 = 1 then m - b else m) + if on then b else 0

theorem set_any (w : World) (m b : Nat) (on : Bool) (hm : m < 4096) (hb : 0 < b) (hb2 : b < 4096) :
    Calls Tryd.prog 47 #[.int .i64 m, .int .i64 b, .bool on] w fun e w' => e = .returned (.int .i64 (setV m b on)) ∧ w = w' := by
  obtain ⟨q0, hq0⟩ : ∃ q : Nat, q = m / b := ⟨_, rfl⟩
  have hq1 : q0 ≤ m := by rw [hq0]; exact Nat.div_le_self _ _
  have e0 : (m : Int) / (b : Int) = (q0 : Int) := by rw [hq0]; rfl
  have hle : q0 % 2 = 1 → b ≤ m := fun h => by
    rcases Nat.lt_or_ge m b with h1 | h1
    · rw [hq0, Nat.div_eq_of_lt h1] at h; omega
    · exact h1
  by_cases h1 : q0 % 2 = 1
  · have e1 : ((q0 : Int) % 2 == 1) = true := by rw [beq_iff_eq]; omega
    have hle := hle h1
    cases on
    · have hr : Hid (setV m b false = m - b) := Lib.hid (by unfold setV; rw [← hq0, if_pos h1]; rfl)
      clear hq0 h1
      go_enter Tryd.func47, Tryd.ntmps47
      go_wp2_with fail
      go_ret
      exact ⟨by rw [hr.out]; exact ret_int (by omega), rfl⟩
    · have hr : Hid (setV m b true = m - b + b) := Lib.hid (by unfold setV; rw [← hq0, if_pos h1]; rfl)
      clear hq0 h1
      go_enter Tryd.func47, Tryd.ntmps47
      go_wp2_with fail
      go_ret
      exact ⟨by rw [hr.out]; exact ret_int (by omega), rfl⟩
  · have e1 : ((q0 : Int) % 2 == 1) = false := beq_eq_false_iff_ne.2 (by omega)
    clear hle
    cases on
    · have hr : Hid (setV m b false = m) := Lib.hid (by unfold setV; rw [← hq0, if_neg h1]; rfl)
      clear hq0 h1
      go_enter Tryd.func47, Tryd.ntmps47
      go_wp2_with fail
      go_ret
      exact ⟨by rw [hr.out]; exact ret_int (by omega), rfl⟩
    · have hr : Hid (setV m b true = m + b) := Lib.hid (by unfold setV; rw [← hq0, if_neg h1]; rfl)
      clear hq0 h1
      go_enter Tryd.func47, Tryd.ntmps47
      go_wp2_with fail
      go_ret
      exact ⟨by rw [hr.out]; exact ret_int (by omega), rfl⟩
end Go.Proofs.YtemcabepbncicaaDoor
