/-
  Walks: modes, classes, bits; Require, and the reference's.
-/
import Derived.Test.YtemcabepbncicaaDoorMem2
import Derived.Test.YtemcabepbncicaaDoorMixS
import Derived.Test.YtemcabepbncicaaDoorRows
import Derived.WalkSpells
import Derived.WalkLawsBesides
import Derived.Deep.QuietTactic
import Derived.BigQuiet
import Derived.Deep.LoopGhost
import Derived.Deep.RegionHeld3
import Derived.IntWalk
import Derived.Laws.BitsAllLaws
namespace Go.Proofs.YtemcabepbncicaaDoor
open Go.RowKit

/-- The package-level table of shifts. -/
def Sh (w : World) : Prop := 0 < w.heap.size ∧ w.cell? ⟨0, 0, none⟩ = some (.int .i64 6) ∧ w.cell? ⟨0, 1, none⟩ = some (.int .i64 3) ∧ w.cell? ⟨0, 2, none⟩ = some (.int .i64 0)
theorem Sh.below {w w' : World} {B : Nat} (h : Sh w) (hb : Below B w w') (hB : 0 < B) : Sh w' :=
  ⟨by have := hb.size; have := h.1; omega, (hb.cell (p := ⟨0, 0, none⟩) hB).trans h.2.1, (hb.cell (p := ⟨0, 1, none⟩) hB).trans h.2.2.1, (hb.cell (p := ⟨0, 2, none⟩) hB).trans h.2.2.2⟩
theorem Sh.belowS {w w' : World} (h : Sh w) (hb : Below w.heap.size w w') : Sh w' := h.below hb h.1

/-- Is it a mode? -/
def modeB (x : Int) : Bool := decide (0 ≤ x ∧ x ≤ 2047)
theorem modeB_yes {x : Int} (h1 : 0 ≤ x) (h2 : x ≤ 2047) : modeB x = true := decide_eq_true ⟨h1, h2⟩
theorem modeB_no {x : Int} (h : x < 0 ∨ 2047 < x) : modeB x = false := decide_eq_false (by omega)

theorem isMode_any (x : Int) (w : World) : Calls Tryd.prog 32 #[.int .i64 x] w fun e w' => e = .returned (.bool (modeB x)) ∧ w = w' := by
  by_cases h0 : 0 ≤ x
  · by_cases h1 : x ≤ 2047
    · have hm := Lib.hid (modeB_yes h0 h1)
      go_enter Tryd.func32, Tryd.ntmps32
      go_wp2_with fail
      go_ret
      exact ⟨by rw [hm.out]; rfl, rfl⟩
    · have hm := Lib.hid (modeB_no (x := x) (.inr (by omega)))
      have e1 : decide (x ≤ 2047) = false := decide_eq_false h1
      go_enter Tryd.func32, Tryd.ntmps32
      go_wp2_with fail
      go_ret
      exact ⟨by rw [hm.out]; rfl, rfl⟩
  · have hm := Lib.hid (modeB_no (x := x) (.inl (by omega)))
    have e1 : decide (0 ≤ x) = false := decide_eq_false h0
    go_enter Tryd.func32, Tryd.ntmps32
    go_wp2_with fail
    go_ret
    exact ⟨by rw [hm.out]; rfl, rfl⟩

theorem valid_any (x : Int) (w : World) : Calls Tryd.prog 33 #[.int .i64 x] w fun e w' => e = .returned (.bool (modeB x)) ∧ w = w' := by
  by_cases h0 : 0 ≤ x
  · by_cases h1 : x ≤ 2047
    · have hm := Lib.hid (modeB_yes h0 h1)
      go_enter Tryd.func33, Tryd.ntmps33
      go_wp2_with fail
      go_ret
      exact ⟨by rw [hm.out]; rfl, rfl⟩
    · have hm := Lib.hid (modeB_no (x := x) (.inr (by omega)))
      have e1 : decide (x ≤ 2047) = false := decide_eq_false h1
      go_enter Tryd.func33, Tryd.ntmps33
      go_wp2_with fail
      go_ret
      exact ⟨by rw [hm.out]; rfl, rfl⟩
  · have hm := Lib.hid (modeB_no (x := x) (.inl (by omega)))
    have e1 : decide (0 ≤ x) = false := decide_eq_false h0
    go_enter Tryd.func33, Tryd.ntmps33
    go_wp2_with fail
    go_ret
    exact ⟨by rw [hm.out]; rfl, rfl⟩

/-! ### Slices of numbers -/
/-- A slice value that reads as these numbers. -/
def RdI (w : World) (B : Nat) (v : Value) (l : List Int) : Prop := ∃ A cap, v = .slice A l.length cap ∧ l.length ≤ cap ∧ cap ≤ maxLen ∧ Reads w B 1 A l.length (l.map (Value.int .i64))

section
variable {w w' : World} {B B' : Nat} {v : Value} {l : List Int}
theorem RdI.nil (w : World) (B : Nat) : RdI w B (.slice none 0 0) [] := ⟨none, 0, rfl, by simp, by simp [maxLen], Reads.none_⟩
theorem RdI.below (h : RdI w B v l) (hb : Below B w w') : RdI w' B v l := let ⟨A, c, h1, h2, h3, h4⟩ := h; ⟨A, c, h1, h2, h3, h4.below hb⟩
theorem RdI.more (h : RdI w B v l) (hB : B ≤ B') : RdI w B' v l := let ⟨A, c, h1, h2, h3, h4⟩ := h; ⟨A, c, h1, h2, h3, h4.more hB⟩
theorem RdI.upto {A : Option Addr} {n cap : Nat} (h : RdI w B (.slice A n cap) l) {k : Nat} (hk : k ≤ n) : RdI w B (.slice A k cap) (l.take k) := by
  obtain ⟨A', c', hv, h1, h2, h3⟩ := h
  injection hv with e1 e2 e3
  subst e1 e2 e3
  have hl : (l.take k).length = k := by rw [List.length_take]; omega
  refine ⟨A, cap, by rw [hl], by omega, h2, ?_⟩
  have := h3.take_ hk
  rw [Nat.mul_one] at this
  rw [hl, List.map_take]
  exact this
theorem RdI.at_ (h : RdI w B v l) : ∃ A cap, v = .slice A l.length cap ∧ l.length ≤ cap ∧ cap ≤ maxLen ∧ ∀ i, i < l.length → ∃ ad, A = some ad ∧ ad.block < B ∧ w.cell? (ad.add i) = some (.int .i64 (l.getD i 0)) := by
  obtain ⟨A, cap, rfl, h1, h2, h3⟩ := h
  refine ⟨A, cap, rfl, h1, h2, fun i hi => ?_⟩
  obtain ⟨ad, u, e, hb, hu, hc⟩ := h3.at_ hi
  refine ⟨ad, e, hb, ?_⟩
  rw [List.getElem?_map, List.getElem?_eq_getElem hi] at hu
  rw [hc, ← hu]
  simp [hi]
theorem RdI.of_own {base e n : Nat} {xs : List Value} (h : w.ownsRow base e 1 v n xs) (hx : xs = l.map (Value.int .i64)) : RdI w w.heap.size v l := by
  subst hx
  have hn : l.length = n := by have := h.1; rw [List.length_map] at this; omega
  subst hn
  rcases h.2 with ⟨rfl, h0⟩ | ⟨g, cap, cur, rfl, hb, hh, h1, h2, _⟩
  · have : l = [] := List.eq_nil_of_length_eq_zero h0
    subst this
    exact RdI.nil _ _
  · exact ⟨_, cap, rfl, h1, h2, Reads.of_own h⟩
end

/-- Where a number is first. -/
def firstAt (x : Int) : List Int → Nat → Int
  | [], _ => -1
  | y :: l, k => if x = y then k else firstAt x l (k + 1)
theorem firstAt_mem (x : Int) : ∀ (l : List Int) (k : Nat), (x ∈ l → 0 ≤ firstAt x l k) ∧ (x ∉ l → firstAt x l k = -1)
  | [], k => by simp [firstAt]
  | y :: l, k => by
    have ih := firstAt_mem x l (k + 1)
    unfold firstAt
    by_cases h : x = y
    · rw [if_pos h]; simp [h]
    · rw [if_neg h]
      refine ⟨fun hm => ih.1 ?_, fun hm => ih.2 ?_⟩
      · rcases List.mem_cons.1 hm with h1 | h1
        · exact absurd h1 h
        · exact h1
      · exact fun h1 => hm (List.mem_cons_of_mem _ h1)
theorem firstAt_drop (x : Int) (l : List Int) (k : Nat) (hk : k < l.length) : firstAt x (l.drop k) k = if x = l.getD k 0 then (k : Int) else firstAt x (l.drop (k + 1)) (k + 1) := by
  have e : l.getD k 0 = l[k] := by rw [List.getD_eq_getElem?_getD, List.getElem?_eq_getElem hk]; rfl
  rw [e, List.drop_eq_getElem_cons hk]
  rfl

set_option maxHeartbeats 1000000 in
theorem index_any (w : World) (B : Nat) (v : Value) (l : List Int) (x : Int) (h : RdI w B v l) :
    Calls Tryd.prog 39 #[v, .int .i64 x] w fun e w' => e = .returned (.int .i64 (firstAt x l 0)) ∧ w = w' := by
  obtain ⟨A, cap, rfl, h1, h2, hat⟩ := h.at_
  unfold maxLen at h2
  have HAT := Lib.hid hat
  clear hat
  go_enter Tryd.func39, Tryd.ntmps39
  go_wp2_with fail
  go_loopg [8] l.length (fun n iv wr => wr = w ∧ ∃ k : Nat, iv = .int .i64 k ∧ n = l.length - k ∧ k ≤ l.length ∧ firstAt x (l.drop k) k = firstAt x l 0)
  case atStart => exact ⟨rfl, 0, rfl, by omega, by omega, rfl⟩
  case round =>
    obtain ⟨rfl, k, rfl, rfl, hk, hf⟩ := hrel
    by_cases hlt : k < l.length
    · have i1 : (k : Int) < l.length := by omega
      obtain ⟨ad, rfl, hb, hc⟩ := HAT.out k hlt
      have hfd := firstAt_drop x l k hlt
      rw [hf] at hfd
      have HF := Lib.hid hfd
      clear hf hfd
      generalize l.getD k 0 = y at *
      by_cases hxy : x = y
      · have e1 : (x == y) = true := by rw [hxy]; simp
        have hr : Hid (firstAt x l 0 = k) := Lib.hid (by rw [HF.out, if_pos hxy])
        clear hxy
        go_wp2_with fail
        go_ret
        exact ⟨by rw [hr.out]; rfl, rfl⟩
      · have e1 : (x == y) = false := beq_eq_false_iff_ne.2 hxy
        have hr : Hid (firstAt x (l.drop (k + 1)) (k + 1) = firstAt x l 0) := Lib.hid (by rw [HF.out, if_neg hxy])
        clear hxy
        go_wp2_with fail
        go_roundg (l.length - (k + 1))
        case measure => omega
        case rel => exact ⟨rfl, k + 1, by go_num, rfl, by omega, hr.out⟩
    · obtain rfl : k = l.length := by omega
      have i1 : decide ((l.length : Int) < l.length) = false := decide_eq_false (by omega)
      have hr : Hid (firstAt x l 0 = -1) := Lib.hid (by rw [← hf, List.drop_length]; rfl)
      clear hf
      go_wp2_with fail
      go_ret
      exact ⟨by rw [hr.out]; rfl, rfl⟩

theorem contains_any (w : World) (B : Nat) (v : Value) (l : List Int) (x : Int) (h : RdI w B v l) :
    Calls Tryd.prog 31 #[v, .int .i64 x] w fun e w' => e = .returned (.bool (decide (x ∈ l))) ∧ w = w' := by
  have hm := firstAt_mem x l 0
  go_enter Tryd.func31, Tryd.ntmps31
  go_wp2_with fail
  refine (index_any w B v l x h).mono ?_
  rintro e w' ⟨rfl, rfl⟩
  have hd : decide (0 ≤ firstAt x l 0) = decide (x ∈ l) := by
    by_cases hx : x ∈ l
    · rw [decide_eq_true hx, decide_eq_true (hm.1 hx)]
    · rw [decide_eq_false hx, decide_eq_false (by rw [hm.2 hx]; omega)]
  have HD := Lib.hid hd
  clear hm hd
  generalize firstAt x l 0 = r at *
  dsimp only
  go_wp2_with fail
  go_ret
  exact ⟨by rw [← HD.out]; rfl, rfl⟩

/-! ### Classes and bits -/
def classV (u : Int) (gs : List Int) (owner group : Int) : Nat := if u = owner then 0 else if group ∈ gs then 1 else 2
theorem classV_le (u : Int) (gs : List Int) (owner group : Int) : classV u gs owner group ≤ 2 := by
  unfold classV; split
  · omega
  · split <;> omega

theorem class_any (w : World) (B : Nat) (v : Value) (gs : List Int) (u owner group : Int) (h : RdI w B v gs) (hB : B ≤ w.heap.size) :
    Calls Tryd.prog 15 #[.agg #[.int .i64 u, v], .int .i64 owner, .int .i64 group] w fun e w' => e = .returned (.int .i64 (classV u gs owner group)) ∧ Below w.heap.size w w' := by
  obtain ⟨A, cap, rfl, _, _, _⟩ := id h
  by_cases hu : u = owner
  · have e1 : (u == owner) = true := by rw [hu]; simp
    have hr : Hid (classV u gs owner group = 0) := Lib.hid (by unfold classV; rw [if_pos hu])
    clear hu
    go_enter Tryd.func15, Tryd.ntmps15
    go_wp2_with fail
    go_ret
    exact ⟨by rw [hr.out]; rfl, (Below.refl _ _).alloc (Nat.le_refl _) _⟩
  · have e1 : (u == owner) = false := beq_eq_false_iff_ne.2 hu
    by_cases hg : group ∈ gs
    · have hr : Hid (classV u gs owner group = 1) := Lib.hid (by unfold classV; rw [if_neg hu, if_pos hg])
      have hd : decide (group ∈ gs) = true := decide_eq_true hg
      have HD := Lib.hid hd
      clear hu hg hd
      go_enter Tryd.func15, Tryd.ntmps15
      go_wp2_with fail
      refine (contains_any _ B _ gs group (h.below ((Below.refl _ _).alloc hB _))).mono ?_
      rintro e w' ⟨rfl, rfl⟩
      rw [HD.out]
      dsimp only
      go_wp2_with fail
      go_ret
      exact ⟨by rw [hr.out]; rfl, (Below.refl _ _).alloc (Nat.le_refl _) _⟩
    · have hr : Hid (classV u gs owner group = 2) := Lib.hid (by unfold classV; rw [if_neg hu, if_neg hg])
      have hd : decide (group ∈ gs) = false := decide_eq_false hg
      have HD := Lib.hid hd
      clear hu hg hd
      go_enter Tryd.func15, Tryd.ntmps15
      go_wp2_with fail
      refine (contains_any _ B _ gs group (h.below ((Below.refl _ _).alloc hB _))).mono ?_
      rintro e w' ⟨rfl, rfl⟩
      rw [HD.out]
      dsimp only
      go_wp2_with fail
      go_ret
      exact ⟨by rw [hr.out]; rfl, (Below.refl _ _).alloc (Nat.le_refl _) _⟩
end Go.Proofs.YtemcabepbncicaaDoor
