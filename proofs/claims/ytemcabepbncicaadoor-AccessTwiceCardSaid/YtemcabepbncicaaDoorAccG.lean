/-
  Walks: letters, allOf.
-/
import Derived.Test.YtemcabepbncicaaDoorAccF
import Derived.Test.YtemcabepbncicaaDoorMaps
import Derived.Maps.Keyed
namespace Go.Proofs.YtemcabepbncicaaDoor
open Go.RowKit

/-- All bits that belong to classes. -/
def allN (c : Nat → Bool) : Nat :=
  let b := if c 0 then inC 7 c 3 ||| 512 else inC 7 c 3
  if c 2 then b ||| 1024 else b

set_option maxHeartbeats 1000000 in
theorem allOf_any (w : World) (c : Nat → Bool) (hs : Sh w) :
    Calls Tryd.prog 46 #[clsV c] w fun e w' => e = .returned (.int .i64 (allN c)) ∧ Below w.heap.size w w' := by
  have ha : Below w.heap.size w (w.alloc (.cells #[.bool (c 0), .bool (c 1), .bool (c 2)] 49)) := (Below.refl _ _).alloc (Nat.le_refl _) _
  have hic := inClasses_any (w.alloc (.cells #[.bool (c 0), .bool (c 1), .bool (c 2)] 49)) 7 c (by omega) (hs.belowS ha)
  have hlt := inC_lt 7 (by omega) c 3
  have o1 : bits .or .i64 ((inC 7 c 3 : Nat) : Int) 512 = ((inC 7 c 3 ||| 512 : Nat) : Int) := i64_or_nat (inC 7 c 3) 512 (by omega) (by omega)
  have hl1 : inC 7 c 3 ||| 512 < 1024 := Nat.or_lt_two_pow (n := 10) (by omega) (by omega)
  have o2 : bits .or .i64 ((inC 7 c 3 : Nat) : Int) 1024 = ((inC 7 c 3 ||| 1024 : Nat) : Int) := i64_or_nat (inC 7 c 3) 1024 (by omega) (by omega)
  have o3 : bits .or .i64 ((inC 7 c 3 ||| 512 : Nat) : Int) 1024 = (((inC 7 c 3 ||| 512) ||| 1024 : Nat) : Int) := i64_or_nat (inC 7 c 3 ||| 512) 1024 (by omega) (by omega)
  have hd : Hid (allN c = if c 2 then (if c 0 then inC 7 c 3 ||| 512 else inC 7 c 3) ||| 1024 else (if c 0 then inC 7 c 3 ||| 512 else inC 7 c 3)) := Lib.hid rfl
  generalize inC 7 c 3 = b at *
  generalize b ||| 512 = b1 at *
  have HIC := Lib.hid hic
  clear hic
  unfold clsV at HIC ⊢
  go_enter Tryd.func46, Tryd.ntmps46
  go_wp2_with fail
  refine HIC.out.mono ?_
  rintro e w2 ⟨rfl, nb⟩
  have hb2 := ha.trans (nb.mono (by simp))
  have k0 : w2.cell? ⟨w.heap.size, 0, none⟩ = some (.bool (c 0)) := by rw [nb.cell (p := ⟨w.heap.size, 0, none⟩) (by simp), World.cell?_alloc_mark]; rfl
  have k2 : w2.cell? ⟨w.heap.size, 2, none⟩ = some (.bool (c 2)) := by rw [nb.cell (p := ⟨w.heap.size, 2, none⟩) (by simp), World.cell?_alloc_mark]; rfl
  clear HIC nb
  dsimp only
  go_wp2_with fail
  all_goals
    go_ret
    exact ⟨by rw [hd.out]; simp [*], hb2⟩

theorem key5 : KeyOk Tryd.prog 5 (fun b : UInt8 => .int .u8 b.toNat) (fun _ => True) :=
  keyOk_of_keyed (Maps.int_keyed Tryd.underlying5) (fun x _ => by
    have hx := x.toNat_lt
    have hw : (Lit.int .u8 x.toNat).wf = true := by
      simp [Lit.wf, IntKind.min, IntKind.max, IntKind.signed, IntKind.bits]
      omega
    unfold keyOf mapKey
    rw [Tryd.underlying5]
    simp [hw])
    (fun x y _ _ h => by
      injection h with _ h
      exact UInt8.toNat_inj.1 (by omega))

/-- The map of the letters. -/
def letterMap : List (UInt8 × Value) := [(114, .int .i64 4), (119, .int .i64 2), (120, .int .i64 1)]

theorem letters_any (w : World) : Calls Tryd.prog 49 #[] w fun e w' => e = .returned (.map (some w.heap.size)) ∧ MapIs (fun b : UInt8 => .int .u8 b.toNat) (fun _ => True) w' w.heap.size letterMap ∧ Below w.heap.size w w' := by
  have hmm := @run_makeMap Tryd.prog
  have h0 : MapIs (fun b : UInt8 => .int .u8 b.toNat) (fun _ => True) (w.alloc (.map #[] 0)) w.heap.size [] := MapIs.new w
  obtain ⟨w1, u1, m1, f1⟩ := run_update_map key5 Tryd.underlying83 h0 114 trivial (.int .i64 4)
  obtain ⟨w2, u2, m2, f2⟩ := run_update_map key5 Tryd.underlying83 m1 119 trivial (.int .i64 2)
  obtain ⟨w3, u3, m3, f3⟩ := run_update_map key5 Tryd.underlying83 m2 120 trivial (.int .i64 1)
  have hb : Below w.heap.size w w3 := ((((Fr.refl [w.heap.size] w).alloc _).trans f1 (by simp)).trans f2 (by simp)).trans f3 (by simp) |>.below (Nat.le_refl _) (by simp)
  have e1 : (.int .u8 ((114 : UInt8).toNat : Int) : Value) = .int .u8 114 := rfl
  have e2 : (.int .u8 ((119 : UInt8).toNat : Int) : Value) = .int .u8 119 := rfl
  have e3 : (.int .u8 ((120 : UInt8).toNat : Int) : Value) = .int .u8 120 := rfl
  rw [e1] at u1
  rw [e2] at u2
  rw [e3] at u3
  clear e1 e2 e3
  go_enter Tryd.func49, Tryd.ntmps49
  go_wp2_with fail
  go_ret
  exact ⟨rfl, m3, hb⟩
end Go.Proofs.YtemcabepbncicaaDoor
