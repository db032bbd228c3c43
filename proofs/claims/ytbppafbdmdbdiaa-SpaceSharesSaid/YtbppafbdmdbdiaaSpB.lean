/-
  Walks: isPage, newHeld, New.
-/
import Derived.Test.YtbppafbdmdbdiaaSpA
import Derived.Laws.CopyRow
import Derived.Laws.CopyOwn
import Derived.Deep.WholeRow
namespace Go.Proofs.Ytbppafbdmdbdiaa
open Go.RowKit
set_option linter.unusedVariables false

def pageB (p : Int) : Bool := decide (0 ≤ p ∧ p < 64)
theorem isPage_any (w : World) (p : Int) : Calls Try.prog 38 #[.int .i64 p] w fun e w' => e = .returned (.bool (pageB p)) ∧ w = w' := by
  by_cases h0 : 0 ≤ p
  · have e0 : decide (0 ≤ p) = true := decide_eq_true h0
    by_cases h1 : p < 64
    · have hr : Hid (pageB p = true) := Lib.hid (decide_eq_true ⟨h0, h1⟩)
      have e1 : decide (p < 64) = true := decide_eq_true h1
      go_enter Try.func38, Try.ntmps38
      go_wp2_with fail
      go_ret
      exact ⟨by rw [hr.out]; rfl, rfl⟩
    · have hr : Hid (pageB p = false) := Lib.hid (decide_eq_false (fun h => h1 h.2))
      have e1 : decide (p < 64) = false := decide_eq_false h1
      go_enter Try.func38, Try.ntmps38
      go_wp2_with fail
      go_ret
      exact ⟨by rw [hr.out]; rfl, rfl⟩
  · have hr : Hid (pageB p = false) := Lib.hid (decide_eq_false (fun h => h0 h.1))
    have e0 : decide (0 ≤ p) = false := decide_eq_false h0
    go_enter Try.func38, Try.ntmps38
    go_wp2_with fail
    go_ret
    exact ⟨by rw [hr.out]; rfl, rfl⟩

/-- The bytes of a page. -/
def padL (l : List UInt8) : List UInt8 := (l ++ List.replicate 64 0).take 64
theorem padL_length (l : List UInt8) : (padL l).length = 64 := by
  unfold padL; rw [List.length_take, List.length_append, List.length_replicate]; omega

section
variable {P : Program} (w : World)
/-- copy(dst, s), s a string, dst the head of a block: as many bytes as fit go over. -/
theorem run_copy_head (dT sT ty elem : TypeId) (g dLen dCap : Nat) (s : ByteArray) (cur : Array Value) (t : TypeId)
    (hu : P.underlying dT = some (.slice elem)) (hs : (P.info? elem).map (·.size) = some 1) (hg : Blk w g t cur) (hfit : dLen ≤ cur.size) :
    (Builtin.copy_ #[dT, sT] ty #[.slice (some ⟨g, 0, none⟩) dLen dCap, .string s]).run P w =
      .ok (goInt ((min s.size dLen : Nat))) (w.setRow g (bs (s.data.toList.take (min s.size dLen)) ++ cur.toList.drop (min s.size dLen)).toArray) := by
  have hsz : s.data.toList.length = s.size := by simp
  have hlen : (bs (s.data.toList.take (min s.size dLen))).length = min s.size dLen := by rw [bs_length, List.length_take, hsz]; omega
  have hst := run_storeCells_at P g 0 t (bs (s.data.toList.take (min s.size dLen))) 0 cur w hg (by rw [hlen]; omega) (bs_one _)
  rw [hlen] at hst
  simp only [Nat.add_zero, Nat.zero_add, List.take_zero, List.nil_append] at hst
  cases hq : P.info? elem with
  | none => simp [hq] at hs
  | some i =>
    have htk : List.take (min s.size dLen) (List.map (fun b : UInt8 => Value.int IntKind.u8 (b.toNat : Int)) s.data.toList) = bs (s.data.toList.take (min s.size dLen)) := by
      unfold bs
      rw [List.map_take]
    have hmin : Nat.min s.size dLen = min s.size dLen := rfl
    simp [Builtin.copy_, run_underlying hu, Builtin.lenOf, Builtin.firstCells, sizeOf, typeInfo, hq, hmin]
    rw [htk, hst]
    simp [Result.andThen]
theorem wpList_copy_head {ops : Array Oper} {rest : List Oper} {o : Oper} {a : Act} {Q : Exit → Act → World → Prop} (hgd : o.guard = none) (d x : Operand) (dT sT : TypeId)
    (ho : o.op = .call { callee := .builtin .copy, args := #[d, x], argTypes := #[dT, sT] }) (elem : TypeId) (g dLen dCap : Nat) (s : ByteArray) (cur : Array Value) (t : TypeId)
    (hu : P.underlying dT = some (.slice elem)) (hs : (P.info? elem).map (·.size) = some 1) (hd : a.eval d = .slice (some ⟨g, 0, none⟩) dLen dCap) (hx : a.eval x = .string s) (hg : Blk w g t cur) (hfit : dLen ≤ cur.size)
    (h : wpList P ops Q rest (a.put o.dst (goInt ((min s.size dLen : Nat)))) (w.setRow g (bs (s.data.toList.take (min s.size dLen)) ++ cur.toList.drop (min s.size dLen)).toArray)) : wpList P ops Q (o :: rest) a w :=
  wpList_plain hgd fun _ hK => by
    have hrun := run_copy_head (P := P) w dT sT o.type elem g dLen dCap s cur t hu hs hg hfit
    unfold Oper.wp execOp
    simp only [ho, resolve, invoke, builtin, Sem.run_bind, Sem.run_pure, Result.andThen_ok, List.map_toArray, List.map_cons, List.map_nil, hd, hx, hrun]
    exact hK _ _ h
end

def zeros : List UInt8 := List.replicate 64 0
theorem zeros_length : zeros.length = 64 := by unfold zeros; rw [List.length_replicate]
theorem z91 (w : World) : (zeroValue 91).run Try.prog w = .ok (.agg (heldCells zeros false)) w := by kernel_rfl
theorem z86 (w : World) : (zeroValue 86).run Try.prog w = .ok (.agg (spCells ⟨.nilFunc, fun _ => false, fun _ => false, fun _ => false, fun _ => none⟩)) w := by kernel_rfl
theorem s5 : (Try.prog.info? 5).map (·.size) = some 1 := by kernel_rfl

theorem pad_cells (s : ByteArray) : (bs (s.data.toList.take (min s.size 64)) ++ (heldCells zeros false).toList.drop (min s.size 64)).toArray = heldCells (padL s.data.toList) false := by
  have hsz : s.data.toList.length = s.size := by simp
  unfold heldCells
  congr 1
  show _ ++ List.drop _ (bs zeros ++ [Value.bool false]) = _
  rw [List.drop_append_of_le_length (by rw [bs_length, zeros_length]; omega), ← List.append_assoc, ← bs_drop, ← bs_append]
  congr 2
  unfold padL zeros
  rw [List.drop_replicate]
  rcases Nat.le_total s.size 64 with h | h
  · rw [Nat.min_eq_left h, List.take_of_length_le (by omega), List.take_append, hsz, List.take_of_length_le (by omega), List.take_replicate]
    congr 2
    omega
  · rw [Nat.min_eq_right h, List.take_append_of_le_length (by omega)]
    simp

set_option maxRecDepth 100000 in
set_option maxHeartbeats 4000000 in
theorem newHeld_any (w : World) (s : ByteArray) (hs : s.size ≤ 140737488355328) : Calls Try.prog 37 #[.string s] w fun e w' => e = .returned (ptrV (some w.heap.size)) ∧ Blk w' w.heap.size 91 (heldCells (padL s.data.toList) false) ∧ Below w.heap.size w w' := by
  have hz := z91
  have hb := Blk.new w 91 (heldCells zeros false)
  have hlen : 64 ≤ (heldCells zeros false).size := by show _ ≤ (bs zeros ++ [Value.bool false]).length; rw [List.length_append, bs_length, zeros_length]; simp
  have HP := Lib.hid (pad_cells s)
  go_enter Try.func37, Try.ntmps37
  go_wp2_with ((with_reducible refine wpList_copy_head _ rfl (.tmp 9) (.tmp 10) 27 9 rfl 5 w.heap.size 64 64 s (heldCells zeros false) 91 Try.underlying27 s5 rfl rfl hb hlen ?_); rw [HP.out, World.setRow_alloc_new])
  go_ret
  exact ⟨rfl, Blk.new _ _ _, (Below.refl _ _).alloc (Nat.le_refl _) _⟩

set_option maxRecDepth 100000 in
set_option maxHeartbeats 4000000 in
theorem new_nil (w : World) : Calls Try.prog 12 #[.nilFunc] w fun e w' => e = .returned (ptrV (some (w.heap.size + 1))) ∧ Blk w' (w.heap.size + 1) 86 (spCells ⟨.nilFunc, fun _ => false, fun _ => false, fun _ => false, fun _ => none⟩) ∧ Below w.heap.size w w' := by
  have hz := z86
  have hq : ∀ W, (binOp BinOp.neq 80 Value.nilFunc Value.nilFunc).run Try.prog W = .ok (.bool false) W := fun W => by kernel_rfl
  go_enter Try.func12, Try.ntmps12
  go_wp2_with fail
  go_ret
  exact ⟨rfl, Blk.new_ _ 86 _ (by simp), ((Below.refl _ _).alloc (Nat.le_refl _) _).alloc (by simp) _⟩
end Go.Proofs.Ytbppafbdmdbdiaa
