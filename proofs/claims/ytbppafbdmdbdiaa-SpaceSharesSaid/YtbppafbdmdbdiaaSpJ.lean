/-
  Words for rows that are loaded whole; own.
-/
import Derived.Test.YtbppafbdmdbdiaaSpI
import Derived.Deep.MidRow
namespace Go.Proofs.Ytbppafbdmdbdiaa
open Go.RowKit
set_option linter.unusedVariables false

theorem foldl_set (off : Nat) : ∀ (l : List Value) (k : Nat) (cells : Array Value), off + k + l.length ≤ cells.size →
    ((l.zipIdx k).foldl (fun cs (x : Value × Nat) => cs.setIfInBounds (off + x.2) x.1) cells).toList = cells.toList.take (off + k) ++ l ++ cells.toList.drop (off + k + l.length)
  | [], k, cells, _ => by simp
  | v :: l, k, cells, h => by
    rw [List.length_cons] at h
    rw [List.zipIdx_cons, List.foldl_cons, foldl_set off l (k + 1) _ (by rw [Array.size_setIfInBounds]; omega)]
    have hsz : cells.toList.length = cells.size := Array.length_toList
    rw [Array.toList_setIfInBounds, List.length_cons]
    have h1 : (cells.toList.set (off + k) v).take (off + (k + 1)) = cells.toList.take (off + k) ++ [v] := by
      rw [show off + (k + 1) = (off + k) + 1 by omega, List.take_succ_eq_append_getElem (by rw [List.length_set]; omega), List.take_set_of_le (Nat.le_refl _)]
      simp
    have h2 : (cells.toList.set (off + k) v).drop (off + (k + 1) + l.length) = cells.toList.drop (off + k + (l.length + 1)) := by
      rw [List.drop_set_of_lt (by omega)]
      congr 1
      omega
    rw [h1, h2]
    simp
theorem build_held (W : World) (b : List UInt8) (hb : b.length = 64) : (Instr.build 91 #[(0, .agg (bs b).toArray)]).run Try.prog W = .ok (.agg (heldCells b false)) W := by
  have hz := z91 W
  have hu := run_underlying Try.underlying91 W
  have hm : ∀ W, (Array.mapM (fun (f : Field) => do let n ← sizeOf f.type; pure (f.offset, n)) #[({ name := "bytes", type := 89, offset := 0, embedded := false, tag := "", pkgPath := "replevin/space", byteOffset := 0 } : Field), { name := "shared", type := 4, offset := 64, embedded := false, tag := "", pkgPath := "replevin/space", byteOffset := 64 }] : Sem (Array (Nat × Nat))).run Try.prog W = .ok #[(0, 64), (64, 1)] W := fun W => by kernel_rfl
  unfold Instr.build
  simp only [Sem.run_bind, hz, hu, Result.andThen_ok, hm]
  have hzl := zeros_length
  generalize zeros = Z at *
  have hfill : Instr.fill (fun x => (#[(0, 64), (64, 1)] : Array (Nat × Nat))[x]?) (Value.agg (heldCells Z false)).cells [(0, Value.agg (bs b).toArray)] = some (heldCells b false) := by
    unfold Instr.fill
    have e1 : (#[(0, 64), (64, 1)] : Array (Nat × Nat))[0]? = some (0, 64) := rfl
    have e2 : (Value.agg (bs b).toArray).cells = (bs b).toArray := rfl
    have e3 : (Value.agg (heldCells Z false)).cells = heldCells Z false := rfl
    have hs : (heldCells Z false).size = 65 := by show (bs Z ++ [Value.bool false]).length = 65; rw [List.length_append, bs_length, hzl]; rfl
    simp only [e1, e2, e3]
    rw [if_neg (by simp [bs_length, hb, hs])]
    unfold Instr.fill
    refine congrArg some ?_
    refine Array.ext' ?_
    have := foldl_set 0 (bs b) 0 (heldCells Z false) (by rw [bs_length, hb, hs]; omega)
    rw [bs_length, hb] at this
    have e4 : (bs b).toArray.zipIdx.foldl (fun (cs : Array Value) (x : Value × Nat) => cs.setIfInBounds (0 + x.2) x.1) (heldCells Z false) = ((bs b).zipIdx 0).foldl (fun (cs : Array Value) (x : Value × Nat) => cs.setIfInBounds (0 + x.2) x.1) (heldCells Z false) := by
      rw [← Array.foldl_toList]
      simp
    show ((bs b).toArray.zipIdx.foldl (fun (cs : Array Value) (x : Value × Nat) => cs.setIfInBounds (0 + x.2) x.1) (heldCells Z false)).toList = _
    rw [e4, this]
    show List.take _ _ ++ bs b ++ List.drop _ (bs Z ++ [Value.bool false]) = bs b ++ [Value.bool false]
    rw [List.drop_append, bs_length, hzl]
    simp [bs_length, hzl]
  rw [hfill]
  rfl

theorem info89 : (Try.prog.info? 89).map (·.size) = some 64 := by kernel_rfl
section
variable {P : Program} {ops : Array Oper} {Q : Exit → Act → World → Prop} {nl eff : List Nat} {S : World → Prop}
theorem wpMixS_row {i : Nat} {rest : List (Nat × Oper)} {o : Oper} {a : Act} {w : World} (he : eff.contains i = false) (hw : Region.wanted o (yielded ops a.tmps) = true) (ty : TypeId) (x : Operand) (ho : o.op = .load ty x)
    (b off : Nat) (hx : a.eval x = .pointer (some ⟨b, off, none⟩)) (cs : List Value) (d : TypeDesc) (hS : ∀ w', worldsOf S nl i w' → w'.rangeAt b off cs)
    (hu : P.underlying ty = some d) (hd : d.isRow = true) (hi : (P.info? ty).map (·.size) = some cs.length) (h : wpMixS P ops Q nl eff S rest (a.put o.dst (.agg cs.toArray)) w) : wpMixS P ops Q nl eff S ((i, o) :: rest) a w :=
  wpMixS_read he hw (fun w' hw' => by
    unfold execOp
    simp only [ho, hx, Instr.loadAt, Instr.sureAddr, Sem.run_bind, Sem.run_pure, Result.andThen_ok, run_loadVar_mid w' b off ty cs d (hS w' hw') hu hd hi]) h
end
end Go.Proofs.Ytbppafbdmdbdiaa
