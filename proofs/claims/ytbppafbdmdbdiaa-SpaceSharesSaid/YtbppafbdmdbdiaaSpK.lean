/-
  Walks: own.
-/
import Derived.Test.YtbppafbdmdbdiaaSpJ
namespace Go.Proofs.Ytbppafbdmdbdiaa
open Go.RowKit
set_option linter.unusedVariables false

section
variable {P : Program} {ops : Array Oper} {Q : Exit → Act → World → Prop} {nl eff : List Nat} {S : World → Prop}
theorem wpMixS_build {i : Nat} {rest : List (Nat × Oper)} {o : Oper} {a : Act} {w : World} (he : eff.contains i = false) (hw : Region.wanted o (yielded ops a.tmps) = true) (ty : TypeId) (parts : Array (Nat × Operand)) (ho : o.op = .build ty parts) (v : Value) (vs : Array (Nat × Value)) (hv : (parts.map fun x => (x.1, a.eval x.2)) = vs)
    (hb : ∀ W, (Instr.build ty vs).run P W = .ok v W) (h : wpMixS P ops Q nl eff S rest (a.put o.dst v) w) : wpMixS P ops Q nl eff S ((i, o) :: rest) a w :=
  wpMixS_read he hw (fun w' hw' => by
    unfold execOp
    subst hv
    simp only [ho, Sem.run_bind, hb, Result.andThen_ok, Sem.run_pure]) h
end

theorem own_keep (w : World) (g p r : Nat) (s : Sp) (b : List UInt8) (hb : Blk w g 86 (spCells s)) (hp : p < 64) (hpg : s.pg p = some r) (hr : Blk w r 91 (heldCells b false)) (hl : b.length = 64) :
    Calls Try.prog 41 #[.pointer (some ⟨g, 0, none⟩), .int .i64 p] w fun e w' => e = .returned (ptrV (some r)) ∧ w = w' := by
  have k1 : w.cell? ⟨g, 193 + p, none⟩ = some (.pointer (some ⟨r, 0, none⟩)) := by rw [hb.cell, sp_pg s p hp, hpg]; rfl
  have k2 : w.cell? ⟨r, 64, none⟩ = some (.bool false) := by rw [hr.cell, held_shared b false hl]
  have i1 : (p : Int) < 64 := by omega
  have i0 : (0 : Int) ≤ (p : Int) := by omega
  clear hpg
  go_enter Try.func41, Try.ntmps41
  go_wp2_with fail
  go_ret
  exact ⟨rfl, rfl⟩

set_option maxRecDepth 100000 in
set_option maxHeartbeats 4000000 in
theorem own_copy (w : World) (g p r : Nat) (s : Sp) (b : List UInt8) (hb : Blk w g 86 (spCells s)) (hp : p < 64) (hpg : s.pg p = some r) (hr : Blk w r 91 (heldCells b true)) (hl : b.length = 64) :
    Calls Try.prog 41 #[.pointer (some ⟨g, 0, none⟩), .int .i64 p] w fun e w' => e = .returned (ptrV (some w.heap.size)) ∧ Blk w' w.heap.size 91 (heldCells b false) ∧
      Blk w' g 86 (spCells { s with pg := upd s.pg p (some w.heap.size) }) ∧ Fr [g] w w' := by
  have k1 : w.cell? ⟨g, 193 + p, none⟩ = some (.pointer (some ⟨r, 0, none⟩)) := by rw [hb.cell, sp_pg s p hp, hpg]; rfl
  have k2 : w.cell? ⟨r, 64, none⟩ = some (.bool true) := by rw [hr.cell, held_shared b true hl]
  have i1 : (p : Int) < 64 := by omega
  have i0 : (0 : Int) ≤ (p : Int) := by omega
  have hrng : w.rangeAt r 0 (bs b) := fun j v hv => by
    rw [Nat.zero_add, hr.cell]
    show (bs b ++ [Value.bool true]).toArray[j]? = _
    rw [List.getElem?_toArray, List.getElem?_append_left (List.getElem?_eq_some_iff.1 hv).1]
    exact hv
  have hbh := fun W => build_held W b hl
  have HR := Lib.hid hrng
  have HB := Lib.hid hbh
  have zg := hb.lt
  have HPG := Lib.hid hpg
  clear hpg hrng hbh
  go_enter Try.func41, Try.ntmps41
  go_upto_region 2 with (fail)
  refine wp_region_mixL (fun W => W.cell? ⟨g, 193 + p, none⟩ = some (.pointer (some ⟨r, 0, none⟩)) ∧ W.rangeAt r 0 (bs b)) [7, 10, 12] [12, 16] [0, 1, 2, 3, 4, 5, 6, 7, 8, 9, 10, 11, 13, 14, 12, 15, 16] (by kernel_rfl) (by kernel_rfl) ⟨k1, HR.out⟩ ?_
  simp only [inOrder, opAt]
  iterate 10
    (refine wpMixS_read (v := ?_) rfl rfl (fun w' hS => ?_) ?_
     rotate_left
     · ((try (obtain ⟨s0, _⟩ := hS rfl)); (try clear hS); go_simp; (try with_reducible rfl))
     try simp only [Act.put, List.setIfInBounds_toArray, List.set_cons_zero, List.set_cons_succ])
  refine wpMixS_row rfl rfl 89 _ rfl r 0 rfl (bs b) _ (fun w' hS => (hS rfl).2) Try.underlying89 rfl (by rw [bs_length, hl]; exact info89) ?_
  try simp only [Act.put, List.setIfInBounds_toArray, List.set_cons_zero, List.set_cons_succ]
  refine wpMixS_build rfl rfl 91 _ rfl (.agg (heldCells b false)) #[(0, .agg (bs b).toArray)] (by simp only [List.map_toArray, List.map_cons, List.map_nil]; rfl) HB.out ?_
  try simp only [Act.put, List.setIfInBounds_toArray, List.set_cons_zero, List.set_cons_succ]
  iterate 2
    (refine wpMixS_read (v := ?_) rfl rfl (fun w' hS => ?_) ?_
     rotate_left
     · ((try (obtain ⟨s0, _⟩ := hS rfl)); (try clear hS); go_simp; (try with_reducible rfl))
     try simp only [Act.put, List.setIfInBounds_toArray, List.set_cons_zero, List.set_cons_succ])
  have hb2 : Blk w.drew g 86 (spCells s) := hb.drew
  have hr2 : w.drew.rangeAt r 0 (bs b) := HR.out
  have zr := hr.lt
  refine wpMixS_eff rfl rfl (fun K hK => ?_)
  go_simp
  refine hK.out _ _ _ (fun _ h => h) (fun _ => ⟨?_, fun j v hv => ?_⟩) ?_
  focus
    have := (hb2.alloc (.cells (heldCells b false) 91)).cell (193 + p)
    rw [sp_pg s p hp, HPG.out] at this
    exact this
  focus
    have h1 := hr2 j v hv
    have h2 : (w.alloc (.cells (heldCells b false) 91)).cell? ⟨r, 0 + j, none⟩ = some v := by
      rw [World.cell?_alloc_lt _ _ _ (by show r < w.heap.size; exact zr)]
      exact h1
    exact h2
  clear hK K
  try simp only [Act.put, List.setIfInBounds_toArray, List.set_cons_zero, List.set_cons_succ]
  iterate 1
    (refine wpMixS_read (v := ?_) rfl rfl (fun w' hS => ?_) ?_
     rotate_left
     · ((try (obtain ⟨s0, _⟩ := hS rfl)); (try clear hS); go_simp; (try with_reducible rfl))
     try simp only [Act.put, List.setIfInBounds_toArray, List.set_cons_zero, List.set_cons_succ])
  have f1 := hb.frozen (193 + p)
  have hb4 := hb.set_ (193 + p) (ptrV (some w.heap.size))
  rw [sp_set_pg s p _ hp] at hb4
  have HB4 := Lib.hid (hb4.alloc (.cells (heldCells b false) 91)).drew
  have HN4 := Lib.hid (Blk.new_ (g := w.heap.size) (w.setCell ⟨g, 193 + p, none⟩ (ptrV (some w.heap.size))) 91 (heldCells b false) (by simp)).drew
  have HF4 := Lib.hid (((Fr.refl [g] w).setCell (p := ⟨g, 193 + p, none⟩) (.inl (by simp)) (ptrV (some w.heap.size))).alloc (.cells (heldCells b false) 91)).drew
  clear hb4
  refine wpMixS_eff rfl rfl (fun K hK => ?_)
  go_simp
  refine hK.out _ _ _ (fun _ h => h) (fun h => by cases h) ?_
  clear hK K
  try simp only [Act.put, List.setIfInBounds_toArray, List.set_cons_zero, List.set_cons_succ]
  refine wpMixS_nil ?_
  have k5 : ((w.setCell ⟨g, 193 + p, none⟩ (ptrV (some w.heap.size))).alloc (.cells (heldCells b false) 91)).drew.cell? ⟨g, 193 + p, none⟩ = some (ptrV (some w.heap.size)) := by
    rw [HB4.out.cell, sp_pg _ p hp]
    show some (ptrV (upd s.pg p (some w.heap.size) p)) = _
    rw [upd_at]
  clear k1 k2 f1 hb2 hr2 HR HB hb hr
  unfold ptrV at k5 HB4 HN4 HF4
  simp only [Option.map_some] at k5 HB4 HN4 HF4
  generalize ((w.setCell ⟨g, 193 + p, none⟩ (.pointer (some ⟨w.heap.size, 0, none⟩))).alloc (.cells (heldCells b false) 91)).drew = W3 at *
  go_wp2_with fail
  go_ret
  exact ⟨rfl, HN4.out, HB4.out, HF4.out⟩
end Go.Proofs.Ytbppafbdmdbdiaa
