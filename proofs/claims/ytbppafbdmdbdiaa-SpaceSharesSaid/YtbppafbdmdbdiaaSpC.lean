/-
  Walks: need (without a source), access.
-/
import Derived.Test.YtbppafbdmdbdiaaSpB
namespace Go.Proofs.Ytbppafbdmdbdiaa
open Go.RowKit
set_option linter.unusedVariables false

/-- A space without a source behind the need of a page. -/
def needN (s : Sp) (p : Nat) : Sp := { s with known := upd s.known p true }
theorem upd_same {α : Type} (f : Nat → α) (p : Nat) (v : α) (h : f p = v) : upd f p v = f := by
  funext q
  unfold upd
  split
  · rename_i hq; rw [hq, h]
  · rfl
theorem needN_known (s : Sp) (p : Nat) (h : s.known p = true) : needN s p = s := by
  unfold needN
  rw [upd_same _ _ _ h]

theorem fn_nil81 (W : World) : (binOp BinOp.neq 81 Value.nilFunc Value.nilFunc).run Try.prog W = .ok (.bool false) W := by kernel_rfl

set_option maxRecDepth 100000 in
set_option maxHeartbeats 4000000 in
theorem need_nil (w : World) (g p : Nat) (s : Sp) (hb : Blk w g 86 (spCells s)) (hp : p < 64) (hf : s.fetch = .nilFunc) :
    Calls Try.prog 39 #[.pointer (some ⟨g, 0, none⟩), .int .i64 p] w fun e w' => e = .returned (ptrV (s.pg p)) ∧ Blk w' g 86 (spCells (needN s p)) ∧ Fr [g] w w' := by
  have k1 : w.cell? ⟨g, 1 + p, none⟩ = some (.bool (s.known p)) := (hb.cell _).trans (sp_known s p hp)
  have k2 : w.cell? ⟨g, 193 + p, none⟩ = some (ptrV (s.pg p)) := (hb.cell _).trans (sp_pg s p hp)
  have i1 : (p : Int) < 64 := by omega
  have i0 : (0 : Int) ≤ (p : Int) := by omega
  rcases Bool.eq_false_or_eq_true (s.known p) with hk | hk
  · rw [hk] at k1
    have HK := Lib.hid (needN_known s p hk)
    clear hk hf
    go_enter Try.func39, Try.ntmps39
    go_wp2_with fail
    go_ret
    exact ⟨rfl, by rw [HK.out]; exact hb, Fr.refl _ _⟩
  · rw [hk] at k1
    have f1 := hb.frozen (1 + p)
    have k0 : w.cell? ⟨g, 0, none⟩ = some .nilFunc := by rw [hb.cell, sp_fetch, hf]
    have hq := fn_nil81
    have hne : (1 + p ≠ 193 + p) := by omega
    have hs : Blk (w.setCell ⟨g, 1 + p, none⟩ (.bool true)) g 86 (spCells (needN s p)) := by have := hb.set_ (1 + p) (.bool true); rw [sp_set_known s p true hp] at this; exact this
    have HS := Lib.hid hs
    clear hk hf hs
    go_enter Try.func39, Try.ntmps39
    go_wp2_with fail

    go_ret
    exact ⟨rfl, HS.out, (Fr.refl _ _).setCell (.inl (by simp)) _⟩
end Go.Proofs.Ytbppafbdmdbdiaa
