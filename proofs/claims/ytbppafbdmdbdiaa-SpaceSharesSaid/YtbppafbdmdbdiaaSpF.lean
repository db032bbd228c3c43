/-
  Walks: need, with and without a source.
-/
import Derived.Test.YtbppafbdmdbdiaaSpE
namespace Go.Proofs.Ytbppafbdmdbdiaa
open Go.RowKit
set_option linter.unusedVariables false

/-- What asking a source answers. -/
def FetchRet (C : Source) (w : World) (p : Nat) (e : Ending) (w' : World) : Prop := match C.src p with
  | none => e = .returned (ptrV none)
  | some b => ∃ h, w.heap.size ≤ h ∧ e = .returned (ptrV (some h)) ∧ Blk w' h 91 (heldCells (padL b) false)
def fetchV (box : Nat) : Value := .func (.func 35) #[] #[.pointer (some ⟨box, 0, none⟩)]
structure SourceOk (C : Source) (B : Nat) : Prop where
  keeps : Keeps C B
  low : ∀ k, C.X k → B ≤ k
  apart : ∀ w a k, C.E a w → C.X k → ¬ SpT w k
  val : ∃ box, C.val = fetchV box
  call : ∀ box, C.val = fetchV box → ∀ w a p, p < 64 → B ≤ w.heap.size → C.E a w → a p = false →
    Calls Try.prog 35 #[.int .i64 p, .pointer (some ⟨box, 0, none⟩)] w fun e w' => FetchRet C w p e w' ∧ C.E (upd a p true) w' ∧ Only C.X w w'

/-- A step of one space. -/
def Stp (C : Source) (B : Nat) (sps : Nat → Option Sp) (hm : Pages) (g : Nat) (a' : AS) (w w' : World) (K : Sp → Pages → Prop) : Prop :=
  ∃ s' hm', All C B w' (upd sps g (some s')) hm' ∧ view C hm' s' = a' ∧ (∀ k x, k ≠ g → sps k = some x → view C hm' x = view C hm x) ∧ Mv B C.X w w' ∧ K s' hm'

theorem need_known (w : World) (g p : Nat) (s : Sp) (hb : Blk w g 86 (spCells s)) (hp : p < 64) (hk : s.known p = true) :
    Calls Try.prog 39 #[.pointer (some ⟨g, 0, none⟩), .int .i64 p] w fun e w' => e = .returned (ptrV (s.pg p)) ∧ w = w' := by
  have k1 : w.cell? ⟨g, 1 + p, none⟩ = some (.bool (s.known p)) := (hb.cell _).trans (sp_known s p hp)
  have k2 : w.cell? ⟨g, 193 + p, none⟩ = some (ptrV (s.pg p)) := (hb.cell _).trans (sp_pg s p hp)
  have i1 : (p : Int) < 64 := by omega
  have i0 : (0 : Int) ≤ (p : Int) := by omega
  rw [hk] at k1
  clear hk
  go_enter Try.func39, Try.ntmps39
  go_wp2_with fail
  go_ret
  exact ⟨rfl, rfl⟩

theorem fn_some81 (W : World) (box : Nat) : (binOp BinOp.neq 81 (fetchV box) Value.nilFunc).run Try.prog W = .ok (.bool true) W := by kernel_rfl

set_option maxRecDepth 100000 in
set_option maxHeartbeats 4000000 in
/-- need of a page that is not known, with a source; told by blocks. -/
theorem need_src (w : World) (g p box : Nat) (s : Sp) (hb : Blk w g 86 (spCells s)) (hp : p < 64) (hk : s.known p = false) (hf : s.fetch = fetchV box)
    (F : World → Ending → World → Prop) (hcall : ∀ w1, Blk w1 g 86 (spCells { s with known := upd s.known p true, asked := upd s.asked p true }) → Fr [g] w w1 →
      Calls Try.prog 35 #[.int .i64 p, .pointer (some ⟨box, 0, none⟩)] w1 fun e w2 => ∃ o, e = .returned (ptrV o) ∧ Blk w2 g 86 (spCells { s with known := upd s.known p true, asked := upd s.asked p true }) ∧ F w1 (.returned (ptrV o)) w2) :
    Calls Try.prog 39 #[.pointer (some ⟨g, 0, none⟩), .int .i64 p] w fun e w' => ∃ w1 w2 o, e = .returned (ptrV o) ∧ Fr [g] w w1 ∧ F w1 (.returned (ptrV o)) w2 ∧ Fr [g] w2 w' ∧
      Blk w' g 86 (spCells { s with known := upd s.known p true, asked := upd s.asked p true, pg := upd s.pg p o }) := by
  have k1 : w.cell? ⟨g, 1 + p, none⟩ = some (.bool false) := by rw [hb.cell, sp_known s p hp, hk]
  have k0 : w.cell? ⟨g, 0, none⟩ = some (fetchV box) := by rw [hb.cell, sp_fetch, hf]
  have k3 : w.cell? ⟨g, 65 + p, none⟩ = some (.bool (s.asked p)) := (hb.cell _).trans (sp_asked s p hp)
  have f1 := hb.frozen (1 + p)
  have f3 := hb.frozen (65 + p)
  have i1 : (p : Int) < 64 := by omega
  have i0 : (0 : Int) ≤ (p : Int) := by omega
  have n1 : 1 + p ≠ 0 := by omega
  have n2 : 1 + p ≠ 65 + p := by omega
  have n3 : 65 + p ≠ 0 := by omega
  have hq := fn_some81
  have hb1 : Blk (w.setCell ⟨g, 1 + p, none⟩ (.bool true)) g 86 (spCells { s with known := upd s.known p true }) := by have := hb.set_ (1 + p) (.bool true); rw [sp_set_known s p true hp] at this; exact this
  have hb2 : Blk ((w.setCell ⟨g, 1 + p, none⟩ (.bool true)).setCell ⟨g, 65 + p, none⟩ (.bool true)) g 86 (spCells { s with known := upd s.known p true, asked := upd s.asked p true }) := by
    have := hb1.set_ (65 + p) (.bool true); rw [sp_set_asked _ p true hp] at this; exact this
  have hf2 : Fr [g] w ((w.setCell ⟨g, 1 + p, none⟩ (.bool true)).setCell ⟨g, 65 + p, none⟩ (.bool true)) := ((Fr.refl _ _).setCell (.inl (by simp)) _).setCell (.inl (by simp)) _
  have HB := Lib.hid hb2
  have HF := Lib.hid hf2
  have HFT := Lib.hid hf
  clear hk hf hb1 hb2 hf2
  unfold fetchV at k0
  unfold fetchV at hq
  go_enter Try.func39, Try.ntmps39
  go_upto_region 5 with (fail)
  have hb2 := HB.out.drew
  have hf2 := HF.out.drew
  clear HB HF k0 k1 k3 f1 f3 n1 n2 n3 hq
  generalize ((w.setCell ⟨g, 1 + p, none⟩ (.bool true)).setCell ⟨g, 65 + p, none⟩ (.bool true)) = W0 at *
  have c0 : W0.drew.cell? ⟨g, 0, none⟩ = some (.func (.func 35) #[] #[.pointer (some ⟨box, 0, none⟩)]) := by
    rw [hb2.cell, sp_fetch]
    exact congrArg some HFT.out
  refine wp_region_mixL (fun W => W.cell? ⟨g, 0, none⟩ = some (.func (.func 35) #[] #[.pointer (some ⟨box, 0, none⟩)])) [5] [7, 11] [0, 1, 2, 3, 4, 5, 6, 8, 9, 7, 10, 11] (by kernel_rfl) (by kernel_rfl) c0 ?_
  simp only [inOrder, opAt]
  generalize W0.drew = W1 at *
  clear c0
  iterate 9
    (refine wpMixS_read (v := ?_) rfl rfl (fun w' hS => ?_) ?_
     rotate_left
     · ((try (have s0 := hS rfl)); (try clear hS); go_simp; (try with_reducible rfl))
     try simp only [Act.put, List.setIfInBounds_toArray, List.set_cons_zero, List.set_cons_succ])
  refine wpMixS_eff rfl rfl (fun K hK => ?_)
  go_simp
  refine (hcall W1 hb2 hf2).mono ?_
  rintro e W2 ⟨o, rfl, hb3, hF⟩
  have hA : ptrV o = .pointer (o.map fun g => ⟨g, 0, none⟩) := rfl
  have hb4 := hb3.set_ (193 + p) (ptrV o)
  rw [sp_set_pg _ p o hp] at hb4
  have HB4 := Lib.hid hb4
  have HFo := Lib.hid hF
  clear hF hb4
  rw [hA] at HB4 HFo ⊢
  obtain ⟨A, hAe⟩ : ∃ A : Option Addr, A = o.map fun g => ⟨g, 0, none⟩ := ⟨_, rfl⟩
  rw [← hAe] at HB4 HFo ⊢
  have HA := Lib.hid (hAe ▸ hA : ptrV o = .pointer A)
  clear hA hAe
  dsimp only
  refine hK.out _ _ _ (fun _ h => h) (fun h => by cases h) ?_
  clear hK K
  try simp only [Act.put, List.setIfInBounds_toArray, List.set_cons_zero, List.set_cons_succ]
  iterate 1
    (refine wpMixS_read (v := ?_) rfl rfl (fun w' hS => ?_) ?_
     rotate_left
     · ((try (have s0 := hS rfl)); (try clear hS); go_simp; (try with_reducible rfl))
     try simp only [Act.put, List.setIfInBounds_toArray, List.set_cons_zero, List.set_cons_succ])
  have f1 := hb3.frozen (193 + p)
  have k1 : W2.cell? ⟨g, 193 + p, none⟩ = some (ptrV (s.pg p)) := (hb3.cell _).trans (sp_pg _ p hp)
  refine wpMixS_eff rfl rfl (fun K hK => ?_)
  go_simp
  refine hK.out _ _ _ (fun _ h => h) (fun h => by cases h) ?_
  clear hK K
  try simp only [Act.put, List.setIfInBounds_toArray, List.set_cons_zero, List.set_cons_succ]
  refine wpMixS_nil ?_
  have hz := hb3.lt
  have hb4 := HB4.out
  have k5 : (W2.setCell ⟨g, 193 + p, none⟩ (.pointer A)).cell? ⟨g, 193 + p, none⟩ = some (.pointer A) := by
    rw [hb4.cell, sp_pg _ p hp, ← HA.out]
    show some (ptrV (upd s.pg p o p)) = _
    rw [upd_at]
  have hfr : Fr [g] W2 (W2.setCell ⟨g, 193 + p, none⟩ (.pointer A)) := (Fr.refl _ _).setCell (.inl (by simp)) _
  have HFR := Lib.hid hfr
  clear hb3 f1 k1 hfr hb4
  generalize W2.setCell ⟨g, 193 + p, none⟩ (.pointer A) = W3 at *
  go_wp2_with fail
  go_ret
  exact ⟨W1, W2, o, by rw [HA.out]; rfl, hf2, by rw [HA.out]; exact HFo.out, HFR.out, HB4.out⟩
end Go.Proofs.Ytbppafbdmdbdiaa
