/-
  Walks: Equal.
-/
import Derived.Test.YtbppafbdmdbdiaaSpW
namespace Go.Proofs.Ytbppafbdmdbdiaa
open Go.RowKit
set_option linter.unusedVariables false

theorem info83 : (Try.prog.info? 83).map (·.size) = some 1 := by kernel_rfl
theorem info4 : (Try.prog.info? 4).map (·.size) = some 1 := by kernel_rfl
theorem idx_row (t e : TypeId) (d : TypeDesc) (R : Array Value) (k : Nat) (v : Value) (W : World) (hu : Try.prog.underlying t = some (.array 64 e)) (he : Try.prog.underlying e = some d) (hd : d.isRow = false) (hi : (Try.prog.info? e).map (·.size) = some 1) (hk : k < 64) (hv : R[k]? = some v) :
    (Instr.index t (.agg R) (.int .i64 (k : Int))).run Try.prog W = .ok v W := by
  have hp : (part e R k).run Try.prog W = .ok v W := by
    cases d <;> first | (simp at hd; done) | simp [part, isAgg, run_underlying he, hv]
  cases hq : Try.prog.info? e with
  | none => simp [hq] at hi
  | some i =>
    have hs : i.size = 1 := by simpa [hq] using hi
    unfold Instr.index
    simp [run_underlying hu, run_sizeOf W hq, asIntOf, hk, Program.cellsOf, hq, hs, hp]
theorem held_range (W : World) (r : Nat) (b : List UInt8) (sh : Bool) (h : Blk W r 91 (heldCells b sh)) : W.rangeAt r 0 (bs b) := fun j v hv => by
  rw [Nat.zero_add, h.cell]
  show (bs b ++ [Value.bool sh]).toArray[j]? = _
  rw [List.getElem?_toArray, List.getElem?_append_left (List.getElem?_eq_some_iff.1 hv).1]
  exact hv
/-- Two spaces behind a step. -/
def Stp2 (C : Source) (B : Nat) (sps : Nat → Option Sp) (hm : Pages) (g f : Nat) (a b : AS) (w w' : World) : Prop :=
  ∃ s1 c1 hm1, All C B w' (upd (upd sps g (some s1)) f (some c1)) hm1 ∧ view C hm1 s1 = a ∧ view C hm1 c1 = b ∧
    (∀ k' x, k' ≠ g → k' ≠ f → sps k' = some x → view C hm1 x = view C hm x) ∧ Mv B C.X w w'

section
variable {C : Source} {B : Nat} {w w' : World} {sps : Nat → Option Sp} {hm : Pages} {g f : Nat} {s o : Sp}
set_option maxRecDepth 100000 in
set_option maxHeartbeats 8000000 in
theorem equal_all (ok : SourceOk C B) (h : All C B w sps hm) (hg : sps g = some s) (hf : sps f = some o) (hgf : g ≠ f) (hB : B ≤ w.heap.size) (hX : ∀ k, C.X k → k < w.heap.size) :
    Calls Try.prog 21 #[.pointer (some ⟨g, 0, none⟩), .pointer (some ⟨f, 0, none⟩)] w fun e w' => e = .returned (.bool (eqA (needUp 64 (view C hm s)) (needUp 64 (view C hm o)))) ∧
      Stp2 C B sps hm g f (needUp 64 (view C hm s)) (needUp 64 (view C hm o)) w w' := by
  have hq := ptr23_some
  have HP := Lib.hid (pages_all ok h hg hB hX)
  have HF := Lib.hid hf
  obtain ⟨a, ha⟩ : ∃ a, a = view C hm s := ⟨_, rfl⟩
  obtain ⟨b, hb⟩ : ∃ b, b = view C hm o := ⟨_, rfl⟩
  rw [← ha] at HP ⊢
  rw [← hb]
  have HBV := Lib.hid hb
  clear ha hb h hg hf
  go_enter Try.func21, Try.ntmps21
  go_wp2_with fail
  refine HP.out.mono ?_
  rintro e w1 ⟨⟨OA, oc, rfl, _⟩, s1, hm1, hA1, hv1, ho1, hmv1, _⟩
  have hf1 : upd sps g (some s1) f = some o := by rw [upd_ne _ _ _ _ (fun e => hgf e.symm)]; exact HF.out
  have hsz1 := hmv1.size
  have HP2 := Lib.hid (pages_all ok hA1 hf1 (Nat.le_trans hB hsz1) (fun k hk => Nat.lt_of_lt_of_le (hX k hk) hsz1))
  rw [ho1 f o (fun e => hgf e.symm) HF.out, ← HBV.out] at HP2
  have HV1 := Lib.hid hv1
  have HO1 := Lib.hid ho1
  have HMV1 := Lib.hid hmv1
  clear hA1 hf1 hv1 ho1 hmv1 HP
  dsimp only
  go_wp2_with fail
  refine HP2.out.mono ?_
  rintro e w2 ⟨⟨OA2, oc2, rfl, _⟩, c2, hm2, hA2, hv2, ho2, hmv2, _⟩
  have hg2 : upd (upd sps g (some s1)) f (some c2) g = some s1 := by rw [upd_ne _ _ _ _ hgf, upd_at]
  have hs2 : view C hm2 s1 = needUp 64 a := (ho2 g s1 hgf (upd_at _ _ _)).trans HV1.out
  have hoth : ∀ k' x, k' ≠ g → k' ≠ f → sps k' = some x → view C hm2 x = view C hm x := fun k' x h1 h2 hx => (ho2 k' x h2 (by rw [upd_ne _ _ _ _ h1]; exact hx)).trans (HO1.out k' x h1 hx)
  have hmv := HMV1.out.trans hmv2
  have HA2 := Lib.hid hA2
  have HV2 := Lib.hid hv2
  have HS2 := Lib.hid hs2
  have HOTH := Lib.hid hoth
  have HMV := Lib.hid hmv
  have HG2 := Lib.hid hg2
  have hrow := Lib.hid (row_range w2 g s1 (hA2.blk g s1 hg2).1)
  clear hA2 hv2 ho2 hmv2 hs2 hoth hmv hg2 HV1 HO1 HMV1 HP2
  dsimp only
  go_wp2_with (with_reducible refine wpList_load_mid rfl 84 (.tmp 26) rfl g 193 rfl (row ptrV s1.pg) _ hrow.out Try.underlying84 rfl (by rw [row_length]; exact info84) ?_)
  have hR : ∀ k, k < 64 → (row ptrV s1.pg).toArray[k]? = some (ptrV (s1.pg k)) := fun k hk => by rw [List.getElem?_toArray, row_get _ _ k hk]
  generalize (row ptrV s1.pg).toArray = R at *
  have HR := Lib.hid hR
  clear hR hrow
  go_loopg [28] 64 (fun q iv wr => ∃ k : Nat, iv = .int .i64 k ∧ q = 64 - k ∧ k ≤ 64 ∧ eqUp (needUp 64 a) (needUp 64 b) k = true ∧ All C B wr (upd (upd sps g (some s1)) f (some c2)) hm2 ∧ Mv B C.X w wr)
  case atStart => exact ⟨0, rfl, rfl, by omega, rfl, HA2.out, HMV.out⟩
  case round =>
    obtain ⟨k, rfl, rfl, hk, heq, hA3, hmv3⟩ := hrel
    have HEQ := Lib.hid heq
    have HA3 := Lib.hid hA3
    have HMV3 := Lib.hid hmv3
    clear heq hA3 hmv3
    by_cases hlt : k < 64
    · have i1 : (k : Int) < 64 := by omega
      have i0 : (0 : Int) ≤ (k : Int) := by omega
      have hsu := eqUp_succ (needUp 64 a) (needUp 64 b) k
      rw [HEQ.out] at hsu
      have pa : (needUp 64 a).page k = pageOf hm2 (s1.pg k) := by rw [← HS2.out]; rfl
      have pb : (needUp 64 b).page k = pageOf hm2 (c2.pg k) := by rw [← HV2.out]; rfl
      rw [pa, pb] at hsu
      have hbad : pageOf hm2 (s1.pg k) ≠ pageOf hm2 (c2.pg k) → eqA (needUp 64 a) (needUp 64 b) = false := fun h => eqUp_false _ _ k 64 hlt (by rw [pa, pb]; exact h)
      have HSU := Lib.hid hsu
      have HBAD := Lib.hid hbad
      have c0 := HR.out k hlt
      have hbf := (HA3.out.blk f c2 (upd_at _ _ _)).1
      have k2 : wr.cell? ⟨f, 193 + k, none⟩ = some (ptrV (c2.pg k)) := by rw [hbf.cell, sp_pg c2 k hlt]
      have zf := hbf.lt
      have hq2 := ptr_eql2
      have hq3 := nil_eql
      have hq4 := ptr_neq2
      have hq5 := nil_neq
      clear hsu hbad pa pb hbf
      have hix := fun W => idx_row 84 83 _ R k _ W Try.underlying84 Try.underlying83 rfl info83 hlt c0
      clear c0
      cases h1 : s1.pg k with
      | none =>
        rw [h1] at hix HSU HBAD
        cases h2 : c2.pg k with
        | none =>
          rw [h2] at k2 HSU HBAD
          unfold ptrV at hix k2
          simp only [Option.map_none] at hix k2
          clear h1 h2
          go_wp2_with fail
          have HA4 := Lib.hid (HA3.out.below ok.keeps (Below.refl wr.heap.size wr).drew)
          have HMV4 : Hid (Mv B C.X w wr.drew) := Lib.hid HMV3.out.drew
          refine wp_region_mixL (fun _ => True) [0, 1, 2, 3, 4, 5, 6, 7, 8, 9, 10, 11, 12, 13, 14, 15, 16, 17, 18, 19] [] [0, 1, 2, 3, 4, 5, 6, 7, 8, 9, 10, 11, 12, 13, 14, 15, 16, 17, 18, 19] (by kernel_rfl) (by kernel_rfl) trivial ?_
          simp only [inOrder, opAt]
          generalize wr.drew = W3 at *
          iterate 9
            (refine wpMixS_read (v := ?_) rfl rfl (fun w' hS => ?_) ?_
             rotate_left
             · ((try clear hS); go_simp; (try with_reducible rfl))
             try simp only [Act.put, List.setIfInBounds_toArray, List.set_cons_zero, List.set_cons_succ])
          iterate 9
            (refine wpMixS_skip rfl rfl ?_
             try simp only [Act.put, List.setIfInBounds_toArray, List.set_cons_zero, List.set_cons_succ])
          iterate 2
            (refine wpMixS_read (v := ?_) rfl rfl (fun w' hS => ?_) ?_
             rotate_left
             · ((try clear hS); go_simp; (try with_reducible rfl))
             try simp only [Act.put, List.setIfInBounds_toArray, List.set_cons_zero, List.set_cons_succ])
          refine wpMixS_nil ?_
          go_wp2_with fail
          go_roundg (64 - (k + 1))
          case measure => omega
          case rel => exact ⟨k + 1, by go_num, rfl, by omega, by rw [HSU.out]; simp, HA4.out, HMV4.out⟩
        | some r2 =>
          obtain ⟨⟨b2, sh2⟩, hm2'⟩ := HA3.out.ref f c2 (upd_at _ _ _) k r2 h2
          have hp2 : pageOf hm2 (some r2) = some b2 := by show (hm2 r2).map _ = _; rw [hm2']; rfl
          rw [h2] at k2 HSU HBAD
          rw [hp2] at HSU HBAD
          unfold ptrV at hix k2
          simp only [Option.map_none, Option.map_some] at hix k2
          clear h1 h2 hm2' hp2
          go_wp2_with fail
          have HA4 := Lib.hid (HA3.out.below ok.keeps (Below.refl wr.heap.size wr).drew)
          have HMV4 : Hid (Mv B C.X w wr.drew) := Lib.hid HMV3.out.drew
          refine wp_region_mixL (fun _ => True) [0, 1, 2, 3, 4, 5, 6, 7, 8, 9, 10, 11, 12, 13, 14, 15, 16, 17, 18, 19] [] [0, 1, 2, 3, 4, 5, 6, 7, 8, 9, 10, 11, 12, 13, 14, 15, 16, 17, 18, 19] (by kernel_rfl) (by kernel_rfl) trivial ?_
          simp only [inOrder, opAt]
          generalize wr.drew = W3 at *
          iterate 6
            (refine wpMixS_read (v := ?_) rfl rfl (fun w' hS => ?_) ?_
             rotate_left
             · ((try clear hS); go_simp; (try with_reducible rfl))
             try simp only [Act.put, List.setIfInBounds_toArray, List.set_cons_zero, List.set_cons_succ])
          iterate 13
            (refine wpMixS_skip rfl rfl ?_
             try simp only [Act.put, List.setIfInBounds_toArray, List.set_cons_zero, List.set_cons_succ])
          iterate 1
            (refine wpMixS_read (v := ?_) rfl rfl (fun w' hS => ?_) ?_
             rotate_left
             · ((try clear hS); go_simp; (try with_reducible rfl))
             try simp only [Act.put, List.setIfInBounds_toArray, List.set_cons_zero, List.set_cons_succ])
          refine wpMixS_nil ?_
          go_wp2_with fail
          go_ret
          exact ⟨by rw [HBAD.out (by show (none : Option (List UInt8)) ≠ some b2; simp)]; rfl, s1, c2, hm2, HA4.out, HS2.out, HV2.out, HOTH.out, HMV4.out⟩
      | some r1 =>
        obtain ⟨⟨b1, sh1⟩, hm1'⟩ := HA3.out.ref g s1 HG2.out k r1 h1
        have hp1 : pageOf hm2 (some r1) = some b1 := by show (hm2 r1).map _ = _; rw [hm1']; rfl
        rw [h1] at hix HSU HBAD
        rw [hp1] at HSU HBAD
        cases h2 : c2.pg k with
        | none =>
          rw [h2] at k2 HSU HBAD
          unfold ptrV at hix k2
          simp only [Option.map_none, Option.map_some] at hix k2
          clear h1 h2 hm1' hp1
          go_wp2_with fail
          have HA4 := Lib.hid (HA3.out.below ok.keeps (Below.refl wr.heap.size wr).drew)
          have HMV4 : Hid (Mv B C.X w wr.drew) := Lib.hid HMV3.out.drew
          refine wp_region_mixL (fun _ => True) [0, 1, 2, 3, 4, 5, 6, 7, 8, 9, 10, 11, 12, 13, 14, 15, 16, 17, 18, 19] [] [0, 1, 2, 3, 4, 5, 6, 7, 8, 9, 10, 11, 12, 13, 14, 15, 16, 17, 18, 19] (by kernel_rfl) (by kernel_rfl) trivial ?_
          simp only [inOrder, opAt]
          generalize wr.drew = W3 at *
          iterate 6
            (refine wpMixS_read (v := ?_) rfl rfl (fun w' hS => ?_) ?_
             rotate_left
             · ((try clear hS); go_simp; (try with_reducible rfl))
             try simp only [Act.put, List.setIfInBounds_toArray, List.set_cons_zero, List.set_cons_succ])
          iterate 13
            (refine wpMixS_skip rfl rfl ?_
             try simp only [Act.put, List.setIfInBounds_toArray, List.set_cons_zero, List.set_cons_succ])
          iterate 1
            (refine wpMixS_read (v := ?_) rfl rfl (fun w' hS => ?_) ?_
             rotate_left
             · ((try clear hS); go_simp; (try with_reducible rfl))
             try simp only [Act.put, List.setIfInBounds_toArray, List.set_cons_zero, List.set_cons_succ])
          refine wpMixS_nil ?_
          go_wp2_with fail
          go_ret
          exact ⟨by rw [HBAD.out (by show some b1 ≠ (none : Option (List UInt8)); simp)]; rfl, s1, c2, hm2, HA4.out, HS2.out, HV2.out, HOTH.out, HMV4.out⟩
        | some r2 =>
          obtain ⟨⟨b2, sh2⟩, hm2'⟩ := HA3.out.ref f c2 (upd_at _ _ _) k r2 h2
          have hp2 : pageOf hm2 (some r2) = some b2 := by show (hm2 r2).map _ = _; rw [hm2']; rfl
          rw [h2] at k2 HSU HBAD
          rw [hp2] at HSU HBAD
          obtain ⟨hl1, hb1, _⟩ := HA3.out.mem r1 b1 sh1 hm1'
          obtain ⟨hl2, hb2, _⟩ := HA3.out.mem r2 b2 sh2 hm2'
          have hr1 := Lib.hid (held_range wr r1 b1 sh1 hb1)
          have hr2 := Lib.hid (held_range wr r2 b2 sh2 hb2)
          have hl1' := Lib.hid hl1
          have hl2' := Lib.hid hl2
          have hnq := fun W => neq89 W b1 b2 hl1 hl2
          have hg89 := guard89
          unfold ptrV at hix k2
          simp only [Option.map_some] at hix k2
          clear h1 h2 hm1' hp1 hm2' hp2 hb1 hb2 hl1 hl2
          go_wp2_with fail
          have HA4 := Lib.hid (HA3.out.below ok.keeps (Below.refl wr.heap.size wr).drew)
          have HMV4 : Hid (Mv B C.X w wr.drew) := Lib.hid HMV3.out.drew
          obtain ⟨d, hd⟩ : ∃ d : Bool, d = decide (b1 = b2) := ⟨_, rfl⟩
          rw [← hd] at hnq
          have HD := Lib.hid hd
          clear hd
          refine wp_region_mixL (fun W => W.rangeAt r1 0 (bs b1) ∧ W.rangeAt r2 0 (bs b2)) [0, 1, 2, 3, 4, 5, 6, 7, 8, 9, 10, 11, 12, 13, 14, 15, 16, 17, 18, 19] [] [0, 1, 2, 3, 4, 5, 6, 7, 8, 9, 10, 11, 12, 13, 14, 15, 16, 17, 18, 19] (by kernel_rfl) (by kernel_rfl) ⟨hr1.out, hr2.out⟩ ?_
          simp only [inOrder, opAt]
          generalize wr.drew = W3 at *
          iterate 12
            (refine wpMixS_read (v := ?_) rfl rfl (fun w' hS => ?_) ?_
             rotate_left
             · ((try clear hS); go_simp; (try with_reducible rfl))
             try simp only [Act.put, List.setIfInBounds_toArray, List.set_cons_zero, List.set_cons_succ])
          refine wpMixS_row rfl rfl 89 _ rfl r1 0 rfl (bs b1) _ (fun w' hS => (hS rfl).1) Try.underlying89 rfl (by rw [bs_length, hl1'.out]; exact info89) ?_
          try simp only [Act.put, List.setIfInBounds_toArray, List.set_cons_zero, List.set_cons_succ]
          iterate 3
            (refine wpMixS_read (v := ?_) rfl rfl (fun w' hS => ?_) ?_
             rotate_left
             · ((try clear hS); go_simp; (try with_reducible rfl))
             try simp only [Act.put, List.setIfInBounds_toArray, List.set_cons_zero, List.set_cons_succ])
          refine wpMixS_row rfl rfl 89 _ rfl r2 0 rfl (bs b2) _ (fun w' hS => (hS rfl).2) Try.underlying89 rfl (by rw [bs_length, hl2'.out]; exact info89) ?_
          try simp only [Act.put, List.setIfInBounds_toArray, List.set_cons_zero, List.set_cons_succ]
          iterate 3
            (refine wpMixS_read (v := ?_) rfl rfl (fun w' hS => ?_) ?_
             rotate_left
             · ((try clear hS); go_simp; (try with_reducible rfl))
             try simp only [Act.put, List.setIfInBounds_toArray, List.set_cons_zero, List.set_cons_succ])
          refine wpMixS_nil ?_
          cases d with
          | true =>
            have hbb : b1 = b2 := of_decide_eq_true HD.out.symm
            go_wp2_with fail
            go_roundg (64 - (k + 1))
            case measure => omega
            case rel => exact ⟨k + 1, by go_num, rfl, by omega, by rw [HSU.out, hbb]; simp, HA4.out, HMV4.out⟩
          | false =>
            have hbb : some b1 ≠ some b2 := fun h => of_decide_eq_false HD.out.symm (by injection h)
            have hfin := HBAD.out hbb
            go_wp2_with fail
            go_ret
            exact ⟨by rw [hfin]; rfl, s1, c2, hm2, HA4.out, HS2.out, HV2.out, HOTH.out, HMV4.out⟩
    · obtain rfl : k = 64 := by omega
      have i1 : decide (((64 : Nat) : Int) < 64) = false := by decide
      have hfin : eqA (needUp 64 a) (needUp 64 b) = true := HEQ.out
      go_wp2_with fail
      go_ret
      exact ⟨by rw [hfin]; rfl, s1, c2, hm2, HA3.out, HS2.out, HV2.out, HOTH.out, HMV3.out⟩
end
end Go.Proofs.Ytbppafbdmdbdiaa
