/-
  Walks: the sum as an effect, a new machine; all effects as one. (genCpI.py prints this text.)
-/
import Derived.Test.YtkoomlbnfhdhcaaGreatDoorCpH
namespace Go.Proofs.YtkoomlbnfhdhcaaGreatDoor
open Go.RowKit
set_option linter.unusedVariables false
set_option linter.unusedSectionVars false
set_option linter.unusedSimpArgs false

theorem wp_store_blk {P : Program} {op : Oper} {a : Act} {w : World} {K : Act → World → Prop} {Q : Exit → Act → World → Prop} {t : Nat} {cs : Array Value} (ty : TypeId) (x y : Operand) (ho : op.op = .store ty x y) (g : Nat) (hx : a.eval x = .pointer (some ⟨g, 0, none⟩)) (cells : Array Value) (hy : a.eval y = .agg cells)
    (h : Blk w g t cs) (hsz : cells.size = cs.size) (hi : (P.info? ty).map (·.size) = some cells.size) (h1 : cells.toList.all (·.oneCell') = true)
    (hk : ∀ w', Blk w' g t cells → Fr [g] w w' → K (a.put op.dst undef) w') : op.wp P a w K Q := by
  refine wp_store_mid ty x y ho g 0 cells hx hy (by rw [hsz]; exact blk_there h) hi (by rw [← Array.all_toList]; exact h1) ?_
  obtain ⟨g1, g2⟩ := setCells_blk h cells.toList (by rw [Array.length_toList]; exact hsz)
  exact hk _ (by simpa using g1) g2
section
variable {w : World} {X sp ef : Nat} {g : Rg}
set_option maxRecDepth 100000 in
set_option maxHeartbeats 2000000 in
theorem addImm_any (h : Blk w X 116 (mcells g sp ef)) (op c : Int) (k b : Nat) (hk : k < 8) (hb : b < 8) : Calls Tryz.prog 81 #[.pointer (some ⟨X, 0, none⟩), insV op k b c] w (EffR w X sp ef (resA g k (sumA g b c)) goOn) := by
  obtain ⟨i1, i2, i3, i4, i5⟩ := eff_in h #[.int .i64 op, .int .i64 k, .int .i64 b, .int .i64 c]
  unfold insV
  go_enter Tryz.func81, Tryz.ntmps81
  go_upto_region 1 with (fail)
  generalize ((w.alloc (.cells #[.int .i64 op, .int .i64 k, .int .i64 b, .int .i64 c] 109)).alloc (.cells #[.int .i64 0, .int .i64 0, .int .u32 0] 111)) = W0 at *
  have HI := Lib.hid i1
  have HE := Lib.hid i2
  have HX := Lib.hid i3
  have HB := Lib.hid i4
  have HW0 := Lib.hid i5
  have n1 := i3.ne_ i2 (by decide)
  have n2 := i3.ne_ i1 (by decide)
  have ci0 : W0.cell? ⟨w.heap.size, 0, none⟩ = some (.int .i64 op) := i1.cell 0
  have ci1 : W0.cell? ⟨w.heap.size, 1, none⟩ = some (.int .i64 k) := i1.cell 1
  have ci2 : W0.cell? ⟨w.heap.size, 2, none⟩ = some (.int .i64 b) := i1.cell 2
  have ci3 : W0.cell? ⟨w.heap.size, 3, none⟩ = some (.int .i64 c) := i1.cell 3
  clear i1 i2 i3 i4 i5 h
  refine wp_region_mixL (fun W => Blk W w.heap.size 109 #[.int .i64 op, .int .i64 k, .int .i64 b, .int .i64 c]) [1, 3, 4, 5] [4, 5, 6] [0, 1, 2, 3, 4, 5, 6] (by kernel_rfl) (by kernel_rfl) HI.out ?_
  simp only [inOrder, opAt]
  clear ci0 ci1 ci2 ci3
  iterate 4
    (refine wpMixS_read (v := ?_) rfl rfl (fun w' hS => ?_) ?_
     rotate_left
     · ((try (have t1 : Blk w' w.heap.size 109 _ := hS rfl; have u0 := t1.cell 0; have u1 := t1.cell 1; have u2 := t1.cell 2; have u3 := t1.cell 3; simp at u0 u1 u2 u3)); (try clear hS); go_simp; (try with_reducible rfl))
     try simp only [Act.put, List.setIfInBounds_toArray, List.set_cons_zero, List.set_cons_succ])
  refine wpMixS_eff rfl rfl (fun K hK => ?_)
  go_simp
  refine (sum_any HX.out.drew op k c b hb).mono ?_
  rintro e w1 ⟨rfl, nb⟩
  have HB1 := Lib.hid (HB.out.drew.trans (nb.mono (by show _ ≤ W0.heap.size; rw [HW0.out]; omega)))
  have HI1 := Lib.hid (HI.out.drew.below nb HI.out.lt)
  have HE1 := Lib.hid (HE.out.drew.below nb HE.out.lt)
  have HX1 := Lib.hid (HX.out.drew.below nb HX.out.lt)
  clear nb
  refine hK.out _ _ _ (fun _ h => h) (fun _ => HI1.out) ?_
  clear hK K
  try simp only [Act.put, List.setIfInBounds_toArray, List.set_cons_zero, List.set_cons_succ]
  refine wpMixS_eff rfl rfl (fun K hK => ?_)
  go_simp
  refine (result_any HX1.out op b c _ k hk).mono ?_
  rintro e w2 ⟨rfl, hx2, hf2⟩
  have he2 := HE1.out.fr hf2 (by simpa using fun e => n1 e.symm)
  have hi2 := HI1.out.fr hf2 (by simpa using fun e => n2 e.symm)
  have HX2 := Lib.hid hx2
  have HF2 := Lib.hid hf2
  clear hx2 hf2
  refine hK.out _ _ _ (fun _ h => h) (fun _ => hi2) ?_
  clear hK K
  try simp only [Act.put, List.setIfInBounds_toArray, List.set_cons_zero, List.set_cons_succ]
  refine wpMixS_eff rfl rfl (fun K hK => ?_)
  refine wp_store_blk 111 (.tmp 4) (.tmp 10) rfl (w.heap.size + 1) rfl _ rfl he2 rfl infoEnd rfl ?_
  intro w3 hk3 hf3
  refine hK.out _ _ _ (fun _ h => h) (fun h => by cases h) ?_
  clear hK K
  try simp only [Act.put, List.setIfInBounds_toArray, List.set_cons_zero, List.set_cons_succ]
  refine wpMixS_nil ?_
  go_wp2_with fail
  exact end_cell rfl rfl hk3 Tryz.underlying111 rfl infoEnd ⟨rfl, HX2.out.fr hf3 (by simpa using n1), ((Fr.of_below HB1.out).trans HF2.out (by simp)).trans hf3 (by simp)⟩
end

/-! ### A new machine -/
def effL : List (Int × Value) := [(0, fnV 77), (1, fnV 78), (2, fnV 79), (3, fnV 80), (16, fnV 81), (17, fnV 82), (18, fnV 83), (19, fnV 84), (20, fnV 85), (21, fnV 86), (22, fnV 87), (23, fnV 88), (24, fnV 89), (25, fnV 90), (26, fnV 91),
  (4, fnV 92), (5, fnV 92), (6, fnV 92), (7, fnV 92), (8, fnV 92), (9, fnV 92), (10, fnV 92), (11, fnV 92), (12, fnV 92), (13, fnV 92), (14, fnV 92), (15, fnV 92)]
/-- The first m of them. -/
def effN (m : Nat) : List (Int × Value) := effL.take (15 + m)
theorem effN_put (m : Nat) (hm : m < 12) : mput ((m : Int) + 4) (fnV 92) (effN m) = effN (m + 1) := by
  match m, hm with
  | 0, _ | 1, _ | 2, _ | 3, _ | 4, _ | 5, _ | 6, _ | 7, _ | 8, _ | 9, _ | 10, _ | 11, _ => rfl
theorem info44 : (Tryz.prog.info? 51).map (·.size) = some 9 := by kernel_rfl
theorem build91 (g : Rg) (sp ef : Nat) (W : World) : (Instr.build 116 #[(0, .agg g.vals.toArray), (1, .pointer (some ⟨sp, 0, none⟩)), (2, .map (some ef))]).run Tryz.prog W = .ok (.agg (mcells g sp ef)) W := by kernel_rfl
set_option maxRecDepth 100000 in
set_option maxHeartbeats 2000000 in
theorem newMachine_any (w : World) (g : Rg) (sp : Nat) : Calls Tryz.prog 43 #[.agg g.vals.toArray, .pointer (some ⟨sp, 0, none⟩)] w fun e w' => ∃ X, e = .returned (.pointer (some ⟨X, 0, none⟩)) ∧ w.heap.size < X ∧ Blk w' X 116 (mcells g sp (w.heap.size + 1)) ∧ MI w' (w.heap.size + 1) effL ∧ Below w.heap.size w w' := by
  have hmm := @run_makeMap Tryz.prog
  have hb2 := Blk.new w 51 g.vals.toArray
  obtain ⟨w1, hw1⟩ : ∃ w1, w1 = w.alloc (.cells g.vals.toArray 51) := ⟨_, rfl⟩
  have hs1 : w1.heap.size = w.heap.size + 1 := by rw [hw1]; simp
  rw [← hw1] at hb2
  have hbw : Below w.heap.size w w1 := by rw [hw1]; exact (Below.refl _ _).alloc (Nat.le_refl _) _
  have h0 : MapF encI Pg (w1.alloc (.map #[] 0)) w1.heap.size [] (w1.alloc (.map #[] 0)) := ⟨MapIs.new w1, Fr.refl _ _⟩
  rw [hs1] at h0
  have HBW := Lib.hid hbw
  have HB2 := Lib.hid hb2
  have HW1 := Lib.hid hw1
  clear hbw hb2 hw1
  unfold Rg.vals at *
  go_enter Tryz.func43, Tryz.ntmps43
  go_upto_region 1 with (fail)
  rw [← HW1.out]
  go_wp2_with (first | (refine wpList_insert_mf keyI rfl _ _ _ rfl Tryz.underlying114 rfl _ rfl (by unfold Pg; omega) _ rfl (by assumption) ?_; intro w2 h2) | go_in)
  have H2 : Hid (MapF encI Pg (w1.alloc (.map #[] 0)) (w.heap.size + 1) (effN 0) w2) := Lib.hid h2
  have HM1 := Lib.hid hs1
  clear h2 h0 hs1
  go_loopg [6] 12 (fun q iv wr => ∃ m : Nat, q = 12 - m ∧ m ≤ 12 ∧ iv = .int .i64 ((m : Int) + 4) ∧ MapF encI Pg (w1.alloc (.map #[] 0)) (w.heap.size + 1) (effN m) wr)
  case atStart => exact ⟨0, rfl, by omega, rfl, H2.out⟩
  case round =>
    obtain ⟨m, rfl, hm, rfl, hmf⟩ := hrel
    have HMF := Lib.hid hmf
    by_cases hlt : m < 12
    · have i1 : (m : Int) + 4 ≤ 15 := by omega
      have e1 : decide ((m : Int) + 4 ≤ 15) = true := decide_eq_true i1
      obtain ⟨w3, hrun, hm3, hf3⟩ := run_update_map keyI Tryz.underlying114 hmf.mi ((m : Int) + 4) (by unfold Pg; omega) (fnV 92)
      unfold encI fnV at hrun
      have HM3 := Lib.hid hm3
      have HF3 := Lib.hid hf3
      clear hmf hm3 hf3
      go_wp2_with fail
      go_roundg (12 - (m + 1))
      case measure => omega
      case rel => exact ⟨m + 1, rfl, by omega, by go_num, by rw [← effN_put m hlt]; exact HM3.out, HMF.out.fr.trans HF3.out (by simp)⟩
    · obtain rfl : m = 12 := by omega
      clear hmf hlt hm
      have hbe : Below w.heap.size w wr := HBW.out.trans (((Below.refl _ _).alloc (Nat.le_refl _) _).trans (HMF.out.fr.below (by simp) (by simp [HM1.out])) |>.mono (by rw [HM1.out]; omega))
      have hb9 := HB2.out.alloc (.map #[] 0) |>.fr HMF.out.fr (by simp)
      have HBE := Lib.hid hbe
      have HB9 := Lib.hid hb9
      have hmi := HMF.out.mi
      have HMI := Lib.hid hmi
      have hb91 := build91 g sp (w.heap.size + 1)
      unfold Rg.vals at hb91
      have hzr : Hid (w.heap.size + 1 < wr.heap.size) := Lib.hid hmi.lt
      clear hbe hb9 hmi
      go_wp2_with (first | (refine wpList_load_blk rfl 51 (.tmp 2) rfl w.heap.size rfl HB9.out _ Tryz.underlying51 rfl info44 ?_) | go_in)
      go_ret
      have hn := Blk.new wr 116 (mcells g sp (w.heap.size + 1))
      have hb2 : Below wr.heap.size wr (wr.alloc (.cells (mcells g sp (w.heap.size + 1)) 116)) := (Below.refl _ _).alloc (Nat.le_refl _) _
      refine ⟨wr.heap.size, rfl, by have := hzr.out; omega, hn, HMI.out.keep (hb2.block _ hzr.out), HBE.out.trans (hb2.mono HBE.out.size)⟩
end Go.Proofs.YtkoomlbnfhdhcaaGreatDoor

/-
  All effects as one; what keeps registers in their range.
-/
namespace Go.Proofs.YtkoomlbnfhdhcaaGreatDoor
open Go.RowKit
set_option linter.unusedVariables false
set_option linter.unusedSectionVars false

/-! ### What an instruction may be -/
structure Ins.Ok (i : Ins) : Prop where
  op : i.op < 27
  a : i.a < 8
  b : i.b < 8
  c : 4 ≤ i.op → i.op ≤ 15 → 0 ≤ i.c ∧ i.c < 8
theorem isR_iff (n : Int) : isR n = true ↔ 0 ≤ n ∧ n < 8 := by unfold isR; exact decide_eq_true_iff
theorem opT_calc (op : Nat) (h4 : 4 ≤ op) (h15 : op ≤ 15) : (opT op).1 = 3 := by
  match op, h4, h15 with
  | 4, _, _ | 5, _, _ | 6, _, _ | 7, _, _ | 8, _, _ | 9, _, _ | 10, _, _ | 11, _, _ | 12, _, _ | 13, _, _ | 14, _, _ | 15, _, _ => rfl
theorem checkI_zero {op a b c : Int} (h : checkI op a b c = 0) : 0 ≤ op ∧ op < 27 ∧ (0 ≤ a ∧ a < 8) ∧ (0 ≤ b ∧ b < 8) ∧ (4 ≤ op → op ≤ 15 → 0 ≤ c ∧ c < 8) := by
  unfold checkI at h
  split at h
  · cases h
  · rename_i h0
    unfold chkF at h
    split at h
    · cases h
    · split at h
      · cases h
      · rename_i h2
        split at h
        · cases h
        · rename_i h3
          simp only [not_or, Bool.not_eq_false] at h2
          refine ⟨by omega, by omega, (isR_iff a).1 h2.1, (isR_iff b).1 h2.2, fun h4 h15 => ?_⟩
          have hf := opT_calc op.toNat (by omega) (by omega)
          by_cases hc : isR c = true
          · exact (isR_iff c).1 hc
          · exact absurd (.inl ⟨hf, by simpa using hc⟩) h3
theorem decI_okI {b0 b1 b2 b3 : Nat} {i : Ins} (h : decI b0 b1 b2 b3 = some i) : i.Ok := by
  unfold decI at h
  split at h
  · cases h
  · split at h
    · rename_i hc
      injection h with h
      subst h
      obtain ⟨h1, h2, h3, h4, h5⟩ := checkI_zero hc
      exact ⟨by show b0 < 27; omega, by show b1 / 16 < 8; omega, by show b1 % 16 < 8; omega, fun h6 h7 => h5 (by have : 4 ≤ b0 := h6; omega) (by have : b0 ≤ 15 := h7; omega)⟩
    · cases h

/-! ### The effects -/
def effA (i : Ins) (g : Rg) (a : AS) : Rg × AS × End := match i.op with
  | 0 => (g, a, ⟨3, 0, 0⟩)
  | 1 => (resA g i.a (g.r i.b), a, goOn)
  | 2 => (resA g i.a (i.c % 4294967296), a, goOn)
  | 3 => (resA g i.a (highV i.c (g.r i.a)), a, goOn)
  | 16 => (resA g i.a (sumA g i.b i.c), a, goOn)
  | 17 => loadG g a i.a i.b i.c
  | 18 => storeG g a i.a i.b i.c
  | 19 => loadByteG g a i.a i.b i.c
  | 20 => storeByteG g a i.a i.b i.c
  | 21 => (jumpA g true i.c, a, goOn)
  | 22 => (jumpA g (g.r i.a == 0) i.c, a, goOn)
  | 23 => (jumpA g (g.r i.a != 0) i.c, a, goOn)
  | 24 => (jumpA { g with r := upd g.r i.a ((g.pc + 4) % 4294967296) } true i.c, a, goOn)
  | 25 => ({ g with pc := g.r i.a }, a, goOn)
  | 26 => (g, a, ⟨2, i.c, 0⟩)
  | op => ((calcG g op i.a i.b i.c.toNat).1, a, (calcG g op i.a i.b i.c.toNat).2)
section
variable {C : Source} {B : Nat} {w : World} {sps : Nat → Option Sp} {hm : Pages} {sp X ef : Nat} {g : Rg} {s : Sp}
theorem eff_any (P : MP C B sps hm sp X ef g s w) (i : Ins) (hi : i.Ok) : ∃ fn, (77 ≤ fn ∧ fn ≤ 92) ∧ mget effL (i.op : Int) = some (fnV fn) ∧
    Calls Tryz.prog fn #[.pointer (some ⟨X, 0, none⟩), insV i.op i.a i.b i.c] w fun e w' => e = .returned (endV (effA i g (view C hm s)).2.2) ∧ MStp C B sps hm sp X ef (effA i g (view C hm s)).1 (effA i g (view C hm s)).2.1 w w' := by
  obtain ⟨op, k, b, c⟩ := i
  obtain ⟨h1, hk, hb, hc⟩ := hi
  dsimp only at h1 hk hb hc ⊢
  have calc_ : ∀ op : Nat, 4 ≤ op → op ≤ 15 → mget effL (op : Int) = some (fnV 92) → effA ⟨op, k, b, c⟩ g (view C hm s) = ((calcG g op k b c.toNat).1, view C hm s, (calcG g op k b c.toNat).2) → (4 ≤ op → op ≤ 15 → 0 ≤ c ∧ c < 8) →
      ∃ fn, (77 ≤ fn ∧ fn ≤ 92) ∧ mget effL (op : Int) = some (fnV fn) ∧ Calls Tryz.prog fn #[.pointer (some ⟨X, 0, none⟩), insV op k b c] w fun e w' => e = .returned (endV (effA ⟨op, k, b, c⟩ g (view C hm s)).2.2) ∧ MStp C B sps hm sp X ef (effA ⟨op, k, b, c⟩ g (view C hm s)).1 (effA ⟨op, k, b, c⟩ g (view C hm s)).2.1 w w' := by
    intro op h4 h15 hm1 he hc
    obtain ⟨c0, c1⟩ := hc h4 h15
    obtain ⟨n, rfl⟩ : ∃ n : Nat, c = n := ⟨c.toNat, by omega⟩
    refine ⟨92, by decide, hm1, ?_⟩
    rw [he]
    rw [Int.toNat_natCast]
    exact (calculate_any P.blk P.gok op k b n h4 h15 hk hb (by omega)).mono fun e w' h => h.stp P
  match op, h1, hc with
  | 0, _, _ => exact ⟨77, by decide, rfl, (halt_any P.blk _ _ _ _).mono fun e w' h => h.stp P⟩
  | 1, _, _ => exact ⟨78, by decide, rfl, (move_any P.blk _ _ k b hk hb).mono fun e w' h => h.stp P⟩
  | 2, _, _ => exact ⟨79, by decide, rfl, (set_any P.blk _ _ c k hk).mono fun e w' h => h.stp P⟩
  | 3, _, _ => exact ⟨80, by decide, rfl, (high_any P.blk _ _ c k hk).mono fun e w' h => h.stp P⟩
  | 16, _, _ => exact ⟨81, by decide, rfl, (addImm_any P.blk _ c k b hk hb).mono fun e w' h => h.stp P⟩
  | 17, _, _ => exact ⟨82, by decide, rfl, load_any P _ c k b hk hb⟩
  | 18, _, _ => exact ⟨83, by decide, rfl, store_any P _ c k b hk hb⟩
  | 19, _, _ => exact ⟨84, by decide, rfl, loadByte_any P _ c k b hk hb⟩
  | 20, _, _ => exact ⟨85, by decide, rfl, storeByte_any P _ c k b hk hb⟩
  | 21, _, _ => exact ⟨86, by decide, rfl, (jump_any P.blk _ _ _ c).mono fun e w' h => h.stp P⟩
  | 22, _, _ => exact ⟨87, by decide, rfl, (jumpZero_any P.blk _ _ c k hk).mono fun e w' h => h.stp P⟩
  | 23, _, _ => exact ⟨88, by decide, rfl, (jumpNot_any P.blk _ _ c k hk).mono fun e w' h => h.stp P⟩
  | 24, _, _ => exact ⟨89, by decide, rfl, (call_any P.blk _ _ c k hk).mono fun e w' h => h.stp P⟩
  | 25, _, _ => exact ⟨90, by decide, rfl, (back_any P.blk _ _ c k hk).mono fun e w' h => h.stp P⟩
  | 26, _, _ => exact ⟨91, by decide, rfl, (trap_any P.blk _ _ _ c).mono fun e w' h => h.stp P⟩
  | 4, _, hc => exact calc_ 4 (by omega) (by omega) rfl rfl hc
  | 5, _, hc => exact calc_ 5 (by omega) (by omega) rfl rfl hc
  | 6, _, hc => exact calc_ 6 (by omega) (by omega) rfl rfl hc
  | 7, _, hc => exact calc_ 7 (by omega) (by omega) rfl rfl hc
  | 8, _, hc => exact calc_ 8 (by omega) (by omega) rfl rfl hc
  | 9, _, hc => exact calc_ 9 (by omega) (by omega) rfl rfl hc
  | 10, _, hc => exact calc_ 10 (by omega) (by omega) rfl rfl hc
  | 11, _, hc => exact calc_ 11 (by omega) (by omega) rfl rfl hc
  | 12, _, hc => exact calc_ 12 (by omega) (by omega) rfl rfl hc
  | 13, _, hc => exact calc_ 13 (by omega) (by omega) rfl rfl hc
  | 14, _, hc => exact calc_ 14 (by omega) (by omega) rfl rfl hc
  | 15, _, hc => exact calc_ 15 (by omega) (by omega) rfl rfl hc
  | n + 27, h, _ => exact absurd h (by omega)
end

/-! ### Registers stay in their range -/
theorem upd_range {f : Nat → Int} {k : Nat} {v lo hi : Int} (h : ∀ j, lo ≤ f j ∧ f j < hi) (hv : lo ≤ v ∧ v < hi) : ∀ j, lo ≤ upd f k v j ∧ upd f k v j < hi := fun j => by
  by_cases e : j = k
  · rw [e, upd_at]; exact hv
  · rw [upd_ne _ _ _ _ e]; exact h j
theorem mod_range (x : Int) : 0 ≤ x % 4294967296 ∧ x % 4294967296 < 4294967296 := ⟨Int.emod_nonneg _ (by decide), Int.emod_lt_of_pos _ (by decide)⟩
theorem Rg.Ok.next {g : Rg} (h : g.Ok) : (nextA g).Ok := ⟨h.r0, h.r1, (mod_range _).1, (mod_range _).2⟩
theorem Rg.Ok.put {g : Rg} (h : g.Ok) (k : Nat) {v : Int} (hv : 0 ≤ v ∧ v < 4294967296) : ({ g with r := upd g.r k v } : Rg).Ok := by
  have := upd_range (k := k) (fun j => ⟨h.r0 j, h.r1 j⟩) hv
  exact ⟨fun j => (this j).1, fun j => (this j).2, h.p0, h.p1⟩
theorem Rg.Ok.res {g : Rg} (h : g.Ok) (k : Nat) {v : Int} (hv : 0 ≤ v ∧ v < 4294967296) : (resA g k v).Ok := (h.put k hv).next
theorem Rg.Ok.jump {g : Rg} (h : g.Ok) (is : Bool) (c : Int) : (jumpA g is c).Ok := by
  unfold jumpA
  split
  · exact ⟨h.r0, h.r1, (mod_range _).1, (mod_range _).2⟩
  · exact h.next
theorem bits_range (op : BinOp) (a b : Int) : 0 ≤ bits op .u32 a b ∧ bits op .u32 a b < 4294967296 := by
  have h := bits_within op .u32 a b
  have e1 : IntKind.u32.min = 0 := rfl
  have e2 : IntKind.u32.max = 4294967295 := rfl
  rw [e1, e2] at h
  omega
theorem calcV_range (op : Nat) (x y : Int) (x0 : 0 ≤ x) (x1 : x < 4294967296) : 0 ≤ calcV op x y ∧ calcV op x y < 4294967296 := by
  unfold calcV
  split
  · exact mod_range _
  · exact mod_range _
  · exact mod_range _
  · exact mod_range _
  · exact mod_range _
  · exact bits_range _ _ _
  · exact bits_range _ _ _
  · exact bits_range _ _ _
  · exact mod_range _
  · have h2 : (0 : Int) < 2 ^ (y % 32).toNat := Int.pow_pos (by decide)
    exact ⟨Int.ediv_nonneg x0 (Int.le_of_lt h2), Int.lt_of_le_of_lt (Int.ediv_le_self _ x0) x1⟩
  · unfold tru; split <;> decide
  · unfold tru; split <;> decide
theorem leV_lt (l : List UInt8) (h : l.length ≤ 4) : leV l < 4294967296 := by
  match l, h with
  | [], _ => decide
  | [a], _ => have := a.toNat_lt; simp only [leV]; omega
  | [a, b], _ => have := a.toNat_lt; have := b.toNat_lt; simp only [leV]; omega
  | [a, b, c], _ => have := a.toNat_lt; have := b.toNat_lt; have := c.toNat_lt; simp only [leV]; omega
  | [a, b, c, d], _ => have := a.toNat_lt; have := b.toNat_lt; have := c.toNat_lt; have := d.toNat_lt; simp only [leV]; omega
theorem effA_ok (i : Ins) {g : Rg} (h : g.Ok) (a : AS) : (effA i g a).1.Ok := by
  unfold effA
  split
  · exact h
  · exact h.res _ ⟨h.r0 _, h.r1 _⟩
  · exact h.res _ (mod_range _)
  · exact h.res _ (bits_range _ _ _)
  · exact h.res _ (mod_range _)
  · unfold loadG
    split
    · rename_i h0
      obtain ⟨b0, b1, b2, b3, hl⟩ := (load4 a (sumA g i.b i.c)).1 h0
      refine h.res _ ?_
      have := leV_lt (loadA a (sumA g i.b i.c) 4).2.1 (by rw [hl]; simp)
      omega
    · exact h
  · unfold storeG
    split
    · exact h.next
    · exact h
  · unfold loadByteG
    split
    · refine h.res _ ?_
      have := ((loadA a (sumA g i.b i.c) 1).2.1.getD 0 0).toNat_lt
      omega
    · exact h
  · unfold storeByteG
    split
    · exact h.next
    · exact h
  · exact h.jump true i.c
  · exact h.jump _ _
  · exact h.jump _ _
  · exact (h.put i.a (mod_range (g.pc + 4))).jump true i.c
  · exact ⟨h.r0, h.r1, h.r0 _, h.r1 _⟩
  · exact h
  · show (calcG g _ i.a i.b i.c.toNat).1.Ok
    unfold calcG
    split
    · rename_i h0
      have hr : (calcR i.op (g.r i.b) (g.r i.c.toNat)).1 = calcV i.op (g.r i.b) (g.r i.c.toNat) := by
        unfold calcR at h0 ⊢
        by_cases hz : (i.op = 7 ∨ i.op = 8) ∧ g.r i.c.toNat = 0
        · rw [if_pos hz] at h0; cases h0
        · rw [if_neg hz]
      show (resA g i.a (calcR i.op (g.r i.b) (g.r i.c.toNat)).1).Ok
      rw [hr]
      exact h.res _ (calcV_range _ _ _ (h.r0 _) (h.r1 _))
    · exact h
end Go.Proofs.YtkoomlbnfhdhcaaGreatDoor

/-
  Walks: a step.
-/
namespace Go.Proofs.YtkoomlbnfhdhcaaGreatDoor
open Go.RowKit
set_option linter.unusedVariables false
set_option linter.unusedSectionVars false
set_option linter.unusedSimpArgs false

def decL : List UInt8 → Option Ins
  | [b0, b1, b2, b3] => decI b0.toNat b1.toNat b2.toNat b3.toNat
  | _ => none
def insO : Option Ins → Value
  | none => .agg #[.int .i64 0, .int .i64 0, .int .i64 0, .int .i64 0]
  | some i => insV i.op i.a i.b i.c
structure StR where
  g : Rg
  a : AS
  i : Option Ins
  e : End
/-- An instruction. -/
def stepA (g : Rg) (a : AS) : StR :=
  if (loadA a g.pc 4).2.2 = 0 then match decL (loadA a g.pc 4).2.1 with
    | none => ⟨g, (loadA a g.pc 4).1, none, ⟨5, 0, 0⟩⟩
    | some i => ⟨(effA i g (loadA a g.pc 4).1).1, (effA i g (loadA a g.pc 4).1).2.1, some i, (effA i g (loadA a g.pc 4).1).2.2⟩
  else ⟨g, (loadA a g.pc 4).1, none, ⟨4, 0, g.pc⟩⟩
theorem info78 : (Tryz.prog.info? 165).map (·.size) = some 4 := by kernel_rfl
theorem str_bytes (w : World) (l : List UInt8) : ∃ w2 c, (convert 9 24 (.string ⟨l.toArray⟩)).run Tryz.prog w = .ok (.slice (some ⟨w.heap.size, 0, none⟩) l.length c) w2 ∧ Below w.heap.size w w2 ∧ w2.rangeAt w.heap.size 0 (bs l) ∧ w.heap.size < w2.heap.size ∧ l.length ≤ c := by
  have h := run_bytes_of_string w 9 24 5 ⟨l.toArray⟩ Tryz.underlying9 Tryz.underlying24 Tryz.underlying5
  have hz : (⟨l.toArray⟩ : ByteArray).size = l.length := by show l.toArray.size = _; simp
  rw [hz] at h
  refine ⟨_, _, h, ((Below.refl _ _).drew).alloc (Nat.le_refl _) _, fun j v hv => ?_, by simp, ?_⟩
  · have hj : j < l.length := by rw [← bs_length l]; exact (List.getElem?_eq_some_iff.1 hv).1
    have h9 := cell_of_row (w.drew.alloc (.cells (bytesRow ⟨l.toArray⟩ (grownCap w l.length 0 5)) 5 ((bytesRow ⟨l.toArray⟩ (grownCap w l.length 0 5)).size, (bytesRow ⟨l.toArray⟩ (grownCap w l.length 0 5)).size + 1))) w.heap.size (0 + j) _ 5 _ (heap_alloc_new w.drew _)
    rw [h9, ← hv]
    unfold bytesRow bs
    rw [Nat.zero_add, Array.getElem?_append_left (by simpa using hj)]
    simp
  · have := grownCap_ge w l.length 0 5
    exact this
theorem arr_at (w : World) (b c : Nat) : (Instr.arrayAt 165 (.slice (some ⟨b, 0, none⟩) 4 c)).run Tryz.prog w = .ok (.pointer (some ⟨b, 0, none⟩)) w := by kernel_rfl
theorem zero106 (w : World) : (zeroValue 159).run Tryz.prog w = .ok .nilFunc w := by kernel_rfl
theorem en47 (args : Array Value) (w : World) : (callFunc 77 args).run Tryz.prog w = .ok (.enter 77 args) w := by kernel_rfl
theorem en48 (args : Array Value) (w : World) : (callFunc 78 args).run Tryz.prog w = .ok (.enter 78 args) w := by kernel_rfl
theorem en49 (args : Array Value) (w : World) : (callFunc 79 args).run Tryz.prog w = .ok (.enter 79 args) w := by kernel_rfl
theorem en50 (args : Array Value) (w : World) : (callFunc 80 args).run Tryz.prog w = .ok (.enter 80 args) w := by kernel_rfl
theorem en51 (args : Array Value) (w : World) : (callFunc 81 args).run Tryz.prog w = .ok (.enter 81 args) w := by kernel_rfl
theorem en52 (args : Array Value) (w : World) : (callFunc 82 args).run Tryz.prog w = .ok (.enter 82 args) w := by kernel_rfl
theorem en53 (args : Array Value) (w : World) : (callFunc 83 args).run Tryz.prog w = .ok (.enter 83 args) w := by kernel_rfl
theorem en54 (args : Array Value) (w : World) : (callFunc 84 args).run Tryz.prog w = .ok (.enter 84 args) w := by kernel_rfl
theorem en55 (args : Array Value) (w : World) : (callFunc 85 args).run Tryz.prog w = .ok (.enter 85 args) w := by kernel_rfl
theorem en56 (args : Array Value) (w : World) : (callFunc 86 args).run Tryz.prog w = .ok (.enter 86 args) w := by kernel_rfl
theorem en57 (args : Array Value) (w : World) : (callFunc 87 args).run Tryz.prog w = .ok (.enter 87 args) w := by kernel_rfl
theorem en58 (args : Array Value) (w : World) : (callFunc 88 args).run Tryz.prog w = .ok (.enter 88 args) w := by kernel_rfl
theorem en59 (args : Array Value) (w : World) : (callFunc 89 args).run Tryz.prog w = .ok (.enter 89 args) w := by kernel_rfl
theorem en60 (args : Array Value) (w : World) : (callFunc 90 args).run Tryz.prog w = .ok (.enter 90 args) w := by kernel_rfl
theorem en61 (args : Array Value) (w : World) : (callFunc 91 args).run Tryz.prog w = .ok (.enter 91 args) w := by kernel_rfl
theorem en62 (args : Array Value) (w : World) : (callFunc 92 args).run Tryz.prog w = .ok (.enter 92 args) w := by kernel_rfl
theorem enter_eff (fn : Nat) (h : 77 ≤ fn ∧ fn ≤ 92) (args : Array Value) (w : World) : (callFunc fn args).run Tryz.prog w = .ok (.enter fn args) w := by
  obtain ⟨h1, h2⟩ := h
  have h3 : fn = 77 ∨ fn = 78 ∨ fn = 79 ∨ fn = 80 ∨ fn = 81 ∨ fn = 82 ∨ fn = 83 ∨ fn = 84 ∨ fn = 85 ∨ fn = 86 ∨ fn = 87 ∨ fn = 88 ∨ fn = 89 ∨ fn = 90 ∨ fn = 91 ∨ fn = 92 := by omega
  rcases h3 with rfl | rfl | rfl | rfl | rfl | rfl | rfl | rfl | rfl | rfl | rfl | rfl | rfl | rfl | rfl | rfl
  · exact en47 args w
  · exact en48 args w
  · exact en49 args w
  · exact en50 args w
  · exact en51 args w
  · exact en52 args w
  · exact en53 args w
  · exact en54 args w
  · exact en55 args w
  · exact en56 args w
  · exact en57 args w
  · exact en58 args w
  · exact en59 args w
  · exact en60 args w
  · exact en61 args w
  · exact en62 args w
theorem MapIs.mv {κ : Type} {enc : κ → Value} {Cc : κ → Prop} {B r : Nat} {Y : Nat → Prop} {w w' : World} {m : List (κ × Value)} (h : MapIs enc Cc w r m) (hm : Mv B Y w w') (hy : ¬ Y r) : MapIs enc Cc w' r m :=
  h.keep (hm.block r h.lt (.inr ⟨(fun ⟨cs, t, fr, he, _⟩ => by
    obtain ⟨_, es, clock, h1, _⟩ := h
    rw [h1] at he
    cases he), hy⟩))
section
variable {C : Source} {B : Nat} {w : World} {sps : Nat → Option Sp} {hm : Pages} {sp X ef : Nat} {g : Rg} {s : Sp}
set_option maxRecDepth 100000 in
set_option maxHeartbeats 4000000 in
theorem step_any (P : MP C B sps hm sp X ef g s w) (hef : MI w ef effL) (hxe : ¬ C.X ef) (ho : Ops w) (hB : 0 < B) :
    Calls Tryz.prog 44 #[.pointer (some ⟨X, 0, none⟩)] w fun e w' => e = .returned (.tuple #[insO (stepA g (view C hm s)).i, endV (stepA g (view C hm s)).e]) ∧ MStp C B sps hm sp X ef (stepA g (view C hm s)).g (stepA g (view C hm s)).a w w' := by
  obtain ⟨i1, i2, i3, i4, i5⟩ := eff_in P.blk #[.int .i64 0, .int .i64 0, .int .i64 0, .int .i64 0]
  have HP := Lib.hid P
  have p0 := P.gok.p0
  have p1 := P.gok.p1
  obtain ⟨R, hR⟩ : ∃ R, R = stepA g (view C hm s) := ⟨_, rfl⟩
  have HR0 := Lib.hid hR
  have HR : Hid (R = if (loadA (view C hm s) g.pc 4).2.2 = 0 then match decL (loadA (view C hm s) g.pc 4).2.1 with
    | none => ⟨g, (loadA (view C hm s) g.pc 4).1, none, ⟨5, 0, 0⟩⟩
    | some i => ⟨(effA i g (loadA (view C hm s) g.pc 4).1).1, (effA i g (loadA (view C hm s) g.pc 4).1).2.1, some i, (effA i g (loadA (view C hm s) g.pc 4).1).2.2⟩
  else ⟨g, (loadA (view C hm s) g.pc 4).1, none, ⟨4, 0, g.pc⟩⟩) := Lib.hid hR
  have HK := Lib.hid (load4 (view C hm s) g.pc)
  have hefl := hef.lt
  have hwl := ho.1
  have HEF := Lib.hid hef
  have HO := Lib.hid ho
  have HXE := Lib.hid hxe
  clear hR hef ho P hxe
  go_enter Tryz.func44, Tryz.ntmps44
  go_upto_region 1 with (fail)
  generalize ((w.alloc (.cells #[.int .i64 0, .int .i64 0, .int .i64 0, .int .i64 0] 109)).alloc (.cells #[.int .i64 0, .int .i64 0, .int .u32 0] 111)) = W0 at *
  have n1 := i3.ne_ i2 (by decide)
  have n2 := i3.ne_ i1 (by decide)
  have HI := Lib.hid i1
  have HE := Lib.hid i2
  have HX := Lib.hid i3
  have HB := Lib.hid i4
  have HW0 := Lib.hid i5
  clear i1 i2 i3 i4 i5
  have HW := Lib.hid (load_all HP.out.ok (HP.out.all.below HP.out.ok.keeps HB.out.drew) HP.out.sp_ g.pc 4 (by omega) (by omega) (by omega) (Nat.le_trans HP.out.leB HB.out.size))
  refine wp_region_mixL (fun W => Blk W X 116 (mcells g sp ef)) [3, 8, 9, 10] [10] [0, 1, 2, 3, 4, 5, 6, 7, 8, 9, 10, 11, 12, 13, 14, 15] (by kernel_rfl) (by kernel_rfl) HX.out ?_
  simp only [inOrder, opAt]
  obtain ⟨Wd, hWd⟩ : ∃ Wd, Wd = W0.drew := ⟨_, rfl⟩
  have HWD := Lib.hid hWd
  rw [← hWd] at HW ⊢
  clear hWd
  iterate 10
    (refine wpMixS_read (v := ?_) rfl rfl (fun w' hS => ?_) ?_
     rotate_left
     · ((try (have t1 : Blk w' X 116 (mcells g sp ef) := hS rfl; have u9 : w'.cell? ⟨X, 9, none⟩ = some (.pointer (some ⟨sp, 0, none⟩)) := t1.cell 9; have u8 : w'.cell? ⟨X, 8, none⟩ = some (.int .u32 g.pc) := t1.cell 8)); (try clear hS); go_simp; (try with_reducible rfl))
     try simp only [Act.put, List.setIfInBounds_toArray, List.set_cons_zero, List.set_cons_succ])
  refine wpMixS_eff rfl rfl (fun K hK => ?_)
  go_simp
  rw [show IntKind.i64.wrap g.pc = g.pc from IntWalk.i64_in _ (by omega)]
  generalize loadA (view C hm s) g.pc 4 = L at *
  obtain ⟨aL, lL, rL⟩ := L
  dsimp only at HW HK HR
  refine HW.out.mono ?_
  rintro e w1 ⟨s1, hm1, hA1, hv1, ho1, hmv1, rfl⟩
  rw [HWD.out] at hmv1
  have HA1 := Lib.hid hA1
  have HV1 := Lib.hid hv1
  have HO1 := Lib.hid ho1
  have HX1 := Lib.hid (hmv1.blk HX.out.drew (by decide) (by decide) HP.out.xX)
  have HE1 := Lib.hid (hmv1.blk HE.out.drew (by decide) (by decide) (fun hx => by have := HP.out.xw _ hx; omega))
  have HI1 := Lib.hid (hmv1.blk HI.out.drew (by decide) (by decide) (fun hx => by have := HP.out.xw _ hx; omega))
  have HMV1 : Hid (Mv B (fun k => C.X k ∨ k = X) w w1) := Lib.hid ((Mv.of_below HB.out.drew).trans hmv1.widen)
  have HBL : Hid (Below B w w1) := Lib.hid (HMV1.out.below HP.out.leB)
  clear hA1 hv1 ho1 hmv1 HW
  refine hK.out _ _ _ (fun _ h => h) (fun _ => HX1.out) ?_
  clear hK K
  try simp only [Act.put, List.setIfInBounds_toArray, List.set_cons_zero, List.set_cons_succ]
  iterate 5
    (refine wpMixS_read (v := ?_) rfl rfl (fun w' hS => ?_) ?_
     rotate_left
     · ((try clear hS); go_simp; (try with_reducible rfl))
     try simp only [Act.put, List.setIfInBounds_toArray, List.set_cons_zero, List.set_cons_succ])
  refine wpMixS_nil ?_
  have x8 : w1.cell? ⟨X, 8, none⟩ = some (.int .u32 g.pc) := HX1.out.cell 8
  have hzw : w.heap.size + 1 < w1.heap.size := HE1.out.lt
  by_cases hr : rL = 0
  · obtain ⟨b0, b1, b2, b3, hl⟩ := HK.out.1 hr
    have HR1 : R = match decL lL with
      | none => ⟨g, aL, none, ⟨5, 0, 0⟩⟩
      | some i => ⟨(effA i g aL).1, (effA i g aL).2.1, some i, (effA i g aL).2.2⟩ := HR.out.trans (if_pos hr)
    clear HR
    have HR : Hid (R = match decI b0.toNat b1.toNat b2.toNat b3.toNat with
      | none => ⟨g, aL, none, ⟨5, 0, 0⟩⟩
      | some i => ⟨(effA i g aL).1, (effA i g aL).2.1, some i, (effA i g aL).2.2⟩) := Lib.hid (by rw [HR1, hl]; rfl)
    clear HR1
    have hr2 : (((rL : Nat) : Int) != 0) = false := by simpa using hr
    subst hl
    clear HK hr
    obtain ⟨w2, cp, hcv, hb2, hrg, hz2, hcp⟩ := str_bytes w1 [b0, b1, b2, b3]
    have HB2 := Lib.hid hb2
    have HRG : Hid (w2.rangeAt w1.heap.size 0 [.int .u8 (b0.toNat : Nat), .int .u8 (b1.toNat : Nat), .int .u8 (b2.toNat : Nat), .int .u8 (b3.toNat : Nat)]) := Lib.hid hrg
    simp only [List.length_cons, List.length_nil] at hcv
    have hat := arr_at w2 w1.heap.size cp
    have HBW2 : Hid (Below B w w2) := Lib.hid (HBL.out.trans (HB2.out.mono (Nat.le_trans HP.out.leB HBL.out.size)))
    have l0 := b0.toNat_lt
    have l1 := b1.toNat_lt
    have l2 := b2.toNat_lt
    have l3 := b3.toNat_lt
    clear hb2 hrg
    go_wp2_with (refine wpList_load_mid rfl 165 (.tmp 33) rfl w1.heap.size 0 rfl [.int .u8 (b0.toNat : Nat), .int .u8 (b1.toNat : Nat), .int .u8 (b2.toNat : Nat), .int .u8 (b3.toNat : Nat)] _ HRG.out Tryz.underlying165 rfl info78 ?_)
    refine (decode_any w2 b0.toNat b1.toNat b2.toNat b3.toNat (HO.out.below HBW2.out hB) l0 l1 l2 l3).mono ?_
    rintro e w3 ⟨rfl, nb⟩
    have HB3 := Lib.hid (HB2.out.trans (nb.mono HB2.out.size))
    clear nb hcv hat
    have HX3 := Lib.hid (HX1.out.below HB3.out HX1.out.lt)
    have HE3 := Lib.hid (HE1.out.below HB3.out HE1.out.lt)
    have HI3 := Lib.hid (HI1.out.below HB3.out HI1.out.lt)
    have HA3 := Lib.hid (HA1.out.below HP.out.ok.keeps HB3.out)
    have HMV3 : Hid (Mv B (fun k => C.X k ∨ k = X) w w3) := Lib.hid (HMV1.out.trans (Mv.of_below HB3.out))
    have hz3 : w.heap.size + 1 < w3.heap.size := HE3.out.lt
    clear HX1 HE1 HI1 HA1 HB3 HB2 HRG
    cases hd : decI b0.toNat b1.toNat b2.toNat b3.toNat with
    | none =>
      have HRV : Hid (R = ⟨g, aL, none, ⟨5, 0, 0⟩⟩) := Lib.hid (by rw [HR.out, hd])
      clear HR hd
      unfold decE
      dsimp only
      go_upto_region 6 with (fail)
      obtain ⟨W6, hW6⟩ : ∃ W6, W6 = w3.alloc (.cells #[.int .i64 0, .int .i64 0, .int .i64 0, .int .i64 0] 109) := ⟨_, rfl⟩
      rw [← hW6]
      have hb6 : Below w3.heap.size w3 W6 := by rw [hW6]; exact (Below.refl _ _).alloc (Nat.le_refl _) _
      clear hW6
      have hi3 := HI3.out.below hb6 HI3.out.lt
      have HE6 := Lib.hid (HE3.out.below hb6 HE3.out.lt)
      have HX6 := Lib.hid (HX3.out.below hb6 HX3.out.lt)
      have HA6 := Lib.hid (HA3.out.below HP.out.ok.keeps hb6)
      have HMV6 : Hid (Mv B (fun k => C.X k ∨ k = X) w W6) := Lib.hid (HMV3.out.trans (Mv.of_below hb6))
      clear hb6 HE3 HX3 HA3 HMV3
      go_wp2_with (first
        | (refine wpList_store_blk rfl 109 (.tmp 2) (.tmp 40) rfl w.heap.size rfl _ rfl hi3 rfl infoIns rfl ?_; intro w4 hk4 hf4; have he4 := HE6.out.fr hf4 (by simp); have HX4 := Lib.hid (HX6.out.fr hf4 (by simpa using n2)); have HA4 := Lib.hid (HA6.out.mach HP.out.mok (.inr (.inr rfl)) hi3 hf4))
        | (refine wpList_store_blk rfl 111 (.tmp 3) (.tmp 41) rfl (w.heap.size + 1) rfl _ rfl he4 rfl infoEnd rfl ?_; intro w5 hk5 hf5)
        | go_in)
      have HA5 := HA4.out.mach HP.out.mok (.inr (.inl rfl)) he4 hf5
      refine end_cells rfl rfl rfl (hk4.fr hf5 (by simp)) hk5 Tryz.underlying109 rfl infoIns Tryz.underlying111 rfl infoEnd ?_
      rw [← HR0.out, HRV.out]
      exact ⟨rfl, s1, hm1, HA5, HV1.out, HO1.out, (HMV6.out.frN hf4 (by intro x hx; rw [List.mem_singleton.1 hx]; exact .inr (Nat.le_refl _))).frN hf5 (by intro x hx; rw [List.mem_singleton.1 hx]; exact .inr (by omega)), HX4.out.fr hf5 (by simpa using n1)⟩
    | some i =>
      have HRV : Hid (R = ⟨(effA i g aL).1, (effA i g aL).2.1, some i, (effA i g aL).2.2⟩) := Lib.hid (by rw [HR.out, hd])
      have HIO := Lib.hid (decI_okI hd)
      clear HR hd
      unfold decE insV
      dsimp only
      go_upto_region 7 with (fail)
      obtain ⟨W6, hW6⟩ : ∃ W6, W6 = w3.alloc (.cells #[.int .i64 i.op, .int .i64 i.a, .int .i64 i.b, .int .i64 i.c] 109) := ⟨_, rfl⟩
      rw [← hW6]
      have hb6 : Below w3.heap.size w3 W6 := by rw [hW6]; exact (Below.refl _ _).alloc (Nat.le_refl _) _
      have HC6 : Hid (Blk W6 w3.heap.size 109 #[.int .i64 i.op, .int .i64 i.a, .int .i64 i.b, .int .i64 i.c]) := Lib.hid (by rw [hW6]; exact Blk.new _ _ _)
      clear hW6
      have HI6 := Lib.hid (HI3.out.below hb6 HI3.out.lt)
      have HE6 := Lib.hid (HE3.out.below hb6 HE3.out.lt)
      have HX6 := Lib.hid (HX3.out.below hb6 HX3.out.lt)
      have HA6 := Lib.hid (HA3.out.below HP.out.ok.keeps hb6)
      have HMV6 : Hid (Mv B (fun k => C.X k ∨ k = X) w W6) := Lib.hid (HMV3.out.trans (Mv.of_below hb6))
      have hne : ef ≠ X := HEF.out.ne_blk HP.out.blk
      have HEF6 := Lib.hid (HEF.out.mv HMV6.out (fun h => h.elim HXE.out hne))
      have hz6 : w3.heap.size < W6.heap.size := HC6.out.lt
      clear hb6 HE3 HX3 HA3 HI3
      have nc : w3.heap.size ≠ X := fun e => by have := HP.out.blk.lt; omega
      obtain ⟨fn, hin, hfn, hcall⟩ := eff_any (g := g) (s := s1) (hm := hm1) (sps := upd sps sp (some s1)) (w := W6.drew) (ef := ef) ⟨HP.out.ok, HP.out.mok, HA6.out.below HP.out.ok.keeps (Below.refl _ _).drew, upd_at _ _ _, HX6.out.drew, HP.out.gok, HP.out.xX, HP.out.XB, Nat.le_trans HP.out.leB HMV6.out.size, fun k hk => Nat.lt_of_lt_of_le (HP.out.xw k hk) HMV6.out.size⟩ i HIO.out
      have HCALL := Lib.hid hcall
      have HFN := Lib.hid hfn
      have HOP : Hid (Pg (i.op : Int)) := Lib.hid ⟨by omega, by have := HIO.out.op; omega⟩
      clear hcall hfn
      refine wp_region_mixL (fun W => Blk W w3.heap.size 109 #[.int .i64 i.op, .int .i64 i.a, .int .i64 i.b, .int .i64 i.c] ∧ W.cell? ⟨X, 10, none⟩ = some (.map (some ef)) ∧ MI W ef effL) [0, 4, 6, 7, 9, 10, 11] [10, 11, 12] [0, 1, 2, 3, 4, 5, 6, 7, 8, 9, 10, 11, 12] (by kernel_rfl) (by kernel_rfl) ⟨HC6.out.drew, HX6.out.drew.cell 10, HEF6.out.drew⟩ ?_
      simp only [inOrder, opAt]
      iterate 10
        (refine wpMixS_read (v := ?_) rfl rfl (fun w' hS => ?_) ?_
         rotate_left
         · ((try (have t1 := hS rfl; have u10 := t1.2.1; have tk := run_lookup_map (ok := false) keyI Tryz.underlying114 zero106 t1.2.2 (i.op : Int) HOP.out; rw [HFN.out] at tk; have u0 : w'.cell? ⟨w3.heap.size, 0, none⟩ = some (.int .i64 i.op) := t1.1.cell 0; have u1 : w'.cell? ⟨w3.heap.size, 1, none⟩ = some (.int .i64 i.a) := t1.1.cell 1; have u2 : w'.cell? ⟨w3.heap.size, 2, none⟩ = some (.int .i64 i.b) := t1.1.cell 2; have u3 : w'.cell? ⟨w3.heap.size, 3, none⟩ = some (.int .i64 i.c) := t1.1.cell 3; clear t1; unfold encI at tk; simp only [Option.getD_some, Bool.false_eq_true, if_false] at tk)); (try clear hS); go_simp; (try with_reducible rfl))
         try simp only [Act.put, List.setIfInBounds_toArray, List.set_cons_zero, List.set_cons_succ])
      refine wpMixS_eff rfl rfl (fun K hK => ?_)
      unfold fnV
      have hen := enter_eff fn hin
      go_simp
      clear hen
      refine HCALL.out.mono ?_
      rintro e w8 ⟨rfl, s8, hm8, hA8, hv8, ho8, hmv8, hx8⟩
      have HA8 := Lib.hid hA8
      have HV8 := Lib.hid hv8
      have HO8 := Lib.hid ho8
      have HX8 := Lib.hid hx8
      have HC8 := Lib.hid (hmv8.blk HC6.out.drew (by decide) (by decide) (fun hx => hx.elim (fun h => by have := HP.out.xw _ h; omega) nc))
      have HI8 := Lib.hid (hmv8.blk HI6.out.drew (by decide) (by decide) (fun hx => hx.elim (fun h => by have := HP.out.xw _ h; omega) (fun h => n2 h.symm)))
      have HE8 := Lib.hid (hmv8.blk HE6.out.drew (by decide) (by decide) (fun hx => hx.elim (fun h => by have := HP.out.xw _ h; omega) (fun h => n1 h.symm)))
      have HEF8 := Lib.hid (HEF6.out.drew.mv hmv8 (fun h => h.elim HXE.out hne))
      have HMV8 : Hid (Mv B (fun k => C.X k ∨ k = X) w w8) := Lib.hid (HMV6.out.drew.trans hmv8)
      clear hA8 hv8 ho8 hmv8 hx8 HCALL HA6 HX6 HC6 HI6 HE6 HEF6 HMV6
      refine hK.out _ _ _ (fun _ h => h) (fun _ => ⟨HC8.out, HX8.out.cell 10, HEF8.out⟩) ?_
      clear hK K
      try simp only [Act.put, List.setIfInBounds_toArray, List.set_cons_zero, List.set_cons_succ]
      refine wpMixS_eff rfl rfl (fun K hK => ?_)
      refine wp_store_blk 109 (.tmp 2) (.tmp 42) rfl w.heap.size rfl _ rfl HI8.out rfl infoIns rfl ?_
      intro w4 hk4 hf4
      have he4 := HE8.out.fr hf4 (by simp)
      have HX4 := Lib.hid (HX8.out.fr hf4 (by simpa using n2))
      have HA4 := Lib.hid (HA8.out.mach HP.out.mok (.inr (.inr rfl)) HI8.out hf4)
      refine hK.out _ _ _ (fun _ h => h) (fun _ => ⟨HC8.out.fr hf4 (by simp; omega), HX4.out.cell 10, HEF8.out.fr hf4 (by simp; omega)⟩) ?_
      clear hK K
      try simp only [Act.put, List.setIfInBounds_toArray, List.set_cons_zero, List.set_cons_succ]
      refine wpMixS_eff rfl rfl (fun K hK => ?_)
      refine wp_store_blk 111 (.tmp 3) (.tmp 52) rfl (w.heap.size + 1) rfl _ rfl he4 rfl infoEnd rfl ?_
      intro w5 hk5 hf5
      refine hK.out _ _ _ (fun _ h => h) (fun h => by cases h) ?_
      clear hK K
      try simp only [Act.put, List.setIfInBounds_toArray, List.set_cons_zero, List.set_cons_succ]
      refine wpMixS_nil ?_
      go_wp2_with fail
      have HA5 := HA4.out.mach HP.out.mok (.inr (.inl rfl)) he4 hf5
      refine end_cells rfl rfl rfl (hk4.fr hf5 (by simp)) hk5 Tryz.underlying109 rfl infoIns Tryz.underlying111 rfl infoEnd ?_
      rw [← HR0.out, HRV.out]
      rw [HV1.out] at HV8 HX8 HX4 ⊢
      exact ⟨rfl, s8, hm8, by rw [upd_upd] at HA5; exact HA5, HV8.out, fun k x hk hs => (HO8.out k x hk (by rw [upd_ne _ _ _ _ hk]; exact hs)).trans (HO1.out k x hk hs), (HMV8.out.frN hf4 (by intro x hx; rw [List.mem_singleton.1 hx]; exact .inr (Nat.le_refl _))).frN hf5 (by intro x hx; rw [List.mem_singleton.1 hx]; exact .inr (by omega)), HX4.out.fr hf5 (by simpa using n1)⟩
  · have HRV : Hid (R = ⟨g, aL, none, ⟨4, 0, g.pc⟩⟩) := Lib.hid (HR.out.trans (if_neg hr))
    have er : ((rL : Nat) : Int) ≠ 0 := by omega
    have er2 : (((rL : Nat) : Int) != 0) = true := by simpa using hr
    clear HR hr HK
    go_wp2_with fail
    refine (fault_any _ _).mono ?_
    rintro e w3 ⟨rfl, nb⟩
    have hi3 := HI1.out.below nb HI1.out.lt
    have HE3 := Lib.hid (HE1.out.below nb HE1.out.lt)
    have HX3 := Lib.hid (HX1.out.below nb HX1.out.lt)
    have HA3 := Lib.hid (HA1.out.below HP.out.ok.keeps nb)
    have HF3 : Hid (Fr [] w1 w3) := Lib.hid (Fr.of_below nb)
    clear nb
    dsimp only
    go_wp2_with (first
      | (refine wpList_store_blk rfl 109 (.tmp 2) (.tmp 23) rfl w.heap.size rfl _ rfl hi3 rfl infoIns rfl ?_; intro w4 hk4 hf4; have he4 := HE3.out.fr hf4 (by simp); have HX4 := Lib.hid (HX3.out.fr hf4 (by simpa using n2)); have HA4 := Lib.hid (HA3.out.mach HP.out.mok (.inr (.inr rfl)) hi3 hf4))
      | (refine wpList_store_blk rfl 111 (.tmp 3) (.tmp 29) rfl (w.heap.size + 1) rfl _ rfl he4 rfl infoEnd rfl ?_; intro w5 hk5 hf5)
      | go_in)
    have HA5 := HA4.out.mach HP.out.mok (.inr (.inl rfl)) he4 hf5
    refine end_cells rfl rfl rfl (hk4.fr hf5 (by simp)) hk5 Tryz.underlying109 rfl infoIns Tryz.underlying111 rfl infoEnd ?_
    rw [← HR0.out, HRV.out]
    exact ⟨rfl, s1, hm1, HA5, HV1.out, HO1.out, ((HMV1.out.frN HF3.out (by intro x hx; cases hx)).frN hf4 (by intro x hx; rw [List.mem_singleton.1 hx]; exact .inr (Nat.le_refl _))).frN hf5 (by intro x hx; rw [List.mem_singleton.1 hx]; exact .inr (by omega)), HX4.out.fr hf5 (by simpa using n1)⟩
end
end Go.Proofs.YtkoomlbnfhdhcaaGreatDoor
