/-
  Walks: check, a run, one step.
-/
import Derived.Test.YtkoomlbnfhdhcaaGreatDoorMCd
namespace Go.Proofs.YtkoomlbnfhdhcaaGreatDoor
open Go.RowKit
set_option linter.unusedVariables false
set_option linter.unusedSectionVars false
set_option linter.unusedSimpArgs false

structure RunR where
  g : Rg
  a : AS
  e : End
  n : Nat
/-- At most f instructions behind n. -/
def loopA : Nat → Nat → Rg → AS → RunR
  | 0, n, g, a => ⟨g, a, ⟨1, 0, 0⟩, n⟩
  | f + 1, n, g, a => if (stepA g a).e.why = 0 then loopA f (n + 1) (stepA g a).g (stepA g a).a else ⟨(stepA g a).g, (stepA g a).a, (stepA g a).e, n⟩
def runA (m : Nat) (g : Rg) (a : AS) : RunR := loopA m 0 g a
def resL (g : Rg) (e : End) (n : Nat) : List Value := g.vals ++ [.int .i64 e.why, .int .i64 e.num, .int .u32 e.adr, .int .i64 n]
def resV (r : RunR) : Value := .agg (resL r.g r.e r.n).toArray
def zRes : Value := .agg #[.int .u32 0, .int .u32 0, .int .u32 0, .int .u32 0, .int .u32 0, .int .u32 0, .int .u32 0, .int .u32 0, .int .u32 0, .int .i64 0, .int .i64 0, .int .u32 0, .int .i64 0]
theorem loopA_s (f n : Nat) (g : Rg) (a : AS) : loopA (f + 1) n g a = if (stepA g a).e.why = 0 then loopA f (n + 1) (stepA g a).g (stepA g a).a else ⟨(stepA g a).g, (stepA g a).a, (stepA g a).e, n⟩ := rfl
theorem info47 : (Tryz.prog.info? 57).map (·.size) = some 13 := by kernel_rfl
theorem stepA_ok {g : Rg} (h : g.Ok) (a : AS) : (stepA g a).g.Ok := by
  unfold stepA
  split
  · split
    · exact h
    · exact effA_ok _ h _
  · exact h

theorem insO_agg (o : Option Ins) : ∃ a b c d : Int, insO o = .agg #[.int .i64 a, .int .i64 b, .int .i64 c, .int .i64 d] := by
  cases o with
  | none => exact ⟨_, _, _, _, rfl⟩
  | some i => exact ⟨_, _, _, _, rfl⟩
theorem check_nil (w : World) (m : Int) : Calls Tryz.prog 42 #[.pointer none, .int .i64 m] w fun e w' => e = .returned (.int .i64 1) ∧ w = w' := by
  go_enter Tryz.func42, Tryz.ntmps42
  go_wp2_with fail
  go_ret
  exact ⟨rfl, rfl⟩
theorem check_bad (w : World) (sp : Nat) (m : Int) (h : m < 0 ∨ 100000 < m) : Calls Tryz.prog 42 #[.pointer (some ⟨sp, 0, none⟩), .int .i64 m] w fun e w' => e = .returned (.int .i64 2) ∧ w = w' := by
  by_cases h0 : m < 0
  · have e0 : decide (m < 0) = true := decide_eq_true h0
    clear h
    go_enter Tryz.func42, Tryz.ntmps42
    go_wp2_with fail
    go_ret
    exact ⟨rfl, rfl⟩
  · have e0 : decide (m < 0) = false := decide_eq_false h0
    have h1 : 100000 < m := by omega
    have e1 : decide (100000 < m) = true := decide_eq_true h1
    clear h
    go_enter Tryz.func42, Tryz.ntmps42
    go_wp2_with fail
    go_ret
    exact ⟨rfl, rfl⟩
theorem check_ok (w : World) (sp : Nat) (m : Nat) (h : m ≤ 100000) : Calls Tryz.prog 42 #[.pointer (some ⟨sp, 0, none⟩), .int .i64 m] w fun e w' => e = .returned (.int .i64 0) ∧ w = w' := by
  have e0 : decide ((m : Int) < 0) = false := decide_eq_false (by omega)
  have e1 : decide (100000 < (m : Int)) = false := decide_eq_false (by omega)
  go_enter Tryz.func42, Tryz.ntmps42
  go_wp2_with fail
  go_ret
  exact ⟨rfl, rfl⟩

section
variable {C : Source} {B : Nat} {w : World} {sps : Nat → Option Sp} {hm : Pages} {sp X ef : Nat} {g : Rg} {s : Sp}
/-- What stands for a source stays where a block of this type is written. -/
def TyOk (C : Source) (t : Nat) : Prop := ∀ a w w' b cs, C.E a w → Blk w b t cs → Fr [b] w w' → C.E a w'
theorem All.ty {w' : World} (h : All C B w sps hm) {t : Nat} (hp : TyOk C t) (h1 : t ≠ 98) (h2 : t ≠ 125) {b : Nat} {cs : Array Value} (hb : Blk w b t cs) (hf : Fr [b] w w') : All C B w' sps hm :=
  ⟨⟨fun k x hx => ⟨(h.blk k x hx).1.fr hf (by have := (h.blk k x hx).1.ne_ hb (fun e => h1 e.symm); simpa using this), (h.blk k x hx).2⟩,
    fun q b sh hq => ⟨(h.mem q b sh hq).1, (h.mem q b sh hq).2.1.fr hf (by have := (h.mem q b sh hq).2.1.ne_ hb (fun e => h2 e.symm); simpa using this), (h.mem q b sh hq).2.2⟩, h.ref, h.own⟩,
    fun x hx => (h.env x hx).imp id fun e => ⟨e.1, hp _ _ _ _ _ e.2 hb hf⟩, h.nosrc, h.inv⟩
/-- What stands in a run. -/
structure RnS (C : Source) (B : Nat) (w0 w : World) (sps : Nat → Option Sp) (hm : Pages) (sp X ef : Nat) (g : Rg) (s : Sp) (hm' : Pages) (o : Nat) : Prop where
  all : All C B w (upd sps sp (some s)) hm'
  oth : ∀ k x, k ≠ sp → sps k = some x → view C hm' x = view C hm x
  mv : Mv B C.X w0 w
  blk : Blk w X 116 (mcells g sp ef)
  mi : MI w ef effL
  gok : g.Ok
  out : Blk w o 57 (resL ⟨fun _ => 0, 0⟩ ⟨0, 0, 0⟩ 0).toArray
theorem RnS.below {w0 w w' : World} {s' : Sp} {hm' : Pages} {o : Nat} (h : RnS C B w0 w sps hm sp X ef g s' hm' o) (ok : SourceOk C B) (hb : Below w.heap.size w w') : RnS C B w0 w' sps hm sp X ef g s' hm' o :=
  ⟨h.all.below ok.keeps hb, h.oth, h.mv.trans (Mv.of_below hb), h.blk.below hb h.blk.lt, h.mi.keep (hb.block _ h.mi.lt), h.gok, h.out.below hb h.out.lt⟩
theorem build47 (g : Rg) (e : End) (n : Nat) (W : World) : (Instr.build 57 #[(0, .agg g.vals.toArray), (1, .int .i64 e.why), (2, .int .i64 e.num), (3, .int .u32 e.adr), (4, .int .i64 n)]).run Tryz.prog W = .ok (.agg (resL g e n).toArray) W := by kernel_rfl
theorem build47b (g : Rg) (n : Nat) (W : World) : (Instr.build 57 #[(0, .agg g.vals.toArray), (1, .int .i64 1), (4, .int .i64 n)]).run Tryz.prog W = .ok (.agg (resL g ⟨1, 0, 0⟩ n).toArray) W := by kernel_rfl
theorem Mv.dropX {w0 w1 w2 : World} (h : Mv B C.X w0 w1) (k : Mv B (fun k => C.X k ∨ k = X) w1 w2) (hx : w0.heap.size ≤ X) : Mv B C.X w0 w2 :=
  ⟨k.os.trans h.os, k.tape.trans h.tape, k.output.trans h.output, Nat.le_trans h.size k.size, fun i hi hc => by
    have h1 := h.block i hi hc
    refine (k.block i (Nat.lt_of_lt_of_le hi h.size) (hc.imp id fun hc => ⟨fun ht => hc.1 ((SpT_of_eq h1).1 ht), fun hx' => hx'.elim hc.2 (by omega)⟩)).trans h1⟩
set_option maxRecDepth 100000 in
set_option maxHeartbeats 4000000 in
theorem run_any (ok : SourceOk C B) (mok : MachOk C) (tok : TyOk C 57) (h : All C B w sps hm) (hs : sps sp = some s) (hg : g.Ok) (hB : B ≤ w.heap.size) (hX : ∀ k, C.X k → k < w.heap.size) (ho : Ops w) (h0 : 0 < B) (m : Nat) (hm1 : m ≤ 100000) :
    Calls Tryz.prog 15 #[.agg g.vals.toArray, .pointer (some ⟨sp, 0, none⟩), .int .i64 m] w fun e w' => e = .returned (.tuple #[resV (runA m g (view C hm s)), .int .i64 0]) ∧ Stp C B sps hm sp (runA m g (view C hm s)).a w w' fun _ _ => True := by
  have HH := Lib.hid h
  have HS := Lib.hid hs
  have HG := Lib.hid hg
  have HOP := Lib.hid ho
  have HMO := Lib.hid mok
  have HOK := Lib.hid ok
  have hwl := ho.1
  have HTO := Lib.hid tok
  clear h hs hg ho mok ok tok
  obtain ⟨R, hR⟩ : ∃ R, R = runA m g (view C hm s) := ⟨_, rfl⟩
  have HR0 := Lib.hid hR
  have HR : Hid (loopA m 0 g (view C hm s) = R) := Lib.hid hR.symm
  clear hR
  unfold Rg.vals
  go_enter Tryz.func15, Tryz.ntmps15
  go_upto_region 1 with (fail)
  obtain ⟨V0, hV0⟩ : ∃ V0, V0 = w.alloc (.cells #[.int .u32 (g.r 0), .int .u32 (g.r 1), .int .u32 (g.r 2), .int .u32 (g.r 3), .int .u32 (g.r 4), .int .u32 (g.r 5), .int .u32 (g.r 6), .int .u32 (g.r 7), .int .u32 g.pc] 51) := ⟨_, rfl⟩
  have hb0 : Blk V0 w.heap.size 51 #[.int .u32 (g.r 0), .int .u32 (g.r 1), .int .u32 (g.r 2), .int .u32 (g.r 3), .int .u32 (g.r 4), .int .u32 (g.r 5), .int .u32 (g.r 6), .int .u32 (g.r 7), .int .u32 g.pc] := by rw [hV0]; exact Blk.new _ _ _
  have hv0 : Below w.heap.size w V0 := by rw [hV0]; exact (Below.refl _ _).alloc (Nat.le_refl _) _
  have hz0 : V0.heap.size = w.heap.size + 1 := by rw [hV0]; simp
  rw [← hV0]
  obtain ⟨W0, hW0⟩ : ∃ W0, W0 = V0.alloc (.cells #[.int .u32 0, .int .u32 0, .int .u32 0, .int .u32 0, .int .u32 0, .int .u32 0, .int .u32 0, .int .u32 0, .int .u32 0, .int .i64 0, .int .i64 0, .int .u32 0, .int .i64 0] 57) := ⟨_, rfl⟩
  have hb1 : Blk W0 V0.heap.size 57 #[.int .u32 0, .int .u32 0, .int .u32 0, .int .u32 0, .int .u32 0, .int .u32 0, .int .u32 0, .int .u32 0, .int .u32 0, .int .i64 0, .int .i64 0, .int .u32 0, .int .i64 0] := by rw [hW0]; exact Blk.new _ _ _
  have hv1 : Below V0.heap.size V0 W0 := by rw [hW0]; exact (Below.refl _ _).alloc (Nat.le_refl _) _
  rw [← hW0]
  have HR1 := Lib.hid (hb0.below hv1 hb0.lt)
  rw [hz0] at hb1
  have HO1 := Lib.hid hb1
  have HB1 : Hid (Below w.heap.size w W0) := Lib.hid (hv0.trans (hv1.mono (by omega)))
  have hz1 : w.heap.size + 1 < W0.heap.size := hb1.lt
  clear hb0 hv0 hb1 hv1 hV0 hW0 hz0
  have d0 : W0.cell? ⟨w.heap.size, 0, none⟩ = some (.int .u32 (g.r 0)) := HR1.out.cell 0
  have d1 : W0.cell? ⟨w.heap.size, 1, none⟩ = some (.int .u32 (g.r 1)) := HR1.out.cell 1
  have d2 : W0.cell? ⟨w.heap.size, 2, none⟩ = some (.int .u32 (g.r 2)) := HR1.out.cell 2
  have d3 : W0.cell? ⟨w.heap.size, 3, none⟩ = some (.int .u32 (g.r 3)) := HR1.out.cell 3
  have d4 : W0.cell? ⟨w.heap.size, 4, none⟩ = some (.int .u32 (g.r 4)) := HR1.out.cell 4
  have d5 : W0.cell? ⟨w.heap.size, 5, none⟩ = some (.int .u32 (g.r 5)) := HR1.out.cell 5
  have d6 : W0.cell? ⟨w.heap.size, 6, none⟩ = some (.int .u32 (g.r 6)) := HR1.out.cell 6
  have d7 : W0.cell? ⟨w.heap.size, 7, none⟩ = some (.int .u32 (g.r 7)) := HR1.out.cell 7
  have d8 : W0.cell? ⟨w.heap.size, 8, none⟩ = some (.int .u32 g.pc) := HR1.out.cell 8
  go_wp2_with fail
  refine (check_ok _ sp m hm1).mono ?_
  rintro e w' ⟨rfl, rfl⟩
  dsimp only
  go_wp2_with fail
  refine (newMachine_any _ g sp).mono ?_
  rintro e w1 ⟨X, rfl, hXl, hXb, hmi, hbl⟩
  have HX1 := Lib.hid hXb
  have HM1 := Lib.hid hmi
  have HBl := Lib.hid hbl
  clear hXb hmi hbl
  obtain ⟨ef, hef⟩ : ∃ ef, ef = W0.heap.size + 1 := ⟨_, rfl⟩
  rw [← hef] at HX1 HM1
  have hefl : W0.heap.size < ef := by omega
  clear hef
  have hnX : ∀ k, C.X k → k < W0.heap.size := fun k hk => by have := hX k hk; omega
  have HN : Hid (RnS C B w w1 sps hm sp X ef g s hm (w.heap.size + 1)) := Lib.hid
    ⟨by rw [upd_same _ _ _ HS.out]; exact (HH.out.below HOK.out.keeps HB1.out).below HOK.out.keeps HBl.out, fun _ _ _ _ => rfl, (Mv.of_below HB1.out).trans (Mv.of_below HBl.out), HX1.out, HM1.out, HG.out, HO1.out.below HBl.out HO1.out.lt⟩
  clear HR1 HO1 HB1 HX1 HM1 HBl HH d0 d1 d2 d3 d4 d5 d6 d7 d8
  dsimp only
  go_wp2_with fail
  go_loopg [24] (m) (fun q iv wr => ∃ (n : Nat) (g' : Rg) (s' : Sp) (hm' : Pages), q = m - n ∧ n ≤ m ∧ iv = .int .i64 n ∧ loopA (m - n) n g' (view C hm' s') = R ∧ RnS C B w wr sps hm sp X ef g' s' hm' (w.heap.size + 1))
  case atStart => exact ⟨0, g, s, hm, rfl, Nat.zero_le _, rfl, HR.out, HN.out⟩
  case round =>
    clear HN HR
    obtain ⟨n, g', s', hm', rfl, hn, rfl, hL, hN⟩ := hrel
    have HL := Lib.hid hL
    have HN := Lib.hid hN
    clear hL hN
    have hzr : w.heap.size + 1 < wr.heap.size := HN.out.out.lt
    by_cases hlt : n < m
    · have i1 : (n : Int) < m := by omega
      have HP : Hid (MP C B (upd sps sp (some s')) hm' sp X ef g' s' wr) := Lib.hid ⟨HOK.out, HMO.out, HN.out.all, upd_at _ _ _, HN.out.blk, HN.out.gok, fun h => by have := hX _ h; omega, by omega, Nat.le_trans hB HN.out.mv.size, fun k hk => by have := hX k hk; omega⟩
      have HOP2 : Hid (Ops wr) := Lib.hid (HOP.out.below (HN.out.mv.below hB) h0)
      go_wp2_with fail
      refine (step_any HP.out HN.out.mi (fun h => by have := hnX _ h; omega) HOP2.out h0).mono ?_
      rintro e w2 ⟨rfl, hst⟩
      have HST := Lib.hid hst
      obtain ⟨V, hV⟩ : ∃ V, V = stepA g' (view C hm' s') := ⟨_, rfl⟩
      have HG2 : Hid V.g.Ok := Lib.hid (by rw [hV]; exact stepA_ok HN.out.gok _)
      have HL2 : Hid ((if V.e.why = 0 then loopA (m - (n + 1)) (n + 1) V.g V.a else ⟨V.g, V.a, V.e, n⟩) = R) := Lib.hid (by rw [hV, ← HL.out]; rw [show m - n = (m - (n + 1)) + 1 by omega, loopA_s])
      rw [← hV] at HST ⊢
      clear hV hst HL
      obtain ⟨gv, av, iv, ev⟩ := V
      dsimp only at HST HG2 HL2 ⊢
      obtain ⟨a1, a2, a3, a4, hia⟩ := insO_agg iv
      rw [hia]
      obtain ⟨why, num, adr⟩ := ev
      dsimp only at HL2
      unfold endV
      dsimp only
      obtain ⟨s2, hm2, hA2, hv2, ho2, hmv2, hx2⟩ := HST.out
      have HN2 : Hid (RnS C B w w2 sps hm sp X ef gv s2 hm2 (w.heap.size + 1)) := Lib.hid
        ⟨by rw [upd_upd] at hA2; exact hA2, fun k x hk hs => (ho2 k x hk (by rw [upd_ne _ _ _ _ hk]; exact hs)).trans (HN.out.oth k x hk hs), HN.out.mv.dropX hmv2 (by omega), hx2, HN.out.mi.mv hmv2 (fun h => h.elim (fun h => by have := hnX _ h; omega) (HN.out.mi.ne_blk HN.out.blk)), HG2.out, hmv2.blk HN.out.out (by decide) (by decide) (fun h => h.elim (fun h => by have := hX _ h; omega) (by omega))⟩
      have HV2 := Lib.hid hv2
      clear hA2 hv2 ho2 hmv2 hx2 HST HP HN HOP2 HG2
      by_cases hw : why = 0
      · subst hw
        have HL3 : Hid (loopA (m - (n + 1)) (n + 1) gv av = R) := Lib.hid (by rw [← HL2.out, if_pos rfl])
        clear HL2
        go_wp2_with fail
        go_roundg (m - (n + 1))
        case measure => omega
        case rel =>
          have hal : Below w2.heap.size w2 ((w2.alloc (.cells #[.int .i64 a1, .int .i64 a2, .int .i64 a3, .int .i64 a4] 109)).alloc (.cells #[.int .i64 0, .int .i64 num, .int .u32 adr] 111)) := ((Below.refl _ _).alloc (Nat.le_refl _) _).alloc (by simp) _
          exact ⟨n + 1, gv, s2, hm2, rfl, by omega, by go_num, by rw [HV2.out]; exact HL3.out, HN2.out.below HOK.out hal⟩
      · have HL3 : Hid (⟨gv, av, ⟨why, num, adr⟩, n⟩ = R) := Lib.hid (by rw [← HL2.out, if_neg hw])
        have ew : (why != 0) = true := by simpa using hw
        clear HL2 hw
        go_upto_region 10 with (fail)
        obtain ⟨V3, hV3⟩ : ∃ V3, V3 = w2.alloc (.cells #[.int .i64 a1, .int .i64 a2, .int .i64 a3, .int .i64 a4] 109) := ⟨_, rfl⟩
        have hb3 : Below w2.heap.size w2 V3 := by rw [hV3]; exact (Below.refl _ _).alloc (Nat.le_refl _) _
        have hz3 : V3.heap.size = w2.heap.size + 1 := by rw [hV3]; simp
        rw [← hV3]
        obtain ⟨W3, hW3⟩ : ∃ W3, W3 = V3.alloc (.cells #[.int .i64 why, .int .i64 num, .int .u32 adr] 111) := ⟨_, rfl⟩
        have hb4 : Below V3.heap.size V3 W3 := by rw [hW3]; exact (Below.refl _ _).alloc (Nat.le_refl _) _
        have he3 : Blk W3 V3.heap.size 111 #[.int .i64 why, .int .i64 num, .int .u32 adr] := by rw [hW3]; exact Blk.new _ _ _
        rw [← hW3]
        rw [hz3] at he3
        have HE3 := Lib.hid he3
        have HN3 := Lib.hid ((HN2.out.below HOK.out hb3).below HOK.out hb4)
        clear hV3 hb3 hz3 hW3 hb4 he3 HN2
        have hX3 := HN3.out.blk
        unfold mcells mL Rg.vals at hX3
        refine wp_region_mixL (fun W => Blk W X 116 (mcells gv sp ef) ∧ Blk W (w2.heap.size + 1) 111 #[.int .i64 why, .int .i64 num, .int .u32 adr]) [3, 5, 7, 9] [12] [0, 1, 2, 3, 4, 5, 6, 7, 8, 9, 10, 11, 12, 13] (by kernel_rfl) (by kernel_rfl) ⟨HN3.out.blk.drew, HE3.out.drew⟩ ?_
        simp only [inOrder, opAt]
        clear hX3
        have hbd := build47 gv ⟨why, num, adr⟩ n
        unfold Rg.vals at hbd
        dsimp only at hbd
        iterate 12
          (refine wpMixS_read (v := ?_) rfl rfl (fun w' hS => ?_) ?_
           rotate_left
           · ((try (have t1 := hS rfl; have u0 : w'.cell? ⟨X, 0, none⟩ = some (.int .u32 (gv.r 0)) := t1.1.cell 0; have u1 : w'.cell? ⟨X, 1, none⟩ = some (.int .u32 (gv.r 1)) := t1.1.cell 1; have u2 : w'.cell? ⟨X, 2, none⟩ = some (.int .u32 (gv.r 2)) := t1.1.cell 2; have u3 : w'.cell? ⟨X, 3, none⟩ = some (.int .u32 (gv.r 3)) := t1.1.cell 3; have u4 : w'.cell? ⟨X, 4, none⟩ = some (.int .u32 (gv.r 4)) := t1.1.cell 4; have u5 : w'.cell? ⟨X, 5, none⟩ = some (.int .u32 (gv.r 5)) := t1.1.cell 5; have u6 : w'.cell? ⟨X, 6, none⟩ = some (.int .u32 (gv.r 6)) := t1.1.cell 6; have u7 : w'.cell? ⟨X, 7, none⟩ = some (.int .u32 (gv.r 7)) := t1.1.cell 7; have u8 : w'.cell? ⟨X, 8, none⟩ = some (.int .u32 gv.pc) := t1.1.cell 8; have v0 : w'.cell? ⟨w2.heap.size + 1, 0, none⟩ = some (.int .i64 why) := t1.2.cell 0; have v1 : w'.cell? ⟨w2.heap.size + 1, 1, none⟩ = some (.int .i64 num) := t1.2.cell 1; have v2 : w'.cell? ⟨w2.heap.size + 1, 2, none⟩ = some (.int .u32 adr) := t1.2.cell 2; clear t1)); (try clear hS); go_simp; (try with_reducible rfl))
           try simp only [Act.put, List.setIfInBounds_toArray, List.set_cons_zero, List.set_cons_succ])
        refine wpMixS_eff rfl rfl (fun K hK => ?_)
        refine wp_store_blk 57 (.tmp 6) (.tmp 46) rfl (w.heap.size + 1) rfl (resL gv ⟨why, num, adr⟩ n).toArray rfl HN3.out.out.drew rfl info47 rfl ?_
        intro w5 hk5 hf5
        have hnx : X ≠ w.heap.size + 1 := by omega
        refine hK.out _ _ _ (fun _ h => h) (fun h => by cases h) ?_
        clear hK K
        try simp only [Act.put, List.setIfInBounds_toArray, List.set_cons_zero, List.set_cons_succ]
        (refine wpMixS_read (v := ?_) rfl rfl (fun w' hS => ?_) ?_
         rotate_left
         · ((try clear hS); go_simp; (try with_reducible rfl))
         try simp only [Act.put, List.setIfInBounds_toArray, List.set_cons_zero, List.set_cons_succ])
        refine wpMixS_nil ?_
        go_wp2_with fail
        refine end_cell_tmp rfl rfl hk5 Tryz.underlying57 rfl info47 ?_
        rw [← HR0.out, ← HL3.out]
        exact ⟨rfl, s2, hm2, (HN3.out.below HOK.out (Below.refl _ _).drew).all.ty HTO.out (by decide) (by decide) (HN3.out.below HOK.out (Below.refl _ _).drew).out hf5, HV2.out, HN3.out.oth, HN3.out.mv.drew.frN hf5 (by intro x hx; rw [List.mem_singleton.1 hx]; exact .inr (Nat.le_succ _)), trivial⟩
    · obtain rfl : n = m := by omega
      have i1 : decide ((n : Int) < n) = false := decide_eq_false (by omega)
      have HR : Hid (R = ⟨g', view C hm' s', ⟨1, 0, 0⟩, n⟩) := Lib.hid (by rw [← HL.out, Nat.sub_self]; rfl)
      clear HL
      have hX3 := HN.out.blk
      have u0 : wr.cell? ⟨X, 0, none⟩ = some (.int .u32 (g'.r 0)) := hX3.cell 0
      have u1 : wr.cell? ⟨X, 1, none⟩ = some (.int .u32 (g'.r 1)) := hX3.cell 1
      have u2 : wr.cell? ⟨X, 2, none⟩ = some (.int .u32 (g'.r 2)) := hX3.cell 2
      have u3 : wr.cell? ⟨X, 3, none⟩ = some (.int .u32 (g'.r 3)) := hX3.cell 3
      have u4 : wr.cell? ⟨X, 4, none⟩ = some (.int .u32 (g'.r 4)) := hX3.cell 4
      have u5 : wr.cell? ⟨X, 5, none⟩ = some (.int .u32 (g'.r 5)) := hX3.cell 5
      have u6 : wr.cell? ⟨X, 6, none⟩ = some (.int .u32 (g'.r 6)) := hX3.cell 6
      have u7 : wr.cell? ⟨X, 7, none⟩ = some (.int .u32 (g'.r 7)) := hX3.cell 7
      have u8 : wr.cell? ⟨X, 8, none⟩ = some (.int .u32 g'.pc) := hX3.cell 8
      have hbd := build47b g' n
      unfold Rg.vals at hbd
      have hO3 := HN.out.out
      go_wp2_with (first
        | (refine wpList_store_blk rfl 57 (.tmp 6) (.tmp 53) rfl (w.heap.size + 1) rfl (resL g' ⟨1, 0, 0⟩ n).toArray rfl hO3 rfl info47 rfl ?_; intro w5 hk5 hf5)
        | go_in)
      refine end_cell_tmp rfl rfl hk5 Tryz.underlying57 rfl info47 ?_
      rw [← HR0.out, HR.out]
      exact ⟨rfl, s', hm', HN.out.all.ty HTO.out (by decide) (by decide) hO3 hf5, rfl, HN.out.oth, HN.out.mv.frN hf5 (by intro x hx; rw [List.mem_singleton.1 hx]; exact .inr (Nat.le_succ _)), trivial⟩
theorem belowFr {B b : Nat} {w w' w'' : World} (h : Below B w w') (hf : Fr [b] w' w'') (hb : B ≤ b) (hB : B ≤ w.heap.size) : Below B w w'' :=
  ⟨hf.os.trans h.os, hf.tape.trans h.tape, hf.output.trans h.output, Nat.le_trans h.size hf.size, fun k hk => (hf.block k (by have := h.size; omega) (by simp; omega)).trans (h.block k hk)⟩
theorem two_blk (w : World) (c1 c2 : Array Value) (t1 t2 : Nat) : Blk ((w.alloc (.cells c1 t1)).alloc (.cells c2 t2)) (w.heap.size + 1) t2 c2 ∧ Below w.heap.size w ((w.alloc (.cells c1 t1)).alloc (.cells c2 t2)) := by
  have h := Blk.new (w.alloc (.cells c1 t1)) t2 c2
  rw [show (w.alloc (.cells c1 t1)).heap.size = w.heap.size + 1 by simp] at h
  exact ⟨h, ((Below.refl _ _).alloc (Nat.le_refl _) _).alloc (by simp) _⟩
set_option maxRecDepth 100000 in
set_option maxHeartbeats 8000000 in
theorem run_nil (w : World) (g : Rg) (m : Int) : Calls Tryz.prog 15 #[.agg g.vals.toArray, .pointer none, .int .i64 m] w fun e w' => e = .returned (.tuple #[zRes, .int .i64 1]) ∧ Below w.heap.size w w' := by
  unfold Rg.vals
  go_enter Tryz.func15, Tryz.ntmps15
  go_wp2_with fail
  refine (check_nil _ m).mono ?_
  rintro e w' ⟨rfl, rfl⟩
  dsimp only
  go_wp2_with fail
  exact end_cell_tmp rfl rfl (two_blk _ _ _ _ _).1 Tryz.underlying57 rfl info47 ⟨rfl, (two_blk _ _ _ _ _).2⟩
theorem run_bad (w : World) (g : Rg) (m : Int) (h : m < 0 ∨ 100000 < m) : Calls Tryz.prog 15 #[.agg g.vals.toArray, .pointer (some ⟨sp, 0, none⟩), .int .i64 m] w fun e w' => e = .returned (.tuple #[zRes, .int .i64 2]) ∧ Below w.heap.size w w' := by
  unfold Rg.vals
  go_enter Tryz.func15, Tryz.ntmps15
  go_wp2_with fail
  refine (check_bad _ sp m h).mono ?_
  rintro e w' ⟨rfl, rfl⟩
  dsimp only
  go_wp2_with fail
  exact end_cell_tmp rfl rfl (two_blk _ _ _ _ _).1 Tryz.underlying57 rfl info47 ⟨rfl, (two_blk _ _ _ _ _).2⟩
end
end Go.Proofs.YtkoomlbnfhdhcaaGreatDoor
