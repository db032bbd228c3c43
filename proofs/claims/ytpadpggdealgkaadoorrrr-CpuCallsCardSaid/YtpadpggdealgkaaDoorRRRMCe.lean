/-
  Walks: check, a run, one step.
-/
import Derived.Test.YtpadpggdealgkaaDoorRRRMCd
namespace Go.Proofs.YtpadpggdealgkaaDoorRRR
open Go.RowKit
set_option linter.unusedVariables false
set_option linter.unusedSectionVars false
set_option linter.unusedSimpArgs false

structure RunR where
  g : Rg
  a : AS
  e : End
  n : Nat
/-- At most f instructions behind n. -/
def loopA : Nat → Nat → Rg → AS → RunR
  | 0, n, g, a => ⟨g, a, ⟨1, 0, 0⟩, n⟩
  | f + 1, n, g, a => if (stepA g a).e.why = 0 then loopA f (n + 1) (stepA g a).g (stepA g a).a else ⟨(stepA g a).g, (stepA g a).a, (stepA g a).e, n⟩
def runA (m : Nat) (g : Rg) (a : AS) : RunR := loopA m 0 g a
def resL (g : Rg) (e : End) (n : Nat) : List Value := g.vals ++ [.int .i64 e.why, .int .i64 e.num, .int .u32 e.adr, .int .i64 n]
def resV (r : RunR) : Value := .agg (resL r.g r.e r.n).toArray
def zRes : Value := .agg #[.int .u32 0, .int .u32 0, .int .u32 0, .int .u32 0, .int .u32 0, .int .u32 0, .int .u32 0, .int .u32 0, .int .u32 0, .int .i64 0, .int .i64 0, .int .u32 0, .int .i64 0]
theorem loopA_s (f n : Nat) (g : Rg) (a : AS) : loopA (f + 1) n g a = if (stepA g a).e.why = 0 then loopA f (n + 1) (stepA g a).g (stepA g a).a else ⟨(stepA g a).g, (stepA g a).a, (stepA g a).e, n⟩ := rfl
theorem info47 : (Tryd.prog.info? 47).map (·.size) = some 13 := by kernel_rfl
theorem stepA_ok {g : Rg} (h : g.Ok) (a : AS) : (stepA g a).g.Ok := by
  unfold stepA
  split
  · split
    · exact h
    · exact effA_ok _ h _
  · exact h

theorem insO_agg (o : Option Ins) : ∃ a b c d : Int, insO o = .agg #[.int .i64 a, .int .i64 b, .int .i64 c, .int .i64 d] := by
  cases o with
  | none => exact ⟨_, _, _, _, rfl⟩
  | some i => exact ⟨_, _, _, _, rfl⟩
theorem check_nil (w : World) (m : Int) : Calls Tryd.prog 36 #[.pointer none, .int .i64 m] w fun e w' => e = .returned (.int .i64 1) ∧ w = w' := by
  go_enter Tryd.func36, Tryd.ntmps36
  go_wp2_with fail
  go_ret
  exact ⟨rfl, rfl⟩
theorem check_bad (w : World) (sp : Nat) (m : Int) (h : m < 0 ∨ 100000 < m) : Calls Tryd.prog 36 #[.pointer (some ⟨sp, 0, none⟩), .int .i64 m] w fun e w' => e = .returned (.int .i64 2) ∧ w = w' := by
  by_cases h0 : m < 0
  · have e0 : decide (m < 0) = true := decide_eq_true h0
    clear h
    go_enter Tryd.func36, Tryd.ntmps36
    go_wp2_with fail
    go_ret
    exact ⟨rfl, rfl⟩
  · have e0 : decide (m < 0) = false := decide_eq_false h0
    have h1 : 100000 < m := by omega
    have e1 : decide (100000 < m) = true := decide_eq_true h1
    clear h
    go_enter Tryd.func36, Tryd.ntmps36
    go_wp2_with fail
    go_ret
    exact ⟨rfl, rfl⟩
theorem check_ok (w : World) (sp : Nat) (m : Nat) (h : m ≤ 100000) : Calls Tryd.prog 36 #[.pointer (some ⟨sp, 0, none⟩), .int .i64 m] w fun e w' => e = .returned (.int .i64 0) ∧ w = w' := by
  have e0 : decide ((m : Int) < 0) = false := decide_eq_false (by omega)
  have e1 : decide (100000 < (m : Int)) = false := decide_eq_false (by omega)
  go_enter Tryd.func36, Tryd.ntmps36
  go_wp2_with fail
  go_ret
  exact ⟨rfl, rfl⟩

section
variable {C : Source} {B : Nat} {w : World} {sps : Nat → Option Sp} {hm : Pages} {sp X ef : Nat} {g : Rg} {s : Sp}
/-- What stands for a source stays where a block of this type is written. -/
def TyOk (C : Source) (t : Nat) : Prop := ∀ a w w' b cs, C.E a w → Blk w b t cs → Fr [b] w w' → C.E a w'
theorem All.ty {w' : World} (h : All C B w sps hm) {t : Nat} (hp : TyOk C t) (h1 : t ≠ 97) (h2 : t ≠ 102) {b : Nat} {cs : Array Value} (hb : Blk w b t cs) (hf : Fr [b] w w') : All C B w' sps hm :=
  ⟨⟨fun k x hx => ⟨(h.blk k x hx).1.fr hf (by have := (h.blk k x hx).1.ne_ hb (fun e => h1 e.symm); simpa using this), (h.blk k x hx).2⟩,
    fun q b sh hq => ⟨(h.mem q b sh hq).1, (h.mem q b sh hq).2.1.fr hf (by have := (h.mem q b sh hq).2.1.ne_ hb (fun e => h2 e.symm); simpa using this), (h.mem q b sh hq).2.2⟩, h.ref, h.own⟩,
    fun x hx => (h.env x hx).imp id fun e => ⟨e.1, hp _ _ _ _ _ e.2 hb hf⟩, h.nosrc, h.inv⟩
/-- What stands in a run. -/
structure RnS (C : Source) (B : Nat) (w0 w : World) (sps : Nat → Option Sp) (hm : Pages) (sp X ef : Nat) (g : Rg) (s : Sp) (hm' : Pages) (o : Nat) : Prop where
  all : All C B w (upd sps sp (some s)) hm'
  oth : ∀ k x, k ≠ sp → sps k = some x → view C hm' x = view C hm x
  mv : Mv B C.X w0 w
  blk : Blk w X 91 (mcells g sp ef)
  mi : MI w ef effL
  gok : g.Ok
  out : Blk w o 47 (resL ⟨fun _ => 0, 0⟩ ⟨0, 0, 0⟩ 0).toArray
theorem RnS.below {w0 w w' : World} {s' : Sp} {hm' : Pages} {o : Nat} (h : RnS C B w0 w sps hm sp X ef g s' hm' o) (ok : SourceOk C B) (hb : Below w.heap.size w w') : RnS C B w0 w' sps hm sp X ef g s' hm' o :=
  ⟨h.all.below ok.keeps hb, h.oth, h.mv.trans (Mv.of_below hb), h.blk.below hb h.blk.lt, h.mi.keep (hb.block _ h.mi.lt), h.gok, h.out.below hb h.out.lt⟩
theorem build47 (g : Rg) (e : End) (n : Nat) (W : World) : (Instr.build 47 #[(0, .agg g.vals.toArray), (1, .int .i64 e.why), (2, .int .i64 e.num), (3, .int .u32 e.adr), (4, .int .i64 n)]).run Tryd.prog W = .ok (.agg (resL g e n).toArray) W := by kernel_rfl
theorem build47b (g : Rg) (n : Nat) (W : World) : (Instr.build 47 #[(0, .agg g.vals.toArray), (1, .int .i64 1), (4, .int .i64 n)]).run Tryd.prog W = .ok (.agg (resL g ⟨1, 0, 0⟩ n).toArray) W := by kernel_rfl
theorem Mv.dropX {w0 w1 w2 : World} (h : Mv B C.X w0 w1) (k : Mv B (fun k => C.X k ∨ k = X) w1 w2) (hx : w0.heap.size ≤ X) : Mv B C.X w0 w2 :=
  ⟨k.os.trans h.os, k.tape.trans h.tape, k.output.trans h.output, Nat.le_trans h.size k.size, fun i hi hc => by
    have h1 := h.block i hi hc
    refine (k.block i (Nat.lt_of_lt_of_le hi h.size) (hc.imp id fun hc => ⟨fun ht => hc.1 ((SpT_of_eq h1).1 ht), fun hx' => hx'.elim hc.2 (by omega)⟩)).trans h1⟩
set_option maxRecDepth 100000 in
set_option maxHeartbeats 4000000 in
theorem run_any (ok : SourceOk C B) (mok : MachOk C) (tok : TyOk C 47) (h : All C B w sps hm) (hs : sps sp = some s) (hg : g.Ok) (hB : B ≤ w.heap.size) (hX : ∀ k, C.X k → k < w.heap.size) (ho : Ops w) (h0 : 0 < B) (m : Nat) (hm1 : m ≤ 100000) :
    Calls Tryd.prog 15 #[.agg g.vals.toArray, .pointer (some ⟨sp, 0, none⟩), .int .i64 m] w fun e w' => e = .returned (.tuple #[resV (runA m g (view C hm s)), .int .i64 0]) ∧ Stp C B sps hm sp (runA m g (view C hm s)).a w w' fun _ _ => True := by
  have HH := Lib.hid h
  have HS := Lib.hid hs
  have HG := Lib.hid hg
  have HOP := Lib.hid ho
  have HMO := Lib.hid mok
  have HOK := Lib.hid ok
  have hwl := ho.1
  have HTO := Lib.hid tok
  clear h hs hg ho mok ok tok
  obtain ⟨R, hR⟩ : ∃ R, R = runA m g (view C hm s) := ⟨_, rfl⟩
  have HR0 := Lib.hid hR
  have HR : Hid (loopA m 0 g (view C hm s) = R) := Lib.hid hR.symm
  clear hR
  unfold Rg.vals
  go_enter Tryd.func15, Tryd.ntmps15
  go_upto_region 1 with (fail)
  obtain ⟨V0, hV0⟩ : ∃ V0, V0 = w.alloc (.cells #[.int .u32 (g.r 0), .int .u32 (g.r 1), .int .u32 (g.r 2), .int .u32 (g.r 3), .int .u32 (g.r 4), .int .u32 (g.r 5), .int .u32 (g.r 6), .int .u32 (g.r 7), .int .u32 g.pc] 44) := ⟨_, rfl⟩
  have hb0 : Blk V0 w.heap.size 44 #[.int .u32 (g.r 0), .int .u32 (g.r 1), .int .u32 (g.r 2), .int .u32 (g.r 3), .int .u32 (g.r 4), .int .u32 (g.r 5), .int .u32 (g.r 6), .int .u32 (g.r 7), .int .u32 g.pc] := by rw [hV0]; exact Blk.new _ _ _
  have hv0 : Below w.heap.size w V0 := by rw [hV0]; exact (Below.refl _ _).alloc (Nat.le_refl _) _
  have hz0 : V0.heap.size = w.heap.size + 1 := by rw [hV0]; simp
  rw [← hV0]
  obtain ⟨W0, hW0⟩ : ∃ W0, W0 = V0.alloc (.cells #[.int .u32 0, .int .u32 0, .int .u32 0, .int .u32 0, .int .u32 0, .int .u32 0, .int .u32 0, .int .u32 0, .int .u32 0, .int .i64 0, .int .i64 0, .int .u32 0, .int .i64 0] 47) := ⟨_, rfl⟩
  have hb1 : Blk W0 V0.heap.size 47 #[.int .u32 0, .int .u32 0, .int .u32 0, .int .u32 0, .int .u32 0, .int .u32 0, .int .u32 0, .int .u32 0, .int .u32 0, .int .i64 0, .int .i64 0, .int .u32 0, .int .i64 0] := by rw [hW0]; exact Blk.new _ _ _
  have hv1 : Below V0.heap.size V0 W0 := by rw [hW0]; exact (Below.refl _ _).alloc (Nat.le_refl _) _
  rw [← hW0]
  have HR1 := Lib.hid (hb0.below hv1 hb0.lt)
  rw [hz0] at hb1
  have HO1 := Lib.hid hb1
  have HB1 : Hid (Below w.heap.size w W0) := Lib.hid (hv0.trans (hv1.mono (by omega)))
  have hz1 : w.heap.size + 1 < W0.heap.size := hb1.lt
  clear hb0 hv0 hb1 hv1 hV0 hW0 hz0
  have d0 : W0.cell? ⟨w.heap.size, 0, none⟩ = some (.int .u32 (g.r 0)) := HR1.out.cell 0
  have d1 : W0.cell? ⟨w.heap.size, 1, none⟩ = some (.int .u32 (g.r 1)) := HR1.out.cell 1
  have d2 : W0.cell? ⟨w.heap.size, 2, none⟩ = some (.int .u32 (g.r 2)) := HR1.out.cell 2
  have d3 : W0.cell? ⟨w.heap.size, 3, none⟩ = some (.int .u32 (g.r 3)) := HR1.out.cell 3
  have d4 : W0.cell? ⟨w.heap.size, 4, none⟩ = some (.int .u32 (g.r 4)) := HR1.out.cell 4
  have d5 : W0.cell? ⟨w.heap.size, 5, none⟩ = some (.int .u32 (g.r 5)) := HR1.out.cell 5
  have d6 : W0.cell? ⟨w.heap.size, 6, none⟩ = some (.int .u32 (g.r 6)) := HR1.out.cell 6
  have d7 : W0.cell? ⟨w.heap.size, 7, none⟩ = some (.int .u32 (g.r 7)) := HR1.out.cell 7
  have d8 : W0.cell? ⟨w.heap.size, 8, none⟩ = some (.int .u32 g.pc) := HR1.out.cell 8
  go_wp2_with fail
  refine (check_ok _ sp m hm1).mono ?_
  rintro e w' ⟨rfl, rfl⟩
  dsimp only
  go_wp2_with fail
  refine (newMachine_any _ g sp).mono ?_
  rintro e w1 ⟨X, rfl, hXl, hXb, hmi, hbl⟩
  have HX1 := Lib.hid hXb
  have HM1 := Lib.hid hmi
  have HBl := Lib.hid hbl
  clear hXb hmi hbl
  obtain ⟨ef, hef⟩ : ∃ ef, ef = W0.heap.size + 1 := ⟨_, rfl⟩
  rw [← hef] at HX1 HM1
  have hefl : W0.heap.size < ef := by omega
  clear hef
  have hnX : ∀ k, C.X k → k < W0.heap.size := fun k hk => by have := hX k hk; omega
  have HN : Hid (RnS C B w w1 sps hm sp X ef g s hm (w.heap.size + 1)) := Lib.hid
    ⟨by rw [upd_same _ _ _ HS.out]; exact (HH.out.below HOK.out.keeps HB1.out).below HOK.out.keeps HBl.out, fun _ _ _ _ => rfl, (Mv.of_below HB1.out).trans (Mv.of_below HBl.out), HX1.out, HM1.out, HG.out, HO1.out.below HBl.out HO1.out.lt⟩
  clear HR1 HO1 HB1 HX1 HM1 HBl HH d0 d1 d2 d3 d4 d5 d6 d7 d8
  dsimp only
  go_wp2_with fail
  go_loopg [24] (m) (fun q iv wr => ∃ (n : Nat) (g' : Rg) (s' : Sp) (hm' : Pages), q = m - n ∧ n ≤ m ∧ iv = .int .i64 n ∧ loopA (m - n) n g' (view C hm' s') = R ∧ RnS C B w wr sps hm sp X ef g' s' hm' (w.heap.size + 1))
  case atStart => exact ⟨0, g, s, hm, rfl, Nat.zero_le _, rfl, HR.out, HN.out⟩
  case round =>
    clear HN HR
    obtain ⟨n, g', s', hm', rfl, hn, rfl, hL, hN⟩ := hrel
    have HL := Lib.hid hL
    have HN := Lib.hid hN
    clear hL hN
    have hzr : w.heap.size + 1 < wr.heap.size := HN.out.out.lt
    by_cases hlt : n < m
    · have i1 : (n : Int) < m := by omega
      have HP : Hid (MP C B (upd sps sp (some s')) hm' sp X ef g' s' wr) := Lib.hid ⟨HOK.out, HMO.out, HN.out.all, upd_at _ _ _, HN.out.blk, HN.out.gok, fun h => by have := hX _ h; omega, by omega, Nat.le_trans hB HN.out.mv.size, fun k hk => by have := hX k hk; omega⟩
      have HOP2 : Hid (Ops wr) := Lib.hid (HOP.out.below (HN.out.mv.below hB) h0)
      go_wp2_with fail
      refine (step_any HP.out HN.out.mi (fun h => by have := hnX _ h; omega) HOP2.out h0).mono ?_
      rintro e w2 ⟨rfl, hst⟩
      have HST := Lib.hid hst
      obtain ⟨V, hV⟩ : ∃ V, V = stepA g' (view C hm' s') := ⟨_, rfl⟩
      have HG2 : Hid V.g.Ok := Lib.hid (by rw [hV]; exact stepA_ok HN.out.gok _)
      have HL2 : Hid ((if V.e.why = 0 then loopA (m - (n + 1)) (n + 1) V.g V.a else ⟨V.g, V.a, V.e, n⟩) = R) := Lib.hid (by rw [hV, ← HL.out]; rw [show m - n = (m - (n + 1)) + 1 by omega, loopA_s])
      rw [← hV] at HST ⊢
      clear hV hst HL
      obtain ⟨gv, av, iv, ev⟩ := V
      dsimp only at HST HG2 HL2 ⊢
      obtain ⟨a1, a2, a3, a4, hia⟩ := insO_agg iv
      rw [hia]
      obtain ⟨why, num, adr⟩ := ev
      dsimp only at HL2
      unfold endV
      dsimp only
      obtain ⟨s2, hm2, hA2, hv2, ho2, hmv2, hx2⟩ := HST.out
      have HN2 : Hid (RnS C B w w2 sps hm sp X ef gv s2 hm2 (w.heap.size + 1)) := Lib.hid
        ⟨by rw [upd_upd] at hA2; exact hA2, fun k x hk hs => (ho2 k x hk (by rw [upd_ne _ _ _ _ hk]; exact hs)).trans (HN.out.oth k x hk hs), HN.out.mv.dropX hmv2 (by omega), hx2, HN.out.mi.mv hmv2 (fun h => h.elim (fun h => by have := hnX _ h; omega) (HN.out.mi.ne_blk HN.out.blk)), HG2.out, hmv2.blk HN.out.out (by decide) (by decide) (fun h => h.elim (fun h => by have := hX _ h; omega) (by omega))⟩
      have HV2 := Lib.hid hv2
      clear hA2 hv2 ho2 hmv2 hx2 HST HP HN HOP2 HG2
      by_cases hw : why = 0
      · subst hw
        have HL3 : Hid (loopA (m - (n + 1)) (n + 1) gv av = R) := Lib.hid (by rw [← HL2.out, if_pos rfl])
        clear HL2
        go_wp2_with fail
        go_roundg (m - (n + 1))
        case measure => omega
        case rel =>
          have hal : Below w2.heap.size w2 ((w2.alloc (.cells #[.int .i64 a1, .int .i64 a2, .int .i64 a3, .int .i64 a4] 84)).alloc (.cells #[.int .i64 0, .int .i64 num, .int .u32 adr] 86)) := ((Below.refl _ _).alloc (Nat.le_refl _) _).alloc (by simp) _
          exact ⟨n + 1, gv, s2, hm2, rfl, by omega, by go_num, by rw [HV2.out]; exact HL3.out, HN2.out.below HOK.out hal⟩
      · have HL3 : Hid (⟨gv, av, ⟨why, num, adr⟩, n⟩ = R) := Lib.hid (by rw [← HL2.out, if_neg hw])
        have ew : (why != 0) = true := by simpa using hw
        clear HL2 hw
        go_upto_region 10 with (fail)
        obtain ⟨V3, hV3⟩ : ∃ V3, V3 = w2.alloc (.cells #[.int .i64 a1, .int .i64 a2, .int .i64 a3, .int .i64 a4] 84) := ⟨_, rfl⟩
        have hb3 : Below w2.heap.size w2 V3 := by rw [hV3]; exact (Below.refl _ _).alloc (Nat.le_refl _) _
        have hz3 : V3.heap.size = w2.heap.size + 1 := by rw [hV3]; simp
        rw [← hV3]
        obtain ⟨W3, hW3⟩ : ∃ W3, W3 = V3.alloc (.cells #[.int .i64 why, .int .i64 num, .int .u32 adr] 86) := ⟨_, rfl⟩
        have hb4 : Below V3.heap.size V3 W3 := by rw [hW3]; exact (Below.refl _ _).alloc (Nat.le_refl _) _
        have he3 : Blk W3 V3.heap.size 86 #[.int .i64 why, .int .i64 num, .int .u32 adr] := by rw [hW3]; exact Blk.new _ _ _
        rw [← hW3]
        rw [hz3] at he3
        have HE3 := Lib.hid he3
        have HN3 := Lib.hid ((HN2.out.below HOK.out hb3).below HOK.out hb4)
        clear hV3 hb3 hz3 hW3 hb4 he3 HN2
        have hX3 := HN3.out.blk
        unfold mcells mL Rg.vals at hX3
        refine wp_region_mixL (fun W => Blk W X 91 (mcells gv sp ef) ∧ Blk W (w2.heap.size + 1) 86 #[.int .i64 why, .int .i64 num, .int .u32 adr]) [3, 5, 7, 9] [12] [0, 1, 2, 3, 4, 5, 6, 7, 8, 9, 10, 11, 12, 13] (by kernel_rfl) (by kernel_rfl) ⟨HN3.out.blk.drew, HE3.out.drew⟩ ?_
        simp only [inOrder, opAt]
        clear hX3
        have hbd := build47 gv ⟨why, num, adr⟩ n
        unfold Rg.vals at hbd
        dsimp only at hbd
        iterate 12
          (refine wpMixS_read (v := ?_) rfl rfl (fun w' hS => ?_) ?_
           rotate_left
           · ((try (have t1 := hS rfl; have u0 : w'.cell? ⟨X, 0, none⟩ = some (.int .u32 (gv.r 0)) := t1.1.cell 0; have u1 : w'.cell? ⟨X, 1, none⟩ = some (.int .u32 (gv.r 1)) := t1.1.cell 1; have u2 : w'.cell? ⟨X, 2, none⟩ = some (.int .u32 (gv.r 2)) := t1.1.cell 2; have u3 : w'.cell? ⟨X, 3, none⟩ = some (.int .u32 (gv.r 3)) := t1.1.cell 3; have u4 : w'.cell? ⟨X, 4, none⟩ = some (.int .u32 (gv.r 4)) := t1.1.cell 4; have u5 : w'.cell? ⟨X, 5, none⟩ = some (.int .u32 (gv.r 5)) := t1.1.cell 5; have u6 : w'.cell? ⟨X, 6, none⟩ = some (.int .u32 (gv.r 6)) := t1.1.cell 6; have u7 : w'.cell? ⟨X, 7, none⟩ = some (.int .u32 (gv.r 7)) := t1.1.cell 7; have u8 : w'.cell? ⟨X, 8, none⟩ = some (.int .u32 gv.pc) := t1.1.cell 8; have v0 : w'.cell? ⟨w2.heap.size + 1, 0, none⟩ = some (.int .i64 why) := t1.2.cell 0; have v1 : w'.cell? ⟨w2.heap.size + 1, 1, none⟩ = some (.int .i64 num) := t1.2.cell 1; have v2 : w'.cell? ⟨w2.heap.size + 1, 2, none⟩ = some (.int .u32 adr) := t1.2.cell 2; clear t1)); (try clear hS); go_simp; (try with_reducible rfl))
           try simp only [Act.put, List.setIfInBounds_toArray, List.set_cons_zero, List.set_cons_succ])
        refine wpMixS_eff rfl rfl (fun K hK => ?_)
        refine wp_store_blk 47 (.tmp 6) (.tmp 46) rfl (w.heap.size + 1) rfl (resL gv ⟨why, num, adr⟩ n).toArray rfl HN3.out.out.drew rfl info47 rfl ?_
        intro w5 hk5 hf5
        have hnx : X ≠ w.heap.size + 1 := by omega
        refine hK.out _ _ _ (fun _ h => h) (fun h => by cases h) ?_
        clear hK K
        try simp only [Act.put, List.setIfInBounds_toArray, List.set_cons_zero, List.set_cons_succ]
        (refine wpMixS_read (v := ?_) rfl rfl (fun w' hS => ?_) ?_
         rotate_left
         · ((try clear hS); go_simp; (try with_reducible rfl))
         try simp only [Act.put, List.setIfInBounds_toArray, List.set_cons_zero, List.set_cons_succ])
        refine wpMixS_nil ?_
        go_wp2_with fail
        refine end_cell_tmp rfl rfl hk5 Tryd.underlying47 rfl info47 ?_
        rw [← HR0.out, ← HL3.out]
        exact ⟨rfl, s2, hm2, (HN3.out.below HOK.out (Below.refl _ _).drew).all.ty HTO.out (by decide) (by decide) (HN3.out.below HOK.out (Below.refl _ _).drew).out hf5, HV2.out, HN3.out.oth, HN3.out.mv.drew.frN hf5 (by intro x hx; rw [List.mem_singleton.1 hx]; exact .inr (Nat.le_succ _)), trivial⟩
    · obtain rfl : n = m := by omega
      have i1 : decide ((n : Int) < n) = false := decide_eq_false (by omega)
      have HR : Hid (R = ⟨g', view C hm' s', ⟨1, 0, 0⟩, n⟩) := Lib.hid (by rw [← HL.out, Nat.sub_self]; rfl)
      clear HL
      have hX3 := HN.out.blk
      have u0 : wr.cell? ⟨X, 0, none⟩ = some (.int .u32 (g'.r 0)) := hX3.cell 0
      have u1 : wr.cell? ⟨X, 1, none⟩ = some (.int .u32 (g'.r 1)) := hX3.cell 1
      have u2 : wr.cell? ⟨X, 2, none⟩ = some (.int .u32 (g'.r 2)) := hX3.cell 2
      have u3 : wr.cell? ⟨X, 3, none⟩ = some (.int .u32 (g'.r 3)) := hX3.cell 3
      have u4 : wr.cell? ⟨X, 4, none⟩ = some (.int .u32 (g'.r 4)) := hX3.cell 4
      have u5 : wr.cell? ⟨X, 5, none⟩ = some (.int .u32 (g'.r 5)) := hX3.cell 5
      have u6 : wr.cell? ⟨X, 6, none⟩ = some (.int .u32 (g'.r 6)) := hX3.cell 6
      have u7 : wr.cell? ⟨X, 7, none⟩ = some (.int .u32 (g'.r 7)) := hX3.cell 7
      have u8 : wr.cell? ⟨X, 8, none⟩ = some (.int .u32 g'.pc) := hX3.cell 8
      have hbd := build47b g' n
      unfold Rg.vals at hbd
      have hO3 := HN.out.out
      go_wp2_with (first
        | (refine wpList_store_blk rfl 47 (.tmp 6) (.tmp 53) rfl (w.heap.size + 1) rfl (resL g' ⟨1, 0, 0⟩ n).toArray rfl hO3 rfl info47 rfl ?_; intro w5 hk5 hf5)
        | go_in)
      refine end_cell_tmp rfl rfl hk5 Tryd.underlying47 rfl info47 ?_
      rw [← HR0.out, HR.out]
      exact ⟨rfl, s', hm', HN.out.all.ty HTO.out (by decide) (by decide) hO3 hf5, rfl, HN.out.oth, HN.out.mv.frN hf5 (by intro x hx; rw [List.mem_singleton.1 hx]; exact .inr (Nat.le_succ _)), trivial⟩
theorem belowFr {B b : Nat} {w w' w'' : World} (h : Below B w w') (hf : Fr [b] w' w'') (hb : B ≤ b) (hB : B ≤ w.heap.size) : Below B w w'' :=
  ⟨hf.os.trans h.os, hf.tape.trans h.tape, hf.output.trans h.output, Nat.le_trans h.size hf.size, fun k hk => (hf.block k (by have := h.size; omega) (by simp; omega)).trans (h.block k hk)⟩
theorem two_blk (w : World) (c1 c2 : Array Value) (t1 t2 : Nat) : Blk ((w.alloc (.cells c1 t1)).alloc (.cells c2 t2)) (w.heap.size + 1) t2 c2 ∧ Below w.heap.size w ((w.alloc (.cells c1 t1)).alloc (.cells c2 t2)) := by
  have h := Blk.new (w.alloc (.cells c1 t1)) t2 c2
  rw [show (w.alloc (.cells c1 t1)).heap.size = w.heap.size + 1 by simp] at h
  exact ⟨h, ((Below.refl _ _).alloc (Nat.le_refl _) _).alloc (by simp) _⟩
theorem run_nil (w : World) (g : Rg) (m : Int) : Calls Tryd.prog 15 #[.agg g.vals.toArray, .pointer none, .int .i64 m] w fun e w' => e = .returned (.tuple #[zRes, .int .i64 1]) ∧ Below w.heap.size w w' := by
  unfold Rg.vals
  go_enter Tryd.func15, Tryd.ntmps15
  go_wp2_with fail
  refine (check_nil _ m).mono ?_
  rintro e w' ⟨rfl, rfl⟩
  dsimp only
  go_wp2_with fail
  exact end_cell_tmp rfl rfl (two_blk _ _ _ _ _).1 Tryd.underlying47 rfl info47 ⟨rfl, (two_blk _ _ _ _ _).2⟩
theorem run_bad (w : World) (g : Rg) (m : Int) (h : m < 0 ∨ 100000 < m) : Calls Tryd.prog 15 #[.agg g.vals.toArray, .pointer (some ⟨sp, 0, none⟩), .int .i64 m] w fun e w' => e = .returned (.tuple #[zRes, .int .i64 2]) ∧ Below w.heap.size w w' := by
  unfold Rg.vals
  go_enter Tryd.func15, Tryd.ntmps15
  go_wp2_with fail
  refine (check_bad _ sp m h).mono ?_
  rintro e w' ⟨rfl, rfl⟩
  dsimp only
  go_wp2_with fail
  exact end_cell_tmp rfl rfl (two_blk _ _ _ _ _).1 Tryd.underlying47 rfl info47 ⟨rfl, (two_blk _ _ _ _ _).2⟩
theorem stepF_nil (w : World) (g : Rg) : Calls Tryd.prog 16 #[.agg g.vals.toArray, .pointer none] w fun e w' => e = .returned (.tuple #[zRes, .int .i64 1]) ∧ Below w.heap.size w w' := by
  have hr := fun w => run_nil w g 1
  unfold Rg.vals at hr ⊢
  go_enter Tryd.func16, Tryd.ntmps16
  go_wp2_with fail
  obtain ⟨hb, hl⟩ := two_blk w #[.int .u32 (g.r 0), .int .u32 (g.r 1), .int .u32 (g.r 2), .int .u32 (g.r 3), .int .u32 (g.r 4), .int .u32 (g.r 5), .int .u32 (g.r 6), .int .u32 (g.r 7), .int .u32 g.pc] #[.int .u32 0, .int .u32 0, .int .u32 0, .int .u32 0, .int .u32 0, .int .u32 0, .int .u32 0, .int .u32 0, .int .u32 0, .int .i64 0, .int .i64 0, .int .u32 0, .int .i64 0] 44 47
  refine (hr _).mono ?_
  rintro e w' ⟨rfl, nb⟩
  have hb2 := hb.below nb hb.lt
  have hl2 : Below w.heap.size w w' := hl.trans (nb.mono hl.size)
  clear hb hl nb
  dsimp only
  unfold zRes
  go_wp2_with (first
    | (refine wpList_store_blk rfl 47 (.tmp 4) (.tmp 9) rfl (w.heap.size + 1) rfl _ rfl hb2 rfl info47 rfl ?_; intro w5 hk5 hf5)
    | go_in)
  exact end_cell_tmp rfl rfl hk5 Tryd.underlying47 rfl info47 ⟨rfl, belowFr hl2 hf5 (Nat.le_succ _) (Nat.le_refl _)⟩
end
end Go.Proofs.YtpadpggdealgkaaDoorRRR

/-
  Words for the reference's memory: 64 marks and 4096 bytes in one block.
-/
namespace Go.Proofs.YtpadpggdealgkaaDoorRRR
open Go.RowKit
set_option linter.unusedVariables false
set_option linter.unusedSectionVars false
set_option linter.unusedSimpArgs false

structure Mm where
  th : Nat → Bool
  b : Nat → UInt8
def mmT (m : Mm) (p : Nat) : Value := .bool (m.th p)
def mmB (m : Mm) (i : Nat) : Value := .int .u8 (m.b i).toNat
def mmL (m : Mm) : List Value := (List.range 64).map (mmT m) ++ (List.range 4096).map (mmB m)
theorem mmL_length (m : Mm) : (mmL m).length = 4160 := by unfold mmL; rw [List.length_append, List.length_map, List.length_map, List.length_range, List.length_range]
def mmC (m : Mm) : Array Value := (mmL m).toArray
theorem mmC_size (m : Mm) : (mmC m).size = 4160 := by show (mmL m).length = _; exact mmL_length m
def mm0 : Mm := ⟨fun _ => false, fun _ => 0⟩
theorem range_set {α : Type} (f : Nat → α) (n k : Nat) (v : α) : ((List.range n).map f).set k v = (List.range n).map (upd f k v) := by
  apply List.ext_getElem?
  intro j
  rw [List.getElem?_set]
  by_cases e : k = j
  · subst e
    by_cases hj : k < n
    · rw [if_pos rfl, if_pos (by rw [List.length_map, List.length_range]; exact hj), List.getElem?_map, List.getElem?_range hj]
      simp [upd_at]
    · rw [if_pos rfl, if_neg (by rw [List.length_map, List.length_range]; exact hj)]
      symm
      rw [List.getElem?_eq_none]
      rw [List.length_map, List.length_range]; omega
  · rw [if_neg e, List.getElem?_map, List.getElem?_map]
    cases h : (List.range n)[j]? with
    | none => rfl
    | some x =>
      have hj : j < n := by
        have := (List.getElem?_eq_some_iff.1 h).1
        simpa using this
      rw [List.getElem?_range hj] at h
      injection h with h
      subst h
      simp only [Option.map_some]
      rw [upd_ne _ _ _ _ (fun h => e h.symm)]
section
variable {m : Mm} {p i : Nat}
theorem mm_th (hp : p < 64) : (mmC m)[p]? = some (.bool (m.th p)) := by
  unfold mmC mmL
  rw [List.getElem?_toArray, List.getElem?_append_left (by simpa using hp), List.getElem?_map, List.getElem?_range hp]
  rfl
theorem mm_b (hi : i < 4096) : (mmC m)[64 + i]? = some (.int .u8 (m.b i).toNat) := by
  unfold mmC mmL
  rw [List.getElem?_toArray, List.getElem?_append_right (by simp), List.length_map, List.length_range, Nat.add_sub_cancel_left, List.getElem?_map, List.getElem?_range hi]
  rfl
theorem mm_set_th (hp : p < 64) (v : Bool) : (mmC m).setIfInBounds p (.bool v) = mmC { m with th := upd m.th p v } := by
  unfold mmC mmL
  rw [List.setIfInBounds_toArray, List.set_append_left _ _ (by simpa using hp), range_set]
  congr 3
  funext q
  by_cases e : q = p
  · subst e; rw [upd_at]; unfold mmT; dsimp only; rw [upd_at]
  · rw [upd_ne _ _ _ _ e]; unfold mmT; dsimp only; rw [upd_ne _ _ _ _ e]
theorem mm_set_b (hi : i < 4096) (v : UInt8) : (mmC m).setIfInBounds (64 + i) (.int .u8 v.toNat) = mmC { m with b := upd m.b i v } := by
  unfold mmC mmL
  rw [List.setIfInBounds_toArray, List.set_append_right _ _ (by simp), List.length_map, List.length_range, Nat.add_sub_cancel_left, range_set]
  congr 3
  funext q
  by_cases e : q = i
  · subst e; rw [upd_at]; unfold mmB; dsimp only; rw [upd_at]
  · rw [upd_ne _ _ _ _ e]; unfold mmB; dsimp only; rw [upd_ne _ _ _ _ e]
end
set_option maxRecDepth 100000 in
theorem z38 (w : World) : (zeroValue 38).run Tryd.prog w = .ok (.agg (mmC mm0)) w := by kernel_rfl
theorem info38 : (Tryd.prog.info? 38).map (·.size) = some 4160 := by kernel_rfl
abbrev MB (w : World) (b : Nat) (m : Mm) : Prop := Blk w b 38 (mmC m)
theorem MB.one (m : Mm) : (mmC m).toList.all (·.oneCell') = true := by
  rw [List.all_eq_true]
  intro v hv
  have hv : v ∈ mmL m := hv
  unfold mmL at hv
  rcases List.mem_append.1 hv with hv | hv
  · obtain ⟨_, _, rfl⟩ := List.mem_map.1 hv; rfl
  · obtain ⟨_, _, rfl⟩ := List.mem_map.1 hv; rfl
section
variable {w : World} {b p i : Nat} {m : Mm}
theorem MB.c_th (h : MB w b m) (hp : p < 64) : w.cell? ⟨b, p, none⟩ = some (.bool (m.th p)) := (h.cell _).trans (mm_th hp)
theorem MB.c_b (h : MB w b m) (hi : i < 4096) : w.cell? ⟨b, 64 + i, none⟩ = some (.int .u8 (m.b i).toNat) := (h.cell _).trans (mm_b hi)
theorem MB.s_th (h : MB w b m) (hp : p < 64) (v : Bool) : MB (w.setCell ⟨b, p, none⟩ (.bool v)) b { m with th := upd m.th p v } := by
  have := h.set_ p (.bool v)
  rw [mm_set_th hp] at this
  exact this
theorem MB.s_b (h : MB w b m) (hi : i < 4096) (v : UInt8) : MB (w.setCell ⟨b, 64 + i, none⟩ (.int .u8 v.toNat)) b { m with b := upd m.b i v } := by
  have := h.set_ (64 + i) (.int .u8 v.toNat)
  rw [mm_set_b hi] at this
  exact this
theorem load_M {ops : Array Oper} {rest : List Oper} {op : Oper} {a : Act} {Q : Exit → Act → World → Prop} (h : MB w b m) (hgd : op.guard = none) (x : Operand) (ho : op.op = .load 38 x)
    (hx : a.eval x = .pointer (some ⟨b, 0, none⟩)) (hk : wpList Tryd.prog ops Q rest (a.put op.dst (.agg (mmC m))) w) : wpList Tryd.prog ops Q (op :: rest) a w :=
  wpList_load_blk hgd 38 x ho b hx h _ Tryd.underlying38 rfl (by rw [mmC_size]; exact info38) hk
theorem store_M {m0 : Mm} {ops : Array Oper} {rest : List Oper} {op : Oper} {a : Act} {Q : Exit → Act → World → Prop} (h : MB w b m0) (hgd : op.guard = none) (x y : Operand) (ho : op.op = .store 38 x y)
    (hx : a.eval x = .pointer (some ⟨b, 0, none⟩)) (hy : a.eval y = .agg (mmC m)) (hk : ∀ w', MB w' b m → Fr [b] w w' → wpList Tryd.prog ops Q rest (a.put op.dst undef) w') : wpList Tryd.prog ops Q (op :: rest) a w :=
  wpList_store_blk hgd 38 x y ho b hx _ hy h (by rw [mmC_size, mmC_size]) (by rw [mmC_size]; exact info38) (MB.one m) hk
end
end Go.Proofs.YtpadpggdealgkaaDoorRRR

/-
  Walks: the reference's Encode, and registers of the law.
-/
namespace Go.Proofs.YtpadpggdealgkaaDoorRRR
open Go.RowKit
set_option linter.unusedVariables false
set_option linter.unusedSectionVars false
set_option linter.unusedSimpArgs false

/-- The number of an instruction as two bytes. -/
def uC (c : Int) : Int := if c < 0 then c + 65536 else c
def encL (op a b c : Int) : List UInt8 := if checkI op a b c = 0 then [UInt8.ofNat op.toNat, UInt8.ofNat (16 * a + b).toNat, UInt8.ofNat (uC c % 256).toNat, UInt8.ofNat (uC c / 256).toNat] else [0, 0, 0, 0]
def encE (op a b c : Int) : Nat := checkI op a b c
/-- What a checked instruction's parts may be. -/
theorem checkI_c {op a b c : Int} (h : checkI op a b c = 0) : 0 ≤ uC c ∧ uC c < 65536 := by
  unfold checkI at h
  split at h
  · cases h
  · rename_i h0
    unfold chkF at h
    split at h
    · cases h
    · rename_i h1
      split at h
      · cases h
      · split at h
        · cases h
        · rename_i h3
          obtain ⟨k, rfl⟩ : ∃ k : Nat, op = k := ⟨op.toNat, by omega⟩
          rw [Int.toNat_natCast] at h1 h3
          have hk : k < 27 := by omega
          unfold uC
          have hT : ∀ k, k < 27 → -32768 ≤ (opT k).2.1 ∧ (opT k).2.2 ≤ 65535 := by decide
          obtain ⟨t1, t2⟩ := hT k hk
          generalize opT k = T at *
          obtain ⟨f, lo, hi⟩ := T
          dsimp only at h1 h3 t1 t2
          by_cases hf : f = 3
          · have hc : isR c = true := by
              cases hc : isR c with
              | true => rfl
              | false => exact absurd (.inl ⟨hf, hc⟩) h3
            have := (isR_iff c).1 hc
            rw [if_neg (by omega)]; omega
          · by_cases hn : fN f = true
            · have : ¬ (c < lo ∨ hi < c) := fun h => h3 (.inr ⟨hn, h⟩)
              split <;> omega
            · have : c = 0 := by
                refine Decidable.byContradiction fun hc => h1 (.inr (.inr ⟨fun h => h.elim hf hn, hc⟩))
              subst this
              rw [if_neg (by omega)]; omega
theorem info78a : (Tryd.prog.info? 78).map (·.size) = some 4 := by kernel_rfl
def bsA (l : List UInt8) : Array Value := (bs l).toArray
theorem enc_bs {op a b c x0 x1 x2 x3 : Int} (h : checkI op a b c = 0) (h0 : x0 = op) (h1 : x1 = 16 * a + b) (h2 : x2 = uC c % 256) (h3 : x3 = uC c / 256) : (#[.int .u8 x0, .int .u8 x1, .int .u8 x2, .int .u8 x3] : Array Value) = bsA (encL op a b c) := by
  obtain ⟨g1, g2, g3, g4, _⟩ := checkI_zero h
  obtain ⟨z0, z1⟩ := checkI_c h
  have e : ∀ x : Int, 0 ≤ x → x < 256 → ((UInt8.ofNat x.toNat).toNat : Int) = x := fun x a b => by
    rw [UInt8.toNat_ofNat']
    omega
  unfold bsA encL
  rw [if_pos h]
  unfold bs
  simp only [List.map_cons, List.map_nil]
  rw [e op g1 (by omega), e (16 * a + b) (by omega) (by omega), e (uC c % 256) (by omega) (by omega), e (uC c / 256) (by omega) (by omega), h0, h1, h2, h3]
set_option maxRecDepth 100000 in
set_option maxHeartbeats 4000000 in
theorem encode_any (hCk : ∀ w op a b c, Calls Tryd.prog 9 #[insV op a b c] w fun e w' => e = .returned (.int .i64 (checkI op a b c)) ∧ Below w.heap.size w w') (w : World) (op a b c : Int) :
    Calls Tryd.prog 35 #[insV op a b c] w fun e w' => e = .returned (.tuple #[.agg (bsA (encL op a b c)), .int .i64 (checkI op a b c)]) ∧ Below w.heap.size w w' := by
  obtain ⟨hb2, hl2⟩ := two_blk w #[.int .i64 op, .int .i64 a, .int .i64 b, .int .i64 c] #[.int .u8 0, .int .u8 0, .int .u8 0, .int .u8 0] 28 78
  have hb1 := (Blk.new w 28 #[.int .i64 op, .int .i64 a, .int .i64 b, .int .i64 c]).alloc (.cells #[.int .u8 0, .int .u8 0, .int .u8 0, .int .u8 0] 78)
  have HB1 := Lib.hid hb1
  have HB2 := Lib.hid hb2
  have HL2 := Lib.hid hl2
  have hk := fun w => hCk w op a b c
  unfold insV at hk ⊢
  clear hb1 hb2 hl2 hCk
  go_enter Tryd.func35, Tryd.ntmps35
  go_upto_region 1 with (fail)
  generalize (w.alloc (.cells #[.int .i64 op, .int .i64 a, .int .i64 b, .int .i64 c] 28)).alloc (.cells #[.int .u8 0, .int .u8 0, .int .u8 0, .int .u8 0] 78) = W0 at *
  have d0 : W0.cell? ⟨w.heap.size, 0, none⟩ = some (.int .i64 op) := HB1.out.cell 0
  have d1 : W0.cell? ⟨w.heap.size, 1, none⟩ = some (.int .i64 a) := HB1.out.cell 1
  have d2 : W0.cell? ⟨w.heap.size, 2, none⟩ = some (.int .i64 b) := HB1.out.cell 2
  have d3 : W0.cell? ⟨w.heap.size, 3, none⟩ = some (.int .i64 c) := HB1.out.cell 3
  go_wp2_with fail
  refine (hk _).mono ?_
  rintro e w1 ⟨rfl, nb⟩
  have hi1 := HB1.out.below nb HB1.out.lt
  have HO1 := Lib.hid (HB2.out.below nb HB2.out.lt)
  have HLW : Hid (Below w.heap.size w w1) := Lib.hid (HL2.out.trans (nb.mono HL2.out.size))
  have e0 : w1.cell? ⟨w.heap.size, 0, none⟩ = some (.int .i64 op) := hi1.cell 0
  have e1 : w1.cell? ⟨w.heap.size, 1, none⟩ = some (.int .i64 a) := hi1.cell 1
  have e2 : w1.cell? ⟨w.heap.size, 2, none⟩ = some (.int .i64 b) := hi1.cell 2
  have e3 : w1.cell? ⟨w.heap.size, 3, none⟩ = some (.int .i64 c) := hi1.cell 3
  clear nb HB1 HB2 HL2 hi1 hk d0 d1 d2 d3
  obtain ⟨k, hk⟩ : ∃ k, k = checkI op a b c := ⟨_, rfl⟩
  rw [← hk]
  have HK := Lib.hid hk
  dsimp only
  by_cases hk0 : k = 0
  · subst hk0
    obtain ⟨h1, h2, h3, h4, h5⟩ := checkI_zero hk.symm
    obtain ⟨z0, z1⟩ := checkI_c hk.symm
    clear h5
    by_cases hc : c < 0
    · have hcd : decide (c < 0) = true := decide_eq_true hc
      have hu : uC c = c + 65536 := if_pos hc
      rw [hu] at z0 z1
      clear hk
      have ho1 := HO1.out
      go_wp2_with (first
        | (refine wpList_store_blk rfl 78 (.tmp 2) (.tmp 34) rfl (w.heap.size + 1) rfl _ rfl ho1 rfl info78a rfl ?_; intro w5 hk5 hf5)
        | go_in)
      refine end_cell_tmp rfl rfl hk5 Tryd.underlying78 rfl info78a ?_
      refine ⟨?_, belowFr HLW.out hf5 (Nat.le_succ _) (Nat.le_refl _)⟩
      rw [enc_bs HK.out.symm rfl rfl (by rw [hu]) (by rw [hu]), ← HK.out]
      rfl
    · have hcd : decide (c < 0) = false := decide_eq_false hc
      have hu : uC c = c := if_neg hc
      rw [hu] at z0 z1
      clear hk
      have ho1 := HO1.out
      go_wp2_with (first
        | (refine wpList_store_blk rfl 78 (.tmp 2) (.tmp 34) rfl (w.heap.size + 1) rfl _ rfl ho1 rfl info78a rfl ?_; intro w5 hk5 hf5)
        | go_in)
      refine end_cell_tmp rfl rfl hk5 Tryd.underlying78 rfl info78a ?_
      refine ⟨?_, belowFr HLW.out hf5 (Nat.le_succ _) (Nat.le_refl _)⟩
      rw [enc_bs HK.out.symm rfl rfl (by rw [hu]) (by rw [hu]), ← HK.out]
      rfl
  · have ek : ((k : Int) != 0) = true := by simpa using hk0
    clear hk
    have ho1 := HO1.out
    go_wp2_with (first
      | (refine wpList_store_blk rfl 78 (.tmp 2) (.tmp 10) rfl (w.heap.size + 1) rfl _ rfl ho1 rfl info78a rfl ?_; intro w5 hk5 hf5)
      | go_in)
    refine end_cell_tmp rfl rfl hk5 Tryd.underlying78 rfl info78a ?_
    exact ⟨by rw [HK.out]; unfold encL; rw [if_neg (by rw [← HK.out]; exact hk0)]; rfl, belowFr HLW.out hf5 (Nat.le_succ _) (Nat.le_refl _)⟩
end Go.Proofs.YtpadpggdealgkaaDoorRRR
