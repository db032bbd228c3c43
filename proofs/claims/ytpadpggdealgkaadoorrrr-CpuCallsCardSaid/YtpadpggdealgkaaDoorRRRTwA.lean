/-
  Words: two memories of a law, side by side; equality of registers and of results.
-/
import Derived.Test.YtpadpggdealgkaaDoorRRRPlB
import Derived.Laws.StructEq
import Derived.Test.YtpadpggdealgkaaDoorRRRRow
import Derived.ChangeKeysEq
namespace Go.Proofs.YtpadpggdealgkaaDoorRRR
open Go.RowKit
set_option linter.unusedVariables false
set_option linter.unusedSectionVars false
set_option linter.unusedSimpArgs false

/-- What holds of a program that a law is given. -/
structure PgOk (w : World) (p : Pg19) (v : Value) : Prop where
  l : RdI w v p.l
  at_ : p.at_ < 65536
  pg : p.pages < 256
  by_ : p.by_.size ≤ maxLen
theorem u8_nat {a : Int} (h : (Lit.int .u8 a).wf = true) : ∃ n : Nat, n < 256 ∧ a = n := by
  have := u8_of_wf h
  exact ⟨(UInt8.ofNat a.toNat).toNat, UInt8.toNat_lt _, this.symm⟩
def T2 (B : Nat) (w : World) (g1 g2 : Nat) (a1 a2 : AS) : Prop :=
  B ≤ w.heap.size ∧ g1 ≠ g2 ∧ ∃ sps hm s1 s2, All C0 B w sps hm ∧ sps g1 = some s1 ∧ sps g2 = some s2 ∧ view C0 hm s1 = a1 ∧ view C0 hm s2 = a2
section
variable {B : Nat} {w w' : World} {g1 g2 : Nat} {a1 a2 : AS}
theorem T2.swap (h : T2 B w g1 g2 a1 a2) : T2 B w g2 g1 a2 a1 := by
  obtain ⟨hB, hn, sps, hm, s1, s2, h1, h2, h3, h4, h5⟩ := h
  exact ⟨hB, hn.symm, sps, hm, s2, s1, h1, h3, h2, h5, h4⟩
theorem T2.below (h : T2 B w g1 g2 a1 a2) (hb : Below w.heap.size w w') : T2 B w' g1 g2 a1 a2 := by
  obtain ⟨hB, hn, sps, hm, s1, s2, h1, h2, h3, h4, h5⟩ := h
  exact ⟨Nat.le_trans hB hb.size, hn, sps, hm, s1, s2, h1.below (ok0 B).keeps hb, h2, h3, h4, h5⟩
theorem T2.run1 (h : T2 B w g1 g2 a1 a2) {g : Rg} (hg : g.Ok) (ho : Ops w) (h0 : 0 < B) (m : Nat) (hm1 : m ≤ 100000) {R : RunR} (hR : R = runA m g a1) :
    Calls Tryd.prog 15 #[.agg g.vals.toArray, .pointer (some ⟨g1, 0, none⟩), .int .i64 m] w fun e w' => e = .returned (.tuple #[resV R, .int .i64 0]) ∧ T2 B w' g1 g2 R.a a2 ∧ Mv B C0.X w w' := by
  obtain ⟨hB, hn, sps, hm, s1, s2, h1, h2, h3, h4, h5⟩ := h
  have hr := run_any (ok0 B) mach0 (ty0 47) h1 h2 hg hB (fun _ h => h.elim) ho h0 m hm1
  rw [h4, ← hR] at hr
  refine hr.mono fun e w' hs => ?_
  obtain ⟨he, s', hm', hA, hv, hoth, hmv, _⟩ := hs
  exact ⟨he, ⟨Nat.le_trans hB hmv.size, hn, _, hm', s', s2, hA, upd_at _ _ _, by rw [upd_ne _ _ _ _ hn.symm]; exact h3, hv, (hoth g2 s2 hn.symm h3).trans h5⟩, hmv⟩
theorem T2.run2 (h : T2 B w g1 g2 a1 a2) {g : Rg} (hg : g.Ok) (ho : Ops w) (h0 : 0 < B) (m : Nat) (hm1 : m ≤ 100000) {R : RunR} (hR : R = runA m g a2) :
    Calls Tryd.prog 15 #[.agg g.vals.toArray, .pointer (some ⟨g2, 0, none⟩), .int .i64 m] w fun e w' => e = .returned (.tuple #[resV R, .int .i64 0]) ∧ T2 B w' g1 g2 a1 R.a ∧ Mv B C0.X w w' :=
  (h.swap.run1 hg ho h0 m hm1 hR).mono fun _ _ ⟨h1, h2, h3⟩ => ⟨h1, h2.swap, h3⟩
theorem T2.equal (h : T2 B w g1 g2 a1 a2) : Calls Tryd.prog 20 #[.pointer (some ⟨g1, 0, none⟩), .pointer (some ⟨g2, 0, none⟩)] w fun e w' => e = .returned (.bool (eqA (needUp 64 a1) (needUp 64 a2))) ∧ Mv B C0.X w w' := by
  obtain ⟨hB, hn, sps, hm, s1, s2, h1, h2, h3, h4, h5⟩ := h
  have hr := equal_all (ok0 B) h1 h2 h3 hn hB (fun _ h => h.elim)
  rw [h4, h5] at hr
  refine hr.mono fun e w' hs => ?_
  obtain ⟨he, _, _, _, _, _, _, _, hmv⟩ := hs
  exact ⟨he, hmv⟩
end
theorem loopA_le : ∀ (f n : Nat) (g : Rg) (a : AS), (loopA f n g a).n ≤ n + f
  | 0, n, g, a => Nat.le_refl _
  | f + 1, n, g, a => by
    rw [loopA_s]
    split
    · have := loopA_le f (n + 1) (stepA g a).g (stepA g a).a; omega
    · show n ≤ _; omega
def resC (g : Rg) (y nm ad n : Int) : Array Value := #[.int .u32 (g.r 0), .int .u32 (g.r 1), .int .u32 (g.r 2), .int .u32 (g.r 3), .int .u32 (g.r 4), .int .u32 (g.r 5), .int .u32 (g.r 6), .int .u32 (g.r 7), .int .u32 g.pc, .int .i64 y, .int .i64 nm, .int .u32 ad, .int .i64 n]
theorem resV_eq (g : Rg) (a : AS) (y nm ad : Int) (n : Nat) : resV ⟨g, a, ⟨y, nm, ad⟩, n⟩ = .agg #[.int .u32 (g.r 0), .int .u32 (g.r 1), .int .u32 (g.r 2), .int .u32 (g.r 3), .int .u32 (g.r 4), .int .u32 (g.r 5), .int .u32 (g.r 6), .int .u32 (g.r 7), .int .u32 g.pc, .int .i64 y, .int .i64 nm, .int .u32 ad, .int .i64 n] := rfl
/-- The cells of a result in a block. -/
def CX (w : World) (b : Nat) (g : Rg) (y nm ad n : Int) : Prop :=
  w.cell? ⟨b, 0, none⟩ = some (.int .u32 (g.r 0)) ∧ w.cell? ⟨b, 1, none⟩ = some (.int .u32 (g.r 1)) ∧ w.cell? ⟨b, 2, none⟩ = some (.int .u32 (g.r 2)) ∧ w.cell? ⟨b, 3, none⟩ = some (.int .u32 (g.r 3)) ∧ w.cell? ⟨b, 4, none⟩ = some (.int .u32 (g.r 4)) ∧ w.cell? ⟨b, 5, none⟩ = some (.int .u32 (g.r 5)) ∧ w.cell? ⟨b, 6, none⟩ = some (.int .u32 (g.r 6)) ∧ w.cell? ⟨b, 7, none⟩ = some (.int .u32 (g.r 7)) ∧ w.cell? ⟨b, 8, none⟩ = some (.int .u32 g.pc) ∧
    w.cell? ⟨b, 9, none⟩ = some (.int .i64 y) ∧ w.cell? ⟨b, 10, none⟩ = some (.int .i64 nm) ∧ w.cell? ⟨b, 11, none⟩ = some (.int .u32 ad) ∧ w.cell? ⟨b, 12, none⟩ = some (.int .i64 n)
theorem CX.of {w : World} {b : Nat} {g : Rg} {y nm ad n : Int} (h : Blk w b 47 (resC g y nm ad n)) : CX w b g y nm ad n :=
  ⟨h.cell 0, h.cell 1, h.cell 2, h.cell 3, h.cell 4, h.cell 5, h.cell 6, h.cell 7, h.cell 8, h.cell 9, h.cell 10, h.cell 11, h.cell 12⟩
/-- The registers in a block, from a cell on. -/
def CG (w : World) (b o : Nat) (g : Rg) : Prop :=
  w.cell? ⟨b, o, none⟩ = some (.int .u32 (g.r 0)) ∧ w.cell? ⟨b, o + 1, none⟩ = some (.int .u32 (g.r 1)) ∧ w.cell? ⟨b, o + 2, none⟩ = some (.int .u32 (g.r 2)) ∧ w.cell? ⟨b, o + 3, none⟩ = some (.int .u32 (g.r 3)) ∧ w.cell? ⟨b, o + 4, none⟩ = some (.int .u32 (g.r 4)) ∧ w.cell? ⟨b, o + 5, none⟩ = some (.int .u32 (g.r 5)) ∧ w.cell? ⟨b, o + 6, none⟩ = some (.int .u32 (g.r 6)) ∧ w.cell? ⟨b, o + 7, none⟩ = some (.int .u32 (g.r 7)) ∧ w.cell? ⟨b, o + 8, none⟩ = some (.int .u32 g.pc)
theorem CG.of {w : World} {b : Nat} {p : Pg19} {v : Value} {g : Rg} {pc : Array Value} (h : Blk w b 41 pc) (hp : pc = pcells p v g) : CG w b 5 g := by
  rw [hp] at h
  exact ⟨h.cell 5, h.cell 6, h.cell 7, h.cell 8, h.cell 9, h.cell 10, h.cell 11, h.cell 12, h.cell 13⟩
/-! ### Registers and results are equal to themselves -/
theorem flds44 : ∃ a b : Field, Tryd.prog.fieldsOf 44 = #[a, b] ∧ (a.name, a.type, a.offset) = ("R", 24, 0) ∧ (b.name, b.type, b.offset) = ("PC", 23, 8) := by
  refine ⟨(Tryd.prog.fieldsOf 44)[0]!, (Tryd.prog.fieldsOf 44)[1]!, ?_, ?_, ?_⟩ <;> kernel_rfl
theorem flds47 : ∃ a b c d e : Field, Tryd.prog.fieldsOf 47 = #[a, b, c, d, e] ∧ (a.name, a.type, a.offset) = ("Registers", 44, 0) ∧ (b.name, b.type, b.offset) = ("Why", 3, 9) ∧ (c.name, c.type, c.offset) = ("Number", 3, 10) ∧ (d.name, d.type, d.offset) = ("Address", 23, 11) ∧ (e.name, e.type, e.offset) = ("Executed", 3, 12) := by
  refine ⟨(Tryd.prog.fieldsOf 47)[0]!, (Tryd.prog.fieldsOf 47)[1]!, (Tryd.prog.fieldsOf 47)[2]!, (Tryd.prog.fieldsOf 47)[3]!, (Tryd.prog.fieldsOf 47)[4]!, ?_, ?_, ?_, ?_, ?_, ?_⟩ <;> kernel_rfl
theorem info23' : ∃ i, Tryd.prog.info? 23 = some i ∧ i.size = 1 := ⟨(Tryd.prog.info? 23).get (by kernel_rfl), by kernel_rfl, by kernel_rfl⟩
section
variable (a b c d e f g h p : Int) (W : World)
theorem eqin24 (n : Nat) : (Op.equalIn (n + 2) 24 (.agg #[.int .u32 a, .int .u32 b, .int .u32 c, .int .u32 d, .int .u32 e, .int .u32 f, .int .u32 g, .int .u32 h]) (.agg #[.int .u32 a, .int .u32 b, .int .u32 c, .int .u32 d, .int .u32 e, .int .u32 f, .int .u32 g, .int .u32 h])).run Tryd.prog W = .ok true W := by
  obtain ⟨i, hi, hs⟩ := info23'
  rw [run_equalIn_array W (n + 1) _ _ Tryd.underlying24 hi, (show Tryd.prog.cellsOf 23 = 1 by kernel_rfl)]
  have k0 : (part 23 #[.int .u32 a, .int .u32 b, .int .u32 c, .int .u32 d, .int .u32 e, .int .u32 f, .int .u32 g, .int .u32 h] (0 * 1)).run Tryd.prog W = .ok (.int .u32 a) W := by kernel_rfl
  have k1 : (part 23 #[.int .u32 a, .int .u32 b, .int .u32 c, .int .u32 d, .int .u32 e, .int .u32 f, .int .u32 g, .int .u32 h] (1 * 1)).run Tryd.prog W = .ok (.int .u32 b) W := by kernel_rfl
  have k2 : (part 23 #[.int .u32 a, .int .u32 b, .int .u32 c, .int .u32 d, .int .u32 e, .int .u32 f, .int .u32 g, .int .u32 h] (2 * 1)).run Tryd.prog W = .ok (.int .u32 c) W := by kernel_rfl
  have k3 : (part 23 #[.int .u32 a, .int .u32 b, .int .u32 c, .int .u32 d, .int .u32 e, .int .u32 f, .int .u32 g, .int .u32 h] (3 * 1)).run Tryd.prog W = .ok (.int .u32 d) W := by kernel_rfl
  have k4 : (part 23 #[.int .u32 a, .int .u32 b, .int .u32 c, .int .u32 d, .int .u32 e, .int .u32 f, .int .u32 g, .int .u32 h] (4 * 1)).run Tryd.prog W = .ok (.int .u32 e) W := by kernel_rfl
  have k5 : (part 23 #[.int .u32 a, .int .u32 b, .int .u32 c, .int .u32 d, .int .u32 e, .int .u32 f, .int .u32 g, .int .u32 h] (5 * 1)).run Tryd.prog W = .ok (.int .u32 f) W := by kernel_rfl
  have k6 : (part 23 #[.int .u32 a, .int .u32 b, .int .u32 c, .int .u32 d, .int .u32 e, .int .u32 f, .int .u32 g, .int .u32 h] (6 * 1)).run Tryd.prog W = .ok (.int .u32 g) W := by kernel_rfl
  have k7 : (part 23 #[.int .u32 a, .int .u32 b, .int .u32 c, .int .u32 d, .int .u32 e, .int .u32 f, .int .u32 g, .int .u32 h] (7 * 1)).run Tryd.prog W = .ok (.int .u32 h) W := by kernel_rfl
  show (Op.eqItems (n + 1) 23 1 _ _ [0, 1, 2, 3, 4, 5, 6, 7]).run Tryd.prog W = _
  simp only [Op.eqItems, Sem.run_bind, Sem.run_ite, k0, k1, k2, k3, k4, k5, k6, k7, Result.andThen_ok, run_equalIn_int _ _ _ _ _ _ _ Tryd.underlying23, beq_self_eq_true, Bool.not_true, Bool.false_eq_true, if_false, Sem.run_pure]
theorem eqin44 (n : Nat) : (Op.equalIn (n + 3) 44 (.agg #[.int .u32 a, .int .u32 b, .int .u32 c, .int .u32 d, .int .u32 e, .int .u32 f, .int .u32 g, .int .u32 h, .int .u32 p]) (.agg #[.int .u32 a, .int .u32 b, .int .u32 c, .int .u32 d, .int .u32 e, .int .u32 f, .int .u32 g, .int .u32 h, .int .u32 p])).run Tryd.prog W = .ok true W := by
  rw [run_equalIn_agg _ _ _ _ _ (by kernel_rfl) (by kernel_rfl)]
  have h0 : (part 24 #[.int .u32 a, .int .u32 b, .int .u32 c, .int .u32 d, .int .u32 e, .int .u32 f, .int .u32 g, .int .u32 h, .int .u32 p] 0).run Tryd.prog W = .ok (.agg #[.int .u32 a, .int .u32 b, .int .u32 c, .int .u32 d, .int .u32 e, .int .u32 f, .int .u32 g, .int .u32 h]) W := by kernel_rfl
  have h1 : (part 23 #[.int .u32 a, .int .u32 b, .int .u32 c, .int .u32 d, .int .u32 e, .int .u32 f, .int .u32 g, .int .u32 h, .int .u32 p] 8).run Tryd.prog W = .ok (.int .u32 p) W := by kernel_rfl
  obtain ⟨fa, fb, hf, ha, hb⟩ := flds44
  simp only [Prod.mk.injEq] at ha hb
  rw [hf]
  simp only [Op.eqFields, ha, hb, Sem.run_bind, Sem.run_ite, h0, h1, Result.andThen_ok, eqin24, run_equalIn_int _ _ _ _ _ _ _ Tryd.underlying23, beq_self_eq_true]
  simp
theorem eq44_refl : (binOp .eql 44 (.agg #[.int .u32 a, .int .u32 b, .int .u32 c, .int .u32 d, .int .u32 e, .int .u32 f, .int .u32 g, .int .u32 h, .int .u32 p]) (.agg #[.int .u32 a, .int .u32 b, .int .u32 c, .int .u32 d, .int .u32 e, .int .u32 f, .int .u32 g, .int .u32 h, .int .u32 p])).run Tryd.prog W = .ok (.bool true) W := by
  have h2 := eqin44 a b c d e f g h p W 9997
  simp only [Nat.reduceAdd] at h2
  rw [run_eql_struct, h2]
  rfl
theorem eq47_refl (wy nm ad ex : Int) : (binOp .eql 47 (.agg #[.int .u32 a, .int .u32 b, .int .u32 c, .int .u32 d, .int .u32 e, .int .u32 f, .int .u32 g, .int .u32 h, .int .u32 p, .int .i64 wy, .int .i64 nm, .int .u32 ad, .int .i64 ex]) (.agg #[.int .u32 a, .int .u32 b, .int .u32 c, .int .u32 d, .int .u32 e, .int .u32 f, .int .u32 g, .int .u32 h, .int .u32 p, .int .i64 wy, .int .i64 nm, .int .u32 ad, .int .i64 ex])).run Tryd.prog W = .ok (.bool true) W := by
  rw [run_eql_struct, run_equalIn_agg _ _ _ _ _ (by kernel_rfl) (by kernel_rfl)]
  have h0 : (part 44 #[.int .u32 a, .int .u32 b, .int .u32 c, .int .u32 d, .int .u32 e, .int .u32 f, .int .u32 g, .int .u32 h, .int .u32 p, .int .i64 wy, .int .i64 nm, .int .u32 ad, .int .i64 ex] 0).run Tryd.prog W = .ok (.agg #[.int .u32 a, .int .u32 b, .int .u32 c, .int .u32 d, .int .u32 e, .int .u32 f, .int .u32 g, .int .u32 h, .int .u32 p]) W := by kernel_rfl
  have h1 : (part 3 #[.int .u32 a, .int .u32 b, .int .u32 c, .int .u32 d, .int .u32 e, .int .u32 f, .int .u32 g, .int .u32 h, .int .u32 p, .int .i64 wy, .int .i64 nm, .int .u32 ad, .int .i64 ex] 9).run Tryd.prog W = .ok (.int .i64 wy) W := by kernel_rfl
  have h2 : (part 3 #[.int .u32 a, .int .u32 b, .int .u32 c, .int .u32 d, .int .u32 e, .int .u32 f, .int .u32 g, .int .u32 h, .int .u32 p, .int .i64 wy, .int .i64 nm, .int .u32 ad, .int .i64 ex] 10).run Tryd.prog W = .ok (.int .i64 nm) W := by kernel_rfl
  have h3 : (part 23 #[.int .u32 a, .int .u32 b, .int .u32 c, .int .u32 d, .int .u32 e, .int .u32 f, .int .u32 g, .int .u32 h, .int .u32 p, .int .i64 wy, .int .i64 nm, .int .u32 ad, .int .i64 ex] 11).run Tryd.prog W = .ok (.int .u32 ad) W := by kernel_rfl
  have h4 : (part 3 #[.int .u32 a, .int .u32 b, .int .u32 c, .int .u32 d, .int .u32 e, .int .u32 f, .int .u32 g, .int .u32 h, .int .u32 p, .int .i64 wy, .int .i64 nm, .int .u32 ad, .int .i64 ex] 12).run Tryd.prog W = .ok (.int .i64 ex) W := by kernel_rfl
  have h5 := eqin44 a b c d e f g h p W 9996
  simp only [Nat.reduceAdd] at h5
  obtain ⟨fa, fb, fc, fd, fe, hf, ha, hb, hc, hd, he⟩ := flds47
  simp only [Prod.mk.injEq] at ha hb hc hd he
  rw [hf]
  simp only [Op.eqFields, ha, hb, hc, hd, he, Sem.run_bind, Sem.run_ite, h0, h1, h2, h3, h4, h5, Result.andThen_ok, run_equalIn_int _ _ _ _ _ _ _ Tryd.underlying23, run_equalIn_int _ _ _ _ _ _ _ Tryd.underlying3, beq_self_eq_true]
  simp
end
end Go.Proofs.YtpadpggdealgkaaDoorRRR
