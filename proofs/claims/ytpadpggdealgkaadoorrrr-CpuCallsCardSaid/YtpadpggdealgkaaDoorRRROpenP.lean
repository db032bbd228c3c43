/-
  From what a law is handed to words for memory: a list of instructions, a program.
-/
import Derived.Test.YtpadpggdealgkaaDoorRRROpens
import Derived.Test.YtpadpggdealgkaaDoorRRRTwA
import Derived.Deep.SlicePairs
namespace Go.Proofs.YtpadpggdealgkaaDoorRRR
open Go.ChangeShapes Go.WideShapes Go.ChangeAt Go.RowKit
set_option linter.constructorNameAsVariable false
set_option linter.unusedSimpArgs false

section
variable {H : Type} {enc : TypeId × Value → H} {W : World} {b0 : Nat} {held : Bool} {v : Value} {d : DataW H} {p : List MemPlace} {a0 : Option Addr} {len cap : Nat}
theorem block_of_cell {w : World} {q : Addr} {v : Value} (h : w.cell? q = some v) : q.block < w.heap.size := by
  rcases Nat.lt_or_ge q.block w.heap.size with h2 | h2
  · exact h2
  · unfold World.cell? at h
    rw [Array.getElem?_eq_none h2] at h
    simp at h
/-- What an instruction's fields may be. -/
structure RI.In (i : RI) : Prop where
  op : (Lit.int .i64 i.op).wf = true
  a : (Lit.int .i64 i.a).wf = true
  b : (Lit.int .i64 i.b).wf = true
  c : (Lit.int .i64 i.c).wf = true
set_option maxRecDepth 100000 in
theorem open_rows {fuel : Nat} {cells : List Value} {y : DataW H × List MemPlace} (hf : DataW.trod enc Tryd.prog W 0 (fun _ => true) held fuel 22 cells = some y) : ∃ v l, cells = [v] ∧ RdI W v l ∧ ∀ x ∈ l, x.In := by
  have c28 : Tryd.prog.cellsOf 28 = 4 := by kernel_rfl
  have c3 : Tryd.prog.cellsOf 3 = 1 := by kernel_rfl
  rcases Go.Deep.open_slice Tryd.underlying22 hf with ⟨hcs, _⟩ | ⟨a, len, cap, m, n, D, Pl, hcs, _, hl, hm, hmm, _, hx⟩
  · exact ⟨_, [], hcs, ⟨none, 0, rfl, by simp, fun i hi => absurd hi (by simp)⟩, fun x hx => by cases hx⟩
  · simp only [if_true] at hmm
    have hmm' := hmm.symm
    subst hmm'
    rw [c28] at hx
    have each : ∀ i, ∃ o : RI, i < cap → o.In ∧ ∀ j u, o.cells[j]? = some u → W.cell? ((a.add (i * 4)).add j) = some u := by
      intro i
      by_cases hi : i < cap
      · obtain ⟨cs', h1, h2⟩ := hx i hi
        obtain ⟨_, hlen, hcell⟩ := World.cells?_some h1
        obtain ⟨xs, k, hk, hxy, _, hxl, hf2⟩ := DataW.trod_struct Tryd.underlying28 h2
        match xs, hxl, cs', hlen with
        | [y0, y1, y2, y3], _, [v0, v1, v2, v3], _ =>
          obtain ⟨q0, e0, _, w0⟩ := DataW.trod_int (P := Tryd.prog) Tryd.underlying3 (show DataW.trod _ Tryd.prog W 0 _ _ k 3 _ = some y0 from hf2 0 _ rfl)
          obtain ⟨q1, e1, _, w1⟩ := DataW.trod_int (P := Tryd.prog) Tryd.underlying3 (show DataW.trod _ Tryd.prog W 0 _ _ k 3 _ = some y1 from hf2 1 _ rfl)
          obtain ⟨q2, e2, _, w2⟩ := DataW.trod_int (P := Tryd.prog) Tryd.underlying3 (show DataW.trod _ Tryd.prog W 0 _ _ k 3 _ = some y2 from hf2 2 _ rfl)
          obtain ⟨q3, e3, _, w3⟩ := DataW.trod_int (P := Tryd.prog) Tryd.underlying3 (show DataW.trod _ Tryd.prog W 0 _ _ k 3 _ = some y3 from hf2 3 _ rfl)
          simp [c3] at e0 e1 e2 e3
          subst e0 e1 e2 e3
          refine ⟨⟨q0, q1, q2, q3⟩, fun _ => ⟨⟨w0, w1, w2, w3⟩, fun j u hu => ?_⟩⟩
          have hj : j < 4 := (List.getElem?_eq_some_iff.1 hu).1
          rw [hcell j hj]
          exact hu
      · exact ⟨⟨0, 0, 0, 0⟩, fun h => absurd h hi⟩
    obtain ⟨f, hf⟩ : ∃ f : Nat → RI, ∀ i, i < cap → (f i).In ∧ ∀ j u, (f i).cells[j]? = some u → W.cell? ((a.add (i * 4)).add j) = some u := ⟨fun r => Classical.choose (each r), fun r => Classical.choose_spec (each r)⟩
    have hln : ((List.range len).map f).length = len := by simp
    refine ⟨_, (List.range len).map f, hcs, ⟨some a, cap, by rw [hln], by rw [hln]; omega, fun i hi => ?_⟩, fun x hx => ?_⟩
    · rw [hln] at hi
      obtain ⟨q1, q2⟩ := hf i (by omega)
      obtain ⟨b, off, spot⟩ := a
      have h0 := (hf 0 (by omega)).2 0 _ rfl
      have hspot : spot = none := by simpa [Addr.add] using World.cell?_spot h0
      subst hspot
      have hb := block_of_cell h0
      rw [Addr.add_mid, Addr.add_mid] at hb
      have hfi : ((List.range len).map f)[i]'(by rw [hln]; exact hi) = f i := by simp
      rw [hfi]
      refine ⟨b, off, rfl, hb, fun j u hu => ?_⟩
      have := q2 j u hu
      rw [Addr.add_mid, Addr.add_mid] at this
      exact this
    · obtain ⟨i, hi, rfl⟩ := List.mem_map.1 hx
      have hi := List.mem_range.1 hi
      exact (hf i (by omega)).1
theorem open_L (h : DataW.Trod enc Tryd.prog W 0 (fun _ => true) held 22 (.slice a0 len cap) d p) : ∃ l, RdI W (.slice a0 len cap) l ∧ ∀ x ∈ l, x.In := by
  obtain ⟨fuel, hf⟩ := h
  obtain ⟨v, l, h1, h2, h3⟩ := open_rows hf
  simp [Value.cells] at h1
  subst h1
  exact ⟨l, h2, h3⟩
theorem array14 {cl : List Value} (h : cl.length = 14) : ∃ a b c d e t, cl = a :: b :: c :: d :: e :: t ∧ t.length = 9 := by
  match cl, h with
  | a :: b :: c :: d :: e :: t, h => exact ⟨a, b, c, d, e, t, rfl, by simpa using h⟩
theorem u16_bounds {a : Int} (h : (Lit.int .u16 a).wf = true) : 0 ≤ a ∧ a < 65536 := by
  simp [Lit.wf, IntKind.min, IntKind.max, IntKind.bits, IntKind.signed] at h
  omega
theorem u8_bounds {a : Int} (h : (Lit.int .u8 a).wf = true) : 0 ≤ a ∧ a < 256 := by
  simp [Lit.wf, IntKind.min, IntKind.max, IntKind.bits, IntKind.signed] at h
  omega
set_option maxRecDepth 100000 in
theorem open_P (hv : Value.okWide Tryd.prog W .any b0 41 v) (h : DataW.Trod enc Tryd.prog W 0 (fun _ => true) held 41 v d p) :
    ∃ (q : Pg19) (u : Value) (g : Rg), v = .agg (pcells q u g) ∧ PgOk W q u ∧ g.Ok := by
  have c41 : Tryd.prog.cellsOf 41 = 14 := by kernel_rfl
  have c22 : Tryd.prog.cellsOf 22 = 1 := by kernel_rfl
  have c39 : Tryd.prog.cellsOf 39 = 1 := by kernel_rfl
  have c9 : Tryd.prog.cellsOf 9 = 1 := by kernel_rfl
  have c5 : Tryd.prog.cellsOf 5 = 1 := by kernel_rfl
  have c4 : Tryd.prog.cellsOf 4 = 1 := by kernel_rfl
  have c26 : Tryd.prog.cellsOf 26 = 9 := by kernel_rfl
  simp only [Value.okWide, Tryd.underlying41] at hv
  obtain ⟨cs, rfl, hsz, _⟩ := hv
  obtain ⟨fuel, hf⟩ := h
  obtain ⟨ys, m, _, _, _, hn, hel⟩ := DataW.trod_struct (P := Tryd.prog) Tryd.underlying41 hf
  obtain ⟨cl⟩ := cs
  obtain ⟨v0, v1, v2, v3, v4, t, rfl, ht⟩ := array14 (cl := cl) (by rw [← c41]; exact hsz)
  match ys, hn, hel with
  | [y0, y1, y2, y3, y4, y5], _, hel =>
    obtain ⟨u, l, e0, hl, _⟩ := open_rows (show DataW.trod _ Tryd.prog W 0 _ _ m 22 _ = some y0 from hel 0 _ rfl)
    obtain ⟨at_, e1, _, w1⟩ := DataW.trod_int (P := Tryd.prog) Tryd.underlying39 (show DataW.trod _ Tryd.prog W 0 _ _ m 39 _ = some y1 from hel 1 _ rfl)
    obtain ⟨by_, e2, _, w2⟩ := DataW.trod_string (P := Tryd.prog) Tryd.underlying9 (show DataW.trod _ Tryd.prog W 0 _ _ m 9 _ = some y2 from hel 2 _ rfl)
    obtain ⟨pg, e3, _, w3⟩ := DataW.trod_int (P := Tryd.prog) Tryd.underlying5 (show DataW.trod _ Tryd.prog W 0 _ _ m 5 _ = some y3 from hel 3 _ rfl)
    obtain ⟨la, e4, _, _⟩ := DataW.trod_bool (P := Tryd.prog) Tryd.underlying4 (show DataW.trod _ Tryd.prog W 0 _ _ m 4 _ = some y4 from hel 4 _ rfl)
    have h5 : DataW.trod enc Tryd.prog W 0 (fun _ => true) held m 26 t = some y5 := by
      have h := (show DataW.trod enc Tryd.prog W 0 (fun _ => true) held m 26 (t.take (Tryd.prog.cellsOf 26)) = some y5 from hel 5 _ rfl)
      rwa [c26, List.take_of_length_le (by omega)] at h
    simp [Value.cells, c22, c39, c9, c5, c4] at e0 e1 e2 e3 e4
    subst e0 e1 e2 e3 e4
    obtain ⟨zs, m2, _, _, _, hn2, hel2⟩ := DataW.trod_struct (P := Tryd.prog) Tryd.underlying26 h5
    match zs, hn2, hel2 with
    | [z0, z1], _, hel2 =>
      obtain ⟨g, hg, hok⟩ := regs_of (cl := t) (hel2 0 _ rfl) (hel2 1 _ rfl) ht
      obtain ⟨k1, k2⟩ := u16_bounds w1
      obtain ⟨k3, k4⟩ := u8_bounds w3
      refine ⟨⟨l, at_.toNat, by_, pg.toNat, la⟩, _, g, ?_, ⟨hl, by show at_.toNat < 65536; omega, by show pg.toNat < 256; omega, w2⟩, hok⟩
      unfold pcells
      rw [hg]
      dsimp only
      rw [Int.toNat_of_nonneg k1, Int.toNat_of_nonneg k3]
end
end Go.Proofs.YtpadpggdealgkaaDoorRRR
