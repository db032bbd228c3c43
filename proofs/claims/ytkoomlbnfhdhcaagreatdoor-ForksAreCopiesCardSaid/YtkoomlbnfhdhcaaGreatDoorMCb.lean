/-
  Words: structs in blocks of their own, stored and loaded whole; results that stand in cells.
-/
import Derived.Test.YtkoomlbnfhdhcaaGreatDoorMCa
import Derived.Test.YtkoomlbnfhdhcaaGreatDoorCpC
import Derived.Test.YtkoomlbnfhdhcaaGreatDoorMixE
import Derived.StillTactics
namespace Go.Proofs.YtkoomlbnfhdhcaaGreatDoor
open Go.RowKit
set_option linter.unusedVariables false

/-- A whole row of cells over a block of as many. -/
theorem setCells_blk {w : World} {b : Nat} {t : TypeId} {cs : Array Value} (h : Blk w b t cs) (vs : List Value) (hl : vs.length = cs.size) : Blk (w.setCells b 0 vs) b t vs.toArray ∧ Fr [b] w (w.setCells b 0 vs) := by
  have key : ∀ (vs : List Value) (o : Nat) (w : World) (cs : Array Value), Blk w b t cs → o + vs.length ≤ cs.size → ∃ cs', Blk (w.setCells b o vs) b t cs' ∧ Fr [b] w (w.setCells b o vs) ∧ cs'.toList = cs.toList.take o ++ vs ++ cs.toList.drop (o + vs.length) := by
    intro vs
    induction vs with
    | nil => intro o w cs h _; exact ⟨cs, h, Fr.refl _ _, by simp⟩
    | cons v vs ih =>
      intro o w cs h hl
      rw [List.length_cons] at hl
      have h2 := h.set_ o v
      obtain ⟨cs', g1, g2, g3⟩ := ih (o + 1) (w.setCell ⟨b, o, none⟩ v) (cs.setIfInBounds o v) h2 (by rw [Array.size_setIfInBounds]; omega)
      refine ⟨cs', g1, ((Fr.refl [b] w).setCell (p := ⟨b, o, none⟩) (.inl (by simp)) v).trans g2 (by simp), ?_⟩
      have hsz : cs.toList.length = cs.size := Array.length_toList
      rw [g3, Array.toList_setIfInBounds, List.length_cons]
      have e1 : (cs.toList.set o v).take (o + 1) = cs.toList.take o ++ [v] := by
        rw [List.take_succ_eq_append_getElem (by rw [List.length_set]; omega), List.take_set_of_le (Nat.le_refl _)]
        simp
      have e2 : (cs.toList.set o v).drop (o + 1 + vs.length) = cs.toList.drop (o + (vs.length + 1)) := by
        rw [List.drop_set_of_lt (by omega)]
        congr 1
        omega
      rw [e1, e2]
      simp
  obtain ⟨cs', g1, g2, g3⟩ := key vs 0 w cs h (by omega)
  have hsz : cs.toList.length = cs.size := Array.length_toList
  rw [List.take_zero, List.nil_append, List.drop_of_length_le (by omega), List.append_nil] at g3
  refine ⟨?_, g2⟩
  have : cs' = vs.toArray := Array.ext' g3
  rw [← this]
  exact g1
section
variable {P : Program} {ops : Array Oper} {rest : List Oper} {op : Oper} {a : Act} {Q : Exit → Act → World → Prop} {w : World} {g t : Nat} {cs : Array Value}
theorem blk_there (h : Blk w g t cs) : w.there g 0 cs.size := by
  intro j hj
  refine ⟨?_, h.frozen _⟩
  rw [h.cell, Nat.zero_add, Array.getElem?_eq_getElem hj]
  rfl
theorem blk_range (h : Blk w g t cs) : w.rangeAt g 0 cs.toList := fun j v hv => by rw [h.cell, Nat.zero_add, ← hv, Array.getElem?_toList]
theorem wpList_store_blk (hgd : op.guard = none) (ty : TypeId) (x y : Operand) (ho : op.op = .store ty x y) (g : Nat) (hx : a.eval x = .pointer (some ⟨g, 0, none⟩)) (cells : Array Value) (hy : a.eval y = .agg cells)
    (h : Blk w g t cs) (hsz : cells.size = cs.size) (hi : (P.info? ty).map (·.size) = some cells.size) (h1 : cells.toList.all (·.oneCell') = true)
    (hk : ∀ w', Blk w' g t cells → Fr [g] w w' → wpList P ops Q rest (a.put op.dst undef) w') : wpList P ops Q (op :: rest) a w := by
  refine wpList_store_mid hgd ty x y ho g 0 cells hx hy (by rw [hsz]; exact blk_there h) hi (by rw [← Array.all_toList]; exact h1) ?_
  obtain ⟨g1, g2⟩ := setCells_blk h cells.toList (by rw [Array.length_toList]; exact hsz)
  exact hk _ (by simpa using g1) g2
theorem wpList_load_blk (hgd : op.guard = none) (ty : TypeId) (x : Operand) (ho : op.op = .load ty x) (g : Nat) (hx : a.eval x = .pointer (some ⟨g, 0, none⟩)) (h : Blk w g t cs) (d : TypeDesc)
    (hu : P.underlying ty = some d) (hd : d.isRow = true) (hi : (P.info? ty).map (·.size) = some cs.size)
    (hk : wpList P ops Q rest (a.put op.dst (.agg cs)) w) : wpList P ops Q (op :: rest) a w := by
  refine wpList_load_mid hgd ty x ho g 0 hx cs.toList d (blk_range h) hu hd (by rw [Array.length_toList]; exact hi) ?_
  simpa using hk
end
section
variable {P : Program} {fn : Func} {R : Ending → World → Prop} {tmps : Array Value} {w : World} {p q u : Tmp} {ty ty2 g g2 t t2 : Nat} {cs cs2 : Array Value} {d d2 : TypeDesc}
theorem run_loadVar_blk (hb : Blk w g t cs) (hu : P.underlying ty = some d) (hd : d.isRow = true) (hi : (P.info? ty).map (·.size) = some cs.size) : (loadVar ty ⟨g, 0, none⟩).run P w = .ok (.agg cs) w := by
  have h := run_loadVar_mid (P := P) w g 0 ty cs.toList d (fun j v hv => by rw [hb.cell, Nat.zero_add, ← hv, Array.getElem?_toList]) hu hd (by rw [Array.length_toList]; exact hi)
  simpa using h
theorem end_cell (h : fn.results = #[.cell p ty]) (hp : tmps.getD p undef = .pointer (some ⟨g, 0, none⟩)) (hb : Blk w g t cs) (hu : P.underlying ty = some d) (hd : d.isRow = true) (hi : (P.info? ty).map (·.size) = some cs.size) (hR : R (.returned (.agg cs)) w) :
    bodyPost P fn R .ret { tmps := tmps, defers := [] } w := by
  refine bodyPost_ret (v := .agg cs) ?_ rfl hR
  have hp' : tmps[p]?.getD undef = .pointer (some ⟨g, 0, none⟩) := by simpa using hp
  simp [results, h, hp', asAddr, run_loadVar_blk hb hu hd hi]
theorem end_cell_tmp (h : fn.results = #[.cell p ty, .tmp u]) (hp : tmps.getD p undef = .pointer (some ⟨g, 0, none⟩)) (hb : Blk w g t cs) (hu : P.underlying ty = some d) (hd : d.isRow = true) (hi : (P.info? ty).map (·.size) = some cs.size) (hR : R (.returned (.tuple #[.agg cs, tmps.getD u undef])) w) :
    bodyPost P fn R .ret { tmps := tmps, defers := [] } w := by
  refine bodyPost_ret (v := .tuple #[.agg cs, tmps.getD u undef]) ?_ rfl hR
  have hp' : tmps[p]?.getD undef = .pointer (some ⟨g, 0, none⟩) := by simpa using hp
  simp [results, h, hp', asAddr, run_loadVar_blk hb hu hd hi]
theorem end_cells (h : fn.results = #[.cell p ty, .cell q ty2]) (hp : tmps.getD p undef = .pointer (some ⟨g, 0, none⟩)) (hq : tmps.getD q undef = .pointer (some ⟨g2, 0, none⟩)) (hb : Blk w g t cs) (hb2 : Blk w g2 t2 cs2)
    (hu : P.underlying ty = some d) (hd : d.isRow = true) (hi : (P.info? ty).map (·.size) = some cs.size) (hu2 : P.underlying ty2 = some d2) (hd2 : d2.isRow = true) (hi2 : (P.info? ty2).map (·.size) = some cs2.size) (hR : R (.returned (.tuple #[.agg cs, .agg cs2])) w) :
    bodyPost P fn R .ret { tmps := tmps, defers := [] } w := by
  refine bodyPost_ret (v := .tuple #[.agg cs, .agg cs2]) ?_ rfl hR
  have hp' : tmps[p]?.getD undef = .pointer (some ⟨g, 0, none⟩) := by simpa using hp
  have hq' : tmps[q]?.getD undef = .pointer (some ⟨g2, 0, none⟩) := by simpa using hq
  simp [results, h, hp', hq', asAddr, run_loadVar_blk hb hu hd hi, run_loadVar_blk hb2 hu2 hd2 hi2]
end

end Go.Proofs.YtkoomlbnfhdhcaaGreatDoor

/-
  Walks: Decode of an instruction.
-/
namespace Go.Proofs.YtkoomlbnfhdhcaaGreatDoor
open Go.RowKit
set_option linter.unusedVariables false

theorem infoIns : (Tryz.prog.info? 109).map (·.size) = some 4 := by kernel_rfl
theorem infoEnd : (Tryz.prog.info? 111).map (·.size) = some 3 := by kernel_rfl
theorem wrap_i16 (n : Int) : IntKind.i16.wrap n = (n + 32768) % 65536 - 32768 := by
  simp [IntKind.wrap, IntKind.bits, IntKind.signed]
  omega
theorem or16 (x y : Int) (h0 : 0 ≤ x) (h1 : x < 256) (h2 : 0 ≤ y) (h3 : y < 256) : bits .or .u16 x (y * 256) = x + 256 * y := by go_bits2
theorem and15 (x : Int) (h0 : 0 ≤ x) (h1 : x < 256) : bits .and .u8 x 15 = x % 16 := by go_bits2
/-- What Decode answers. -/
def decE : Option Ins → Value
  | none => .tuple #[.agg #[.int .i64 0, .int .i64 0, .int .i64 0, .int .i64 0], .int .i64 24]
  | some i => .tuple #[insV i.op i.a i.b i.c, .int .i64 0]
theorem decI_ok {b0 b1 b2 b3 : Nat} (h0 : b0 < 27) (hc : checkI b0 ((b1 : Int) / 16) ((b1 : Int) % 16) (cOf b0 (b2 + 256 * b3)) = 0) : decI b0 b1 b2 b3 = some ⟨b0, b1 / 16, b1 % 16, cOf b0 (b2 + 256 * b3)⟩ := by
  unfold decI
  rw [if_neg (by omega), if_pos hc]
theorem decI_no {b0 b1 b2 b3 : Nat} (h0 : b0 < 27) (hc : ¬ checkI b0 ((b1 : Int) / 16) ((b1 : Int) % 16) (cOf b0 (b2 + 256 * b3)) = 0) : decI b0 b1 b2 b3 = none := by
  unfold decI
  rw [if_neg (by omega), if_neg hc]

set_option maxRecDepth 100000 in
set_option maxHeartbeats 4000000 in
theorem decode_any (w : World) (b0 b1 b2 b3 : Nat) (ho : Ops w) (h0 : b0 < 256) (h1 : b1 < 256) (h2 : b2 < 256) (h3 : b3 < 256) :
    Calls Tryz.prog 95 #[.agg #[.int .u8 b0, .int .u8 b1, .int .u8 b2, .int .u8 b3]] w fun e w' => e = .returned (decE (decI b0 b1 b2 b3)) ∧ Below w.heap.size w w' := by
  by_cases h27 : 27 ≤ b0
  · have hd : decI b0 b1 b2 b3 = none := if_pos h27
    rw [hd]
    have hop : decide (0 ≤ (b0 : Int) ∧ (b0 : Int) < 27) = false := decide_eq_false (by omega)
    clear hd h27
    go_enter Tryz.func95, Tryz.ntmps95
    go_wp2_with fail
    refine (isOp_any _ _).mono ?_
    rintro e w' ⟨rfl, rfl⟩
    rw [hop]
    dsimp only
    go_wp2_with fail
    exact end_cell_tmp rfl rfl (Blk.new_ _ _ _ (by simp)) Tryz.underlying109 rfl infoIns ⟨rfl, ((Below.refl w.heap.size w).alloc (Nat.le_refl _) _).alloc (by simp) _⟩
  · have h27' : b0 < 27 := by omega
    have hw := ho.1
    obtain ⟨s, u, v, hr⟩ := ho.2 b0 h27'
    have c : w.cell? ⟨0, b0 * 6 + 2, none⟩ = some (.int .i64 (opT b0).2.1) := hr 2 _ rfl
    have hop : decide (0 ≤ (b0 : Int) ∧ (b0 : Int) < 27) = true := decide_eq_true ⟨by omega, by omega⟩
    have e1 : bits .and .u8 (b1 : Int) 15 = ((b1 % 16 : Nat) : Int) := by rw [and15 _ (by omega) (by omega)]; omega
    have e2 : bits .or .u16 (b2 : Int) ((b3 : Int) * 256) = ((b2 + 256 * b3 : Nat) : Int) := by rw [or16 _ _ (by omega) (by omega) (by omega) (by omega)]; omega
    have k1 : (b0 : Int) < 27 := by omega
    have e3 : wrap64 ((b2 : Int) + 256 * b3) = (b2 : Int) + 256 * b3 := IntWalk.wrap64_in _ (by omega)
    have HO := Lib.hid ho
    have H1 := Lib.hid h27'
    obtain ⟨R, hR⟩ : ∃ R, R = decI b0 b1 b2 b3 := ⟨_, rfl⟩
    rw [← hR]
    by_cases hl : (opT b0).2.1 < 0
    · have e4 : decide ((opT b0).2.1 < 0) = true := decide_eq_true hl
      have e5 : wrap64 (IntKind.i16.wrap ((b2 : Int) + 256 * b3)) = cOf b0 (b2 + 256 * b3) := by
        have : IntKind.i16.wrap ((b2 : Int) + 256 * b3) = cOf b0 (b2 + 256 * b3) := by
          unfold cOf
          rw [wrap_i16]
          split <;> omega
        rw [this, IntWalk.wrap64_in _ (by unfold cOf; split <;> omega)]
      have HD1 := Lib.hid (decI_ok (b0 := b0) (b1 := b1) (b2 := b2) (b3 := b3) h27')
      have HD2 := Lib.hid (decI_no (b0 := b0) (b1 := b1) (b2 := b2) (b3 := b3) h27')
      rw [← hR] at HD1 HD2
      generalize cOf b0 (b2 + 256 * b3) = cc at *
      generalize (opT b0).2.1 = lo at *
      clear h27 hr ho h27' hR
      go_enter Tryz.func95, Tryz.ntmps95
      go_wp2_with fail
      refine (isOp_any _ _).mono ?_
      rintro e w' ⟨rfl, rfl⟩
      rw [hop]
      dsimp only
      go_wp2_with fail
      refine (check_any _ (HO.out.belowS ((((Below.refl _ _).alloc (Nat.le_refl _) _).alloc (by simp) _).alloc (by simp; omega) _)) _ _ _ _).mono ?_
      rintro e w1 ⟨rfl, nb⟩
      dsimp only
      have HNB := Lib.hid nb
      have HB := Lib.hid (((((Below.refl w.heap.size w).alloc (Nat.le_refl _) _).alloc (by simp) _).alloc (by simp; omega) _).trans (nb.mono (by simp; omega)))
      have HK1 := Lib.hid (Blk.below ((Blk.new_ (w.alloc (.cells #[.int .u8 b0, .int .u8 b1, .int .u8 b2, .int .u8 b3] 165)) 109 #[.int .i64 0, .int .i64 0, .int .i64 0, .int .i64 0] (g := w.heap.size + 1) (by simp)).alloc _) nb (by simp))
      have HK2 := Lib.hid (Blk.below (Blk.new_ ((w.alloc (.cells #[.int .u8 b0, .int .u8 b1, .int .u8 b2, .int .u8 b3] 165)).alloc (.cells #[.int .i64 0, .int .i64 0, .int .i64 0, .int .i64 0] 109)) 109 #[.int .i64 b0, .int .i64 ((b1 : Int) / 16), .int .i64 ((b1 : Int) % 16), .int .i64 cc] (g := w.heap.size + 1 + 1) (by simp)) nb (by simp))
      clear nb
      have hz := HB.out.size
      by_cases hc : checkI b0 ((b1 : Int) / 16) ((b1 : Int) % 16) cc = 0
      · have e6 : ((checkI b0 ((b1 : Int) / 16) ((b1 : Int) % 16) cc : Nat) : Int) = 0 := by rw [hc]; rfl
        have HRV := Lib.hid (HD1.out hc)
        clear hc
        rw [e6]
        have c0 := HK2.out.cell 0
        have c1 := HK2.out.cell 1
        have c2 := HK2.out.cell 2
        have c3 := HK2.out.cell 3
        simp at c0 c1 c2 c3
        go_wp2_with (refine wpList_store_blk rfl 109 (.tmp 2) (.tmp 48) rfl (w.heap.size + 1) rfl _ rfl HK1.out rfl infoIns rfl ?_; intro w2 hk2 hf2)
        exact end_cell_tmp rfl rfl hk2 Tryz.underlying109 rfl infoIns ⟨by rw [HRV.out]; rfl, HB.out.trans (hf2.below (by omega) (by simp))⟩
      · have e6 : ((checkI b0 ((b1 : Int) / 16) ((b1 : Int) % 16) cc : Nat) : Int) ≠ 0 := by omega
        have e7 : (((checkI b0 ((b1 : Int) / 16) ((b1 : Int) % 16) cc : Nat) : Int) != 0) = true := by simpa using hc
        have HRV := Lib.hid (HD2.out hc)
        clear hc
        go_wp2_with (refine wpList_store_blk rfl 109 (.tmp 2) (.tmp 47) rfl (w.heap.size + 1) rfl _ rfl HK1.out rfl infoIns rfl ?_; intro w2 hk2 hf2)
        exact end_cell_tmp rfl rfl hk2 Tryz.underlying109 rfl infoIns ⟨by rw [HRV.out]; rfl, HB.out.trans (hf2.below (by omega) (by simp))⟩
    · have e4 : decide ((opT b0).2.1 < 0) = false := decide_eq_false hl
      have e5 : cOf b0 (b2 + 256 * b3) = (b2 : Int) + 256 * b3 := if_neg (fun h => hl h.1)
      have HD1 := Lib.hid (decI_ok (b0 := b0) (b1 := b1) (b2 := b2) (b3 := b3) h27')
      have HD2 := Lib.hid (decI_no (b0 := b0) (b1 := b1) (b2 := b2) (b3 := b3) h27')
      rw [← hR, e5] at HD1 HD2
      generalize (opT b0).2.1 = lo at *
      clear h27 hr ho h27' hR e5
      go_enter Tryz.func95, Tryz.ntmps95
      go_wp2_with fail
      refine (isOp_any _ _).mono ?_
      rintro e w' ⟨rfl, rfl⟩
      rw [hop]
      dsimp only
      go_wp2_with fail
      refine (check_any _ (HO.out.belowS ((((Below.refl _ _).alloc (Nat.le_refl _) _).alloc (by simp) _).alloc (by simp; omega) _)) _ _ _ _).mono ?_
      rintro e w1 ⟨rfl, nb⟩
      dsimp only
      have HNB := Lib.hid nb
      have HB := Lib.hid (((((Below.refl w.heap.size w).alloc (Nat.le_refl _) _).alloc (by simp) _).alloc (by simp; omega) _).trans (nb.mono (by simp; omega)))
      have HK1 := Lib.hid (Blk.below ((Blk.new_ (w.alloc (.cells #[.int .u8 b0, .int .u8 b1, .int .u8 b2, .int .u8 b3] 165)) 109 #[.int .i64 0, .int .i64 0, .int .i64 0, .int .i64 0] (g := w.heap.size + 1) (by simp)).alloc _) nb (by simp))
      have HK2 := Lib.hid (Blk.below (Blk.new_ ((w.alloc (.cells #[.int .u8 b0, .int .u8 b1, .int .u8 b2, .int .u8 b3] 165)).alloc (.cells #[.int .i64 0, .int .i64 0, .int .i64 0, .int .i64 0] 109)) 109 #[.int .i64 b0, .int .i64 ((b1 : Int) / 16), .int .i64 ((b1 : Int) % 16), .int .i64 ((b2 : Int) + 256 * b3)] (g := w.heap.size + 1 + 1) (by simp)) nb (by simp))
      clear nb
      have hz := HB.out.size
      by_cases hc : checkI b0 ((b1 : Int) / 16) ((b1 : Int) % 16) ((b2 : Int) + 256 * b3) = 0
      · have e6 : ((checkI b0 ((b1 : Int) / 16) ((b1 : Int) % 16) ((b2 : Int) + 256 * b3) : Nat) : Int) = 0 := by rw [hc]; rfl
        have HRV := Lib.hid (HD1.out hc)
        clear hc
        rw [e6]
        have c0 := HK2.out.cell 0
        have c1 := HK2.out.cell 1
        have c2 := HK2.out.cell 2
        have c3 := HK2.out.cell 3
        simp at c0 c1 c2 c3
        go_wp2_with (refine wpList_store_blk rfl 109 (.tmp 2) (.tmp 48) rfl (w.heap.size + 1) rfl _ rfl HK1.out rfl infoIns rfl ?_; intro w2 hk2 hf2)
        exact end_cell_tmp rfl rfl hk2 Tryz.underlying109 rfl infoIns ⟨by rw [HRV.out]; rfl, HB.out.trans (hf2.below (by omega) (by simp))⟩
      · have e6 : ((checkI b0 ((b1 : Int) / 16) ((b1 : Int) % 16) ((b2 : Int) + 256 * b3) : Nat) : Int) ≠ 0 := by omega
        have e7 : (((checkI b0 ((b1 : Int) / 16) ((b1 : Int) % 16) ((b2 : Int) + 256 * b3) : Nat) : Int) != 0) = true := by simpa using hc
        have HRV := Lib.hid (HD2.out hc)
        clear hc
        go_wp2_with (refine wpList_store_blk rfl 109 (.tmp 2) (.tmp 47) rfl (w.heap.size + 1) rfl _ rfl HK1.out rfl infoIns rfl ?_; intro w2 hk2 hf2)
        exact end_cell_tmp rfl rfl hk2 Tryz.underlying109 rfl infoIns ⟨by rw [HRV.out]; rfl, HB.out.trans (hf2.below (by omega) (by simp))⟩
end Go.Proofs.YtkoomlbnfhdhcaaGreatDoor

/-
  The machine in memory; walks: the effects that only turn registers. (genCpE.py prints this text.)
-/
namespace Go.Proofs.YtkoomlbnfhdhcaaGreatDoor
open Go.RowKit
set_option linter.unusedVariables false
set_option linter.unusedSectionVars false

/-! ### Registers and the machine -/
def Rg.vals (g : Rg) : List Value := [.int .u32 (g.r 0), .int .u32 (g.r 1), .int .u32 (g.r 2), .int .u32 (g.r 3), .int .u32 (g.r 4), .int .u32 (g.r 5), .int .u32 (g.r 6), .int .u32 (g.r 7), .int .u32 g.pc]
def mL (g : Rg) (sp ef : Nat) : List Value := g.vals ++ [.pointer (some ⟨sp, 0, none⟩), .map (some ef)]
def mcells (g : Rg) (sp ef : Nat) : Array Value := (mL g sp ef).toArray
theorem mc_r (g : Rg) (sp ef k : Nat) (hk : k < 8) : (mcells g sp ef)[k]? = some (.int .u32 (g.r k)) := by
  match k, hk with
  | 0, _ | 1, _ | 2, _ | 3, _ | 4, _ | 5, _ | 6, _ | 7, _ => rfl
theorem mc_pc (g : Rg) (sp ef : Nat) : (mcells g sp ef)[8]? = some (.int .u32 g.pc) := rfl
theorem mc_sp (g : Rg) (sp ef : Nat) : (mcells g sp ef)[9]? = some (.pointer (some ⟨sp, 0, none⟩)) := rfl
theorem mc_ef (g : Rg) (sp ef : Nat) : (mcells g sp ef)[10]? = some (.map (some ef)) := rfl
theorem mc_set (g : Rg) (sp ef k : Nat) (hk : k < 8) (v : Int) : (mcells g sp ef).setIfInBounds k (.int .u32 v) = mcells { g with r := upd g.r k v } sp ef := by
  match k, hk with
  | 0, _ | 1, _ | 2, _ | 3, _ | 4, _ | 5, _ | 6, _ | 7, _ => rfl
theorem mc_setpc (g : Rg) (sp ef : Nat) (v : Int) : (mcells g sp ef).setIfInBounds 8 (.int .u32 v) = mcells { g with pc := v } sp ef := rfl
def nextA (g : Rg) : Rg := { g with pc := (g.pc + 4) % 4294967296 }
def resA (g : Rg) (k : Nat) (v : Int) : Rg := nextA { g with r := upd g.r k v }
def endV (e : End) : Value := .agg #[.int .i64 e.why, .int .i64 e.num, .int .u32 e.adr]
def sumA (g : Rg) (b : Nat) (c : Int) : Int := (g.r b + c % 4294967296) % 4294967296
def highV (c x : Int) : Int := bits .or .u32 (c % 4294967296 * 65536 % 4294967296) (bits .and .u32 x 65535)
def jumpA (g : Rg) (is : Bool) (c : Int) : Rg := if is then { g with pc := c % 4294967296 } else nextA g
theorem Calls.still {P : Program} {f : FuncId} {args : Array Value} {w : World} {v : Value} (h : Calls P f args w fun e w' => e = .returned v ∧ w = w') : Calls P f args w fun e w' => e = .returned v ∧ w' = w := h.mono fun _ _ ⟨h1, h2⟩ => ⟨h1, h2.symm⟩
def zEnd : Array Value := #[.int .i64 0, .int .i64 0, .int .u32 0]

section
variable {w : World} {X sp ef : Nat} {g : Rg}
/-- What an effect begins with: the instruction and its ending in blocks of their own. -/
theorem eff_in (h : Blk w X 116 (mcells g sp ef)) (vs : Array Value) :
    Blk ((w.alloc (.cells vs 109)).alloc (.cells #[.int .i64 0, .int .i64 0, .int .u32 0] 111)) w.heap.size 109 vs ∧ Blk ((w.alloc (.cells vs 109)).alloc (.cells #[.int .i64 0, .int .i64 0, .int .u32 0] 111)) (w.heap.size + 1) 111 zEnd ∧
    Blk ((w.alloc (.cells vs 109)).alloc (.cells #[.int .i64 0, .int .i64 0, .int .u32 0] 111)) X 116 (mcells g sp ef) ∧ Below w.heap.size w ((w.alloc (.cells vs 109)).alloc (.cells #[.int .i64 0, .int .i64 0, .int .u32 0] 111)) ∧
    ((w.alloc (.cells vs 109)).alloc (.cells #[.int .i64 0, .int .i64 0, .int .u32 0] 111)).heap.size = w.heap.size + 2 :=
  ⟨(Blk.new w 109 vs).alloc _, Blk.new_ _ _ _ (by simp), (h.alloc _).alloc _, ((Below.refl _ _).alloc (Nat.le_refl _) _).alloc (by simp) _, by simp⟩
/-- .. and what it ends with. -/
structure EffR (w : World) (X sp ef : Nat) (g' : Rg) (E : End) (e : Ending) (w' : World) : Prop where
  ret : e = .returned (endV E)
  blk : Blk w' X 116 (mcells g' sp ef)
  fr : Fr [X] w w'
set_option maxRecDepth 100000 in
theorem next_any (h : Blk w X 116 (mcells g sp ef)) : Calls Tryz.prog 130 #[.pointer (some ⟨X, 0, none⟩)] w (EffR w X sp ef (nextA g) goOn) := by
  have c8 : w.cell? ⟨X, 8, none⟩ = some (.int .u32 g.pc) := (h.cell 8).trans (mc_pc g sp ef)
  have f8 := h.frozen 8
  have hx := h.lt
  have h2 := (h.set_ 8 (.int .u32 ((g.pc + 4) % 4294967296)))
  rw [mc_setpc] at h2
  have H2 := Lib.hid (h2.alloc (.cells #[.int .i64 0, .int .i64 0, .int .u32 0] 111))
  have HF := Lib.hid (((Fr.refl [X] w).setCell (p := ⟨X, 8, none⟩) (.inl (by simp)) (.int .u32 ((g.pc + 4) % 4294967296))).alloc (.cells #[.int .i64 0, .int .i64 0, .int .u32 0] 111))
  clear h h2
  go_enter Tryz.func130, Tryz.ntmps130
  go_wp2_with fail
  exact end_cell rfl rfl (Blk.new_ _ _ _ (by simp)) Tryz.underlying111 rfl infoEnd ⟨rfl, H2.out, HF.out⟩
theorem fault_any (w : World) (a : Int) : Calls Tryz.prog 94 #[.int .u32 a] w fun e w' => e = .returned (endV ⟨4, 0, a⟩) ∧ Below w.heap.size w w' := by
  go_enter Tryz.func94, Tryz.ntmps94
  go_wp2_with fail
  exact end_cell rfl rfl (Blk.new_ _ _ _ (by simp)) Tryz.underlying111 rfl infoEnd ⟨rfl, (Below.refl _ _).alloc (Nat.le_refl _) _⟩
set_option maxRecDepth 100000 in
set_option maxHeartbeats 2000000 in
theorem result_any (h : Blk w X 116 (mcells g sp ef)) (op b c v : Int) (k : Nat) (hk : k < 8) : Calls Tryz.prog 125 #[.pointer (some ⟨X, 0, none⟩), insV op k b c, .int .u32 v] w (EffR w X sp ef (resA g k v) goOn) := by
  obtain ⟨i1, i2, i3, i4, i5⟩ := eff_in h #[.int .i64 op, .int .i64 k, .int .i64 b, .int .i64 c]
  unfold insV
  go_enter Tryz.func125, Tryz.ntmps125
  go_upto_region 1 with (fail)
  generalize ((w.alloc (.cells #[.int .i64 op, .int .i64 k, .int .i64 b, .int .i64 c] 109)).alloc (.cells #[.int .i64 0, .int .i64 0, .int .u32 0] 111)) = W0 at *
  have HI := Lib.hid i1
  have HE := Lib.hid i2
  have HX := Lib.hid i3
  have HB := Lib.hid i4
  have HW0 := Lib.hid i5
  have n1 := i3.ne_ i2 (by decide)
  have n2 := i3.ne_ i1 (by decide)
  have ci0 : W0.cell? ⟨w.heap.size, 0, none⟩ = some (.int .i64 op) := i1.cell 0
  have ci1 : W0.cell? ⟨w.heap.size, 1, none⟩ = some (.int .i64 k) := i1.cell 1
  have ci2 : W0.cell? ⟨w.heap.size, 2, none⟩ = some (.int .i64 b) := i1.cell 2
  have ci3 : W0.cell? ⟨w.heap.size, 3, none⟩ = some (.int .i64 c) := i1.cell 3
  have cxk : W0.cell? ⟨X, k, none⟩ = some (.int .u32 (g.r k)) := (i3.cell k).trans (mc_r g sp ef k hk)
  have fxk := i3.frozen k
  have xk : (k : Int) < 8 := by omega
  have h2 := i3.set_ k (.int .u32 v)
  rw [mc_set _ _ _ _ hk] at h2
  have H2 := Lib.hid h2
  have HF := Lib.hid ((Fr.of_below HB.out (L := [X])).setCell (p := ⟨X, k, none⟩) (.inl (by simp)) (.int .u32 v))
  have HE2 := Lib.hid (i2.far (p := ⟨X, k, none⟩) (fun e => n1 e.symm) (.int .u32 v))
  clear h2
  clear i1 i2 i3 i4 i5 h
  refine wp_region_tail 8 (by kernel_rfl) (by kernel_rfl) ?_
  simp only [List.take_succ_cons, List.take_zero, List.drop_succ_cons, List.drop_zero]
  repeat still_step
  refine wpStill_nil ?_
  go_wp2_with fail
  refine (next_any H2.out.drew).mono ?_
  rintro e w2 ⟨rfl, hx2, hf2⟩
  have he2 := HE2.out.drew.fr hf2 (by simpa using fun e => n1 e.symm)
  have HX2 := Lib.hid hx2
  have HF2 := Lib.hid hf2
  clear hx2 hf2
  dsimp only
  go_wp2_with (refine wpList_store_blk rfl 111 (.tmp 6) (.tmp 16) rfl (w.heap.size + 1) rfl _ rfl he2 rfl infoEnd rfl ?_; intro w3 hk3 hf3)
  exact end_cell rfl rfl hk3 Tryz.underlying111 rfl infoEnd ⟨rfl, HX2.out.fr hf3 (by simpa using n1), (HF.out.drew.trans HF2.out (by simp)).trans hf3 (by simp)⟩
set_option maxRecDepth 100000 in
set_option maxHeartbeats 2000000 in
theorem halt_any (h : Blk w X 116 (mcells g sp ef)) (op k b c : Int) : Calls Tryz.prog 77 #[.pointer (some ⟨X, 0, none⟩), insV op k b c] w (EffR w X sp ef g ⟨3, 0, 0⟩) := by
  have hx := Lib.hid ((h.alloc (.cells #[.int .i64 op, .int .i64 k, .int .i64 b, .int .i64 c] 109)).alloc (.cells #[.int .i64 3, .int .i64 0, .int .u32 0] 111))
  clear h
  unfold insV
  go_enter Tryz.func77, Tryz.ntmps77
  go_wp2_with fail
  exact end_cell rfl rfl (Blk.new_ _ _ _ (by simp)) Tryz.underlying111 rfl infoEnd ⟨rfl, hx.out, Fr.of_below (((Below.refl _ _).alloc (Nat.le_refl _) _).alloc (by simp) _)⟩
theorem trap_any (h : Blk w X 116 (mcells g sp ef)) (op k b c : Int) : Calls Tryz.prog 91 #[.pointer (some ⟨X, 0, none⟩), insV op k b c] w (EffR w X sp ef g ⟨2, c, 0⟩) := by
  have hx := Lib.hid ((h.alloc (.cells #[.int .i64 op, .int .i64 k, .int .i64 b, .int .i64 c] 109)).alloc (.cells #[.int .i64 2, .int .i64 c, .int .u32 0] 111))
  clear h
  unfold insV
  go_enter Tryz.func91, Tryz.ntmps91
  go_wp2_with fail
  exact end_cell rfl rfl (Blk.new_ _ _ _ (by simp)) Tryz.underlying111 rfl infoEnd ⟨rfl, hx.out, Fr.of_below (((Below.refl _ _).alloc (Nat.le_refl _) _).alloc (by simp) _)⟩
set_option maxRecDepth 100000 in
set_option maxHeartbeats 2000000 in
theorem move_any (h : Blk w X 116 (mcells g sp ef)) (op c : Int) (k b : Nat) (hk : k < 8) (hb : b < 8) : Calls Tryz.prog 78 #[.pointer (some ⟨X, 0, none⟩), insV op k b c] w (EffR w X sp ef (resA g k (g.r b)) goOn) := by
  obtain ⟨i1, i2, i3, i4, i5⟩ := eff_in h #[.int .i64 op, .int .i64 k, .int .i64 b, .int .i64 c]
  unfold insV
  go_enter Tryz.func78, Tryz.ntmps78
  go_upto_region 1 with (fail)
  generalize ((w.alloc (.cells #[.int .i64 op, .int .i64 k, .int .i64 b, .int .i64 c] 109)).alloc (.cells #[.int .i64 0, .int .i64 0, .int .u32 0] 111)) = W0 at *
  have HI := Lib.hid i1
  have HE := Lib.hid i2
  have HX := Lib.hid i3
  have HB := Lib.hid i4
  have HW0 := Lib.hid i5
  have n1 := i3.ne_ i2 (by decide)
  have n2 := i3.ne_ i1 (by decide)
  have ci0 : W0.cell? ⟨w.heap.size, 0, none⟩ = some (.int .i64 op) := i1.cell 0
  have ci1 : W0.cell? ⟨w.heap.size, 1, none⟩ = some (.int .i64 k) := i1.cell 1
  have ci2 : W0.cell? ⟨w.heap.size, 2, none⟩ = some (.int .i64 b) := i1.cell 2
  have ci3 : W0.cell? ⟨w.heap.size, 3, none⟩ = some (.int .i64 c) := i1.cell 3
  have cxb : W0.cell? ⟨X, b, none⟩ = some (.int .u32 (g.r b)) := (i3.cell b).trans (mc_r g sp ef b hb)
  have fxb := i3.frozen b
  have xb : (b : Int) < 8 := by omega
  clear i1 i2 i3 i4 i5 h
  refine wp_region_tail 10 (by kernel_rfl) (by kernel_rfl) ?_
  simp only [List.take_succ_cons, List.take_zero, List.drop_succ_cons, List.drop_zero]
  repeat still_step
  refine wpStill_nil ?_
  go_wp2_with fail
  refine (result_any HX.out.drew op b c _ k hk).mono ?_
  rintro e w2 ⟨rfl, hx2, hf2⟩
  have he2 := HE.out.drew.fr hf2 (by simpa using fun e => n1 e.symm)
  have HX2 := Lib.hid hx2
  have HF2 := Lib.hid hf2
  have hz2 := he2.lt
  clear hx2 hf2
  dsimp only
  go_wp2_with (refine wpList_store_blk rfl 111 (.tmp 4) (.tmp 15) rfl (w.heap.size + 1) rfl _ rfl he2 rfl infoEnd rfl ?_; intro w3 hk3 hf3)
  exact end_cell rfl rfl hk3 Tryz.underlying111 rfl infoEnd ⟨rfl, HX2.out.fr hf3 (by simpa using n1), ((Fr.of_below HB.out).drew.trans HF2.out (by simp)).trans hf3 (by simp)⟩
set_option maxRecDepth 100000 in
set_option maxHeartbeats 2000000 in
theorem jumpIf_any (h : Blk w X 116 (mcells g sp ef)) (is : Bool) (op k b c : Int) : Calls Tryz.prog 132 #[.pointer (some ⟨X, 0, none⟩), .bool is, insV op k b c] w (EffR w X sp ef (jumpA g is c) goOn) := by
  cases is
  · have hj : Hid (jumpA g false c = nextA g) := Lib.hid rfl
    obtain ⟨i1, i2, i3, i4, i5⟩ := eff_in h #[.int .i64 op, .int .i64 k, .int .i64 b, .int .i64 c]
    unfold insV
    go_enter Tryz.func132, Tryz.ntmps132
    go_upto_region 1 with (fail)
    generalize ((w.alloc (.cells #[.int .i64 op, .int .i64 k, .int .i64 b, .int .i64 c] 109)).alloc (.cells #[.int .i64 0, .int .i64 0, .int .u32 0] 111)) = W0 at *
    have HI := Lib.hid i1
    have HE := Lib.hid i2
    have HX := Lib.hid i3
    have HB := Lib.hid i4
    have HW0 := Lib.hid i5
    have n1 := i3.ne_ i2 (by decide)
    have n2 := i3.ne_ i1 (by decide)
    have ci0 : W0.cell? ⟨w.heap.size, 0, none⟩ = some (.int .i64 op) := i1.cell 0
    have ci1 : W0.cell? ⟨w.heap.size, 1, none⟩ = some (.int .i64 k) := i1.cell 1
    have ci2 : W0.cell? ⟨w.heap.size, 2, none⟩ = some (.int .i64 b) := i1.cell 2
    have ci3 : W0.cell? ⟨w.heap.size, 3, none⟩ = some (.int .i64 c) := i1.cell 3
    clear i1 i2 i3 i4 i5 h
    go_wp2_with fail
    refine (next_any HX.out).mono ?_
    rintro e w2 ⟨rfl, hx2, hf2⟩
    have he2 := HE.out.fr hf2 (by simpa using fun e => n1 e.symm)
    have HX2 := Lib.hid hx2
    have HF2 := Lib.hid hf2
    clear hx2 hf2
    dsimp only
    go_wp2_with (refine wpList_store_blk rfl 111 (.tmp 6) (.tmp 10) rfl (w.heap.size + 1) rfl _ rfl he2 rfl infoEnd rfl ?_; intro w3 hk3 hf3)
    exact end_cell rfl rfl hk3 Tryz.underlying111 rfl infoEnd ⟨rfl, by rw [hj.out]; exact HX2.out.fr hf3 (by simpa using n1), ((Fr.of_below HB.out).trans HF2.out (by simp)).trans hf3 (by simp)⟩
  · have hj : Hid (jumpA g true c = { g with pc := c % 4294967296 }) := Lib.hid rfl
    obtain ⟨i1, i2, i3, i4, i5⟩ := eff_in h #[.int .i64 op, .int .i64 k, .int .i64 b, .int .i64 c]
    unfold insV
    go_enter Tryz.func132, Tryz.ntmps132
    go_upto_region 1 with (fail)
    generalize ((w.alloc (.cells #[.int .i64 op, .int .i64 k, .int .i64 b, .int .i64 c] 109)).alloc (.cells #[.int .i64 0, .int .i64 0, .int .u32 0] 111)) = W0 at *
    have HI := Lib.hid i1
    have HE := Lib.hid i2
    have HX := Lib.hid i3
    have HB := Lib.hid i4
    have HW0 := Lib.hid i5
    have n1 := i3.ne_ i2 (by decide)
    have n2 := i3.ne_ i1 (by decide)
    have ci0 : W0.cell? ⟨w.heap.size, 0, none⟩ = some (.int .i64 op) := i1.cell 0
    have ci1 : W0.cell? ⟨w.heap.size, 1, none⟩ = some (.int .i64 k) := i1.cell 1
    have ci2 : W0.cell? ⟨w.heap.size, 2, none⟩ = some (.int .i64 b) := i1.cell 2
    have ci3 : W0.cell? ⟨w.heap.size, 3, none⟩ = some (.int .i64 c) := i1.cell 3
    have c8 : W0.cell? ⟨X, 8, none⟩ = some (.int .u32 g.pc) := (i3.cell 8).trans (mc_pc g sp ef)
    have f8 := i3.frozen 8
    have h2 := i3.set_ 8 (.int .u32 (c % 4294967296))
    rw [mc_setpc] at h2
    have H2 := Lib.hid h2
    have HF := Lib.hid ((Fr.of_below HB.out (L := [X])).setCell (p := ⟨X, 8, none⟩) (.inl (by simp)) (.int .u32 (c % 4294967296)))
    have HE2 := Lib.hid (i2.far (p := ⟨X, 8, none⟩) (fun e => n1 e.symm) (.int .u32 (c % 4294967296)))
    clear h2
    clear i1 i2 i3 i4 i5 h
    go_wp2_with fail
    refine (unsigned_any _ _).mono ?_
    rintro e w' ⟨rfl, rfl⟩
    dsimp only
    have he2 := HE2.out
    go_wp2_with (refine wpList_store_blk rfl 111 (.tmp 6) (.tmp 18) rfl (w.heap.size + 1) rfl _ rfl he2 rfl infoEnd rfl ?_; intro w3 hk3 hf3)
    exact end_cell rfl rfl hk3 Tryz.underlying111 rfl infoEnd ⟨rfl, by rw [hj.out]; exact H2.out.fr hf3 (by simpa using n1), HF.out.trans hf3 (by simp)⟩
end
end Go.Proofs.YtkoomlbnfhdhcaaGreatDoor
