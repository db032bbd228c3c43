/-
  Walks: CpuCalls.
-/
import Derived.Test.YtpadpggdealgkaaDoorRRRClB
import Derived.Test.YtpadpggdealgkaaDoorRRROpenP
namespace Go.Proofs.YtpadpggdealgkaaDoorRRR
open Go.RowKit
set_option linter.unusedVariables false
set_option linter.unusedSectionVars false
set_option linter.unusedSimpArgs false

theorem All.ty44 {B : Nat} {w w' : World} {sps : Nat → Option Sp} {hm : Pages} {b : Nat} {cs : Array Value} (h : All C0 B w sps hm) (hb : Blk w b 44 cs) (hf : Fr [b] w w') : All C0 B w' sps hm := h.ty (t := 44) (fun _ _ _ _ _ h => h.elim) (by decide) (by decide) hb hf
theorem resV_ofC {T : RunR} {gx : Rg} {ax : AS} {e : End} {cx : Nat} (h1 : T.g = gx) (h2 : T.e = e) (h3 : T.n = cx) : resV T = resV ⟨gx, ax, e, cx⟩ := by
  unfold resV
  rw [h1, h2, h3]
theorem own_form28 {w : World} {base n : Nat} {v : Value} {xs : List Value} (h : w.ownsRow base 28 4 v n xs) (hn : 0 < n) : ∃ A c, v = .slice A n c := by
  rcases h.2 with ⟨rfl, h0⟩ | ⟨g', cap', cur, rfl, _⟩
  · omega
  · exact ⟨_, _, rfl⟩
theorem info28 : (Tryd.prog.info? 28).map (fun i => (i.zero, i.size, i.bytes)) = some (some (.agg #[.int .i64 0, .int .i64 0, .int .i64 0, .int .i64 0]), 4, 32) := by kernel_rfl
/-- What stands while a subroutine is put together. -/
structure CallI (w : World) (g : Rg) (a : Nat) (l : List RI) (bW i n : Nat) (OA : Option Addr) (oc : Nat) (wr : World) : Prop where
  g0 : Blk wr w.heap.size 26 g.vals.toArray
  want : Blk wr bW 26 (Rg.vals ⟨wantL (bodyL a l i) (upd g.r a 4), g.pc⟩).toArray
  len : n = 3 + (bodyL a l i).length
  row : wr.ownsRow (w.heap.size + 1) 28 4 (.slice OA n oc) n (riV (callL a (bodyL a l i)))
  bl : Below w.heap.size w wr
  lo : w.heap.size < bW
section
variable {w wr w' : World} {g : Rg} {a : Nat} {l : List RI} {bW i n oc : Nat} {OA : Option Addr}
theorem CallI.below (h : CallI w g a l bW i n OA oc wr) (hb : Below wr.heap.size wr w') : CallI w g a l bW i n OA oc w' :=
  ⟨h.g0.below hb h.g0.lt, h.want.below hb h.want.lt, h.len, own_fr h.row (Fr.of_below (L := []) hb) (by simp), h.bl.trans (hb.mono h.bl.size), h.lo⟩
theorem CallI.no (h : CallI w g a l bW i n OA oc wr) (hn : bodyL a l (i + 1) = bodyL a l i) : CallI w g a l bW (i + 1) n OA oc wr :=
  ⟨h.g0, by rw [hn]; exact h.want, by rw [hn]; exact h.len, by rw [hn]; exact h.row, h.bl, h.lo⟩
end
set_option maxRecDepth 100000 in
set_option maxHeartbeats 8000000 in
theorem cpuCalls_any (w : World) (v : Value) (l : List RI) (k : Nat) (g : Rg) (hl : RdI w v l) (hk : k < 256) (hg : g.Ok) (ho : Ops w) :
    Calls Tryd.prog 3 #[v, .int .u8 k, .agg g.vals.toArray] w fun e w' => e = .returned (.bool true) ∧ Below w.heap.size w w' := by
  obtain ⟨i28, hi, hz0, hz1, hz2⟩ := info_parts info28
  obtain ⟨A, cap, rfl, hlm, hls⟩ := hl
  unfold maxLen at hlm
  have HLS := Lib.hid hls
  obtain ⟨a, ha⟩ : ∃ a, a = k % 8 := ⟨_, rfl⟩
  have ha8 : a < 8 := by omega
  have hka : (k : Int) % 8 = a := by omega
  have HKA := Lib.hid hka
  have hk0 : (0 : Int) ≤ k := by omega
  have hk1 : (k : Int) < 256 := by omega
  have a0 : (0 : Int) ≤ a := by omega
  have a1 : (a : Int) < 8 := by omega
  have HGO := Lib.hid hg
  have HOP := Lib.hid ho
  have hreg := fun w (q : Rg) => registers_any w q
  have HREG := Lib.hid hreg
  have HB0 := Lib.hid (Blk.new w 26 g.vals.toArray)
  have HBL : Hid (Below w.heap.size w (w.alloc (.cells g.vals.toArray 26))) := Lib.hid ((Below.refl _ _).alloc (Nat.le_refl _) _)
  clear hls hg ho hreg hka ha hk
  go_enter Tryd.func3, Tryd.ntmps3
  go_upto_region 1 with (fail)
  have hz : (w.alloc (.cells g.vals.toArray 26)).heap.size = w.heap.size + 1 := by simp
  generalize w.alloc (.cells g.vals.toArray 26) = W0 at *
  go_upto_region 2 with (fail)
  rw [HKA.out]
  have HOWN := Lib.hid (World.ownsRow_lit (base := w.heap.size + 1) (e := 28) (size := 4) W0 #[.int .i64 24, .int .i64 a, .int .i64 0, .int .i64 12, .int .i64 26, .int .i64 0, .int .i64 0, .int .i64 9, .int .i64 0, .int .i64 0, .int .i64 0, .int .i64 0] 3 (by omega) (by unfold maxLen; omega) rfl)
  have HB1 := Lib.hid (HB0.out.alloc (.cells #[.int .i64 24, .int .i64 a, .int .i64 0, .int .i64 12, .int .i64 26, .int .i64 0, .int .i64 0, .int .i64 9, .int .i64 0, .int .i64 0, .int .i64 0, .int .i64 0] 28))
  have HBL1 := Lib.hid (HBL.out.alloc (by omega) (.cells #[.int .i64 24, .int .i64 a, .int .i64 0, .int .i64 12, .int .i64 26, .int .i64 0, .int .i64 0, .int .i64 9, .int .i64 0, .int .i64 0, .int .i64 0, .int .i64 0] 28))
  go_upto_region 3 with (fail)
  have hz1' : (W0.alloc (.cells #[.int .i64 24, .int .i64 a, .int .i64 0, .int .i64 12, .int .i64 26, .int .i64 0, .int .i64 0, .int .i64 9, .int .i64 0, .int .i64 0, .int .i64 0, .int .i64 0] 28)).heap.size = w.heap.size + 1 + 1 := by simp; omega
  generalize W0.alloc (.cells #[.int .i64 24, .int .i64 a, .int .i64 0, .int .i64 12, .int .i64 26, .int .i64 0, .int .i64 0, .int .i64 9, .int .i64 0, .int .i64 0, .int .i64 0, .int .i64 0] 28) = W1 at *
  obtain ⟨bL, hbL⟩ : ∃ bL, bL = w.heap.size + 1 := ⟨_, rfl⟩
  rw [hz, ← hbL] at HOWN
  have HNL := Lib.hid hbL
  obtain ⟨bW, hbW⟩ : ∃ bW, bW = w.heap.size + 1 + 1 := ⟨_, rfl⟩
  have HNW := Lib.hid hbW
  have hi26 : (Tryd.prog.info? 26).map (·.size) = some g.vals.toArray.size := by kernel_rfl
  have HI26 := Lib.hid hi26
  have hz26 : ∀ w : World, (zeroValue 26).run Tryd.prog w = .ok (.agg #[.int .u32 0, .int .u32 0, .int .u32 0, .int .u32 0, .int .u32 0, .int .u32 0, .int .u32 0, .int .u32 0, .int .u32 0]) w := fun w => by kernel_rfl
  have HZB : Hid (Blk (W1.alloc (.cells #[.int .u32 0, .int .u32 0, .int .u32 0, .int .u32 0, .int .u32 0, .int .u32 0, .int .u32 0, .int .u32 0, .int .u32 0] 26)) bW 26 #[.int .u32 0, .int .u32 0, .int .u32 0, .int .u32 0, .int .u32 0, .int .u32 0, .int .u32 0, .int .u32 0, .int .u32 0]) := Lib.hid (by rw [hbW, ← hz1']; exact Blk.new _ _ _)
  have HZW : Hid (Below w.heap.size w (W1.alloc (.cells #[.int .u32 0, .int .u32 0, .int .u32 0, .int .u32 0, .int .u32 0, .int .u32 0, .int .u32 0, .int .u32 0, .int .u32 0] 26))) := Lib.hid (HBL1.out.alloc (by omega) _)
  have hbWl : w.heap.size < bW := by omega
  have hbx1 := HB1.out.alloc (.cells #[.int .u32 0, .int .u32 0, .int .u32 0, .int .u32 0, .int .u32 0, .int .u32 0, .int .u32 0, .int .u32 0, .int .u32 0] 26)
  have HBX1 := Lib.hid hbx1
  have HOWZ := Lib.hid (HOWN.out.alloc (.cells #[.int .u32 0, .int .u32 0, .int .u32 0, .int .u32 0, .int .u32 0, .int .u32 0, .int .u32 0, .int .u32 0, .int .u32 0] 26))
  have hnbL : bL ≠ bW := by omega
  clear hbx1 hbL hbW hi26
  go_upto_region 4 with (first
    | refine wpList_load_blk rfl 26 (.tmp 5) rfl w.heap.size rfl HB1.out _ Tryd.underlying26 rfl HI26.out ?_
    | (rw [← HNW.out, ← HNL.out]; refine wpList_store_blk rfl 26 (.tmp 9) (.tmp 25) rfl bW rfl g.vals.toArray rfl HZB.out rfl HI26.out rfl ?_; intro W2 hk2 hf2))
  clear hz26
  have hc2 := hk2.cell a
  rw [show g.vals.toArray[a]? = some (.int .u32 (g.r a)) from vals_at g.r g.pc a ha8] at hc2
  have hf3 := hk2.frozen a
  have hl3 := hk2.lt
  obtain ⟨W3, hW3⟩ : ∃ W3, W3 = W2.setCell ⟨bW, a, none⟩ (.int .u32 4) := ⟨_, rfl⟩
  have HCI : Hid (CallI w g a l bW 0 3 (some ⟨bL, 0, none⟩) 3 W3) := Lib.hid (by
    rw [hW3]
    refine ⟨(HBX1.out.fr hf2 (by simp; omega)).far (by show w.heap.size ≠ bW; omega) _, ?_, rfl, ?_, (belowFr HZW.out hf2 (by omega) (Nat.le_refl _)).setCell (by show w.heap.size ≤ bW; omega) _, hbWl⟩
    · rw [show (Rg.vals ⟨wantL (bodyL a l 0) (upd g.r a 4), g.pc⟩).toArray = (Rg.vals ⟨upd g.r a 4, g.pc⟩).toArray from rfl, ← vals_set g.r g.pc 4 a ha8]
      exact hk2.set_ a _
    · have h1 := own_fr HOWZ.out hf2 (by intro x hx; simp [Value.ownBlock] at hx; subst hx; simpa using hnbL)
      have h2 := own_base (base' := w.heap.size + 1) h1 (by intro x hx; simp [Value.ownBlock] at hx; subst hx; rw [HNL.out]; exact Nat.le_refl _)
      exact own_fr h2 ((Fr.refl [bW] W2).setCell (.inl (by simp)) _) (by intro x hx; simp [Value.ownBlock] at hx; subst hx; simpa using hnbL))
  clear hk2 hf2 HOWZ HBX1 HZB HZW HB1 HOWN HBL1
  go_upto_region 5 with (fail)
  rw [← hW3]
  clear hW3 hc2 hf3 hl3
  go_wp2_with fail
  go_loopg [8, 10] (min l.length 20) (fun q lv iv wr => ∃ (i : Nat) (OA : Option Addr) (oc n : Nat), q = min l.length 20 - i ∧ i ≤ min l.length 20 ∧ iv = .int .i64 i ∧ lv = .slice OA n oc ∧ CallI w g a l bW i n OA oc wr)
  case atStart => exact ⟨0, some ⟨bL, 0, none⟩, 3, 3, rfl, Nat.zero_le _, rfl, rfl, HCI.out⟩
  case round =>
    obtain ⟨i, OA, oc, n, rfl, hi0, rfl, rfl, hC⟩ := hrel
    have HC := Lib.hid hC
    clear hC HCI
    have hib : (i : Int) ≤ 20 := by omega
    have hii : (0 : Int) ≤ i := by omega
    by_cases hlt : i < min l.length 20
    · have hil : i < l.length := by omega
      have i1 : (i : Int) < (l.length : Int) := by omega
      have i2 : (i : Int) < 20 := by omega
      have i3 : i < l.length := hil
      obtain ⟨b, off, hA, hb, hrg⟩ := HLS.out i hil
      have hno := bodyL_no a l i hil
      have hyes := bodyL_yes a l i hil
      generalize hx : l[i] = x at *
      have HNO := Lib.hid hno
      have HYES := Lib.hid hyes
      have k0 : wr.cell? ⟨b, off + i * 4, none⟩ = some (.int .i64 x.op) := (HC.out.bl.cell (by exact hb)).trans (hrg 0 _ rfl)
      have k1 : wr.cell? ⟨b, off + i * 4 + 1, none⟩ = some (.int .i64 x.a) := (HC.out.bl.cell (by exact hb)).trans (hrg 1 _ rfl)
      have k2 : wr.cell? ⟨b, off + i * 4 + 2, none⟩ = some (.int .i64 x.b) := (HC.out.bl.cell (by exact hb)).trans (hrg 2 _ rfl)
      have k3 : wr.cell? ⟨b, off + i * 4 + 3, none⟩ = some (.int .i64 x.c) := (HC.out.bl.cell (by exact hb)).trans (hrg 3 _ rfl)
      clear hno hyes hrg hx
      subst hA
      obtain ⟨bx, hbx⟩ : ∃ bx, bx = wr.heap.size := ⟨_, rfl⟩
      obtain ⟨W5, hW5⟩ : ∃ W5, W5 = wr.alloc (.cells #[.int .i64 x.op, .int .i64 x.a, .int .i64 x.b, .int .i64 x.c] 28) := ⟨_, rfl⟩
      have HX5 : Hid (Blk W5 bx 28 #[.int .i64 x.op, .int .i64 x.a, .int .i64 x.b, .int .i64 x.c]) := Lib.hid (by rw [hW5, hbx]; exact Blk.new _ _ _)
      have HC5 : Hid (CallI w g a l bW i n OA oc W5) := Lib.hid (by rw [hW5]; exact HC.out.below ((Below.refl _ _).alloc (Nat.le_refl _) _))
      have HNX := Lib.hid hbx
      have hxW : bW < bx := by rw [hbx]; exact HC.out.want.lt
      have hxw : w.heap.size < bx := by omega
      have HRB : Hid (∀ q, (Value.slice OA n oc).ownBlock = some q → q < bx) := Lib.hid fun q hq => by rw [hbx]; exact (HC.out.row.lt q hq).2
      clear HC hbx
      go_upto_region 9 with (fail)
      rw [← hW5, ← HNX.out]
      clear hW5 k0 k1 k2 k3 i1 i3
      have c0 : W5.cell? ⟨bx, 0, none⟩ = some (.int .i64 x.op) := HX5.out.cell 0
      have c1 : W5.cell? ⟨bx, 1, none⟩ = some (.int .i64 x.a) := HX5.out.cell 1
      have c2 : W5.cell? ⟨bx, 2, none⟩ = some (.int .i64 x.b) := HX5.out.cell 2
      have c3 : W5.cell? ⟨bx, 3, none⟩ = some (.int .i64 x.c) := HX5.out.cell 3
      by_cases hc : x.op < 4
      · have hkb : keepB a x = false := by
          unfold keepB
          refine decide_eq_false ?_
          rintro ⟨h1, h2, h3⟩
          exact absurd h1.1 (by omega)
        have d1 : decide (x.op < 4) = true := decide_eq_true hc
        have hno := HNO.out hkb
        have HST := Lib.hid (HC5.out.no hno)
        clear hno hkb hc
        go_wp2_with fail
        go_roundg (min l.length 20 - (i + 1))
        case measure => omega
        case rel => exact ⟨i + 1, OA, oc, n, rfl, by omega, by go_num, rfl, HST.out⟩
      have n1 := hc
      clear hc
      by_cases hc : 15 < x.op
      · have hkb : keepB a x = false := by
          unfold keepB
          refine decide_eq_false ?_
          rintro ⟨h1, h2, h3⟩
          exact absurd h1.2.1 (by omega)
        have d1 : decide (x.op < 4) = false := decide_eq_false n1
        have d2 : decide (15 < x.op) = true := decide_eq_true hc
        have hno := HNO.out hkb
        have HST := Lib.hid (HC5.out.no hno)
        clear hno hkb hc n1
        go_wp2_with fail
        go_roundg (min l.length 20 - (i + 1))
        case measure => omega
        case rel => exact ⟨i + 1, OA, oc, n, rfl, by omega, by go_num, rfl, HST.out⟩
      have n2 := hc
      clear hc
      by_cases hc : x.op = 7
      · have hkb : keepB a x = false := by
          unfold keepB
          refine decide_eq_false ?_
          rintro ⟨h1, h2, h3⟩
          exact h1.2.2.1 hc
        have d1 : decide (x.op < 4) = false := decide_eq_false n1
        have d2 : decide (15 < x.op) = false := decide_eq_false n2
        have d3 : (x.op == 7) = true := beq_iff_eq.2 hc
        have hno := HNO.out hkb
        have HST := Lib.hid (HC5.out.no hno)
        clear hno hkb hc n1 n2
        go_wp2_with fail
        go_roundg (min l.length 20 - (i + 1))
        case measure => omega
        case rel => exact ⟨i + 1, OA, oc, n, rfl, by omega, by go_num, rfl, HST.out⟩
      have n3 := hc
      clear hc
      by_cases hc : x.op = 8
      · have hkb : keepB a x = false := by
          unfold keepB
          refine decide_eq_false ?_
          rintro ⟨h1, h2, h3⟩
          exact h1.2.2.2 hc
        have d1 : decide (x.op < 4) = false := decide_eq_false n1
        have d2 : decide (15 < x.op) = false := decide_eq_false n2
        have d3 : (x.op == 7) = false := beq_eq_false_iff_ne.2 n3
        have d4 : (x.op == 8) = true := beq_iff_eq.2 hc
        have hno := HNO.out hkb
        have HST := Lib.hid (HC5.out.no hno)
        clear hno hkb hc n1 n2 n3
        go_wp2_with fail
        go_roundg (min l.length 20 - (i + 1))
        case measure => omega
        case rel => exact ⟨i + 1, OA, oc, n, rfl, by omega, by go_num, rfl, HST.out⟩
      have n4 := hc
      clear hc
      by_cases hc : x.a = a
      · have hkb : keepB a x = false := by
          unfold keepB
          refine decide_eq_false ?_
          rintro ⟨h1, h2, h3⟩
          exact h2 hc
        have d1 : decide (x.op < 4) = false := decide_eq_false n1
        have d2 : decide (15 < x.op) = false := decide_eq_false n2
        have d3 : (x.op == 7) = false := beq_eq_false_iff_ne.2 n3
        have d4 : (x.op == 8) = false := beq_eq_false_iff_ne.2 n4
        have d5 : (x.a == (a : Int)) = true := beq_iff_eq.2 hc
        have hno := HNO.out hkb
        have HST := Lib.hid (HC5.out.no hno)
        clear hno hkb hc n1 n2 n3 n4
        go_wp2_with fail
        go_roundg (min l.length 20 - (i + 1))
        case measure => omega
        case rel => exact ⟨i + 1, OA, oc, n, rfl, by omega, by go_num, rfl, HST.out⟩
      have n5 := hc
      clear hc
      have d1 : decide (x.op < 4) = false := decide_eq_false n1
      have d2 : decide (15 < x.op) = false := decide_eq_false n2
      have d3 : (x.op == 7) = false := beq_eq_false_iff_ne.2 n3
      have d4 : (x.op == 8) = false := beq_eq_false_iff_ne.2 n4
      have d5 : (x.a == (a : Int)) = false := beq_eq_false_iff_ne.2 n5
      have HN5 := Lib.hid n5
      clear n3 n4 n5
      have hchk := refCheck_any W5 x.op x.a x.b x.c
      unfold insV at hchk
      go_wp2_with fail
      refine hchk.mono ?_
      clear hchk
      rintro e W6 ⟨rfl, nb⟩
      have HC6 := Lib.hid (HC5.out.below nb)
      have HX6 := Lib.hid (HX5.out.below nb HX5.out.lt)
      clear nb HC5 HX5 c0 c1 c2 c3
      obtain ⟨ck, hck⟩ : ∃ ck : Nat, ck = checkI x.op x.a x.b x.c := ⟨_, rfl⟩
      rw [← hck]
      by_cases hz6 : ck = 0
      · have hcheck : checkI x.op x.a x.b x.c = 0 := by rw [← hck]; exact hz6
        have HCK := Lib.hid hcheck
        subst hz6
        have hd3 : x.op ≠ 7 := fun e => by rw [e] at d3; cases d3
        have hd4 : x.op ≠ 8 := fun e => by rw [e] at d4; cases d4
        have hkb : keepB a x = true := (keepB_iff a x).2 ⟨⟨by omega, by omega, hd3, hd4⟩, HN5.out, hcheck⟩
        have HKB := Lib.hid hkb
        clear hck hcheck hd3 hd4 hkb
        dsimp only
        go_upto_region 10 with (fail)
        have hown := HC6.out.row
        have hnl : n ≤ 23 := by have h1 := HC6.out.len; have h2 := bodyL_le a l i; omega
        have c0 : W6.cell? ⟨bx, 0, none⟩ = some (.int .i64 x.op) := HX6.out.cell 0
        have c1 : W6.cell? ⟨bx, 1, none⟩ = some (.int .i64 x.a) := HX6.out.cell 1
        have c2 : W6.cell? ⟨bx, 2, none⟩ = some (.int .i64 x.b) := HX6.out.cell 2
        have c3 : W6.cell? ⟨bx, 3, none⟩ = some (.int .i64 x.c) := HX6.out.cell 3
        have hz6w : w.heap.size < W6.heap.size := HC6.out.g0.lt
        go_upto_region 11 with (at_builtin; go_must (refine wpList_append_any _ rfl (.tmp 72) (.tmp 74) _ rfl (w.heap.size + 1) 28 i28 _ 4 32 Tryd.underlying22 hi hz0 hz1 hz2 rfl (by omega) (.slice OA n oc) n (riV (callL a (bodyL a l i))) rfl (hown.alloc _) (W6.heap.size + 1) (some ⟨W6.heap.size, 0, none⟩) 1 1 [.int .i64 x.op, .int .i64 x.a, .int .i64 x.b, .int .i64 x.c] rfl (by exact ⟨rfl, fun _ => ⟨_, rfl, Nat.lt_succ_self _, World.news_of_block (t := 28) (fr := (0, 0)) (heap_alloc_new W6 _)⟩⟩) (by simp [Value.oneCell']) (by unfold maxLen; omega) (by omega) (by simp; omega) ?_); intro v1 W7 hown1 hgrow1 hat1)
        obtain ⟨A5, c5, rfl⟩ := own_form28 hown1 (by omega)
        have hown0 := hown.alloc (.cells #[.int .i64 x.op, .int .i64 x.a, .int .i64 x.b, .int .i64 x.c] 28)
        have HX7 := Lib.hid ((HX6.out.alloc (.cells #[.int .i64 x.op, .int .i64 x.a, .int .i64 x.b, .int .i64 x.c] 28)).grown hgrow1 (fun e => by have := HRB.out bx e.symm; omega))
        have HW7 := Lib.hid ((HC6.out.want.alloc (.cells #[.int .i64 x.op, .int .i64 x.a, .int .i64 x.b, .int .i64 x.c] 28)).grown hgrow1 (fun e => own_blk_ne hown0 (HC6.out.want.alloc _) (by decide) e.symm))
        have HG7 := Lib.hid ((HC6.out.g0.alloc (.cells #[.int .i64 x.op, .int .i64 x.a, .int .i64 x.b, .int .i64 x.c] 28)).grown hgrow1 (fun e => own_blk_ne hown0 (HC6.out.g0.alloc _) (by decide) e.symm))
        have HBL7 : Hid (Below w.heap.size w W7) := Lib.hid ((HC6.out.bl.alloc (by omega) _).grown hgrow1 (by simp; omega) (fun q hq => by have := (hown.lt q hq).1; omega))
        have HO7 := Lib.hid hown1
        have HLEN := Lib.hid HC6.out.len
        clear hown hown0 hown1 hgrow1 hat1 c0 c1 c2 c3 HC6 HX6 HRB d1 d2 d3 d4 d5 hz6w
        obtain ⟨g1, g2, ⟨g3, g4⟩, ⟨g5, g6⟩, g7⟩ := checkI_zero HCK.out
        obtain ⟨g8, g9⟩ := g7 (by omega) (by omega)
        obtain ⟨no_, hno_⟩ : ∃ m : Nat, x.op = m := ⟨x.op.toNat, by omega⟩
        obtain ⟨na, hna⟩ : ∃ m : Nat, x.a = m := ⟨x.a.toNat, by omega⟩
        obtain ⟨nb_, hnb_⟩ : ∃ m : Nat, x.b = m := ⟨x.b.toNat, by omega⟩
        obtain ⟨nc, hnc⟩ : ∃ m : Nat, x.c = m := ⟨x.c.toNat, by omega⟩
        obtain ⟨r, hr⟩ : ∃ r, r = wantL (bodyL a l i) (upd g.r a 4) := ⟨_, rfl⟩
        have hrr : ∀ k, 0 ≤ r k ∧ r k < 4294967296 := by
          rw [hr]
          exact wantL_ok _ (upd_range (fun j => ⟨HGO.out.r0 j, HGO.out.r1 j⟩) ⟨by omega, by omega⟩)
        obtain ⟨rb, hrb⟩ : ∃ m : Nat, r nb_ = m := ⟨(r nb_).toNat, by have := (hrr nb_).1; omega⟩
        obtain ⟨rc, hrc⟩ : ∃ m : Nat, r nc = m := ⟨(r nc).toNat, by have := (hrr nc).1; omega⟩
        have hrb1 : (rb : Int) < 4294967296 := by rw [← hrb]; exact (hrr nb_).2
        have hrc1 : (rc : Int) < 4294967296 := by rw [← hrc]; exact (hrr nc).2
        have HCALC := Lib.hid (fun W => refCalc_any W rb rc (by omega) (by omega) no_ (by omega) (by omega) (by have := ((keepB_iff a x).1 HKB.out).1; omega) (by have := ((keepB_iff a x).1 HKB.out).1; omega))
        have hwr : wantL (bodyL a l (i + 1)) (upd g.r a 4) = upd r na (calcV no_ rb rc) := by
          rw [HYES.out HKB.out, wantL_snoc, ← hr]
          unfold wantR
          rw [hno_, hna, hnb_, hnc, Int.toNat_natCast, Int.toNat_natCast, Int.toNat_natCast, Int.toNat_natCast, hrb, hrc]
        rw [← hr] at HW7
        have HWR := Lib.hid hwr
        have p1 : (na : Int) < 8 := by omega
        have p2 : (nb_ : Int) < 8 := by omega
        have p3 : (nc : Int) < 8 := by omega
        have p4 : (0 : Int) ≤ na := by omega
        have p5 : (0 : Int) ≤ nb_ := by omega
        have p6 : (0 : Int) ≤ nc := by omega
        have c0 : W7.drew.cell? ⟨bx, 0, none⟩ = some (.int .i64 no_) := by rw [← hno_]; exact HX7.out.drew.cell 0
        have c1 : W7.drew.cell? ⟨bx, 1, none⟩ = some (.int .i64 na) := by rw [← hna]; exact HX7.out.drew.cell 1
        have c2 : W7.drew.cell? ⟨bx, 2, none⟩ = some (.int .i64 nb_) := by rw [← hnb_]; exact HX7.out.drew.cell 2
        have c3 : W7.drew.cell? ⟨bx, 3, none⟩ = some (.int .i64 nc) := by rw [← hnc]; exact HX7.out.drew.cell 3
        have e0 : W7.drew.cell? ⟨bW, nb_, none⟩ = some (.int .u32 rb) := by rw [← hrb, HW7.out.drew.cell]; exact vals_at r g.pc nb_ (by omega)
        have e1 : W7.drew.cell? ⟨bW, nc, none⟩ = some (.int .u32 rc) := by rw [← hrc, HW7.out.drew.cell]; exact vals_at r g.pc nc (by omega)
        have e2 : W7.drew.cell? ⟨bW, na, none⟩ = some (.int .u32 (r na)) := by rw [HW7.out.drew.cell]; exact vals_at r g.pc na (by omega)
        have f2 := HW7.out.drew.frozen na
        have l2 : bW < W7.drew.heap.size := HW7.out.lt
        have HWd := Lib.hid HW7.out.drew
        have HGd := Lib.hid HG7.out.drew
        have HBLd := Lib.hid HBL7.out.drew
        have HOd : Hid (W7.drew.ownsRow (w.heap.size + 1) 28 4 (.slice A5 (n + 1) c5) (n + 1) (riV (callL a (bodyL a l i)) ++ [.int .i64 x.op, .int .i64 x.a, .int .i64 x.b, .int .i64 x.c])) := Lib.hid HO7.out
        have hbWe : (26 : Nat) ≠ 28 := by decide
        clear hwr hr hrb hrc hrr g1 g2 g3 g4 g5 g6 g8 g9 g7 hno_ hna hnb_ hnc HX7 HW7 HG7 HBL7 HO7
        refine wp_region_mixL (fun W => W = W7.drew) [1, 3, 5, 8, 10, 13, 14] [14, 20] [0, 1, 2, 3, 4, 5, 6, 7, 8, 9, 10, 11, 12, 13, 18, 14, 15, 16, 17, 19, 20] (by kernel_rfl) (by kernel_rfl) rfl ?_
        simp only [inOrder, opAt]
        generalize W7.drew = W8 at *
        iterate 15
          (refine wpMixS_read (v := ?_) rfl rfl (fun w' hS => ?_) ?_
           rotate_left
           · ((try (have s0 : w' = W8 := hS rfl; subst s0)); (try clear hS); go_simp; (try with_reducible rfl))
           try simp only [Act.put, List.setIfInBounds_toArray, List.set_cons_zero, List.set_cons_succ])
        refine wpMixS_eff rfl rfl (fun K hK => ?_)
        go_simp
        refine (HCALC.out _).mono ?_
        rintro e w' ⟨rfl, rfl⟩
        dsimp only
        refine hK.out _ _ _ (fun _ h => h) (fun _ => rfl) ?_
        clear hK K
        try simp only [Act.put, List.setIfInBounds_toArray, List.set_cons_zero, List.set_cons_succ]
        iterate 4
          (refine wpMixS_read (v := ?_) rfl rfl (fun w' hS => ?_) ?_
           rotate_left
           · ((try clear hS); go_simp; (try with_reducible rfl))
           try simp only [Act.put, List.setIfInBounds_toArray, List.set_cons_zero, List.set_cons_succ])
        refine wpMixS_eff rfl rfl (fun K hK => ?_)
        go_simp
        have HFIN : Hid (CallI w g a l bW (i + 1) (n + 1) A5 c5 (W8.setCell ⟨bW, na, none⟩ (.int .u32 (calcV no_ rb rc)))) := Lib.hid (by
          refine ⟨HGd.out.far (by show w.heap.size ≠ bW; omega) _, ?_, ?_, ?_, HBLd.out.setCell (by show w.heap.size ≤ bW; omega) _, hbWl⟩
          · rw [HWR.out, ← vals_set r g.pc _ na (by omega)]
            exact HWd.out.set_ na _
          · rw [HYES.out HKB.out, List.length_append, HLEN.out]
            simp
            omega
          · rw [HYES.out HKB.out, callL_snoc, riV_append]
            exact own_fr HOd.out ((Fr.refl [bW] W8).setCell (.inl (by simp)) _) (fun q hq hm => own_blk_ne HOd.out HWd.out (by decide) (by rw [hq, List.mem_singleton.1 hm])))
        refine hK.out _ _ _ (fun _ h => h) (fun h => by cases h) ?_
        clear hK K e0 e1 e2 f2 l2 c0 c1 c2 c3 HGd HWd HOd HBLd HWR HLEN
        try simp only [Act.put, List.setIfInBounds_toArray, List.set_cons_zero, List.set_cons_succ]
        refine wpMixS_nil ?_
        go_wp2_with fail
        go_roundg (min l.length 20 - (i + 1))
        case measure => omega
        case rel => exact ⟨i + 1, A5, c5, n + 1, rfl, by omega, by go_num, rfl, HFIN.out⟩
      · have hcheck : checkI x.op x.a x.b x.c ≠ 0 := by rw [← hck]; exact hz6
        have hkb : keepB a x = false := by
          unfold keepB
          exact decide_eq_false fun h => hcheck h.2.2
        have HST := Lib.hid (HC6.out.no (HNO.out hkb))
        have d6 : ((ck : Int) != 0) = true := bne_iff_ne.2 (by omega)
        clear hkb hcheck hck hz6
        dsimp only
        go_wp2_with fail
        go_roundg (min l.length 20 - (i + 1))
        case measure => omega
        case rel => exact ⟨i + 1, OA, oc, n, rfl, by omega, by go_num, rfl, HST.out⟩
    · have hie : i = min l.length 20 := by omega
      have t1 : decide ((i : Int) < 20 ∧ (i : Int) < (l.length : Int)) = false := decide_eq_false (by omega)
      have hkeep := bodyL_keep a l i
      have hlen := bodyL_le a l i
      have hC := HC.out
      obtain ⟨KL, hKL⟩ : ∃ KL, KL = bodyL a l i := ⟨_, rfl⟩
      rw [← hKL] at hkeep hlen
      have hG := hC.g0
      have hW := hC.want
      have hN := hC.len
      have hR := hC.row
      have hBB := hC.bl
      rw [← hKL] at hW hN hR
      have HG := Lib.hid hG
      have HW := Lib.hid hW
      have HN := Lib.hid hN
      have HR := Lib.hid hR
      have HB := Lib.hid hBB
      have HKE := Lib.hid hkeep
      have hn23 : n ≤ 23 := by omega
      have hm20 : KL.length ≤ 20 := by omega
      clear hC HC hKL hkeep hG hW hN hR hBB hlen HLS
      by_cases hl20 : i < l.length
      · have u1 : (i : Int) < (l.length : Int) := by omega
        have u2 : i < l.length := hl20
        have u3 : decide ((i : Int) < 20) = false := decide_eq_false (by omega)
        clear hie t1 hl20 hlt hi0
        go_upto_region 12 with (fail)
        have hreg2 := HR.out
        have hzw : w.heap.size < wr.heap.size := HG.out.lt
        go_upto_region 13 with (at_builtin; go_must (refine wpList_append_any _ rfl (.tmp 96) (.tmp 99) _ rfl (w.heap.size + 1) 28 i28 _ 4 32 Tryd.underlying22 hi hz0 hz1 hz2 rfl (by omega) (.slice OA n oc) n (riV (callL a KL)) rfl (hreg2.alloc _) (wr.heap.size + 1) (some ⟨wr.heap.size, 0, none⟩) 1 1 [.int .i64 25, .int .i64 a, .int .i64 0, .int .i64 0] rfl (by exact ⟨rfl, fun _ => ⟨_, rfl, Nat.lt_succ_self _, World.news_of_block (t := 28) (fr := (0, 0)) (heap_alloc_new wr _)⟩⟩) (by simp [Value.oneCell']) (by unfold maxLen; omega) (by omega) (by simp; omega) ?_); intro v1 W7 hown1 hgrow1 hat1)
        obtain ⟨A5, c5, rfl⟩ := own_form28 hown1 (by omega)
        have hown0 := hreg2.alloc (.cells #[.int .i64 25, .int .i64 a, .int .i64 0, .int .i64 0] 28)
        have HW7 := Lib.hid ((HW.out.alloc (.cells #[.int .i64 25, .int .i64 a, .int .i64 0, .int .i64 0] 28)).grown hgrow1 (fun e => own_blk_ne hown0 (HW.out.alloc _) (by decide) e.symm))
        have HG7 := Lib.hid ((HG.out.alloc (.cells #[.int .i64 25, .int .i64 a, .int .i64 0, .int .i64 0] 28)).grown hgrow1 (fun e => own_blk_ne hown0 (HG.out.alloc _) (by decide) e.symm))
        have HB7 : Hid (Below w.heap.size w W7) := Lib.hid ((HB.out.alloc (by omega) _).grown hgrow1 (by simp; omega) (fun q hq => by have := (hreg2.lt q hq).1; omega))
        obtain ⟨nn, hnn⟩ : ∃ nn, nn = n + 1 := ⟨_, rfl⟩
        rw [← hnn] at hown1 ⊢
        have hrd := rdI_of_own (l := calls a KL) (by unfold calls; rw [riV_append]; exact hown1) (by rw [hnn, HN.out]; unfold calls; rw [List.length_append, callL_length]; simp <;> omega) (by omega)
        have hmem := memory_any W7 (lP (calls a KL)) (.slice A5 nn c5) g0 hrd (by show 0 < 65536; omega) (by show 0 < 256; omega) (by show (0 : Nat) ≤ maxLen; exact Nat.zero_le _)
        have HMEM := Lib.hid hmem
        have hN2 : (KL.length + 2 : Nat) = nn - 2 := by rw [hnn, HN.out]; omega
        have hnn2 : 4 ≤ nn := by rw [hnn, HN.out]; omega
        have hnn3 : nn ≤ 24 := by omega
        have HN2 := Lib.hid hN2
        have HE := Lib.hid (calls_end a ha8 KL HKE.out hm20 g.r)
        have hbd : ∀ (A : Option Addr) (n c : Nat) (W : World), (Instr.build 41 #[(0, .slice A n c)]).run Tryd.prog W = .ok (.agg #[.slice A n c, .int .u16 0, .string ⟨#[]⟩, .int .u8 0, .bool false, .int .u32 0, .int .u32 0, .int .u32 0, .int .u32 0, .int .u32 0, .int .u32 0, .int .u32 0, .int .u32 0, .int .u32 0]) W := fun _ _ _ _ => by kernel_rfl
        clear hreg2 hzw hown0 hown1 hgrow1 hat1 hrd hmem hnn hN2 HN HR HG HW HB HKE hn23 hm20
        go_wp2_with fail
        refine HMEM.out.mono ?_
        rintro e W9 ⟨rfl, nb⟩
        have HW9 := Lib.hid (HW7.out.below nb HW7.out.lt)
        have HG9 := Lib.hid (HG7.out.below nb HG7.out.lt)
        have HB9 := Lib.hid (HB7.out.trans (nb.mono HB7.out.size))
        clear nb HMEM HW7 HG7 HB7 hbd
        dsimp only
        go_wp2_with fail
        obtain ⟨B, hB⟩ : ∃ B, B = W9.heap.size := ⟨_, rfl⟩
        refine (own_any (ok0 B) (all_none C0 B W9) (Nat.le_of_eq hB) (fun _ h => h.elim) (memA (lP (calls a KL)))).mono ?_
        rintro e Wa ⟨g1, rfl, hg1, s1, hm1, hA1, hv1, _, hmv1⟩
        have HWa := Lib.hid (hmv1.blk HW9.out (by decide) (by decide) (fun h => h))
        have HGa := Lib.hid (hmv1.blk HG9.out (by decide) (by decide) (fun h => h))
        have hB0 : w.heap.size ≤ B := by rw [hB]; exact HB9.out.size
        have HBa := Lib.hid (HB9.out.trans ((hmv1.below (Nat.le_of_eq hB)).mono hB0))
        have HAa := Lib.hid hA1
        have HVa := Lib.hid hv1
        have hBz : B ≤ Wa.heap.size := by rw [hB]; exact hmv1.size
        clear hA1 hv1 hmv1 hg1 hB HW9 HG9 HB9
        dsimp only
        go_wp2_with fail
        refine (known_any Wa (HOP.out.belowS HBa.out)).mono ?_
        rintro e Wb ⟨rfl, nb⟩
        have HWb := Lib.hid (HWa.out.below nb HWa.out.lt)
        have HGb := Lib.hid (HGa.out.below nb HGa.out.lt)
        have HBb := Lib.hid (HBa.out.trans (nb.mono HBa.out.size))
        have HAb := Lib.hid (HAa.out.below (ok0 B).keeps nb)
        have hBy := Nat.le_trans hBz nb.size
        clear nb HWa HGa HBa HAa hBz
        dsimp only
        go_wp2_with (refine wpList_load_blk rfl 26 (.tmp 5) rfl w.heap.size rfl HGb.out _ Tryd.underlying26 rfl HI26.out ?_)
        refine (HREG.out _ g).mono ?_
        rintro e Wc ⟨rfl, nb⟩
        have HWc := Lib.hid (HWb.out.below nb HWb.out.lt)
        have HBc := Lib.hid (HBb.out.trans (nb.mono HBb.out.size))
        have HAc := Lib.hid (HAb.out.below (ok0 B).keeps nb)
        have hBx := Nat.le_trans hBy nb.size
        clear nb HWb HGb HBb HAb hBy
        obtain ⟨bs_, hbs⟩ : ∃ bs_, bs_ = Wc.heap.size := ⟨_, rfl⟩
        have HNS := Lib.hid hbs
        obtain ⟨We, hWe⟩ : ∃ We, We = Wc.alloc (.cells #[.int .u32 (g.r 0), .int .u32 (g.r 1), .int .u32 (g.r 2), .int .u32 (g.r 3), .int .u32 (g.r 4), .int .u32 (g.r 5), .int .u32 (g.r 6), .int .u32 (g.r 7), .int .u32 0] 44) := ⟨_, rfl⟩
        have HSe : Hid (Blk We bs_ 44 (Rg.vals ⟨g.r, 0⟩).toArray) := Lib.hid (by rw [hWe, hbs]; exact Blk.new _ _ _)
        have nb : Below Wc.heap.size Wc We := by rw [hWe]; exact (Below.refl _ _).alloc (Nat.le_refl _) _
        have HWe := Lib.hid (HWc.out.below nb HWc.out.lt)
        have HBe := Lib.hid (HBc.out.trans (nb.mono HBc.out.size))
        have HAe := Lib.hid (HAc.out.below (ok0 B).keeps nb)
        have hBv := Nat.le_trans hBx nb.size
        clear nb HWc HBc HAc hBx hbs
        unfold Rg.vals
        dsimp only
        go_upto_region 18 with (fail)
        rw [← hWe, ← HNS.out]
        clear hWe
        have hi44 : (Tryd.prog.info? 44).map (·.size) = some (Rg.vals ⟨g.r, 0⟩).toArray.size := by kernel_rfl
        have HI44 := Lib.hid hi44
        clear hi44
        go_wp2_with (refine wpList_load_blk rfl 44 (.tmp 14) rfl bs_ rfl HSe.out _ Tryd.underlying44 rfl HI44.out ?_)
        have hrun := run_any (ok0 B) mach0 (ty0 47) HAe.out (upd_at _ _ _) (g := ⟨g.r, 0⟩) ⟨HGO.out.r0, HGO.out.r1, Int.le_refl _, by show (0 : Int) < 4294967296; decide⟩ hBv (fun _ h => h.elim) (HOP.out.belowS HBe.out) (by have := HOP.out.1; omega) 100 (by omega)
        rw [HVa.out, resV_ofC (ax := newA) HE.out.1 HE.out.2.1 HE.out.2.2, HN2.out, resV_eq] at hrun
        have hcw : (((nn - 2 : Nat)) : Int) = (nn : Int) - 2 := by omega
        rw [hcw] at hrun
        obtain ⟨wf, hwf⟩ : ∃ wf, wf = wantL KL (upd g.r a 4) := ⟨_, rfl⟩
        rw [← hwf] at HWe hrun
        dsimp only at hrun
        refine hrun.mono ?_
        clear hrun hcw hwf
        rintro e Wf ⟨rfl, s6, hm6, hA6, hv6, _, hmv6, _⟩
        have HWf := Lib.hid (hmv6.blk HWe.out (by decide) (by decide) (fun h => h))
        have HBf := Lib.hid (HBe.out.trans ((hmv6.below hBv).mono hB0))
        obtain ⟨bX, hbX⟩ : ∃ bX, bX = Wf.heap.size := ⟨_, rfl⟩
        have HNX2 := Lib.hid hbX
        obtain ⟨Wg, hWg⟩ : ∃ Wg, Wg = Wf.alloc (.cells (resC ⟨wf, 4⟩ 2 9 0 ((nn : Int) - 2)) 47) := ⟨_, rfl⟩
        have HXg : Hid (Blk Wg bX 47 (resC ⟨wf, 4⟩ 2 9 0 ((nn : Int) - 2))) := Lib.hid (by rw [hWg, hbX]; exact Blk.new _ _ _)
        have nb : Below Wf.heap.size Wf Wg := by rw [hWg]; exact (Below.refl _ _).alloc (Nat.le_refl _) _
        have HWg := Lib.hid (HWf.out.below nb HWf.out.lt)
        have HBg := Lib.hid (HBf.out.trans (nb.mono HBf.out.size))
        have hWX : bW < bX := by rw [hbX]; exact HWf.out.lt
        clear nb hA6 hv6 hmv6 hbX HWf HBf HSe HWe HBe HAe hBv
        unfold resC at hWg
        dsimp only at hWg
        dsimp only
        go_upto_region 19 with (fail)
        rw [← HNX2.out, ← hWg]
        clear hWg
        have w0 := HWg.out.cell 8
        have wf0 := HWg.out.frozen 8
        have wl0 := HWg.out.lt
        rw [show (Rg.vals ⟨wf, g.pc⟩).toArray[8]? = some (.int .u32 g.pc) from rfl] at w0
        obtain ⟨Wh, hWh⟩ : ∃ Wh, Wh = Wg.setCell ⟨bW, 8, none⟩ (.int .u32 4) := ⟨_, rfl⟩
        have HWh : Hid (Blk Wh bW 26 (Rg.vals ⟨wf, 4⟩).toArray) := Lib.hid (by rw [hWh]; exact HWg.out.set_ 8 _)
        have HXh : Hid (Blk Wh bX 47 (resC ⟨wf, 4⟩ 2 9 0 ((nn : Int) - 2))) := Lib.hid (by rw [hWh]; exact HXg.out.far (by show bX ≠ bW; omega) _)
        have HBh : Hid (Below w.heap.size w Wh) := Lib.hid (by rw [hWh]; exact HBg.out.setCell (by show w.heap.size ≤ bW; omega) _)
        go_upto_region 20 with (fail)
        try rw [← hWh]
        clear hWh w0 wf0 wl0 HXg HWg HBg
        have HWk := Lib.hid HWh.out.drew
        have HXk := Lib.hid HXh.out.drew
        have HBk := Lib.hid HBh.out.drew
        refine wp_region_mixL (fun W => Blk W bX 47 (resC ⟨wf, 4⟩ 2 9 0 ((nn : Int) - 2)) ∧ Blk W bW 26 (Rg.vals ⟨wf, 4⟩).toArray) [4, 9, 14, 15, 16, 21, 23] [16] [0, 1, 2, 3, 4, 5, 6, 7, 8, 9, 10, 11, 12, 13, 14, 15, 16, 17, 18, 19, 20, 21, 22, 23, 24, 25, 26, 27] (by kernel_rfl) (by kernel_rfl) ⟨HXk.out, HWk.out⟩ ?_
        simp only [inOrder, opAt]
        generalize Wh.drew = Wk at *
        clear HWh HXh HBh
        have e44 := eq44_refl
        have wr2 : IntKind.i64.wrap ((nn : Int) - 2) = (nn : Int) - 2 := IntWalk.i64_in _ (by omega)
        iterate 16
          (refine wpMixS_read (v := ?_) rfl rfl (fun w' hS => ?_) ?_
           rotate_left
           · ((try (have t := hS rfl; obtain ⟨x0, x1, x2, x3, x4, x5, x6, x7, x8, x9, x10, x11, x12⟩ := CX.of t.1; have y0 : w'.cell? ⟨bW, 0, none⟩ = some (.int .u32 (wf 0)) := t.2.cell 0; have y1 : w'.cell? ⟨bW, 1, none⟩ = some (.int .u32 (wf 1)) := t.2.cell 1; have y2 : w'.cell? ⟨bW, 2, none⟩ = some (.int .u32 (wf 2)) := t.2.cell 2; have y3 : w'.cell? ⟨bW, 3, none⟩ = some (.int .u32 (wf 3)) := t.2.cell 3; have y4 : w'.cell? ⟨bW, 4, none⟩ = some (.int .u32 (wf 4)) := t.2.cell 4; have y5 : w'.cell? ⟨bW, 5, none⟩ = some (.int .u32 (wf 5)) := t.2.cell 5; have y6 : w'.cell? ⟨bW, 6, none⟩ = some (.int .u32 (wf 6)) := t.2.cell 6; have y7 : w'.cell? ⟨bW, 7, none⟩ = some (.int .u32 (wf 7)) := t.2.cell 7; have y8 : w'.cell? ⟨bW, 8, none⟩ = some (.int .u32 4) := t.2.cell 8; dsimp only at x0 x1 x2 x3 x4 x5 x6 x7 x8; clear t)); (try clear hS); go_simp; (try with_reducible rfl))
           try simp only [Act.put, List.setIfInBounds_toArray, List.set_cons_zero, List.set_cons_succ])
        refine wpMixS_eff rfl rfl (fun K hK => ?_)
        go_simp
        have hrg := HREG.out Wk ⟨wf, 4⟩
        unfold Rg.vals at hrg
        dsimp only at hrg
        refine hrg.mono ?_
        clear hrg
        rintro e Wl ⟨rfl, nb⟩
        have HXl := Lib.hid (HXk.out.below nb HXk.out.lt)
        have HWl := Lib.hid (HWk.out.below nb HWk.out.lt)
        have HBl := Lib.hid (HBk.out.trans (nb.mono HBk.out.size))
        clear nb
        dsimp only
        refine hK.out _ _ _ (fun _ h => h) (fun _ => ⟨HXl.out, HWl.out⟩) ?_
        clear hK K
        try simp only [Act.put, List.setIfInBounds_toArray, List.set_cons_zero, List.set_cons_succ]
        iterate 11
          (refine wpMixS_read (v := ?_) rfl rfl (fun w' hS => ?_) ?_
           rotate_left
           · ((try (have t := hS rfl; obtain ⟨x0, x1, x2, x3, x4, x5, x6, x7, x8, x9, x10, x11, x12⟩ := CX.of t.1; dsimp only at x0 x1 x2 x3 x4 x5 x6 x7 x8; clear t)); (try clear hS); go_simp; (try with_reducible rfl))
           try simp only [Act.put, List.setIfInBounds_toArray, List.set_cons_zero, List.set_cons_succ])
        refine wpMixS_nil ?_
        go_wp2_with fail
        go_ret
        exact ⟨rfl, HBl.out⟩
      · have u1 : decide ((i : Int) < (l.length : Int)) = false := decide_eq_false (by omega)
        have u2 : decide (i < l.length) = false := decide_eq_false hl20
        clear hie t1 hl20 hlt hi0
        go_upto_region 12 with (fail)
        have hreg2 := HR.out
        have hzw : w.heap.size < wr.heap.size := HG.out.lt
        go_upto_region 13 with (at_builtin; go_must (refine wpList_append_any _ rfl (.tmp 96) (.tmp 99) _ rfl (w.heap.size + 1) 28 i28 _ 4 32 Tryd.underlying22 hi hz0 hz1 hz2 rfl (by omega) (.slice OA n oc) n (riV (callL a KL)) rfl (hreg2.alloc _) (wr.heap.size + 1) (some ⟨wr.heap.size, 0, none⟩) 1 1 [.int .i64 25, .int .i64 a, .int .i64 0, .int .i64 0] rfl (by exact ⟨rfl, fun _ => ⟨_, rfl, Nat.lt_succ_self _, World.news_of_block (t := 28) (fr := (0, 0)) (heap_alloc_new wr _)⟩⟩) (by simp [Value.oneCell']) (by unfold maxLen; omega) (by omega) (by simp; omega) ?_); intro v1 W7 hown1 hgrow1 hat1)
        obtain ⟨A5, c5, rfl⟩ := own_form28 hown1 (by omega)
        have hown0 := hreg2.alloc (.cells #[.int .i64 25, .int .i64 a, .int .i64 0, .int .i64 0] 28)
        have HW7 := Lib.hid ((HW.out.alloc (.cells #[.int .i64 25, .int .i64 a, .int .i64 0, .int .i64 0] 28)).grown hgrow1 (fun e => own_blk_ne hown0 (HW.out.alloc _) (by decide) e.symm))
        have HG7 := Lib.hid ((HG.out.alloc (.cells #[.int .i64 25, .int .i64 a, .int .i64 0, .int .i64 0] 28)).grown hgrow1 (fun e => own_blk_ne hown0 (HG.out.alloc _) (by decide) e.symm))
        have HB7 : Hid (Below w.heap.size w W7) := Lib.hid ((HB.out.alloc (by omega) _).grown hgrow1 (by simp; omega) (fun q hq => by have := (hreg2.lt q hq).1; omega))
        obtain ⟨nn, hnn⟩ : ∃ nn, nn = n + 1 := ⟨_, rfl⟩
        rw [← hnn] at hown1 ⊢
        have hrd := rdI_of_own (l := calls a KL) (by unfold calls; rw [riV_append]; exact hown1) (by rw [hnn, HN.out]; unfold calls; rw [List.length_append, callL_length]; simp <;> omega) (by omega)
        have hmem := memory_any W7 (lP (calls a KL)) (.slice A5 nn c5) g0 hrd (by show 0 < 65536; omega) (by show 0 < 256; omega) (by show (0 : Nat) ≤ maxLen; exact Nat.zero_le _)
        have HMEM := Lib.hid hmem
        have hN2 : (KL.length + 2 : Nat) = nn - 2 := by rw [hnn, HN.out]; omega
        have hnn2 : 4 ≤ nn := by rw [hnn, HN.out]; omega
        have hnn3 : nn ≤ 24 := by omega
        have HN2 := Lib.hid hN2
        have HE := Lib.hid (calls_end a ha8 KL HKE.out hm20 g.r)
        have hbd : ∀ (A : Option Addr) (n c : Nat) (W : World), (Instr.build 41 #[(0, .slice A n c)]).run Tryd.prog W = .ok (.agg #[.slice A n c, .int .u16 0, .string ⟨#[]⟩, .int .u8 0, .bool false, .int .u32 0, .int .u32 0, .int .u32 0, .int .u32 0, .int .u32 0, .int .u32 0, .int .u32 0, .int .u32 0, .int .u32 0]) W := fun _ _ _ _ => by kernel_rfl
        clear hreg2 hzw hown0 hown1 hgrow1 hat1 hrd hmem hnn hN2 HN HR HG HW HB HKE hn23 hm20
        go_wp2_with fail
        refine HMEM.out.mono ?_
        rintro e W9 ⟨rfl, nb⟩
        have HW9 := Lib.hid (HW7.out.below nb HW7.out.lt)
        have HG9 := Lib.hid (HG7.out.below nb HG7.out.lt)
        have HB9 := Lib.hid (HB7.out.trans (nb.mono HB7.out.size))
        clear nb HMEM HW7 HG7 HB7 hbd
        dsimp only
        go_wp2_with fail
        obtain ⟨B, hB⟩ : ∃ B, B = W9.heap.size := ⟨_, rfl⟩
        refine (own_any (ok0 B) (all_none C0 B W9) (Nat.le_of_eq hB) (fun _ h => h.elim) (memA (lP (calls a KL)))).mono ?_
        rintro e Wa ⟨g1, rfl, hg1, s1, hm1, hA1, hv1, _, hmv1⟩
        have HWa := Lib.hid (hmv1.blk HW9.out (by decide) (by decide) (fun h => h))
        have HGa := Lib.hid (hmv1.blk HG9.out (by decide) (by decide) (fun h => h))
        have hB0 : w.heap.size ≤ B := by rw [hB]; exact HB9.out.size
        have HBa := Lib.hid (HB9.out.trans ((hmv1.below (Nat.le_of_eq hB)).mono hB0))
        have HAa := Lib.hid hA1
        have HVa := Lib.hid hv1
        have hBz : B ≤ Wa.heap.size := by rw [hB]; exact hmv1.size
        clear hA1 hv1 hmv1 hg1 hB HW9 HG9 HB9
        dsimp only
        go_wp2_with fail
        refine (known_any Wa (HOP.out.belowS HBa.out)).mono ?_
        rintro e Wb ⟨rfl, nb⟩
        have HWb := Lib.hid (HWa.out.below nb HWa.out.lt)
        have HGb := Lib.hid (HGa.out.below nb HGa.out.lt)
        have HBb := Lib.hid (HBa.out.trans (nb.mono HBa.out.size))
        have HAb := Lib.hid (HAa.out.below (ok0 B).keeps nb)
        have hBy := Nat.le_trans hBz nb.size
        clear nb HWa HGa HBa HAa hBz
        dsimp only
        go_wp2_with (refine wpList_load_blk rfl 26 (.tmp 5) rfl w.heap.size rfl HGb.out _ Tryd.underlying26 rfl HI26.out ?_)
        refine (HREG.out _ g).mono ?_
        rintro e Wc ⟨rfl, nb⟩
        have HWc := Lib.hid (HWb.out.below nb HWb.out.lt)
        have HBc := Lib.hid (HBb.out.trans (nb.mono HBb.out.size))
        have HAc := Lib.hid (HAb.out.below (ok0 B).keeps nb)
        have hBx := Nat.le_trans hBy nb.size
        clear nb HWb HGb HBb HAb hBy
        obtain ⟨bs_, hbs⟩ : ∃ bs_, bs_ = Wc.heap.size := ⟨_, rfl⟩
        have HNS := Lib.hid hbs
        obtain ⟨We, hWe⟩ : ∃ We, We = Wc.alloc (.cells #[.int .u32 (g.r 0), .int .u32 (g.r 1), .int .u32 (g.r 2), .int .u32 (g.r 3), .int .u32 (g.r 4), .int .u32 (g.r 5), .int .u32 (g.r 6), .int .u32 (g.r 7), .int .u32 0] 44) := ⟨_, rfl⟩
        have HSe : Hid (Blk We bs_ 44 (Rg.vals ⟨g.r, 0⟩).toArray) := Lib.hid (by rw [hWe, hbs]; exact Blk.new _ _ _)
        have nb : Below Wc.heap.size Wc We := by rw [hWe]; exact (Below.refl _ _).alloc (Nat.le_refl _) _
        have HWe := Lib.hid (HWc.out.below nb HWc.out.lt)
        have HBe := Lib.hid (HBc.out.trans (nb.mono HBc.out.size))
        have HAe := Lib.hid (HAc.out.below (ok0 B).keeps nb)
        have hBv := Nat.le_trans hBx nb.size
        clear nb HWc HBc HAc hBx hbs
        unfold Rg.vals
        dsimp only
        go_upto_region 18 with (fail)
        rw [← hWe, ← HNS.out]
        clear hWe
        have hi44 : (Tryd.prog.info? 44).map (·.size) = some (Rg.vals ⟨g.r, 0⟩).toArray.size := by kernel_rfl
        have HI44 := Lib.hid hi44
        clear hi44
        go_wp2_with (refine wpList_load_blk rfl 44 (.tmp 14) rfl bs_ rfl HSe.out _ Tryd.underlying44 rfl HI44.out ?_)
        have hrun := run_any (ok0 B) mach0 (ty0 47) HAe.out (upd_at _ _ _) (g := ⟨g.r, 0⟩) ⟨HGO.out.r0, HGO.out.r1, Int.le_refl _, by show (0 : Int) < 4294967296; decide⟩ hBv (fun _ h => h.elim) (HOP.out.belowS HBe.out) (by have := HOP.out.1; omega) 100 (by omega)
        rw [HVa.out, resV_ofC (ax := newA) HE.out.1 HE.out.2.1 HE.out.2.2, HN2.out, resV_eq] at hrun
        have hcw : (((nn - 2 : Nat)) : Int) = (nn : Int) - 2 := by omega
        rw [hcw] at hrun
        obtain ⟨wf, hwf⟩ : ∃ wf, wf = wantL KL (upd g.r a 4) := ⟨_, rfl⟩
        rw [← hwf] at HWe hrun
        dsimp only at hrun
        refine hrun.mono ?_
        clear hrun hcw hwf
        rintro e Wf ⟨rfl, s6, hm6, hA6, hv6, _, hmv6, _⟩
        have HWf := Lib.hid (hmv6.blk HWe.out (by decide) (by decide) (fun h => h))
        have HBf := Lib.hid (HBe.out.trans ((hmv6.below hBv).mono hB0))
        obtain ⟨bX, hbX⟩ : ∃ bX, bX = Wf.heap.size := ⟨_, rfl⟩
        have HNX2 := Lib.hid hbX
        obtain ⟨Wg, hWg⟩ : ∃ Wg, Wg = Wf.alloc (.cells (resC ⟨wf, 4⟩ 2 9 0 ((nn : Int) - 2)) 47) := ⟨_, rfl⟩
        have HXg : Hid (Blk Wg bX 47 (resC ⟨wf, 4⟩ 2 9 0 ((nn : Int) - 2))) := Lib.hid (by rw [hWg, hbX]; exact Blk.new _ _ _)
        have nb : Below Wf.heap.size Wf Wg := by rw [hWg]; exact (Below.refl _ _).alloc (Nat.le_refl _) _
        have HWg := Lib.hid (HWf.out.below nb HWf.out.lt)
        have HBg := Lib.hid (HBf.out.trans (nb.mono HBf.out.size))
        have hWX : bW < bX := by rw [hbX]; exact HWf.out.lt
        clear nb hA6 hv6 hmv6 hbX HWf HBf HSe HWe HBe HAe hBv
        unfold resC at hWg
        dsimp only at hWg
        dsimp only
        go_upto_region 19 with (fail)
        rw [← HNX2.out, ← hWg]
        clear hWg
        have w0 := HWg.out.cell 8
        have wf0 := HWg.out.frozen 8
        have wl0 := HWg.out.lt
        rw [show (Rg.vals ⟨wf, g.pc⟩).toArray[8]? = some (.int .u32 g.pc) from rfl] at w0
        obtain ⟨Wh, hWh⟩ : ∃ Wh, Wh = Wg.setCell ⟨bW, 8, none⟩ (.int .u32 4) := ⟨_, rfl⟩
        have HWh : Hid (Blk Wh bW 26 (Rg.vals ⟨wf, 4⟩).toArray) := Lib.hid (by rw [hWh]; exact HWg.out.set_ 8 _)
        have HXh : Hid (Blk Wh bX 47 (resC ⟨wf, 4⟩ 2 9 0 ((nn : Int) - 2))) := Lib.hid (by rw [hWh]; exact HXg.out.far (by show bX ≠ bW; omega) _)
        have HBh : Hid (Below w.heap.size w Wh) := Lib.hid (by rw [hWh]; exact HBg.out.setCell (by show w.heap.size ≤ bW; omega) _)
        go_upto_region 20 with (fail)
        try rw [← hWh]
        clear hWh w0 wf0 wl0 HXg HWg HBg
        have HWk := Lib.hid HWh.out.drew
        have HXk := Lib.hid HXh.out.drew
        have HBk := Lib.hid HBh.out.drew
        refine wp_region_mixL (fun W => Blk W bX 47 (resC ⟨wf, 4⟩ 2 9 0 ((nn : Int) - 2)) ∧ Blk W bW 26 (Rg.vals ⟨wf, 4⟩).toArray) [4, 9, 14, 15, 16, 21, 23] [16] [0, 1, 2, 3, 4, 5, 6, 7, 8, 9, 10, 11, 12, 13, 14, 15, 16, 17, 18, 19, 20, 21, 22, 23, 24, 25, 26, 27] (by kernel_rfl) (by kernel_rfl) ⟨HXk.out, HWk.out⟩ ?_
        simp only [inOrder, opAt]
        generalize Wh.drew = Wk at *
        clear HWh HXh HBh
        have e44 := eq44_refl
        have wr2 : IntKind.i64.wrap ((nn : Int) - 2) = (nn : Int) - 2 := IntWalk.i64_in _ (by omega)
        iterate 16
          (refine wpMixS_read (v := ?_) rfl rfl (fun w' hS => ?_) ?_
           rotate_left
           · ((try (have t := hS rfl; obtain ⟨x0, x1, x2, x3, x4, x5, x6, x7, x8, x9, x10, x11, x12⟩ := CX.of t.1; have y0 : w'.cell? ⟨bW, 0, none⟩ = some (.int .u32 (wf 0)) := t.2.cell 0; have y1 : w'.cell? ⟨bW, 1, none⟩ = some (.int .u32 (wf 1)) := t.2.cell 1; have y2 : w'.cell? ⟨bW, 2, none⟩ = some (.int .u32 (wf 2)) := t.2.cell 2; have y3 : w'.cell? ⟨bW, 3, none⟩ = some (.int .u32 (wf 3)) := t.2.cell 3; have y4 : w'.cell? ⟨bW, 4, none⟩ = some (.int .u32 (wf 4)) := t.2.cell 4; have y5 : w'.cell? ⟨bW, 5, none⟩ = some (.int .u32 (wf 5)) := t.2.cell 5; have y6 : w'.cell? ⟨bW, 6, none⟩ = some (.int .u32 (wf 6)) := t.2.cell 6; have y7 : w'.cell? ⟨bW, 7, none⟩ = some (.int .u32 (wf 7)) := t.2.cell 7; have y8 : w'.cell? ⟨bW, 8, none⟩ = some (.int .u32 4) := t.2.cell 8; dsimp only at x0 x1 x2 x3 x4 x5 x6 x7 x8; clear t)); (try clear hS); go_simp; (try with_reducible rfl))
           try simp only [Act.put, List.setIfInBounds_toArray, List.set_cons_zero, List.set_cons_succ])
        refine wpMixS_eff rfl rfl (fun K hK => ?_)
        go_simp
        have hrg := HREG.out Wk ⟨wf, 4⟩
        unfold Rg.vals at hrg
        dsimp only at hrg
        refine hrg.mono ?_
        clear hrg
        rintro e Wl ⟨rfl, nb⟩
        have HXl := Lib.hid (HXk.out.below nb HXk.out.lt)
        have HWl := Lib.hid (HWk.out.below nb HWk.out.lt)
        have HBl := Lib.hid (HBk.out.trans (nb.mono HBk.out.size))
        clear nb
        dsimp only
        refine hK.out _ _ _ (fun _ h => h) (fun _ => ⟨HXl.out, HWl.out⟩) ?_
        clear hK K
        try simp only [Act.put, List.setIfInBounds_toArray, List.set_cons_zero, List.set_cons_succ]
        iterate 11
          (refine wpMixS_read (v := ?_) rfl rfl (fun w' hS => ?_) ?_
           rotate_left
           · ((try (have t := hS rfl; obtain ⟨x0, x1, x2, x3, x4, x5, x6, x7, x8, x9, x10, x11, x12⟩ := CX.of t.1; dsimp only at x0 x1 x2 x3 x4 x5 x6 x7 x8; clear t)); (try clear hS); go_simp; (try with_reducible rfl))
           try simp only [Act.put, List.setIfInBounds_toArray, List.set_cons_zero, List.set_cons_succ])
        refine wpMixS_nil ?_
        go_wp2_with fail
        go_ret
        exact ⟨rfl, HBl.out⟩
theorem cpuCalls_row (w : World) (v : Value) (l : List RI) (k : Int) (g : Rg) (hl : RdI w v l) (_ : ∀ x ∈ l, x.In) (hk : (Lit.int .u8 k).wf = true) (hg : g.Ok) (ho : Ops w) :
    Calls Tryd.prog 3 #[v, .int .u8 k, .agg g.vals.toArray] w fun e w' => e = .returned (.bool true) ∧ Below w.heap.size w w' := by
  obtain ⟨m, hm, rfl⟩ := u8_nat hk
  exact cpuCalls_any w v l m g hl hm hg ho
end Go.Proofs.YtpadpggdealgkaaDoorRRR
