/-
  Walks: a program's memory.
-/
import Derived.Test.YtpadpggdealgkaaDoorRRRCpN
import Derived.Test.YtpadpggdealgkaaDoorRRRMCe

namespace Go.Proofs.YtpadpggdealgkaaDoorRRR
open Go.RowKit
set_option linter.unusedVariables false
set_option linter.unusedSectionVars false
set_option linter.unusedSimpArgs false

structure RI where
  op : Int
  a : Int
  b : Int
  c : Int
def RI.cells (i : RI) : List Value := [.int .i64 i.op, .int .i64 i.a, .int .i64 i.b, .int .i64 i.c]
/-- A slice of instructions. -/
def RdI (w : World) (v : Value) (l : List RI) : Prop := ∃ A cap, v = .slice A l.length cap ∧ l.length ≤ maxLen ∧
  ∀ i (hi : i < l.length), ∃ b off, A = some ⟨b, off, none⟩ ∧ b < w.heap.size ∧ w.rangeAt b (off + i * 4) l[i].cells
theorem RdI.below {w w' : World} {v : Value} {l : List RI} (h : RdI w v l) (hb : Below w.heap.size w w') : RdI w' v l := by
  obtain ⟨A, cap, h1, h2, h3⟩ := h
  refine ⟨A, cap, h1, h2, fun i hi => ?_⟩
  obtain ⟨b, off, h5, h6, h7⟩ := h3 i hi
  refine ⟨b, off, h5, Nat.lt_of_lt_of_le h6 hb.size, fun j u hu => ?_⟩
  rw [← h7 j u hu]
  exact hb.cell (by exact h6)
structure Pg19 where
  l : List RI
  at_ : Nat
  by_ : ByteArray
  pages : Nat
  last : Bool
def bitP (pages i : Nat) : Bool := bits .and .u8 ((pages : Int) / 2 ^ i) 1 == 1
def mmA (pages : Nat) : Nat → Mm
  | 0 => mm0
  | i + 1 => { mmA pages i with th := upd (mmA pages i).th i (bitP pages i) }
/-- The bytes of one instruction. -/
def mmI (m : Mm) (i : Nat) (e : List UInt8) : Nat → Mm
  | 0 => m
  | k + 1 => ⟨upd (mmI m i e k).th ((4 * i + k) / 64) true, upd (mmI m i e k).b (4 * i + k) (e.getD k 0)⟩
def mmLs (m : Mm) (l : List RI) : Nat → Mm
  | 0 => m
  | i + 1 => match l[i]? with
    | some x => mmI (mmLs m l i) i (encL x.op x.a x.b x.c) 4
    | none => mmLs m l i
def mmY (m : Mm) (at_ : Nat) (t : ByteArray) : Nat → Mm
  | 0 => m
  | j + 1 => if (mmY m at_ t j).th ((at_ + j) % 4096 / 64) then { mmY m at_ t j with b := upd (mmY m at_ t j).b ((at_ + j) % 4096) (t.data.getD j 0) } else mmY m at_ t j
def mmLast (m : Mm) (b : Bool) : Mm := { m with th := upd m.th 63 b }
def memA (p : Pg19) : Mm := mmY (mmLs (mmLast (mmA p.pages 8) p.last) p.l (min p.l.length 100)) p.at_ p.by_ (min p.by_.size 200)
def pcells (p : Pg19) (v : Value) (g : Rg) : Array Value := (v :: .int .u16 p.at_ :: .string p.by_ :: .int .u8 p.pages :: .bool p.last :: g.vals).toArray
theorem encL_4 (op a b c : Int) : ∃ e0 e1 e2 e3, encL op a b c = [e0, e1, e2, e3] := by
  unfold encL
  split
  · exact ⟨_, _, _, _, rfl⟩
  · exact ⟨_, _, _, _, rfl⟩
/-- What stands while a memory is built. -/
structure MS (w0 w : World) (n : Nat) (pc : Array Value) (m : Mm) : Prop where
  pb : Blk w n 41 pc
  z : MB w (n + 1) mm0
  mb : MB w (n + 1 + 1) m
  bl : Below n w0 w
section
variable {w0 w w' : World} {n : Nat} {pc : Array Value} {m : Mm} {i : Nat}
theorem MS.below (h : MS w0 w n pc m) (hb : Below w.heap.size w w') : MS w0 w' n pc m :=
  ⟨h.pb.below hb h.pb.lt, h.z.below hb h.z.lt, h.mb.below hb h.mb.lt, h.bl.trans (hb.mono (Nat.le_of_lt h.pb.lt))⟩
theorem MS.s_th (h : MS w0 w n pc m) (hi : i < 64) (v : Bool) : MS w0 (w.setCell ⟨n + 1 + 1, i, none⟩ (.bool v)) n pc { m with th := upd m.th i v } :=
  ⟨h.pb.far (by show n ≠ n + 1 + 1; omega) _, h.z.far (by show n + 1 ≠ n + 1 + 1; omega) _, h.mb.s_th hi v, h.bl.setCell (by show n ≤ n + 1 + 1; omega) _⟩
theorem MS.s_b (h : MS w0 w n pc m) (hi : i < 4096) (v : UInt8) : MS w0 (w.setCell ⟨n + 1 + 1, 64 + i, none⟩ (.int .u8 v.toNat)) n pc { m with b := upd m.b i v } :=
  ⟨h.pb.far (by show n ≠ n + 1 + 1; omega) _, h.z.far (by show n + 1 ≠ n + 1 + 1; omega) _, h.mb.s_b hi v, h.bl.setCell (by show n ≤ n + 1 + 1; omega) _⟩
end
set_option maxRecDepth 100000 in
set_option maxHeartbeats 8000000 in
theorem memory_any (w : World) (p : Pg19) (v : Value) (g : Rg) (hl : RdI w v p.l) (hat : p.at_ < 65536) (hpg : p.pages < 256) (hby : p.by_.size ≤ maxLen) :
    Calls Tryd.prog 12 #[.agg (pcells p v g)] w fun e w' => e = .returned (.agg (mmC (memA p))) ∧ Below w.heap.size w w' := by
  obtain ⟨A, cap, hv, hlm, hls⟩ := hl
  subst hv
  have hz := z38
  unfold maxLen at hlm hby
  have HLS := Lib.hid hls
  obtain ⟨R, hR⟩ : ∃ R, R = memA p := ⟨_, rfl⟩
  rw [← hR]
  have HR : Hid (mmY (mmLs (mmLast (mmA p.pages 8) p.last) p.l (min p.l.length 100)) p.at_ p.by_ (min p.by_.size 200) = R) := Lib.hid hR.symm
  obtain ⟨pc, hpc⟩ : ∃ pc, pc = pcells p (.slice A p.l.length cap) g := ⟨_, rfl⟩
  rw [← hpc]
  have HPC := Lib.hid hpc
  have hs : MS w (((w.alloc (.cells pc 41)).alloc (.cells (mmC mm0) 38)).alloc (.cells (mmC mm0) 38)) w.heap.size pc mm0 := by
    obtain ⟨h1, h2⟩ := two_blk w pc (mmC mm0) 41 38
    have h0 := (Blk.new w 41 pc).alloc (.cells (mmC mm0) 38)
    have h3 := Blk.new ((w.alloc (.cells pc 41)).alloc (.cells (mmC mm0) 38)) 38 (mmC mm0)
    rw [show ((w.alloc (.cells pc 41)).alloc (.cells (mmC mm0) 38)).heap.size = w.heap.size + 1 + 1 by simp] at h3
    exact ⟨h0.alloc _, h1.alloc _, h3, h2.alloc (by simp; omega) _⟩
  have HS := Lib.hid hs
  clear hls hR hpc hs
  go_enter Tryd.func12, Tryd.ntmps12
  go_upto_region 2 with (fail)
  generalize ((w.alloc (.cells pc 41)).alloc (.cells (mmC mm0) 38)).alloc (.cells (mmC mm0) 38) = W0 at *
  clear hz
  obtain ⟨n, hn⟩ : ∃ n, n = w.heap.size := ⟨_, rfl⟩
  rw [← hn] at HS ⊢
  have HN := Lib.hid hn
  clear hn
  have hpb : ∀ wr m, MS w wr n pc m → wr.cell? ⟨n, 0, none⟩ = some (.slice A p.l.length cap) ∧ wr.cell? ⟨n, 1, none⟩ = some (.int .u16 p.at_) ∧ wr.cell? ⟨n, 2, none⟩ = some (.string p.by_) ∧ wr.cell? ⟨n, 3, none⟩ = some (.int .u8 p.pages) ∧ wr.cell? ⟨n, 4, none⟩ = some (.bool p.last) := fun wr m h => by
    have := h.pb
    rw [HPC.out] at this
    exact ⟨this.cell 0, this.cell 1, this.cell 2, this.cell 3, this.cell 4⟩
  have HPB := Lib.hid hpb
  clear hpb
  go_upto_region 3 with (fail)
  go_loopg [4] (8) (fun q iv wr => ∃ i : Nat, q = 8 - i ∧ i ≤ 8 ∧ iv = .int .i64 i ∧ MS w wr n pc (mmA p.pages i))
  case atStart => exact ⟨0, rfl, by omega, rfl, HS.out⟩
  case round =>
    clear HS
    obtain ⟨i, rfl, hi, rfl, hs⟩ := hrel
    have HS := Lib.hid hs
    clear hs
    by_cases hlt : i < 8
    · have i1 : (i : Int) < 8 := by omega
      have i2 : (i : Int) < 64 := by omega
      have i0 : (0 : Int) ≤ i := by omega
      have c3 := (HPB.out _ _ HS.out).2.2.2.1
      have c4 := HS.out.mb.c_th (p := i) (by omega)
      have f4 := HS.out.mb.frozen i
      go_wp2_with fail
      go_roundg (8 - (i + 1))
      case measure => omega
      case rel => exact ⟨i + 1, rfl, by omega, by go_num, HS.out.s_th (by omega) _⟩
    · obtain rfl : i = 8 := by omega
      have c1 := (HPB.out _ _ HS.out).2.2.2.2
      have c4 := HS.out.mb.c_th (p := 63) (by omega)
      have f4 := HS.out.mb.frozen 63
      have HS1 := Lib.hid (HS.out.s_th (i := 63) (by omega) p.last)
      go_upto_region 8 with (fail)
      generalize wr.setCell ⟨n + 1 + 1, 63, none⟩ (.bool p.last) = W1 at *
      clear c1 c4 f4 HS
      have HS1 : Hid (MS w W1 n pc (mmLast (mmA p.pages 8) p.last)) := HS1
      generalize mmLast (mmA p.pages 8) p.last = m1 at *
      go_loopg [5] (min p.l.length 100) (fun q iv wr => ∃ i : Nat, q = min p.l.length 100 - i ∧ i ≤ min p.l.length 100 ∧ iv = .int .i64 i ∧ MS w wr n pc (mmLs m1 p.l i))
      case atStart => exact ⟨0, rfl, by omega, rfl, HS1.out⟩
      case round =>
        clear HS1
        obtain ⟨i, rfl, hi, rfl, hs⟩ := hrel
        have HS := Lib.hid hs
        clear hs
        have c0 := (HPB.out _ _ HS.out).1
        by_cases hlt : i < min p.l.length 100
        · have hil : i < p.l.length := by omega
          have i1 : (i : Int) < (p.l.length : Int) := by omega
          have i2 : (i : Int) < 100 := by omega
          have i3 : i < p.l.length := hil
          obtain ⟨b, off, rfl, hb, hrg⟩ := HLS.out i hil
          have hst : mmLs m1 p.l (i + 1) = mmI (mmLs m1 p.l i) i (encL p.l[i].op p.l[i].a p.l[i].b p.l[i].c) 4 := by
            conv => lhs; unfold mmLs
            rw [List.getElem?_eq_getElem hil]
          generalize p.l[i] = x at *
          have hbw : b < n := by rw [HN.out]; exact hb
          have k0 : wr.cell? ⟨b, off + i * 4, none⟩ = some (.int .i64 x.op) := (HS.out.bl.cell (by exact hbw)).trans (hrg 0 _ rfl)
          have k1 : wr.cell? ⟨b, off + i * 4 + 1, none⟩ = some (.int .i64 x.a) := (HS.out.bl.cell (by exact hbw)).trans (hrg 1 _ rfl)
          have k2 : wr.cell? ⟨b, off + i * 4 + 2, none⟩ = some (.int .i64 x.b) := (HS.out.bl.cell (by exact hbw)).trans (hrg 2 _ rfl)
          have k3 : wr.cell? ⟨b, off + i * 4 + 3, none⟩ = some (.int .i64 x.c) := (HS.out.bl.cell (by exact hbw)).trans (hrg 3 _ rfl)
          have HST := Lib.hid hst
          clear hst hrg
          go_wp2_with fail
          refine (encode_any refCheck_any wr x.op x.a x.b x.c).mono ?_
          rintro e w1 ⟨rfl, nb⟩
          have HS2 := Lib.hid (HS.out.below nb)
          obtain ⟨e0, e1, e2, e3, hel⟩ := encL_4 x.op x.a x.b x.c
          rw [hel] at HST ⊢
          obtain ⟨kk, hkk⟩ : ∃ kk : Nat, kk = checkI x.op x.a x.b x.c := ⟨_, rfl⟩
          rw [← hkk]
          have hen : (bsA [e0, e1, e2, e3] : Array Value) = #[.int .u8 (e0.toNat : Nat), .int .u8 (e1.toNat : Nat), .int .u8 (e2.toNat : Nat), .int .u8 (e3.toNat : Nat)] := rfl
          rw [hen]
          have hb7 : Blk (w1.alloc (.cells #[.int .u8 (e0.toNat : Nat), .int .u8 (e1.toNat : Nat), .int .u8 (e2.toNat : Nat), .int .u8 (e3.toNat : Nat)] 78)) w1.heap.size 78 (bsA [e0, e1, e2, e3]) := Blk.new _ _ _
          have HB7 := Lib.hid hb7
          have HS3 := Lib.hid (HS2.out.below ((Below.refl _ _).alloc (Nat.le_refl _) (.cells #[.int .u8 (e0.toNat : Nat), .int .u8 (e1.toNat : Nat), .int .u8 (e2.toNat : Nat), .int .u8 (e3.toNat : Nat)] 78)))
          have hne7 : n + 1 + 1 < w1.heap.size := HS2.out.mb.lt
          clear hb7 nb HS2 HS hel hkk hen c0 k0 k1 k2 k3
          dsimp only
          go_upto_region 12 with (fail)
          generalize w1.alloc (.cells #[.int .u8 (e0.toNat : Nat), .int .u8 (e1.toNat : Nat), .int .u8 (e2.toNat : Nat), .int .u8 (e3.toNat : Nat)] 78) = W2 at *
          generalize w1.heap.size = eb at *
          generalize mmLs m1 p.l i = m2 at *
          go_loopg [8] 4 (fun q iv wr => ∃ k : Nat, q = 4 - k ∧ k ≤ 4 ∧ iv = .int .i64 k ∧ MS w wr n pc (mmI m2 i [e0, e1, e2, e3] k) ∧ Blk wr eb 78 (bsA [e0, e1, e2, e3]))
          case atStart => exact ⟨0, rfl, by omega, rfl, HS3.out, HB7.out⟩
          case round =>
            clear HS3 HB7
            obtain ⟨k, rfl, hk, rfl, hs, hb7⟩ := hrel
            have HS := Lib.hid hs
            have HB7 := Lib.hid hb7
            clear hs hb7
            by_cases hlt2 : k < 4
            · have j1 : (k : Int) < 4 := by omega
              obtain ⟨z, hz⟩ : ∃ z : Nat, z = 4 * i + k := ⟨_, rfl⟩
              obtain ⟨y, hy⟩ : ∃ y : Nat, y = z / 64 := ⟨_, rfl⟩
              have y1 : 4 * (i : Int) + k = (z : Int) := by omega
              have y2 : (z : Int) / 64 = (y : Int) := by omega
              have y3 : (y : Int) < 64 := by omega
              have y4 : (z : Int) < 4096 := by omega
              have y5 : (0 : Int) ≤ (z : Int) := by omega
              have y6 : (z : Int).tdiv 64 = (y : Int) := by rw [Int.tdiv_eq_ediv_of_nonneg y5]; exact y2
              have c4 := HS.out.mb.c_th (p := y) (by omega)
              have f4 := HS.out.mb.frozen y
              have HS4 := Lib.hid (HS.out.s_th (i := y) (by omega) true)
              have hek : ([e0, e1, e2, e3] : List UInt8)[k]? = some (([e0, e1, e2, e3] : List UInt8).getD k 0) := by
                rw [List.getD_eq_getElem?_getD, List.getElem?_eq_getElem (by exact hlt2)]
                rfl
              have hek2 : (bsA [e0, e1, e2, e3])[k]? = some (.int .u8 ((([e0, e1, e2, e3] : List UInt8).getD k 0).toNat : Nat)) := by
                unfold bsA bs
                rw [List.getElem?_toArray, List.getElem?_map, hek]
                rfl
              obtain ⟨ek, hek3⟩ : ∃ ek, ek = ([e0, e1, e2, e3] : List UInt8).getD k 0 := ⟨_, rfl⟩
              rw [← hek3] at hek2
              have HB8 := Lib.hid (HB7.out.far (p := ⟨n + 1 + 1, y, none⟩) (by show eb ≠ n + 1 + 1; omega) (.bool true))
              have c5 : (wr.setCell ⟨n + 1 + 1, y, none⟩ (.bool true)).cell? ⟨eb, k, none⟩ = some (.int .u8 (ek.toNat : Nat)) := (HB8.out.cell k).trans hek2
              have c6 := HS4.out.mb.c_b (i := z) (by omega)
              have f6 := HS4.out.mb.frozen (64 + z)
              have HS5 := Lib.hid (HS4.out.s_b (i := z) (by omega) ek)
              have HB9 := Lib.hid (HB8.out.far (p := ⟨n + 1 + 1, 64 + z, none⟩) (by show eb ≠ n + 1 + 1; omega) (.int .u8 (ek.toNat : Nat)))
              have HEK := Lib.hid hek3
              have HZ := Lib.hid hz
              have HY := Lib.hid hy
              clear hek hek2 hek3 hz hy
              go_wp2_with fail
              go_roundg (4 - (k + 1))
              case measure => omega
              case rel =>
                refine ⟨k + 1, rfl, by omega, by go_num, ?_, HB9.out⟩
                have h5 := HS5.out
                rw [HEK.out, HY.out, HZ.out] at h5
                rw [HEK.out, HY.out, HZ.out]
                exact h5
            · obtain rfl : k = 4 := by omega
              go_wp2_with fail
              go_roundg (min p.l.length 100 - (i + 1))
              case measure => omega
              case rel => exact ⟨i + 1, rfl, by omega, by go_num, by rw [HST.out]; exact HS.out⟩
        · have hi2 : i = min p.l.length 100 := by omega
          have HR2 : Hid (mmY (mmLs m1 p.l i) p.at_ p.by_ (min p.by_.size 200) = R) := Lib.hid (by rw [hi2]; exact HR.out)
          clear HR HLS
          generalize mmLs m1 p.l i = m2 at *
          have hex : (p.l.length : Int) ≤ (i : Int) ∨ ((i : Int) < (p.l.length : Int) ∧ (100 : Int) ≤ (i : Int)) := by
            by_cases h : i < p.l.length
            · exact .inr ⟨by omega, by omega⟩
            · exact .inl (by omega)
          clear hi2 hlt
          rcases hex with hx1 | ⟨hx1, hx2⟩
          · go_upto_region 17 with (fail)
            clear c0
            go_loopg [9] (min p.by_.size 200) (fun q iv wr => ∃ j : Nat, q = min p.by_.size 200 - j ∧ j ≤ min p.by_.size 200 ∧ iv = .int .i64 j ∧ MS w wr n pc (mmY m2 p.at_ p.by_ j))
            case atStart => exact ⟨0, rfl, by omega, rfl, HS.out⟩
            case round =>
              clear HS
              obtain ⟨j, rfl, hj, rfl, hs⟩ := hrel
              have HS := Lib.hid hs
              clear hs
              have b2 := (HPB.out _ _ HS.out).2.2.1
              have b1 := (HPB.out _ _ HS.out).2.1
              by_cases hlt : j < min p.by_.size 200
              · have i1 : (j : Int) < (p.by_.size : Int) := by omega
                have i2 : (j : Int) < 200 := by omega
                have i3 : j < p.by_.size := by omega
                obtain ⟨z, hz⟩ : ∃ z : Nat, z = (p.at_ + j) % 4096 := ⟨_, rfl⟩
                obtain ⟨y, hy⟩ : ∃ y : Nat, y = z / 64 := ⟨_, rfl⟩
                have y0 : (p.at_ : Int) < 65536 := by omega
                have y1 : ((p.at_ : Int) + j) % 4096 = (z : Int) := by omega
                have y7 : ((p.at_ : Int) + j).tmod 4096 = (z : Int) := by rw [Int.tmod_eq_emod_of_nonneg (by omega)]; exact y1
                have y2 : (z : Int) / 64 = (y : Int) := by omega
                have y3 : (y : Int) < 64 := by omega
                have y4 : (z : Int) < 4096 := by omega
                have y5 : (0 : Int) ≤ (z : Int) := by omega
                have y6 : (z : Int).tdiv 64 = (y : Int) := by rw [Int.tdiv_eq_ediv_of_nonneg y5]; exact y2
                have c4 := HS.out.mb.c_th (p := y) (by omega)
                have c6 := HS.out.mb.c_b (i := z) (by omega)
                have f6 := HS.out.mb.frozen (64 + z)
                have hstep : mmY m2 p.at_ p.by_ (j + 1) = if (mmY m2 p.at_ p.by_ j).th y then { mmY m2 p.at_ p.by_ j with b := upd (mmY m2 p.at_ p.by_ j).b z (p.by_[j]'i3) } else mmY m2 p.at_ p.by_ j := by
                  rw [hy, hz]
                  conv => lhs; unfold mmY
                  have : p.by_.data.getD j 0 = p.by_[j]'i3 := by
                    rw [Array.getD_eq_getD_getElem?, Array.getElem?_eq_getElem (by exact i3)]
                    rfl
                  rw [this]
                have HST := Lib.hid hstep
                clear hz hy hstep
                cases ht : (mmY m2 p.at_ p.by_ j).th y with
                | true =>
                  rw [ht] at c4 HST
                  have HS5 := Lib.hid (HS.out.s_b (i := z) (by omega) (p.by_[j]'i3))
                  clear ht
                  go_wp2_with fail
                  go_roundg (min p.by_.size 200 - (j + 1))
                  case measure => omega
                  case rel => exact ⟨j + 1, rfl, by omega, by go_num, by rw [HST.out]; exact HS5.out⟩
                | false =>
                  rw [ht] at c4 HST
                  clear ht
                  go_wp2_with fail
                  go_roundg (min p.by_.size 200 - (j + 1))
                  case measure => omega
                  case rel => exact ⟨j + 1, rfl, by omega, by go_num, by rw [HST.out]; exact HS.out⟩
              · have hj2 : j = min p.by_.size 200 := by omega
                have hf : mmY m2 p.at_ p.by_ j = R := by rw [hj2]; exact HR2.out
                rw [hf] at HS
                have hex : (p.by_.size : Int) ≤ (j : Int) ∨ ((j : Int) < (p.by_.size : Int) ∧ (200 : Int) ≤ (j : Int)) := by
                  by_cases h : j < p.by_.size
                  · exact .inr ⟨by omega, by omega⟩
                  · exact .inl (by omega)
                clear hf hj2 hlt
                rcases hex with hx3 | ⟨hx3, hx4⟩
                · go_wp2_with (first
                    | (with_reducible refine load_M HS.out.mb rfl (.tmp 3) rfl rfl ?_)
                    | (refine store_M HS.out.z rfl (.tmp 2) (.tmp 97) rfl rfl rfl ?_; intro w5 hk5 hf5))
                  refine end_cell rfl rfl hk5 Tryd.underlying38 rfl (by rw [mmC_size]; exact info38) ⟨rfl, ?_⟩
                  rw [← HN.out]
                  exact belowFr HS.out.bl hf5 (Nat.le_succ _) (by rw [HN.out]; exact Nat.le_refl _)
                · go_wp2_with (first
                    | (with_reducible refine load_M HS.out.mb rfl (.tmp 3) rfl rfl ?_)
                    | (refine store_M HS.out.z rfl (.tmp 2) (.tmp 97) rfl rfl rfl ?_; intro w5 hk5 hf5))
                  refine end_cell rfl rfl hk5 Tryd.underlying38 rfl (by rw [mmC_size]; exact info38) ⟨rfl, ?_⟩
                  rw [← HN.out]
                  exact belowFr HS.out.bl hf5 (Nat.le_succ _) (by rw [HN.out]; exact Nat.le_refl _)
          · go_upto_region 17 with (fail)
            clear c0
            go_loopg [9] (min p.by_.size 200) (fun q iv wr => ∃ j : Nat, q = min p.by_.size 200 - j ∧ j ≤ min p.by_.size 200 ∧ iv = .int .i64 j ∧ MS w wr n pc (mmY m2 p.at_ p.by_ j))
            case atStart => exact ⟨0, rfl, by omega, rfl, HS.out⟩
            case round =>
              clear HS
              obtain ⟨j, rfl, hj, rfl, hs⟩ := hrel
              have HS := Lib.hid hs
              clear hs
              have b2 := (HPB.out _ _ HS.out).2.2.1
              have b1 := (HPB.out _ _ HS.out).2.1
              by_cases hlt : j < min p.by_.size 200
              · have i1 : (j : Int) < (p.by_.size : Int) := by omega
                have i2 : (j : Int) < 200 := by omega
                have i3 : j < p.by_.size := by omega
                obtain ⟨z, hz⟩ : ∃ z : Nat, z = (p.at_ + j) % 4096 := ⟨_, rfl⟩
                obtain ⟨y, hy⟩ : ∃ y : Nat, y = z / 64 := ⟨_, rfl⟩
                have y0 : (p.at_ : Int) < 65536 := by omega
                have y1 : ((p.at_ : Int) + j) % 4096 = (z : Int) := by omega
                have y7 : ((p.at_ : Int) + j).tmod 4096 = (z : Int) := by rw [Int.tmod_eq_emod_of_nonneg (by omega)]; exact y1
                have y2 : (z : Int) / 64 = (y : Int) := by omega
                have y3 : (y : Int) < 64 := by omega
                have y4 : (z : Int) < 4096 := by omega
                have y5 : (0 : Int) ≤ (z : Int) := by omega
                have y6 : (z : Int).tdiv 64 = (y : Int) := by rw [Int.tdiv_eq_ediv_of_nonneg y5]; exact y2
                have c4 := HS.out.mb.c_th (p := y) (by omega)
                have c6 := HS.out.mb.c_b (i := z) (by omega)
                have f6 := HS.out.mb.frozen (64 + z)
                have hstep : mmY m2 p.at_ p.by_ (j + 1) = if (mmY m2 p.at_ p.by_ j).th y then { mmY m2 p.at_ p.by_ j with b := upd (mmY m2 p.at_ p.by_ j).b z (p.by_[j]'i3) } else mmY m2 p.at_ p.by_ j := by
                  rw [hy, hz]
                  conv => lhs; unfold mmY
                  have : p.by_.data.getD j 0 = p.by_[j]'i3 := by
                    rw [Array.getD_eq_getD_getElem?, Array.getElem?_eq_getElem (by exact i3)]
                    rfl
                  rw [this]
                have HST := Lib.hid hstep
                clear hz hy hstep
                cases ht : (mmY m2 p.at_ p.by_ j).th y with
                | true =>
                  rw [ht] at c4 HST
                  have HS5 := Lib.hid (HS.out.s_b (i := z) (by omega) (p.by_[j]'i3))
                  clear ht
                  go_wp2_with fail
                  go_roundg (min p.by_.size 200 - (j + 1))
                  case measure => omega
                  case rel => exact ⟨j + 1, rfl, by omega, by go_num, by rw [HST.out]; exact HS5.out⟩
                | false =>
                  rw [ht] at c4 HST
                  clear ht
                  go_wp2_with fail
                  go_roundg (min p.by_.size 200 - (j + 1))
                  case measure => omega
                  case rel => exact ⟨j + 1, rfl, by omega, by go_num, by rw [HST.out]; exact HS.out⟩
              · have hj2 : j = min p.by_.size 200 := by omega
                have hf : mmY m2 p.at_ p.by_ j = R := by rw [hj2]; exact HR2.out
                rw [hf] at HS
                have hex : (p.by_.size : Int) ≤ (j : Int) ∨ ((j : Int) < (p.by_.size : Int) ∧ (200 : Int) ≤ (j : Int)) := by
                  by_cases h : j < p.by_.size
                  · exact .inr ⟨by omega, by omega⟩
                  · exact .inl (by omega)
                clear hf hj2 hlt
                rcases hex with hx3 | ⟨hx3, hx4⟩
                · go_wp2_with (first
                    | (with_reducible refine load_M HS.out.mb rfl (.tmp 3) rfl rfl ?_)
                    | (refine store_M HS.out.z rfl (.tmp 2) (.tmp 97) rfl rfl rfl ?_; intro w5 hk5 hf5))
                  refine end_cell rfl rfl hk5 Tryd.underlying38 rfl (by rw [mmC_size]; exact info38) ⟨rfl, ?_⟩
                  rw [← HN.out]
                  exact belowFr HS.out.bl hf5 (Nat.le_succ _) (by rw [HN.out]; exact Nat.le_refl _)
                · go_wp2_with (first
                    | (with_reducible refine load_M HS.out.mb rfl (.tmp 3) rfl rfl ?_)
                    | (refine store_M HS.out.z rfl (.tmp 2) (.tmp 97) rfl rfl rfl ?_; intro w5 hk5 hf5))
                  refine end_cell rfl rfl hk5 Tryd.underlying38 rfl (by rw [mmC_size]; exact info38) ⟨rfl, ?_⟩
                  rw [← HN.out]
                  exact belowFr HS.out.bl hf5 (Nat.le_succ _) (by rw [HN.out]; exact Nat.le_refl _)
end Go.Proofs.YtpadpggdealgkaaDoorRRR

/-
  Walks: a space with the memory of the reference.
-/
namespace Go.Proofs.YtpadpggdealgkaaDoorRRR
open Go.RowKit
set_option linter.unusedVariables false
set_option linter.unusedSectionVars false
set_option linter.unusedSimpArgs false

def pgL (m : Mm) (i : Nat) : List UInt8 := (List.range 64).map fun j => m.b (64 * i + j)
theorem pgL_length (m : Mm) (i : Nat) : (pgL m i).length = 64 := by unfold pgL; simp
theorem padL_64 (l : List UInt8) (h : l.length = 64) : padL l = l := by
  unfold padL
  rw [← h, List.take_left]
def ownA (m : Mm) (k : Nat) : AS := ⟨none, fun p => decide (p < k) && m.th p, fun _ => false, fun p => decide (p < k) && m.th p, fun p => if p < k ∧ m.th p = true then some (pgL m p) else none⟩
theorem own_zero (m : Mm) : ownA m 0 = newA := by
  unfold ownA newA
  congr 1 <;> funext p <;> simp
theorem own_skip (m : Mm) (k : Nat) (h : m.th k = false) : ownA m (k + 1) = ownA m k := by
  have e : ∀ p, (decide (p < k + 1) && m.th p) = (decide (p < k) && m.th p) := fun p => by
    by_cases hp : p = k
    · subst hp; rw [h]; simp
    · rw [show decide (p < k + 1) = decide (p < k) from decide_eq_decide.2 (by omega)]
  have e2 : ∀ p, (p < k + 1 ∧ m.th p = true) ↔ (p < k ∧ m.th p = true) := fun p => by
    have := e p
    by_cases hp : p = k
    · subst hp; simp [h]
    · constructor
      · rintro ⟨a, b⟩; exact ⟨by omega, b⟩
      · rintro ⟨a, b⟩; exact ⟨by omega, b⟩
  unfold ownA
  congr 1
  · funext p; exact e p
  · funext p; exact e p
  · funext p; simp only [e2]
theorem own_map (m : Mm) (k : Nat) (hk : k < 64) (h : m.th k = true) : mapA (ownA m k) k (pgL m k) = (ownA m (k + 1), 0) := by
  have hn : needA (ownA m k) k = { ownA m k with known := upd (ownA m k).known k true } := by
    unfold needA
    rw [if_neg (by unfold ownA; simp)]
    rfl
  unfold mapA
  rw [if_neg (by omega), if_neg (by rw [pgL_length]; omega)]
  have e0 : ((k : Nat) : Int).toNat = k := by omega
  rw [e0, hn, if_neg (by unfold ownA; simp)]
  congr 1
  unfold putA ownA
  rw [padL_64 _ (pgL_length m k)]
  have e1 : upd (fun p => decide (p < k) && m.th p) k true = fun p => decide (p < k + 1) && m.th p := by
    funext p
    by_cases e : p = k
    · subst e; rw [upd_at, h]; simp
    · rw [upd_ne _ _ _ _ e, show decide (p < k + 1) = decide (p < k) from decide_eq_decide.2 (by omega)]
  have e2 : upd (fun p => if p < k ∧ m.th p = true then some (pgL m p) else none) k (some (pgL m k)) = fun p => if p < k + 1 ∧ m.th p = true then some (pgL m p) else none := by
    funext p
    by_cases e : p = k
    · subst e; rw [upd_at, if_pos ⟨by omega, h⟩]
    · rw [upd_ne _ _ _ _ e]
      by_cases hp : p < k ∧ m.th p = true
      · rw [if_pos hp, if_pos ⟨by omega, hp.2⟩]
      · rw [if_neg hp, if_neg (fun c => hp ⟨by omega, c.2⟩)]
  dsimp only
  rw [e1, e2]
section
variable {C : Source} {B : Nat} {w w' : World} {sps : Nat → Option Sp} {hm : Pages} {g : Nat} {s : Sp}
theorem All.gone (h : All C B w sps hm) (hg : w.heap.size ≤ g) : sps g = none := by
  cases hs : sps g with
  | none => rfl
  | some s => have := (h.blk _ s hs).1.lt; omega
theorem All.add (h : All C B w sps hm) (hk : Keeps C B) (hB : B ≤ w.heap.size) (hb : Below w.heap.size w w') (hg : w.heap.size ≤ g) (hbl : Blk w' g 97 (spCells emptySp)) : All C B w' (upd sps g (some emptySp)) hm := by
  have h1 := h.below hk hb
  refine ⟨⟨fun k x hx => ?_, h1.mem, fun k x hx p q hq => ?_, fun k x k' x' p q r b hx hx' hr hr' hh => ?_⟩, fun x hx => ?_, fun k x hx hne => ?_, fun k x hx p hp => ?_⟩
  · rcases upd_some _ _ _ _ _ hx with ⟨rfl, rfl⟩ | ⟨hne, hx⟩
    · exact ⟨hbl, by omega⟩
    · exact h1.blk k x hx
  · rcases upd_some _ _ _ _ _ hx with ⟨rfl, rfl⟩ | ⟨hne, hx⟩
    · cases hq
    · exact h1.ref k x hx p q hq
  · rcases upd_some _ _ _ _ _ hx with ⟨rfl, rfl⟩ | ⟨hne, hx⟩
    · cases hr
    · rcases upd_some _ _ _ _ _ hx' with ⟨rfl, rfl⟩ | ⟨hne', hx'⟩
      · cases hr'
      · exact h1.own k x k' x' p q r b hx hx' hr hr' hh
  · rcases upd_some _ _ _ _ _ hx with ⟨_, rfl⟩ | ⟨hne, hx⟩
    · exact .inl rfl
    · exact h1.env x hx
  · rcases upd_some _ _ _ _ _ hx with ⟨_, rfl⟩ | ⟨hne', hx⟩
    · rfl
    · exact h1.nosrc k x hx hne
  · rcases upd_some _ _ _ _ _ hx with ⟨_, rfl⟩ | ⟨hne', hx⟩
    · exact ⟨rfl, rfl⟩
    · exact h1.inv k x hx p hp
theorem slice_at (W : World) (b o k : Nat) (hk : k < 64) : (Instr.sliceAt 36 (.pointer (some ⟨b, o, none⟩)) (some (.int .i64 (64 * (k : Int)))) (some (.int .i64 (64 * (k : Int) + 64))) none).run Tryd.prog W = .ok (.slice (some ⟨b, o + 64 * k, none⟩) 64 (4096 - 64 * k)) W := by
  have hl : Tryd.prog.arrayLen 36 = 4096 := by kernel_rfl
  have he : Tryd.prog.elem 36 = 5 := by kernel_rfl
  have hz : (sizeOf 5).run Tryd.prog W = .ok 1 W := by kernel_rfl
  rw [run_sliceAt_array_lh W 36 ⟨b, o, none⟩ (by rw [hl, he]; exact Tryd.underlying36) .i64 .i64 (64 * (k : Int)) (64 * (k : Int) + 64) (by omega) (by omega) (by rw [hl]; omega), hl, he, hz]
  show Result.ok (slicedAt _ _ _ _ _) W = _
  unfold slicedAt
  rw [show ((64 : Int) * k).toNat = 64 * k by omega, show ((64 : Int) * k + 64).toNat = 64 * k + 64 by omega, if_neg (by omega), Addr.add_mid, Nat.mul_one, show 64 * k + 64 - 64 * k = 64 by omega]
/-- One more space. -/
def Own (C : Source) (B : Nat) (sps : Nat → Option Sp) (hm : Pages) (w : World) (g : Nat) (a : AS) (w' : World) : Prop :=
  ∃ s' hm', All C B w' (upd sps g (some s')) hm' ∧ view C hm' s' = a ∧ (∀ k x, sps k = some x → view C hm' x = view C hm x) ∧ Mv B C.X w w'
set_option maxRecDepth 100000 in
set_option maxHeartbeats 4000000 in
theorem own_any (ok : SourceOk C B) (h : All C B w sps hm) (hB : B ≤ w.heap.size) (hX : ∀ k, C.X k → k < w.heap.size) (m : Mm) :
    Calls Tryd.prog 11 #[.agg (mmC m)] w fun e w' => ∃ g, e = .returned (.tuple #[.pointer (some ⟨g, 0, none⟩), .bool true]) ∧ w.heap.size ≤ g ∧ Own C B sps hm w g (ownA m 64) w' := by
  have hb1 := Blk.new w 38 (mmC m)
  have hl1 : Below w.heap.size w (w.alloc (.cells (mmC m) 38)) := (Below.refl _ _).alloc (Nat.le_refl _) _
  have HB1 := Lib.hid hb1
  have HL1 := Lib.hid hl1
  have HH := Lib.hid h
  have HOK := Lib.hid ok
  clear hb1 hl1 h ok
  go_enter Tryd.func11, Tryd.ntmps11
  go_upto_region 1 with (fail)
  have hz1 : (w.alloc (.cells (mmC m) 38)).heap.size = w.heap.size + 1 := by simp
  generalize w.alloc (.cells (mmC m) 38) = W1 at *
  go_wp2_with fail
  refine (new_nil W1).mono ?_
  rintro e w2 ⟨rfl, hb, nb⟩
  obtain ⟨g, hg⟩ : ∃ g, g = W1.heap.size + 1 := ⟨_, rfl⟩
  rw [← hg] at hb ⊢
  have hA : All C B w2 (upd sps g (some emptySp)) hm := (HH.out.below HOK.out.keeps HL1.out).add HOK.out.keeps (by omega) nb (by omega) hb
  have hO : Own C B sps hm w g (ownA m 0) w2 := ⟨emptySp, hm, hA, by rw [own_zero]; rfl, fun _ _ _ => rfl, (Mv.of_below HL1.out).trans (Mv.of_below nb)⟩
  have HO := Lib.hid hO
  have HM2 : Hid (MB w2 w.heap.size m) := Lib.hid (HB1.out.below nb HB1.out.lt)
  have hgw : w.heap.size ≤ g := by omega
  clear hb nb hA hO HB1 HL1 hz1 hg
  unfold ptrV
  dsimp only [Option.map_some]
  go_upto_region 3 with (fail)
  go_loopg [5] (64) (fun q iv wr => ∃ k : Nat, q = 64 - k ∧ k ≤ 64 ∧ iv = .int .i64 k ∧ Own C B sps hm w g (ownA m k) wr ∧ MB wr w.heap.size m)
  case atStart => exact ⟨0, rfl, by omega, rfl, HO.out, HM2.out⟩
  case round =>
    clear HO HM2
    obtain ⟨k, rfl, hk, rfl, ho, hm2⟩ := hrel
    have HO := Lib.hid ho
    have HM := Lib.hid hm2
    clear ho hm2
    by_cases hlt : k < 64
    · have i1 : (k : Int) < 64 := by omega
      have i0 : (0 : Int) ≤ k := by omega
      have c1 := HM.out.c_th hlt
      cases hth : m.th k with
      | false =>
        rw [hth] at c1
        have hsk := own_skip m k hth
        clear hth
        go_wp2_with fail
        go_roundg (64 - (k + 1))
        case measure => omega
        case rel => exact ⟨k + 1, rfl, by omega, by go_num, by rw [hsk]; exact HO.out, HM.out⟩
      | true =>
        rw [hth] at c1
        have hmp := own_map m k hlt hth
        clear hth
        have i2 : (64 : Int) * k + 64 ≤ 4096 := by omega
        have i3 : (64 : Int) * k ≤ 64 * k + 64 := by omega
        have HMP := Lib.hid hmp
        clear hmp
        have hsa := slice_at wr w.heap.size 64 k hlt
        have hcv : (convert 54 9 (.slice (some ⟨w.heap.size, 64 + 64 * k, none⟩) 64 (4096 - 64 * k))).run Tryd.prog wr = .ok (.string ⟨(pgL m k).toArray⟩) wr := by
          refine run_convert_string (B := w.heap.size + 1) Tryd.underlying54 Tryd.underlying5 Tryd.underlying9 ⟨some ⟨w.heap.size, 64 + 64 * k, none⟩, 4096 - 64 * k, by rw [pgL_length], by rw [pgL_length]; omega, by unfold maxLen; omega, by rw [bs_length, pgL_length], fun _ => ⟨_, rfl, Nat.lt_succ_self _, fun j u hu => ?_⟩⟩
          have hj : j < 64 := by
            have := (List.getElem?_eq_some_iff.1 hu).1
            rw [bs_length, pgL_length] at this
            exact this
          have hu2 : (bs (pgL m k))[j]? = some (.int .u8 ((m.b (64 * k + j)).toNat : Nat)) := by
            unfold bs pgL
            rw [List.map_map, List.getElem?_map, List.getElem?_range hj]
            rfl
          rw [hu2] at hu
          injection hu with hu
          rw [← hu]
          rw [Addr.add_mid, Nat.add_assoc]
          exact HM.out.c_b (by omega)
        obtain ⟨s1, hm1, hA1, hv1, ho1, hmv1⟩ := HO.out
        have hmap := map_all HOK.out hA1 (upd_at _ _ _) (k : Int) ⟨(pgL m k).toArray⟩ (by show (pgL m k).toArray.size ≤ _; rw [List.size_toArray, pgL_length]; omega) (Nat.le_trans hB hmv1.size)
        rw [hv1] at hmap
        have htl : (⟨(pgL m k).toArray⟩ : ByteArray).data.toList = pgL m k := by simp
        rw [htl, HMP.out] at hmap
        have HMAP := Lib.hid hmap
        have HO1 := Lib.hid ho1
        have HMV1 := Lib.hid hmv1
        clear hmap hA1 hv1 ho1 hmv1 HO htl HMP
        go_wp2_with fail
        refine HMAP.out.mono ?_
        rintro e w3 ⟨s3, hm3, hA3, hv3, ho3, hmv3, hK⟩
        unfold ErrK at hK
        subst hK
        have HO3 : Hid (Own C B sps hm w g (ownA m (k + 1)) w3) := Lib.hid ⟨s3, hm3, by rw [upd_upd] at hA3; exact hA3, hv3, fun k' x hx => by
          have hne : k' ≠ g := fun e => by rw [e, HH.out.gone hgw] at hx; cases hx
          exact (ho3 k' x hne (by rw [upd_ne _ _ _ _ hne]; exact hx)).trans (HO1.out k' x hx), HMV1.out.trans hmv3⟩
        have HM3 : Hid (MB w3 w.heap.size m) := Lib.hid (hmv3.blk HM.out (by decide) (by decide) (fun hx => by have := hX _ hx; omega))
        clear hA3 hv3 ho3 hmv3 HMAP HM HO1 HMV1 hcv hsa
        dsimp only
        go_wp2_with fail
        go_roundg (64 - (k + 1))
        case measure => omega
        case rel => exact ⟨k + 1, rfl, by omega, by go_num, HO3.out, HM3.out⟩
    · obtain rfl : k = 64 := by omega
      have hq := ptr23_neq
      go_wp2_with fail
      go_ret2
      exact ⟨g, rfl, hgw, HO.out⟩
end
end Go.Proofs.YtpadpggdealgkaaDoorRRR

/-
  Walks: the laws' known; registers, Resume and Interrupt.
-/
namespace Go.Proofs.YtpadpggdealgkaaDoorRRR
open Go.RowKit
set_option linter.unusedVariables false
set_option linter.unusedSectionVars false
set_option linter.unusedSimpArgs false

def kL : List RI := [⟨2, 1, 0, 5⟩, ⟨2, 2, 0, 7⟩, ⟨4, 0, 1, 2⟩, ⟨26, 0, 0, 3⟩]
def kP : Pg19 := ⟨kL, 0, ⟨#[]⟩, 0, false⟩
def g0 : Rg := ⟨fun _ => 0, 0⟩
theorem g0_ok : g0.Ok := ⟨fun _ => Int.le_refl _, fun _ => (by decide : (0 : Int) < 4294967296), Int.le_refl _, by decide⟩
def kR : RunR := runA 10 g0 (ownA (memA kP) 64)
theorem k_run : (kR.e.why, kR.e.num, kR.g.r 0, kR.g.pc, kR.n) = ((2 : Int), (3 : Int), (12 : Int), (12 : Int), 3) := by kernel_rfl
theorem loopA_ok : ∀ (f n : Nat) {g : Rg} (a : AS), g.Ok → (loopA f n g a).g.Ok
  | 0, _, _, _, h => h
  | f + 1, n, g, a, h => by
    rw [loopA_s]
    split
    · exact loopA_ok f (n + 1) _ (stepA_ok h a)
    · exact stepA_ok h a
theorem runA_ok (m : Nat) {g : Rg} (a : AS) (h : g.Ok) : (runA m g a).g.Ok := loopA_ok m 0 a h
theorem kL_read (w : World) (b : Nat) (h : Blk w b 28 #[.int .i64 2, .int .i64 1, .int .i64 0, .int .i64 5, .int .i64 2, .int .i64 2, .int .i64 0, .int .i64 7, .int .i64 4, .int .i64 0, .int .i64 1, .int .i64 2, .int .i64 26, .int .i64 0, .int .i64 0, .int .i64 3]) : RdI w (.slice (some ⟨b, 0, none⟩) 4 4) kL := by
  refine ⟨_, _, rfl, by decide, fun i hi => ⟨b, 0, rfl, h.lt, fun j u hu => ?_⟩⟩
  have hi : i < 4 := hi
  have hj : j < 4 := (List.getElem?_eq_some_iff.1 hu).1
  rw [Nat.zero_add, h.cell]
  match i, hi, j, hj with
  | 0, _, 0, _ | 0, _, 1, _ | 0, _, 2, _ | 0, _, 3, _ => exact hu
  | 1, _, 0, _ | 1, _, 1, _ | 1, _, 2, _ | 1, _, 3, _ => exact hu
  | 2, _, 0, _ | 2, _, 1, _ | 2, _, 2, _ | 2, _, 3, _ => exact hu
  | 3, _, 0, _ | 3, _, 1, _ | 3, _, 2, _ | 3, _, 3, _ => exact hu
theorem info41 : (Tryd.prog.info? 41).map (·.size) = some 14 := by kernel_rfl
theorem field_pc (a b c d e f g h p : Int) (W : World) : (Instr.field 44 (.agg #[.int .u32 a, .int .u32 b, .int .u32 c, .int .u32 d, .int .u32 e, .int .u32 f, .int .u32 g, .int .u32 h, .int .u32 p]) 1).run Tryd.prog W = .ok (.int .u32 p) W := by kernel_rfl
theorem all_none (C : Source) (B : Nat) (w : World) : All C B w (fun _ => none) (fun _ => none) :=
  ⟨⟨fun _ _ h => (by cases h), fun _ _ _ h => (by cases h), fun _ _ h => (by cases h), fun _ _ _ _ _ _ _ _ h => (by cases h)⟩, fun _ h => (by cases h), fun _ _ h => (by cases h), fun _ _ h => (by cases h)⟩
theorem mach0 : MachOk C0 := fun _ _ _ _ _ _ _ h => h.elim
theorem ty0 (t : Nat) : TyOk C0 t := fun _ _ _ _ _ h => h.elim
set_option maxRecDepth 100000 in
theorem resume_any (w : World) (g : Rg) (v : Int) (hg : g.Ok) : Calls Tryd.prog 23 #[.agg g.vals.toArray, .int .u32 v] w fun e w' => e = .returned (.agg (Rg.vals ⟨upd g.r 0 v, (g.pc + 4) % 4294967296⟩).toArray) ∧ Below w.heap.size w w' := by
  obtain ⟨hg0, hg1, hp0, hp1⟩ := hg
  unfold Rg.vals
  clear hg0 hg1
  go_enter Tryd.func23, Tryd.ntmps23
  go_wp2_with fail
  exact end_cell rfl rfl (two_blk _ _ _ _ _).1 Tryd.underlying44 rfl info44 ⟨rfl, (two_blk _ _ _ _ _).2⟩
set_option maxRecDepth 100000 in
theorem registers_any (w : World) (g : Rg) : Calls Tryd.prog 14 #[.agg g.vals.toArray] w fun e w' => e = .returned (.agg g.vals.toArray) ∧ Below w.heap.size w w' := by
  unfold Rg.vals
  go_enter Tryd.func14, Tryd.ntmps14
  go_wp2_with fail
  exact end_cell rfl rfl (two_blk _ _ _ _ _).1 Tryd.underlying44 rfl info44 ⟨rfl, (two_blk _ _ _ _ _).2⟩
set_option maxRecDepth 100000 in
theorem interrupt_any (w : World) (g : Rg) (v : Int) (hg : g.Ok) : Calls Tryd.prog 24 #[.agg g.vals.toArray, .int .u32 v] w fun e w' => e = .returned (.agg (Rg.vals ⟨upd g.r 7 g.pc, v⟩).toArray) ∧ Below w.heap.size w w' := by
  obtain ⟨hg0, hg1, hp0, hp1⟩ := hg
  unfold Rg.vals
  clear hg0 hg1
  go_enter Tryd.func24, Tryd.ntmps24
  go_wp2_with fail
  exact end_cell rfl rfl (two_blk _ _ _ _ _).1 Tryd.underlying44 rfl info44 ⟨rfl, (two_blk _ _ _ _ _).2⟩
set_option maxRecDepth 100000 in
set_option maxHeartbeats 4000000 in
theorem known_any (w : World) (ho : Ops w) : Calls Tryd.prog 13 #[] w fun e w' => e = .returned (.bool true) ∧ Below w.heap.size w w' := by
  have HOP := Lib.hid ho
  clear ho
  go_enter Tryd.func13, Tryd.ntmps13
  go_upto_region 2 with (fail)
  have hR1 := (Blk.new w 28 #[.int .i64 2, .int .i64 1, .int .i64 0, .int .i64 5, .int .i64 2, .int .i64 2, .int .i64 0, .int .i64 7, .int .i64 4, .int .i64 0, .int .i64 1, .int .i64 2, .int .i64 26, .int .i64 0, .int .i64 0, .int .i64 3]).alloc (.cells #[.slice (some ⟨w.heap.size, 0, none⟩) 4 4, .int .u16 0, .string ⟨#[]⟩, .int .u8 0, .bool false, .int .u32 0, .int .u32 0, .int .u32 0, .int .u32 0, .int .u32 0, .int .u32 0, .int .u32 0, .int .u32 0, .int .u32 0] 41)
  obtain ⟨hR2, hB2⟩ := two_blk w #[.int .i64 2, .int .i64 1, .int .i64 0, .int .i64 5, .int .i64 2, .int .i64 2, .int .i64 0, .int .i64 7, .int .i64 4, .int .i64 0, .int .i64 1, .int .i64 2, .int .i64 26, .int .i64 0, .int .i64 0, .int .i64 3] #[.slice (some ⟨w.heap.size, 0, none⟩) 4 4, .int .u16 0, .string ⟨#[]⟩, .int .u8 0, .bool false, .int .u32 0, .int .u32 0, .int .u32 0, .int .u32 0, .int .u32 0, .int .u32 0, .int .u32 0, .int .u32 0, .int .u32 0] 28 41
  have HRD := Lib.hid (kL_read _ _ hR1)
  have HR2 := Lib.hid hR2
  have HB2 := Lib.hid hB2
  clear hR1 hR2 hB2
  generalize (w.alloc (.cells #[.int .i64 2, .int .i64 1, .int .i64 0, .int .i64 5, .int .i64 2, .int .i64 2, .int .i64 0, .int .i64 7, .int .i64 4, .int .i64 0, .int .i64 1, .int .i64 2, .int .i64 26, .int .i64 0, .int .i64 0, .int .i64 3] 28)).alloc (.cells #[.slice (some ⟨w.heap.size, 0, none⟩) 4 4, .int .u16 0, .string ⟨#[]⟩, .int .u8 0, .bool false, .int .u32 0, .int .u32 0, .int .u32 0, .int .u32 0, .int .u32 0, .int .u32 0, .int .u32 0, .int .u32 0, .int .u32 0] 41) = W0 at *
  go_wp2_with (refine wpList_load_blk rfl 41 (.tmp 1) rfl (w.heap.size + 1) rfl HR2.out _ Tryd.underlying41 rfl info41 ?_)
  refine (memory_any W0 kP (.slice (some ⟨w.heap.size, 0, none⟩) 4 4) g0 HRD.out (by decide) (by decide) (by decide)).mono ?_
  rintro e w1 ⟨rfl, nb1⟩
  have HB3 : Hid (Below w.heap.size w w1) := Lib.hid (HB2.out.trans (nb1.mono HB2.out.size))
  clear nb1 HRD HR2 HB2
  dsimp only
  go_wp2_with fail
  refine (own_any (ok0 w1.heap.size) (all_none C0 w1.heap.size w1) (Nat.le_refl _) (fun _ h => h.elim) (memA kP)).mono ?_
  rintro e w2 ⟨gs, rfl, hgs, s2, hm2, hA2, hv2, ho2, hmv2⟩
  have hbw : Below w1.heap.size w1 w2 := hmv2.below (Nat.le_refl _)
  have HB4 : Hid (Below w.heap.size w w2) := Lib.hid (HB3.out.trans (hbw.mono HB3.out.size))
  have hlw := HOP.out.1
  have hz1 := HB3.out.size
  have hrun := run_any (ok0 w1.heap.size) mach0 (ty0 47) hA2 (upd_at _ _ _) g0_ok hbw.size (fun _ h => h.elim) (HOP.out.below HB4.out hlw) (by omega) 10 (by decide)
  rw [hv2] at hrun
  have HRUN := Lib.hid hrun
  clear hrun hA2 hv2 ho2 hmv2 HB3
  dsimp only
  go_wp2_with fail
  refine HRUN.out.mono ?_
  rintro e w3 ⟨rfl, s3, hm3, hA3, hv3, ho3, hmv3, _⟩
  have HB5 : Hid (Below w.heap.size w w3) := Lib.hid (HB4.out.trans ((hmv3.below hbw.size).mono hz1))
  clear hA3 hv3 ho3 hmv3 HRUN HB4 hbw
  have hkr := k_run
  have hgo : kR.g.Ok := runA_ok _ _ g0_ok
  have hkk : runA 10 g0 (ownA (memA kP) 64) = kR := rfl
  rw [hkk]
  clear hkk
  generalize kR = R at *
  obtain ⟨g, a, ⟨why, num, adr⟩, n⟩ := R
  dsimp only at hkr hgo ⊢
  simp only [Prod.mk.injEq] at hkr
  obtain ⟨rfl, rfl, hr0, hpc, rfl⟩ := hkr
  unfold resV resL Rg.vals
  dsimp only [List.cons_append, List.nil_append]
  rw [hr0, hpc]
  have hrs := fun w => resume_any w g 0 hgo
  unfold Rg.vals at hrs
  dsimp only at hrs
  rw [hr0, hpc] at hrs
  have HRS := Lib.hid hrs
  clear hrs hgo
  go_wp2_with fail
  refine (HRS.out _).mono ?_
  rintro e w4 ⟨rfl, nb⟩
  have HB6 : Hid (Below w.heap.size w w4) := Lib.hid ((HB5.out.alloc (by exact HB5.out.size) _).trans (nb.mono (by simp; have := HB5.out.size; omega)))
  clear nb HRS
  have hfd := field_pc
  dsimp only
  go_wp2_with fail
  go_ret
  exact ⟨rfl, HB6.out⟩
end Go.Proofs.YtpadpggdealgkaaDoorRRR
