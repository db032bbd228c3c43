/-
  Walks: Load.
-/
import Derived.Test.YtkoomlbnfhdhcaaGreatDoorMSb
import Derived.Deep.MidRow
namespace Go.Proofs.YtkoomlbnfhdhcaaGreatDoor
open Go.RowKit
set_option linter.unusedVariables false

theorem info5 : (Tryz.prog.info? 5).map (fun i => (i.zero, i.size, i.bytes)) = some (some (.int .u8 0), 1, 1) := by kernel_rfl
theorem run_make_bytes (n : Nat) (hn : n ≤ 4000000) (W : World) : (Instr.makeSlice 24 (.int .i64 (n : Int)) (.int .i64 (n : Int))).run Tryz.prog W = .ok (.slice (some ⟨W.heap.size, 0, none⟩) n n) (W.alloc (.cells (madeCells #[.int .u8 0] n) 5)) := by
  obtain ⟨i0, hi, hz0, hz1, hz2⟩ := info_parts info5
  have := run_make (P := Tryz.prog) W 24 5 i0 (.int .u8 0) Tryz.underlying24 hi hz0 .i64 .i64 n n (by omega) (Int.le_refl _) (by rw [hz2]; omega) (by omega)
  rw [hz1] at this
  simpa [Value.cells] using this
theorem made_bytes (n : Nat) : madeCells #[.int .u8 0] n = (bs (List.replicate n 0)).toArray := by
  refine Array.ext' ?_
  rw [toList_madeCells_one]
  unfold bs
  rw [List.map_replicate]
  rfl
/-- The first k bytes of b, and zeros. -/
def outL (b : List UInt8) (m k : Nat) : List UInt8 := b.take k ++ List.replicate (m - k) 0
theorem outL_zero (b : List UInt8) (m : Nat) : outL b m 0 = List.replicate m 0 := by simp [outL]
theorem outL_all (b : List UInt8) (m : Nat) (h : b.length = m) : outL b m m = b := by simp [outL, ← h]
theorem outL_length (b : List UInt8) (m k : Nat) (h : b.length = m) (hk : k ≤ m) : (outL b m k).length = m := by
  unfold outL; rw [List.length_append, List.length_take, List.length_replicate]; omega
theorem outL_set (b : List UInt8) (m k : Nat) (h : b.length = m) (hk : k < m) : (outL b m k).set k (b.getD k 0) = outL b m (k + 1) := by
  unfold outL
  have ht : (b.take k).length = k := by rw [List.length_take]; omega
  rw [List.set_append_right _ _ (by omega), ht, Nat.sub_self, show m - k = (m - (k + 1)) + 1 by omega, List.replicate_succ, List.set_cons_zero, List.take_succ_eq_append_getElem (by omega), List.append_assoc,
    List.getD_eq_getElem?_getD, List.getElem?_eq_getElem (by omega)]
  rfl
theorem bs_set (l : List UInt8) (k : Nat) (x : UInt8) : ((bs l).toArray).setIfInBounds k (.int .u8 x.toNat) = (bs (l.set k x)).toArray := by
  rw [List.setIfInBounds_toArray]
  congr 1
  unfold bs
  rw [List.map_set]

/-- A byte of a space. -/
def byteA (a : AS) (x : Nat) : UInt8 := ((a.page (x / 64)).getD []).getD (x % 64) 0
def bytesA (a : AS) (x n : Nat) : List UInt8 := (List.range n).map fun i => byteA a (x + i)
/-- Load: the space behind it, the bytes, the error. -/
def loadA (a : AS) (at_ n : Int) : AS × List UInt8 × Nat :=
  if n < 0 then (a, [], 2) else ((accessA a at_ n).1, if (accessA a at_ n).2 = 0 then bytesA (accessA a at_ n).1 at_.toNat n.toNat else [], (accessA a at_ n).2)
def LoadK (e : Ending) (b : List UInt8) (r : Nat) : Sp → Pages → Prop := fun _ _ => e = .returned (.tuple #[.string ⟨b.toArray⟩, .int .i64 r])

/-- .. and if all pages are known nothing changes. -/
def LoadKM (e : Ending) (b : List UInt8) (r : Nat) (s : Sp) (hm : Pages) : Sp → Pages → Prop := fun s' hm' => LoadK e b r s' hm' ∧ (Kn s → s' = s ∧ hm' = hm)
theorem ptr23_some (W : World) (q : Nat) : (binOp BinOp.eql 45 (.pointer (some ⟨q, 0, none⟩)) (.pointer none)).run Tryz.prog W = .ok (.bool false) W := by kernel_rfl

section
variable {C : Source} {B : Nat} {w w' : World} {sps : Nat → Option Sp} {hm : Pages} {g : Nat} {s : Sp}
theorem All.below (h : All C B w sps hm) (hk : Keeps C B) (hb : Below w.heap.size w w') : All C B w' sps hm :=
  ⟨⟨fun k x hx => ⟨(h.blk k x hx).1.below hb (h.blk k x hx).1.lt, (h.blk k x hx).2⟩, fun q b sh hq => ⟨(h.mem q b sh hq).1, (h.mem q b sh hq).2.1.below hb (h.mem q b sh hq).2.1.lt, (h.mem q b sh hq).2.2⟩, h.ref, h.own⟩,
    fun x hx => (h.env x hx).imp id fun e => ⟨e.1, hk _ _ _ e.2 (Mv.of_below (B := B) (X := NoX) hb).toE⟩, h.nosrc, h.inv⟩
theorem Stp.self (h : All C B w sps hm) (hg : sps g = some s) {K : Sp → Pages → Prop} (hK : K s hm) : Stp C B sps hm g (view C hm s) w w K := by
  have hs : upd sps g (some s) = sps := upd_same _ _ _ hg
  exact ⟨s, hm, by rw [hs]; exact h, rfl, fun _ _ _ _ => rfl, Mv.refl _ _ _, hK⟩

set_option maxRecDepth 100000 in
set_option maxHeartbeats 8000000 in
theorem load_more (ok : SourceOk C B) (h : All C B w sps hm) (hg : sps g = some s) (at_ n : Int) (hn1 : n ≤ 140737488355328) (ha1 : -9223372036854775808 ≤ at_) (ha2 : at_ ≤ 9223372036854775807) (hB : B ≤ w.heap.size) :
    Calls Tryz.prog 93 #[.pointer (some ⟨g, 0, none⟩), .int .i64 at_, .int .i64 n] w fun e w' => Stp C B sps hm g (loadA (view C hm s) at_ n).1 w w' (LoadKM e (loadA (view C hm s) at_ n).2.1 (loadA (view C hm s) at_ n).2.2 s hm) := by
  have hq := ptr23_some
  by_cases hneg : n < 0
  · have hr : loadA (view C hm s) at_ n = (view C hm s, [], 2) := by unfold loadA; rw [if_pos hneg]
    rw [hr]
    have HS := Lib.hid (fun e (he : LoadK e [] 2 s hm) => Stp.self (K := LoadKM e [] 2 s hm) h hg ⟨he, fun _ => ⟨rfl, rfl⟩⟩)
    have e1 : decide (n < 0) = true := decide_eq_true hneg
    clear hr
    go_enter Tryz.func93, Tryz.ntmps93
    go_wp2_with fail
    go_ret2
    exact HS.out _ rfl
  · have e1 : decide (n < 0) = false := decide_eq_false hneg
    have hr : loadA (view C hm s) at_ n = ((accessA (view C hm s) at_ n).1, if (accessA (view C hm s) at_ n).2 = 0 then bytesA (accessA (view C hm s) at_ n).1 at_.toNat n.toNat else [], (accessA (view C hm s) at_ n).2) := by unfold loadA; rw [if_neg hneg]
    rw [hr]
    have HAC := Lib.hid (access_more ok h hg at_ n (by omega) hn1 ha1 ha2 hB)
    have hrange : (accessA (view C hm s) at_ n).2 = 0 → n = 0 ∨ (0 ≤ at_ ∧ 1 ≤ n ∧ at_ + n ≤ 4096) := fun h0 => by
      by_cases c0 : n = 0
      · exact .inl c0
      · unfold accessA at h0
        rw [if_neg c0] at h0
        by_cases c1 : at_ < 0 ∨ 4096 ≤ at_ ∨ 4096 - at_ < n
        · rw [if_pos c1] at h0; cases h0
        · exact .inr (by omega)
    have HRG := Lib.hid hrange
    clear hr hrange
    generalize accessA (view C hm s) at_ n = R at *
    obtain ⟨a', r⟩ := R
    dsimp only at HAC HRG ⊢
    obtain ⟨bb, hbb⟩ : ∃ bb, bb = if r = 0 then bytesA a' at_.toNat n.toNat else [] := ⟨_, rfl⟩
    rw [← hbb]
    have HBB := Lib.hid hbb
    clear hbb
    go_enter Tryz.func93, Tryz.ntmps93
    go_wp2_with fail
    refine HAC.out.mono ?_
    rintro e w1 ⟨s1, hm1, hA1, hv1, ho1, hmv1, ⟨rfl, hpg⟩, hkn⟩
    have HKN := Lib.hid hkn
    clear hkn
    dsimp only
    have HA1 := Lib.hid hA1
    have HV1 := Lib.hid hv1
    have HO1 := Lib.hid ho1
    have HPG := Lib.hid hpg
    have hsz1 := hmv1.size
    have HMV1 := Lib.hid hmv1
    clear hA1 hv1 ho1 hpg hmv1 HAC
    by_cases hr0 : r = 0
    · subst hr0
      rcases HRG.out rfl with hn0 | ⟨hx0, hn0, hx1⟩
      · subst hn0
        have hbb := HBB.out
        rw [if_pos rfl] at hbb
        have hb0 : bb = [] := by rw [hbb]; rfl
        subst hb0
        have hmk : ∀ W, (Instr.makeSlice 24 (.int .i64 0) (.int .i64 0)).run Tryz.prog W = .ok (.slice (some ⟨W.heap.size, 0, none⟩) 0 0) (W.alloc (.cells (bs []).toArray 5)) := fun W => by
          have := run_make_bytes 0 (by omega) W
          rw [made_bytes] at this
          exact this
        have hb1 : Below w1.heap.size w1 (w1.alloc (.cells (bs []).toArray 5)) := (Below.refl _ _).alloc (Nat.le_refl _) _
        have hconv : ∀ W, (convert 24 9 (.slice (some ⟨w1.heap.size, 0, none⟩) 0 0)).run Tryz.prog W = .ok (.string ⟨([] : List UInt8).toArray⟩) W := fun W =>
          run_convert_string (B := w1.heap.size + 1) Tryz.underlying24 Tryz.underlying5 Tryz.underlying9 ⟨some ⟨w1.heap.size, 0, none⟩, 0, rfl, by simp, by simp [maxLen], by simp [bs], fun h => by simp at h⟩
        have HB1 := Lib.hid hb1
        clear hb1 hbb HBB HRG HPG
        go_upto_region 10 with (fail)
        generalize w1.alloc (.cells (bs []).toArray 5) = W1 at *
        go_loopg [26] 0 (fun q iv wr => wr = W1 ∧ iv = .int .i64 0)
        case atStart => exact ⟨rfl, rfl⟩
        case round =>
          obtain ⟨rfl, rfl⟩ := hrel
          go_wp2_with fail
          go_ret2
          exact ⟨s1, hm1, HA1.out.below ok.keeps HB1.out, HV1.out, HO1.out, HMV1.out.trans (Mv.of_below HB1.out), rfl, HKN.out⟩
      · obtain ⟨x, rfl⟩ : ∃ x : Nat, at_ = x := ⟨at_.toNat, by omega⟩
        obtain ⟨m, rfl⟩ : ∃ m : Nat, n = m := ⟨n.toNat, by omega⟩
        have hbb := HBB.out
        rw [if_pos rfl, Int.toNat_natCast, Int.toNat_natCast] at hbb
        have HB2 := Lib.hid hbb
        clear hbb HBB
        have hmk := run_make_bytes m (by omega)
        have hbl : bb.length = m := by rw [HB2.out]; unfold bytesA; rw [List.length_map, List.length_range]
        go_upto_region 10 with (fail)
        have hn1 := Blk.new w1 5 (madeCells #[.int .u8 0] m)
        rw [made_bytes, ← outL_zero bb m] at hn1
        rw [made_bytes, ← outL_zero bb m]
        have hbel : Below w1.heap.size w1 (w1.alloc (.cells (bs (outL bb m 0)).toArray 5)) := (Below.refl _ _).alloc (Nat.le_refl _) _
        have HN1 := Lib.hid hn1
        have HBE := Lib.hid hbel
        clear hn1 hbel hmk
        generalize w1.alloc (.cells (bs (outL bb m 0)).toArray 5) = W1 at *
        obtain ⟨o, ho⟩ : ∃ o : Nat, o = w1.heap.size := ⟨_, rfl⟩
        rw [← ho] at HN1 ⊢
        have HO := Lib.hid ho
        clear ho
        go_loopg [26] m (fun q iv wr => ∃ k : Nat, iv = .int .i64 k ∧ q = m - k ∧ k ≤ m ∧ Blk wr o 5 (bs (outL bb m k)).toArray ∧ Fr [o] W1 wr)
        case atStart => exact ⟨0, rfl, rfl, Nat.zero_le _, HN1.out, Fr.refl _ _⟩
        case round =>
          obtain ⟨k, rfl, rfl, hk, hblk, hfr⟩ := hrel
          have hbelow : Below w1.heap.size w1 wr := HBE.out.trans (hfr.below (by have := HBE.out.size; omega) (by simp [HO.out]))
          have HBW := Lib.hid hbelow
          clear hbelow
          by_cases hlt : k < m
          · have i1 : (k : Int) < m := by omega
            obtain ⟨P, hP⟩ : ∃ P : Nat, P = (x + k) / 64 := ⟨_, rfl⟩
            obtain ⟨Q, hQ⟩ : ∃ Q : Nat, Q = (x + k) % 64 := ⟨_, rfl⟩
            have d1 : ((x : Int) + k) / 64 = (P : Int) := by omega
            have d2 : ((x : Int) + k) % 64 = (Q : Int) := by omega
            have hP64 : P < 64 := by omega
            have hQ64 : Q < 64 := by omega
            have hso := HPG.out (by first | rfl | trivial) (k : Int) (by omega) (by omega)
            rw [d1, Int.toNat_natCast] at hso
            obtain ⟨r, hpr⟩ := Option.isSome_iff_exists.1 hso
            have hgr : upd sps g (some s1) g = some s1 := upd_at _ _ _
            obtain ⟨⟨b0, sh0⟩, hmr⟩ := HA1.out.ref g s1 hgr P r hpr
            obtain ⟨hbl0, hbr, _⟩ := HA1.out.mem r b0 sh0 hmr
            have hbg := (HA1.out.blk g s1 hgr).1
            have c1 : wr.cell? ⟨g, 193 + P, none⟩ = some (.pointer (some ⟨r, 0, none⟩)) := by
              rw [(hbg.below HBW.out hbg.lt).cell, sp_pg s1 P hP64, hpr]; rfl
            have c2 : wr.cell? ⟨r, Q, none⟩ = some (.int .u8 (b0.getD Q 0).toNat) := by
              rw [(hbr.below HBW.out hbr.lt).cell, held_byte b0 sh0 Q (by omega)]
            have hby : bb.getD k 0 = b0.getD Q 0 := by
              rw [HB2.out]
              unfold bytesA
              rw [List.getD_eq_getElem?_getD, List.getElem?_map, List.getElem?_range hlt]
              show byteA a' (x + k) = _
              unfold byteA
              rw [← hP, ← hQ, ← HV1.out]
              show ((pageOf hm1 (s1.pg P)).getD []).getD Q 0 = _
              rw [hpr]
              show (((hm1 r).map _).getD []).getD Q 0 = _
              rw [hmr]
              rfl
            have hst := outL_set bb m k hbl hlt
            rw [hby] at hst
            have hs2 := hblk.set_ k (.int .u8 (b0.getD Q 0).toNat)
            rw [bs_set, hst] at hs2
            have HS2 := Lib.hid hs2
            have f1 := hblk.frozen k
            have c3 : wr.cell? ⟨o, k, none⟩ = some (.int .u8 ((outL bb m k).getD k 0).toNat) := by
              have hl := outL_length bb m k hbl (by omega)
              rw [hblk.cell, List.getElem?_toArray, bs_get, List.getElem?_eq_getElem (by omega), List.getD_eq_getElem?_getD, List.getElem?_eq_getElem (by omega)]
              rfl
            have zo := hblk.lt
            clear hso hpr hmr hbl0 hbr hbg hby hst hs2 hgr hP hQ
            go_wp2_with fail
            go_roundg (m - (k + 1))
            case measure => omega
            case rel => exact ⟨k + 1, by go_num, rfl, by omega, HS2.out, hfr.setCell (.inl (by simp)) _⟩
          · obtain rfl : k = m := by omega
            have i1 : decide ((k : Int) < k) = false := decide_eq_false (by omega)
            have hconv : (convert 24 9 (.slice (some ⟨o, 0, none⟩) k k)).run Tryz.prog wr = .ok (.string ⟨bb.toArray⟩) wr := by
              have hrd : RdB wr (o + 1) (.slice (some ⟨o, 0, none⟩) k k) bb := by
                refine ⟨some ⟨o, 0, none⟩, k, by rw [hbl], by omega, by unfold maxLen; omega, ?_⟩
                rw [hbl]
                refine ⟨by rw [bs_length, hbl, Nat.mul_one], fun _ => ⟨_, rfl, by show o < _; omega, fun j u hu => ?_⟩⟩
                rw [add_at0, hblk.cell, outL_all bb k hbl, List.getElem?_toArray]
                exact hu
              exact run_convert_string Tryz.underlying24 Tryz.underlying5 Tryz.underlying9 hrd
            clear hblk hfr HB2
            go_wp2_with fail
            go_ret2
            exact ⟨s1, hm1, HA1.out.below ok.keeps HBW.out, HV1.out, HO1.out, HMV1.out.trans (Mv.of_below HBW.out), rfl, HKN.out⟩
    · have e2 : ((r : Int) != 0) = true := bne_iff_ne.2 (by omega)
      have e3 : ((r : Int) == 0) = false := beq_eq_false_iff_ne.2 (by omega)
      have hbb := HBB.out
      rw [if_neg hr0] at hbb
      have HB2 := Lib.hid hbb
      clear hr0 hbb HBB
      go_wp2_with fail
      go_ret2
      exact ⟨s1, hm1, HA1.out, HV1.out, HO1.out, HMV1.out, by rw [HB2.out]; rfl, HKN.out⟩
theorem load_all (ok : SourceOk C B) (h : All C B w sps hm) (hg : sps g = some s) (at_ n : Int) (hn1 : n ≤ 140737488355328) (ha1 : -9223372036854775808 ≤ at_) (ha2 : at_ ≤ 9223372036854775807) (hB : B ≤ w.heap.size) :
    Calls Tryz.prog 93 #[.pointer (some ⟨g, 0, none⟩), .int .i64 at_, .int .i64 n] w fun e w' => Stp C B sps hm g (loadA (view C hm s) at_ n).1 w w' (LoadK e (loadA (view C hm s) at_ n).2.1 (loadA (view C hm s) at_ n).2.2) :=
  (load_more ok h hg at_ n hn1 ha1 ha2 hB).mono fun e w' h => h.weak fun _ _ h => h.1
end
end Go.Proofs.YtkoomlbnfhdhcaaGreatDoor

/-
  Words for rows that are loaded whole; own.
-/
namespace Go.Proofs.YtkoomlbnfhdhcaaGreatDoor
open Go.RowKit
set_option linter.unusedVariables false

theorem foldl_set (off : Nat) : ∀ (l : List Value) (k : Nat) (cells : Array Value), off + k + l.length ≤ cells.size →
    ((l.zipIdx k).foldl (fun cs (x : Value × Nat) => cs.setIfInBounds (off + x.2) x.1) cells).toList = cells.toList.take (off + k) ++ l ++ cells.toList.drop (off + k + l.length)
  | [], k, cells, _ => by simp
  | v :: l, k, cells, h => by
    rw [List.length_cons] at h
    rw [List.zipIdx_cons, List.foldl_cons, foldl_set off l (k + 1) _ (by rw [Array.size_setIfInBounds]; omega)]
    have hsz : cells.toList.length = cells.size := Array.length_toList
    rw [Array.toList_setIfInBounds, List.length_cons]
    have h1 : (cells.toList.set (off + k) v).take (off + (k + 1)) = cells.toList.take (off + k) ++ [v] := by
      rw [show off + (k + 1) = (off + k) + 1 by omega, List.take_succ_eq_append_getElem (by rw [List.length_set]; omega), List.take_set_of_le (Nat.le_refl _)]
      simp
    have h2 : (cells.toList.set (off + k) v).drop (off + (k + 1) + l.length) = cells.toList.drop (off + k + (l.length + 1)) := by
      rw [List.drop_set_of_lt (by omega)]
      congr 1
      omega
    rw [h1, h2]
    simp
theorem build_held (W : World) (b : List UInt8) (hb : b.length = 64) : (Instr.build 125 #[(0, .agg (bs b).toArray)]).run Tryz.prog W = .ok (.agg (heldCells b false)) W := by
  have hz := z91 W
  have hu := run_underlying Tryz.underlying125 W
  have hm : ∀ W, (Array.mapM (fun (f : Field) => do let n ← sizeOf f.type; pure (f.offset, n)) #[({ name := "bytes", type := 123, offset := 0, embedded := false, tag := "", pkgPath := "replevin/space", byteOffset := 0 } : Field), { name := "shared", type := 4, offset := 64, embedded := false, tag := "", pkgPath := "replevin/space", byteOffset := 64 }] : Sem (Array (Nat × Nat))).run Tryz.prog W = .ok #[(0, 64), (64, 1)] W := fun W => by kernel_rfl
  unfold Instr.build
  simp only [Sem.run_bind, hz, hu, Result.andThen_ok, hm]
  have hzl := zeros_length
  generalize zeros = Z at *
  have hfill : Instr.fill (fun x => (#[(0, 64), (64, 1)] : Array (Nat × Nat))[x]?) (Value.agg (heldCells Z false)).cells [(0, Value.agg (bs b).toArray)] = some (heldCells b false) := by
    unfold Instr.fill
    have e1 : (#[(0, 64), (64, 1)] : Array (Nat × Nat))[0]? = some (0, 64) := rfl
    have e2 : (Value.agg (bs b).toArray).cells = (bs b).toArray := rfl
    have e3 : (Value.agg (heldCells Z false)).cells = heldCells Z false := rfl
    have hs : (heldCells Z false).size = 65 := by show (bs Z ++ [Value.bool false]).length = 65; rw [List.length_append, bs_length, hzl]; rfl
    simp only [e1, e2, e3]
    rw [if_neg (by simp [bs_length, hb, hs])]
    unfold Instr.fill
    refine congrArg some ?_
    refine Array.ext' ?_
    have := foldl_set 0 (bs b) 0 (heldCells Z false) (by rw [bs_length, hb, hs]; omega)
    rw [bs_length, hb] at this
    have e4 : (bs b).toArray.zipIdx.foldl (fun (cs : Array Value) (x : Value × Nat) => cs.setIfInBounds (0 + x.2) x.1) (heldCells Z false) = ((bs b).zipIdx 0).foldl (fun (cs : Array Value) (x : Value × Nat) => cs.setIfInBounds (0 + x.2) x.1) (heldCells Z false) := by
      rw [← Array.foldl_toList]
      simp
    show ((bs b).toArray.zipIdx.foldl (fun (cs : Array Value) (x : Value × Nat) => cs.setIfInBounds (0 + x.2) x.1) (heldCells Z false)).toList = _
    rw [e4, this]
    show List.take _ _ ++ bs b ++ List.drop _ (bs Z ++ [Value.bool false]) = bs b ++ [Value.bool false]
    rw [List.drop_append, bs_length, hzl]
    simp [bs_length, hzl]
  rw [hfill]
  rfl

theorem info89 : (Tryz.prog.info? 123).map (·.size) = some 64 := by kernel_rfl
section
variable {P : Program} {ops : Array Oper} {Q : Exit → Act → World → Prop} {nl eff : List Nat} {S : World → Prop}
theorem wpMixS_row {i : Nat} {rest : List (Nat × Oper)} {o : Oper} {a : Act} {w : World} (he : eff.contains i = false) (hw : Region.wanted o (yielded ops a.tmps) = true) (ty : TypeId) (x : Operand) (ho : o.op = .load ty x)
    (b off : Nat) (hx : a.eval x = .pointer (some ⟨b, off, none⟩)) (cs : List Value) (d : TypeDesc) (hS : ∀ w', worldsOf S nl i w' → w'.rangeAt b off cs)
    (hu : P.underlying ty = some d) (hd : d.isRow = true) (hi : (P.info? ty).map (·.size) = some cs.length) (h : wpMixS P ops Q nl eff S rest (a.put o.dst (.agg cs.toArray)) w) : wpMixS P ops Q nl eff S ((i, o) :: rest) a w :=
  wpMixS_read he hw (fun w' hw' => by
    unfold execOp
    simp only [ho, hx, Instr.loadAt, Instr.sureAddr, Sem.run_bind, Sem.run_pure, Result.andThen_ok, run_loadVar_mid w' b off ty cs d (hS w' hw') hu hd hi]) h
end
end Go.Proofs.YtkoomlbnfhdhcaaGreatDoor

/-
  Walks: own.
-/
namespace Go.Proofs.YtkoomlbnfhdhcaaGreatDoor
open Go.RowKit
set_option linter.unusedVariables false

section
variable {P : Program} {ops : Array Oper} {Q : Exit → Act → World → Prop} {nl eff : List Nat} {S : World → Prop}
theorem wpMixS_build {i : Nat} {rest : List (Nat × Oper)} {o : Oper} {a : Act} {w : World} (he : eff.contains i = false) (hw : Region.wanted o (yielded ops a.tmps) = true) (ty : TypeId) (parts : Array (Nat × Operand)) (ho : o.op = .build ty parts) (v : Value) (vs : Array (Nat × Value)) (hv : (parts.map fun x => (x.1, a.eval x.2)) = vs)
    (hb : ∀ W, (Instr.build ty vs).run P W = .ok v W) (h : wpMixS P ops Q nl eff S rest (a.put o.dst v) w) : wpMixS P ops Q nl eff S ((i, o) :: rest) a w :=
  wpMixS_read he hw (fun w' hw' => by
    unfold execOp
    subst hv
    simp only [ho, Sem.run_bind, hb, Result.andThen_ok, Sem.run_pure]) h
end

theorem own_keep (w : World) (g p r : Nat) (s : Sp) (b : List UInt8) (hb : Blk w g 98 (spCells s)) (hp : p < 64) (hpg : s.pg p = some r) (hr : Blk w r 125 (heldCells b false)) (hl : b.length = 64) :
    Calls Tryz.prog 158 #[.pointer (some ⟨g, 0, none⟩), .int .i64 p] w fun e w' => e = .returned (ptrV (some r)) ∧ w = w' := by
  have k1 : w.cell? ⟨g, 193 + p, none⟩ = some (.pointer (some ⟨r, 0, none⟩)) := by rw [hb.cell, sp_pg s p hp, hpg]; rfl
  have k2 : w.cell? ⟨r, 64, none⟩ = some (.bool false) := by rw [hr.cell, held_shared b false hl]
  have i1 : (p : Int) < 64 := by omega
  have i0 : (0 : Int) ≤ (p : Int) := by omega
  clear hpg
  go_enter Tryz.func158, Tryz.ntmps158
  go_wp2_with fail
  go_ret
  exact ⟨rfl, rfl⟩

set_option maxRecDepth 100000 in
set_option maxHeartbeats 4000000 in
theorem own_copy (w : World) (g p r : Nat) (s : Sp) (b : List UInt8) (hb : Blk w g 98 (spCells s)) (hp : p < 64) (hpg : s.pg p = some r) (hr : Blk w r 125 (heldCells b true)) (hl : b.length = 64) :
    Calls Tryz.prog 158 #[.pointer (some ⟨g, 0, none⟩), .int .i64 p] w fun e w' => e = .returned (ptrV (some w.heap.size)) ∧ Blk w' w.heap.size 125 (heldCells b false) ∧
      Blk w' g 98 (spCells { s with pg := upd s.pg p (some w.heap.size) }) ∧ Fr [g] w w' := by
  have k1 : w.cell? ⟨g, 193 + p, none⟩ = some (.pointer (some ⟨r, 0, none⟩)) := by rw [hb.cell, sp_pg s p hp, hpg]; rfl
  have k2 : w.cell? ⟨r, 64, none⟩ = some (.bool true) := by rw [hr.cell, held_shared b true hl]
  have i1 : (p : Int) < 64 := by omega
  have i0 : (0 : Int) ≤ (p : Int) := by omega
  have hrng : w.rangeAt r 0 (bs b) := fun j v hv => by
    rw [Nat.zero_add, hr.cell]
    show (bs b ++ [Value.bool true]).toArray[j]? = _
    rw [List.getElem?_toArray, List.getElem?_append_left (List.getElem?_eq_some_iff.1 hv).1]
    exact hv
  have hbh := fun W => build_held W b hl
  have HR := Lib.hid hrng
  have HB := Lib.hid hbh
  have zg := hb.lt
  have HPG := Lib.hid hpg
  clear hpg hrng hbh
  go_enter Tryz.func158, Tryz.ntmps158
  go_upto_region 2 with (fail)
  refine wp_region_mixL (fun W => W.cell? ⟨g, 193 + p, none⟩ = some (.pointer (some ⟨r, 0, none⟩)) ∧ W.rangeAt r 0 (bs b)) [7, 10, 12] [12, 16] [0, 1, 2, 3, 4, 5, 6, 7, 8, 9, 10, 11, 13, 14, 12, 15, 16] (by kernel_rfl) (by kernel_rfl) ⟨k1, HR.out⟩ ?_
  simp only [inOrder, opAt]
  iterate 10
    (refine wpMixS_read (v := ?_) rfl rfl (fun w' hS => ?_) ?_
     rotate_left
     · ((try (obtain ⟨s0, _⟩ := hS rfl)); (try clear hS); go_simp; (try with_reducible rfl))
     try simp only [Act.put, List.setIfInBounds_toArray, List.set_cons_zero, List.set_cons_succ])
  refine wpMixS_row rfl rfl 123 _ rfl r 0 rfl (bs b) _ (fun w' hS => (hS rfl).2) Tryz.underlying123 rfl (by rw [bs_length, hl]; exact info89) ?_
  try simp only [Act.put, List.setIfInBounds_toArray, List.set_cons_zero, List.set_cons_succ]
  refine wpMixS_build rfl rfl 125 _ rfl (.agg (heldCells b false)) #[(0, .agg (bs b).toArray)] (by simp only [List.map_toArray, List.map_cons, List.map_nil]; rfl) HB.out ?_
  try simp only [Act.put, List.setIfInBounds_toArray, List.set_cons_zero, List.set_cons_succ]
  iterate 2
    (refine wpMixS_read (v := ?_) rfl rfl (fun w' hS => ?_) ?_
     rotate_left
     · ((try (obtain ⟨s0, _⟩ := hS rfl)); (try clear hS); go_simp; (try with_reducible rfl))
     try simp only [Act.put, List.setIfInBounds_toArray, List.set_cons_zero, List.set_cons_succ])
  have hb2 : Blk w.drew g 98 (spCells s) := hb.drew
  have hr2 : w.drew.rangeAt r 0 (bs b) := HR.out
  have zr := hr.lt
  refine wpMixS_eff rfl rfl (fun K hK => ?_)
  go_simp
  refine hK.out _ _ _ (fun _ h => h) (fun _ => ⟨?_, fun j v hv => ?_⟩) ?_
  focus
    have := (hb2.alloc (.cells (heldCells b false) 125)).cell (193 + p)
    rw [sp_pg s p hp, HPG.out] at this
    exact this
  focus
    have h1 := hr2 j v hv
    have h2 : (w.alloc (.cells (heldCells b false) 125)).cell? ⟨r, 0 + j, none⟩ = some v := by
      rw [World.cell?_alloc_lt _ _ _ (by show r < w.heap.size; exact zr)]
      exact h1
    exact h2
  clear hK K
  try simp only [Act.put, List.setIfInBounds_toArray, List.set_cons_zero, List.set_cons_succ]
  iterate 1
    (refine wpMixS_read (v := ?_) rfl rfl (fun w' hS => ?_) ?_
     rotate_left
     · ((try (obtain ⟨s0, _⟩ := hS rfl)); (try clear hS); go_simp; (try with_reducible rfl))
     try simp only [Act.put, List.setIfInBounds_toArray, List.set_cons_zero, List.set_cons_succ])
  have f1 := hb.frozen (193 + p)
  have hb4 := hb.set_ (193 + p) (ptrV (some w.heap.size))
  rw [sp_set_pg s p _ hp] at hb4
  have HB4 := Lib.hid (hb4.alloc (.cells (heldCells b false) 125)).drew
  have HN4 := Lib.hid (Blk.new_ (g := w.heap.size) (w.setCell ⟨g, 193 + p, none⟩ (ptrV (some w.heap.size))) 125 (heldCells b false) (by simp)).drew
  have HF4 := Lib.hid (((Fr.refl [g] w).setCell (p := ⟨g, 193 + p, none⟩) (.inl (by simp)) (ptrV (some w.heap.size))).alloc (.cells (heldCells b false) 125)).drew
  clear hb4
  refine wpMixS_eff rfl rfl (fun K hK => ?_)
  go_simp
  refine hK.out _ _ _ (fun _ h => h) (fun h => by cases h) ?_
  clear hK K
  try simp only [Act.put, List.setIfInBounds_toArray, List.set_cons_zero, List.set_cons_succ]
  refine wpMixS_nil ?_
  have k5 : ((w.setCell ⟨g, 193 + p, none⟩ (ptrV (some w.heap.size))).alloc (.cells (heldCells b false) 125)).drew.cell? ⟨g, 193 + p, none⟩ = some (ptrV (some w.heap.size)) := by
    rw [HB4.out.cell, sp_pg _ p hp]
    show some (ptrV (upd s.pg p (some w.heap.size) p)) = _
    rw [upd_at]
  clear k1 k2 f1 hb2 hr2 HR HB hb hr
  unfold ptrV at k5 HB4 HN4 HF4
  simp only [Option.map_some] at k5 HB4 HN4 HF4
  generalize ((w.setCell ⟨g, 193 + p, none⟩ (.pointer (some ⟨w.heap.size, 0, none⟩))).alloc (.cells (heldCells b false) 125)).drew = W3 at *
  go_wp2_with fail
  go_ret
  exact ⟨rfl, HN4.out, HB4.out, HF4.out⟩
end Go.Proofs.YtkoomlbnfhdhcaaGreatDoor

/-
  Walks: Store.
-/
namespace Go.Proofs.YtkoomlbnfhdhcaaGreatDoor
open Go.RowKit
set_option linter.unusedVariables false

def OwnK (e : Ending) (p : Nat) (b : List UInt8) : Sp → Pages → Prop := fun s' hm' => ∃ q, e = .returned (ptrV (some q)) ∧ s'.pg p = some q ∧ hm' q = some (b, false)

/-- .. and which blocks stay. -/
def OwnKM (e : Ending) (p : Nat) (b : List UInt8) (s : Sp) (hm : Pages) : Sp → Pages → Prop := fun s' hm' => OwnK e p b s' hm' ∧ (∀ q, q ≠ p → s'.pg q = s.pg q) ∧ (s'.pg p = s.pg p ∨ ∃ n, s'.pg p = some n ∧ hm n = none) ∧ (∀ r c, hm r = some c → hm' r = some c) ∧ s'.known = s.known
/-- A byte is stored. -/
def storeStep (a : AS) (x : Nat) (v : UInt8) : AS := { a with page := upd a.page (x / 64) (some (((a.page (x / 64)).getD []).set (x % 64) v)), changed := upd a.changed (x / 64) true }
def storeGo (a : AS) (x : Nat) (l : List UInt8) : Nat → AS
  | 0 => a
  | k + 1 => storeStep (storeGo a x l k) (x + k) (l.getD k 0)
def storeA (a : AS) (at_ : Int) (l : List UInt8) : AS × Nat :=
  (if (accessA a at_ l.length).2 = 0 then storeGo (accessA a at_ l.length).1 at_.toNat l l.length else (accessA a at_ l.length).1, (accessA a at_ l.length).2)
theorem storeGo_some (a : AS) (x : Nat) (l : List UInt8) (p : Nat) (h : (a.page p).isSome = true) : ∀ k, ((storeGo a x l k).page p).isSome = true
  | 0 => h
  | k + 1 => by
    show (upd (storeGo a x l k).page ((x + k) / 64) _ p).isSome = true
    by_cases e : p = (x + k) / 64
    · rw [e, upd_at]; rfl
    · rw [upd_ne _ _ _ _ e]; exact storeGo_some a x l p h k

section
variable {C : Source} {B : Nat} {w w' : World} {sps : Nat → Option Sp} {hm : Pages} {g : Nat} {s : Sp}

theorem own_more (ok : SourceOk C B) (h : All C B w sps hm) (hg : sps g = some s) (p r : Nat) (b : List UInt8) (sh : Bool) (hp : p < 64) (hpg : s.pg p = some r) (hr : hm r = some (b, sh)) (hB : B ≤ w.heap.size) :
    Calls Tryz.prog 158 #[.pointer (some ⟨g, 0, none⟩), .int .i64 p] w fun e w' => Stp C B sps hm g (view C hm s) w w' (OwnKM e p b s hm) := by
  obtain ⟨hblk, hBg⟩ := h.blk g s hg
  obtain ⟨hl, hbr, hBr⟩ := h.mem r b sh hr
  cases sh with
  | false =>
    refine (own_keep w g p r s b hblk hp hpg hbr hl).mono ?_
    rintro e w' ⟨rfl, rfl⟩
    exact Stp.self h hg ⟨⟨r, rfl, hpg, hr⟩, fun _ _ => rfl, .inl rfl, fun _ _ h => h, rfl⟩
  | true =>
    refine (own_copy w g p r s b hblk hp hpg hbr hl).mono ?_
    rintro e w' ⟨rfl, hn, hb', hw⟩
    have hnew : ∀ c, hm w.heap.size ≠ some c := fun c hc => by
      obtain ⟨b1, sh1⟩ := c
      have := (h.mem w.heap.size b1 sh1 hc).2.1.lt
      omega
    refine ⟨_, _, h.put ok.keeps hg p { s with pg := upd s.pg p (some w.heap.size) } w.heap.size b rfl (fun _ h => h) rfl (fun q hq => ?_) hl hw hb' hnew hB hn, ?_, fun k x hne hx => ?_, (h.toRep.fr_sp hg hw).more, ⟨w.heap.size, rfl, upd_at _ _ _, upd_at _ _ _⟩, fun q hq => upd_ne _ _ _ _ hq, .inr ⟨w.heap.size, upd_at _ _ _, Option.eq_none_iff_forall_ne_some.2 hnew⟩, fun r c hr => ?_, rfl⟩
    · obtain ⟨i1, i2⟩ := h.inv g s hg q hq
      refine ⟨i1, ?_⟩
      show upd s.pg p _ q = none
      rw [upd_ne _ _ _ _ (fun e => by rw [e, hpg] at i2; cases i2)]
      exact i2
    · unfold view
      congr 1
      funext q
      show pageOf (upd hm w.heap.size _) (upd s.pg p (some w.heap.size) q) = pageOf hm (s.pg q)
      by_cases e : q = p
      · rw [e, upd_at, hpg]
        show (upd hm w.heap.size _ w.heap.size).map _ = (hm r).map _
        rw [upd_at, hr]
        rfl
      · rw [upd_ne _ _ _ _ e]
        exact view_new h.toRep w.heap.size hnew _ g s hg q
    · unfold view
      congr 1
      funext q
      exact view_new h.toRep w.heap.size hnew _ k x hx q
    · rw [upd_ne _ _ _ _ (fun e => hnew c (by rw [← e]; exact hr))]; exact hr

theorem own_all (ok : SourceOk C B) (h : All C B w sps hm) (hg : sps g = some s) (p r : Nat) (b : List UInt8) (sh : Bool) (hp : p < 64) (hpg : s.pg p = some r) (hr : hm r = some (b, sh)) (hB : B ≤ w.heap.size) :
    Calls Tryz.prog 158 #[.pointer (some ⟨g, 0, none⟩), .int .i64 p] w fun e w' => Stp C B sps hm g (view C hm s) w w' (OwnK e p b) :=
  (own_more ok h hg p r b sh hp hpg hr hB).mono fun e w' h => h.weak fun _ _ h => h.1

/-- How the spaces look behind a write to a page that only one of them holds. -/
theorem view_write (h : Rep B w sps hm) (hg : sps g = some s) (p q : Nat) (b b' : List UInt8) (hpg : s.pg p = some q) (hq : hm q = some (b, false)) (k : Nat) (x : Sp) (hx : sps k = some x) (r : Nat) (hne : k ≠ g ∨ r ≠ p) :
    pageOf (upd hm q (some (b', false))) (x.pg r) = pageOf hm (x.pg r) := by
  cases hxr : x.pg r with
  | none => rfl
  | some t =>
    have htq : t ≠ q := fun e => by
      subst e
      obtain ⟨e1, e2⟩ := h.own k x g s r p t b hx hg hxr hpg hq
      rcases hne with hne | hne
      · exact hne e1
      · exact hne e2
    show (upd hm q _ t).map _ = (hm t).map _
    rw [upd_ne _ _ _ _ htq]

/-- One byte. -/
theorem All.byte (h : All C B w sps hm) (ok : SourceOk C B) (hg : sps g = some s) (x : Nat) (q : Nat) (b : List UInt8) (v : UInt8) (hx : x < 4096) (hpg : s.pg (x / 64) = some q) (hq : hm q = some (b, false))
    (hw : w' = (w.setCell ⟨q, x % 64, none⟩ (.int .u8 v.toNat)).setCell ⟨g, 129 + x / 64, none⟩ (.bool true)) :
    ∃ s' hm', All C B w' (upd sps g (some s')) hm' ∧ view C hm' s' = storeStep (view C hm s) x v ∧ (∀ k y, k ≠ g → sps k = some y → view C hm' y = view C hm y) ∧ Mv B C.X w w' ∧ s'.pg = s.pg ∧ s'.known = s.known ∧ hm' = upd hm q (some (b.set (x % 64) v, false)) := by
  obtain ⟨hl, hbq, hBq⟩ := h.mem q b false hq
  have hset := hbq.set_ (x % 64) (.int .u8 v.toNat)
  rw [held_set b false (x % 64) v (by omega)] at hset
  have hf1 : Fr [q] w (w.setCell ⟨q, x % 64, none⟩ (.int .u8 v.toNat)) := (Fr.refl _ _).setCell (.inl (by simp)) _
  obtain ⟨hA1, hm1⟩ := h.write ok.keeps hq (b.set (x % 64) v) false (by rw [List.length_set]; exact hl) (fun _ => rfl) hf1 hset
  have hbg := (hA1.blk g s hg).1
  have hset2 := hbg.set_ (129 + x / 64) (.bool true)
  rw [sp_set_changed s (x / 64) true (by omega)] at hset2
  have hf2 : Fr [g] (w.setCell ⟨q, x % 64, none⟩ (.int .u8 v.toNat)) ((w.setCell ⟨q, x % 64, none⟩ (.int .u8 v.toNat)).setCell ⟨g, 129 + x / 64, none⟩ (.bool true)) := (Fr.refl _ _).setCell (.inl (by simp)) _
  have hA2 := hA1.flags ok.keeps hg { s with changed := upd s.changed (x / 64) true } rfl (fun _ h => h) rfl (h.inv g s hg) hf2 hset2
  subst hw
  refine ⟨_, _, hA2, ?_, fun k y hne hy => ?_, (hm1.trans (hA1.toRep.fr_sp hg hf2)).more, rfl, rfl, rfl⟩
  · unfold view storeStep
    congr 1
    funext r
    show pageOf (upd hm q _) (s.pg r) = upd _ (x / 64) _ r
    by_cases e : r = x / 64
    · subst e
      rw [upd_at]
      show pageOf (upd hm q _) (s.pg (x / 64)) = some (((pageOf hm (s.pg (x / 64))).getD []).set (x % 64) v)
      rw [hpg]
      show (upd hm q _ q).map _ = some ((((hm q).map _).getD []).set (x % 64) v)
      rw [upd_at, hq]
      rfl
    · rw [upd_ne _ _ _ _ e]
      exact view_write h.toRep hg (x / 64) q b _ hpg hq g s hg r (.inr e)
  · unfold view
    congr 1
    funext r
    exact view_write h.toRep hg (x / 64) q b _ hpg hq k y hy r (.inl hne)
end
end Go.Proofs.YtkoomlbnfhdhcaaGreatDoor
