/-
  Walks: Load.
-/
import Derived.Test.YtbppafbdmdbdiaaSpH
namespace Go.Proofs.Ytbppafbdmdbdiaa
open Go.RowKit
set_option linter.unusedVariables false

theorem info5 : (Try.prog.info? 5).map (fun i => (i.zero, i.size, i.bytes)) = some (some (.int .u8 0), 1, 1) := by kernel_rfl
theorem run_make_bytes (n : Nat) (hn : n ≤ 4000000) (W : World) : (Instr.makeSlice 27 (.int .i64 (n : Int)) (.int .i64 (n : Int))).run Try.prog W = .ok (.slice (some ⟨W.heap.size, 0, none⟩) n n) (W.alloc (.cells (madeCells #[.int .u8 0] n) 5)) := by
  obtain ⟨i0, hi, hz0, hz1, hz2⟩ := info_parts info5
  have := run_make (P := Try.prog) W 27 5 i0 (.int .u8 0) Try.underlying27 hi hz0 .i64 .i64 n n (by omega) (Int.le_refl _) (by rw [hz2]; omega) (by omega)
  rw [hz1] at this
  simpa [Value.cells] using this
theorem made_bytes (n : Nat) : madeCells #[.int .u8 0] n = (bs (List.replicate n 0)).toArray := by
  refine Array.ext' ?_
  rw [toList_madeCells_one]
  unfold bs
  rw [List.map_replicate]
  rfl
/-- The first k bytes of b, and zeros. -/
def outL (b : List UInt8) (m k : Nat) : List UInt8 := b.take k ++ List.replicate (m - k) 0
theorem outL_zero (b : List UInt8) (m : Nat) : outL b m 0 = List.replicate m 0 := by simp [outL]
theorem outL_all (b : List UInt8) (m : Nat) (h : b.length = m) : outL b m m = b := by simp [outL, ← h]
theorem outL_length (b : List UInt8) (m k : Nat) (h : b.length = m) (hk : k ≤ m) : (outL b m k).length = m := by
  unfold outL; rw [List.length_append, List.length_take, List.length_replicate]; omega
theorem outL_set (b : List UInt8) (m k : Nat) (h : b.length = m) (hk : k < m) : (outL b m k).set k (b.getD k 0) = outL b m (k + 1) := by
  unfold outL
  have ht : (b.take k).length = k := by rw [List.length_take]; omega
  rw [List.set_append_right _ _ (by omega), ht, Nat.sub_self, show m - k = (m - (k + 1)) + 1 by omega, List.replicate_succ, List.set_cons_zero, List.take_succ_eq_append_getElem (by omega), List.append_assoc,
    List.getD_eq_getElem?_getD, List.getElem?_eq_getElem (by omega)]
  rfl
theorem bs_set (l : List UInt8) (k : Nat) (x : UInt8) : ((bs l).toArray).setIfInBounds k (.int .u8 x.toNat) = (bs (l.set k x)).toArray := by
  rw [List.setIfInBounds_toArray]
  congr 1
  unfold bs
  rw [List.map_set]

/-- A byte of a space. -/
def byteA (a : AS) (x : Nat) : UInt8 := ((a.page (x / 64)).getD []).getD (x % 64) 0
def bytesA (a : AS) (x n : Nat) : List UInt8 := (List.range n).map fun i => byteA a (x + i)
/-- Load: the space behind it, the bytes, the error. -/
def loadA (a : AS) (at_ n : Int) : AS × List UInt8 × Nat :=
  if n < 0 then (a, [], 2) else ((accessA a at_ n).1, if (accessA a at_ n).2 = 0 then bytesA (accessA a at_ n).1 at_.toNat n.toNat else [], (accessA a at_ n).2)
def LoadK (e : Ending) (b : List UInt8) (r : Nat) : Sp → Pages → Prop := fun _ _ => e = .returned (.tuple #[.string ⟨b.toArray⟩, .int .i64 r])

/-- .. and if all pages are known nothing changes. -/
def LoadKM (e : Ending) (b : List UInt8) (r : Nat) (s : Sp) (hm : Pages) : Sp → Pages → Prop := fun s' hm' => LoadK e b r s' hm' ∧ (Kn s → s' = s ∧ hm' = hm)
theorem ptr23_some (W : World) (q : Nat) : (binOp BinOp.eql 23 (.pointer (some ⟨q, 0, none⟩)) (.pointer none)).run Try.prog W = .ok (.bool false) W := by kernel_rfl

section
variable {C : Source} {B : Nat} {w w' : World} {sps : Nat → Option Sp} {hm : Pages} {g : Nat} {s : Sp}
theorem All.below (h : All C B w sps hm) (hk : Keeps C B) (hb : Below w.heap.size w w') : All C B w' sps hm :=
  ⟨⟨fun k x hx => ⟨(h.blk k x hx).1.below hb (h.blk k x hx).1.lt, (h.blk k x hx).2⟩, fun q b sh hq => ⟨(h.mem q b sh hq).1, (h.mem q b sh hq).2.1.below hb (h.mem q b sh hq).2.1.lt, (h.mem q b sh hq).2.2⟩, h.ref, h.own⟩,
    fun x hx => (h.env x hx).imp id fun e => ⟨e.1, hk _ _ _ e.2 (Mv.of_below (B := B) (X := NoX) hb).toE⟩, h.nosrc, h.inv⟩
theorem Stp.self (h : All C B w sps hm) (hg : sps g = some s) {K : Sp → Pages → Prop} (hK : K s hm) : Stp C B sps hm g (view C hm s) w w K := by
  have hs : upd sps g (some s) = sps := upd_same _ _ _ hg
  exact ⟨s, hm, by rw [hs]; exact h, rfl, fun _ _ _ _ => rfl, Mv.refl _ _ _, hK⟩

set_option maxRecDepth 100000 in
set_option maxHeartbeats 8000000 in
theorem load_more (ok : SourceOk C B) (h : All C B w sps hm) (hg : sps g = some s) (at_ n : Int) (hn1 : n ≤ 140737488355328) (ha1 : -9223372036854775808 ≤ at_) (ha2 : at_ ≤ 9223372036854775807) (hB : B ≤ w.heap.size) :
    Calls Try.prog 15 #[.pointer (some ⟨g, 0, none⟩), .int .i64 at_, .int .i64 n] w fun e w' => Stp C B sps hm g (loadA (view C hm s) at_ n).1 w w' (LoadKM e (loadA (view C hm s) at_ n).2.1 (loadA (view C hm s) at_ n).2.2 s hm) := by
  have hq := ptr23_some
  by_cases hneg : n < 0
  · have hr : loadA (view C hm s) at_ n = (view C hm s, [], 2) := by unfold loadA; rw [if_pos hneg]
    rw [hr]
    have HS := Lib.hid (fun e (he : LoadK e [] 2 s hm) => Stp.self (K := LoadKM e [] 2 s hm) h hg ⟨he, fun _ => ⟨rfl, rfl⟩⟩)
    have e1 : decide (n < 0) = true := decide_eq_true hneg
    clear hr
    go_enter Try.func15, Try.ntmps15
    go_wp2_with fail
    go_ret2
    exact HS.out _ rfl
  · have e1 : decide (n < 0) = false := decide_eq_false hneg
    have hr : loadA (view C hm s) at_ n = ((accessA (view C hm s) at_ n).1, if (accessA (view C hm s) at_ n).2 = 0 then bytesA (accessA (view C hm s) at_ n).1 at_.toNat n.toNat else [], (accessA (view C hm s) at_ n).2) := by unfold loadA; rw [if_neg hneg]
    rw [hr]
    have HAC := Lib.hid (access_more ok h hg at_ n (by omega) hn1 ha1 ha2 hB)
    have hrange : (accessA (view C hm s) at_ n).2 = 0 → n = 0 ∨ (0 ≤ at_ ∧ 1 ≤ n ∧ at_ + n ≤ 4096) := fun h0 => by
      by_cases c0 : n = 0
      · exact .inl c0
      · unfold accessA at h0
        rw [if_neg c0] at h0
        by_cases c1 : at_ < 0 ∨ 4096 ≤ at_ ∨ 4096 - at_ < n
        · rw [if_pos c1] at h0; cases h0
        · exact .inr (by omega)
    have HRG := Lib.hid hrange
    clear hr hrange
    generalize accessA (view C hm s) at_ n = R at *
    obtain ⟨a', r⟩ := R
    dsimp only at HAC HRG ⊢
    obtain ⟨bb, hbb⟩ : ∃ bb, bb = if r = 0 then bytesA a' at_.toNat n.toNat else [] := ⟨_, rfl⟩
    rw [← hbb]
    have HBB := Lib.hid hbb
    clear hbb
    go_enter Try.func15, Try.ntmps15
    go_wp2_with fail
    refine HAC.out.mono ?_
    rintro e w1 ⟨s1, hm1, hA1, hv1, ho1, hmv1, ⟨rfl, hpg⟩, hkn⟩
    have HKN := Lib.hid hkn
    clear hkn
    dsimp only
    have HA1 := Lib.hid hA1
    have HV1 := Lib.hid hv1
    have HO1 := Lib.hid ho1
    have HPG := Lib.hid hpg
    have hsz1 := hmv1.size
    have HMV1 := Lib.hid hmv1
    clear hA1 hv1 ho1 hpg hmv1 HAC
    by_cases hr0 : r = 0
    · subst hr0
      rcases HRG.out rfl with hn0 | ⟨hx0, hn0, hx1⟩
      · subst hn0
        have hbb := HBB.out
        rw [if_pos rfl] at hbb
        have hb0 : bb = [] := by rw [hbb]; rfl
        subst hb0
        have hmk : ∀ W, (Instr.makeSlice 27 (.int .i64 0) (.int .i64 0)).run Try.prog W = .ok (.slice (some ⟨W.heap.size, 0, none⟩) 0 0) (W.alloc (.cells (bs []).toArray 5)) := fun W => by
          have := run_make_bytes 0 (by omega) W
          rw [made_bytes] at this
          exact this
        have hb1 : Below w1.heap.size w1 (w1.alloc (.cells (bs []).toArray 5)) := (Below.refl _ _).alloc (Nat.le_refl _) _
        have hconv : ∀ W, (convert 27 9 (.slice (some ⟨w1.heap.size, 0, none⟩) 0 0)).run Try.prog W = .ok (.string ⟨([] : List UInt8).toArray⟩) W := fun W =>
          run_convert_string (B := w1.heap.size + 1) Try.underlying27 Try.underlying5 Try.underlying9 ⟨some ⟨w1.heap.size, 0, none⟩, 0, rfl, by simp, by simp [maxLen], by simp [bs], fun h => by simp at h⟩
        have HB1 := Lib.hid hb1
        clear hb1 hbb HBB HRG HPG
        go_upto_region 10 with (fail)
        generalize w1.alloc (.cells (bs []).toArray 5) = W1 at *
        go_loopg [26] 0 (fun q iv wr => wr = W1 ∧ iv = .int .i64 0)
        case atStart => exact ⟨rfl, rfl⟩
        case round =>
          obtain ⟨rfl, rfl⟩ := hrel
          go_wp2_with fail
          go_ret2
          exact ⟨s1, hm1, HA1.out.below ok.keeps HB1.out, HV1.out, HO1.out, HMV1.out.trans (Mv.of_below HB1.out), rfl, HKN.out⟩
      · obtain ⟨x, rfl⟩ : ∃ x : Nat, at_ = x := ⟨at_.toNat, by omega⟩
        obtain ⟨m, rfl⟩ : ∃ m : Nat, n = m := ⟨n.toNat, by omega⟩
        have hbb := HBB.out
        rw [if_pos rfl, Int.toNat_natCast, Int.toNat_natCast] at hbb
        have HB2 := Lib.hid hbb
        clear hbb HBB
        have hmk := run_make_bytes m (by omega)
        have hbl : bb.length = m := by rw [HB2.out]; unfold bytesA; rw [List.length_map, List.length_range]
        go_upto_region 10 with (fail)
        have hn1 := Blk.new w1 5 (madeCells #[.int .u8 0] m)
        rw [made_bytes, ← outL_zero bb m] at hn1
        rw [made_bytes, ← outL_zero bb m]
        have hbel : Below w1.heap.size w1 (w1.alloc (.cells (bs (outL bb m 0)).toArray 5)) := (Below.refl _ _).alloc (Nat.le_refl _) _
        have HN1 := Lib.hid hn1
        have HBE := Lib.hid hbel
        clear hn1 hbel hmk
        generalize w1.alloc (.cells (bs (outL bb m 0)).toArray 5) = W1 at *
        obtain ⟨o, ho⟩ : ∃ o : Nat, o = w1.heap.size := ⟨_, rfl⟩
        rw [← ho] at HN1 ⊢
        have HO := Lib.hid ho
        clear ho
        go_loopg [26] m (fun q iv wr => ∃ k : Nat, iv = .int .i64 k ∧ q = m - k ∧ k ≤ m ∧ Blk wr o 5 (bs (outL bb m k)).toArray ∧ Fr [o] W1 wr)
        case atStart => exact ⟨0, rfl, rfl, Nat.zero_le _, HN1.out, Fr.refl _ _⟩
        case round =>
          obtain ⟨k, rfl, rfl, hk, hblk, hfr⟩ := hrel
          have hbelow : Below w1.heap.size w1 wr := HBE.out.trans (hfr.below (by have := HBE.out.size; omega) (by simp [HO.out]))
          have HBW := Lib.hid hbelow
          clear hbelow
          by_cases hlt : k < m
          · have i1 : (k : Int) < m := by omega
            obtain ⟨P, hP⟩ : ∃ P : Nat, P = (x + k) / 64 := ⟨_, rfl⟩
            obtain ⟨Q, hQ⟩ : ∃ Q : Nat, Q = (x + k) % 64 := ⟨_, rfl⟩
            have d1 : ((x : Int) + k) / 64 = (P : Int) := by omega
            have d2 : ((x : Int) + k) % 64 = (Q : Int) := by omega
            have hP64 : P < 64 := by omega
            have hQ64 : Q < 64 := by omega
            have hso := HPG.out (by first | rfl | trivial) (k : Int) (by omega) (by omega)
            rw [d1, Int.toNat_natCast] at hso
            obtain ⟨r, hpr⟩ := Option.isSome_iff_exists.1 hso
            have hgr : upd sps g (some s1) g = some s1 := upd_at _ _ _
            obtain ⟨⟨b0, sh0⟩, hmr⟩ := HA1.out.ref g s1 hgr P r hpr
            obtain ⟨hbl0, hbr, _⟩ := HA1.out.mem r b0 sh0 hmr
            have hbg := (HA1.out.blk g s1 hgr).1
            have c1 : wr.cell? ⟨g, 193 + P, none⟩ = some (.pointer (some ⟨r, 0, none⟩)) := by
              rw [(hbg.below HBW.out hbg.lt).cell, sp_pg s1 P hP64, hpr]; rfl
            have c2 : wr.cell? ⟨r, Q, none⟩ = some (.int .u8 (b0.getD Q 0).toNat) := by
              rw [(hbr.below HBW.out hbr.lt).cell, held_byte b0 sh0 Q (by omega)]
            have hby : bb.getD k 0 = b0.getD Q 0 := by
              rw [HB2.out]
              unfold bytesA
              rw [List.getD_eq_getElem?_getD, List.getElem?_map, List.getElem?_range hlt]
              show byteA a' (x + k) = _
              unfold byteA
              rw [← hP, ← hQ, ← HV1.out]
              show ((pageOf hm1 (s1.pg P)).getD []).getD Q 0 = _
              rw [hpr]
              show (((hm1 r).map _).getD []).getD Q 0 = _
              rw [hmr]
              rfl
            have hst := outL_set bb m k hbl hlt
            rw [hby] at hst
            have hs2 := hblk.set_ k (.int .u8 (b0.getD Q 0).toNat)
            rw [bs_set, hst] at hs2
            have HS2 := Lib.hid hs2
            have f1 := hblk.frozen k
            have c3 : wr.cell? ⟨o, k, none⟩ = some (.int .u8 ((outL bb m k).getD k 0).toNat) := by
              have hl := outL_length bb m k hbl (by omega)
              rw [hblk.cell, List.getElem?_toArray, bs_get, List.getElem?_eq_getElem (by omega), List.getD_eq_getElem?_getD, List.getElem?_eq_getElem (by omega)]
              rfl
            have zo := hblk.lt
            clear hso hpr hmr hbl0 hbr hbg hby hst hs2 hgr hP hQ
            go_wp2_with fail
            go_roundg (m - (k + 1))
            case measure => omega
            case rel => exact ⟨k + 1, by go_num, rfl, by omega, HS2.out, hfr.setCell (.inl (by simp)) _⟩
          · obtain rfl : k = m := by omega
            have i1 : decide ((k : Int) < k) = false := decide_eq_false (by omega)
            have hconv : (convert 27 9 (.slice (some ⟨o, 0, none⟩) k k)).run Try.prog wr = .ok (.string ⟨bb.toArray⟩) wr := by
              have hrd : RdB wr (o + 1) (.slice (some ⟨o, 0, none⟩) k k) bb := by
                refine ⟨some ⟨o, 0, none⟩, k, by rw [hbl], by omega, by unfold maxLen; omega, ?_⟩
                rw [hbl]
                refine ⟨by rw [bs_length, hbl, Nat.mul_one], fun _ => ⟨_, rfl, by show o < _; omega, fun j u hu => ?_⟩⟩
                rw [add_at0, hblk.cell, outL_all bb k hbl, List.getElem?_toArray]
                exact hu
              exact run_convert_string Try.underlying27 Try.underlying5 Try.underlying9 hrd
            clear hblk hfr HB2
            go_wp2_with fail
            go_ret2
            exact ⟨s1, hm1, HA1.out.below ok.keeps HBW.out, HV1.out, HO1.out, HMV1.out.trans (Mv.of_below HBW.out), rfl, HKN.out⟩
    · have e2 : ((r : Int) != 0) = true := bne_iff_ne.2 (by omega)
      have e3 : ((r : Int) == 0) = false := beq_eq_false_iff_ne.2 (by omega)
      have hbb := HBB.out
      rw [if_neg hr0] at hbb
      have HB2 := Lib.hid hbb
      clear hr0 hbb HBB
      go_wp2_with fail
      go_ret2
      exact ⟨s1, hm1, HA1.out, HV1.out, HO1.out, HMV1.out, by rw [HB2.out]; rfl, HKN.out⟩
theorem load_all (ok : SourceOk C B) (h : All C B w sps hm) (hg : sps g = some s) (at_ n : Int) (hn1 : n ≤ 140737488355328) (ha1 : -9223372036854775808 ≤ at_) (ha2 : at_ ≤ 9223372036854775807) (hB : B ≤ w.heap.size) :
    Calls Try.prog 15 #[.pointer (some ⟨g, 0, none⟩), .int .i64 at_, .int .i64 n] w fun e w' => Stp C B sps hm g (loadA (view C hm s) at_ n).1 w w' (LoadK e (loadA (view C hm s) at_ n).2.1 (loadA (view C hm s) at_ n).2.2) :=
  (load_more ok h hg at_ n hn1 ha1 ha2 hB).mono fun e w' h => h.weak fun _ _ h => h.1
end
end Go.Proofs.Ytbppafbdmdbdiaa
