/-
  Walks of the reference: Bytes.
-/
import Derived.Test.YtgmpdclmfcmodaaCanon
namespace Go.Proofs.Ytgmpdclmfcmodaa
open Go.RowKit

theorem toBytes_take (ts : List Pk.Tok) (k : Nat) (t : Pk.Tok) (h : ts[k]? = some t) : Pk.toBytes (ts.take (k + 1)) = Pk.toBytes (ts.take k) ++ t.bytes := by
  have : ts.take (k + 1) = ts.take k ++ [t] := by
    rw [List.take_add_one, h]; rfl
  rw [this, Pk.toBytes_append]
  simp [Pk.toBytes]
theorem toBytes_take_le (ts : List Pk.Tok) (k : Nat) : (Pk.toBytes (ts.take k)).length ≤ (Pk.toBytes ts).length := by
  conv => rhs; rw [← List.take_append_drop k ts, Pk.toBytes_append]
  simp

set_option maxRecDepth 100000 in
set_option maxHeartbeats 4000000 in
/-- Bytes of the reference. -/
theorem rbytes_any (w : World) (B : Nat) (vt : Value) (ts : List Pk.Tok) (h : RdT w B vt ts) (hok : ∀ t ∈ ts, t.ok) (hB : B ≤ w.heap.size) (hlen : (Pk.toBytes ts).length ≤ 8000000) (htl : ts.length ≤ 8000000) :
    Calls Try.prog 17 #[vt] w fun e w' => ∃ v, e = .returned v ∧ RdB w' w'.heap.size v (Pk.toBytes ts) ∧ Below w.heap.size w w' := by
  obtain ⟨i0, hi, hz0, hz1, hz2⟩ := info_parts info5
  obtain ⟨A, cap, rfl, hcap, hat⟩ := h.at_
  have HAT := Lib.hid hat
  have HOK := Lib.hid hok
  clear hat hok h
  go_enter Try.func17, Try.ntmps17
  go_wp2_with fail
  go_loopg [3, 4] ts.length (fun n ov iv wr => ∃ (k : Nat) (oc : Nat) (OA : Option Addr), iv = .int .i64 k ∧ n = ts.length - k ∧ k ≤ ts.length ∧ ov = .slice OA (Pk.toBytes (ts.take k)).length oc ∧
    wr.ownsRow w.heap.size 5 1 ov (Pk.toBytes (ts.take k)).length (bs (Pk.toBytes (ts.take k))) ∧ Below w.heap.size w wr)
  case atStart => exact ⟨0, 0, none, rfl, by omega, by omega, by simp [Pk.toBytes], by simpa [Pk.toBytes, bs] using World.ownsRow_nil _ _ _ _, Below.refl _ _⟩
  case round =>
    obtain ⟨k, oc, OA, rfl, rfl, hk, rfl, hown, hbl⟩ := hrel
    have hszr := hbl.size
    by_cases hlt : k < ts.length
    · have htk : ts[k]? = some ts[k] := List.getElem?_eq_getElem hlt
      have hmem : ts[k] ∈ ts := List.getElem_mem hlt
      generalize ts[k] = t at htk hmem
      have hto := HOK.out t hmem
      obtain ⟨g, lv, rfl, hg, c0, c1, c2, hlv⟩ := HAT.out k t htk
      have hgw : g < w.heap.size := by omega
      have C0 := Lib.hid c0
      rw [← hbl.cell (p := ⟨g, _, none⟩) hgw] at c0 c1 c2
      have hlv := hlv.below (hbl.mono hB)
      have hstep := toBytes_take ts k t htk
      have hle := toBytes_take_le ts (k + 1)
      rw [hstep, List.length_append] at hle
      have HST := Lib.hid hstep
      clear hstep htk hmem
      generalize Pk.toBytes (List.take k ts) = p at *
      have i1 : (k : Int) < ts.length := by omega
      rcases hto with ⟨t1, t2, t3, t4⟩ | ⟨t1, t2, t3, t4, t5⟩
      · have e1 : decide ((0 : Int) < (t.len : Int)) = false := by simp; omega
        have hbt : Hid (t.bytes = UInt8.ofNat (t.lit.length - 1) :: t.lit) := by
          have : t.bytes = UInt8.ofNat (t.lit.length - 1) :: t.lit := by unfold Pk.Tok.bytes; rw [if_neg (by omega)]
          exact Lib.hid this
        have hbl2 : t.bytes.length = t.lit.length + 1 := by rw [hbt.out]; simp
        obtain ⟨LA, lc, rfl, l1, l2, l3⟩ := hlv
        generalize t.lit = q at *
        go_wp2_with (first
          | (at_builtin; refine wpList_append_lies _ rfl (.tmp 40) (.tmp 49) _ rfl w.heap.size 5 i0 _ 1 1 Try.underlying22 hi hz0 hz1 hz2 rfl (by omega) (.slice OA p.length oc) p.length (bs p) rfl (hown.alloc _) ⟨wr.heap.size, 0, none⟩ 1 1 [.int .u8 ((q.length : Int) - 1)] rfl rfl (World.news_of_block (t := 5) (fr := (0, 0)) (heap_alloc_new wr _)) (by simp [Value.oneCell']) (by omega) (by unfold maxLen; omega) (by omega) (by simp; omega) (wr.heap.size + 1) (by simp) ?_; intro gg oc2 w4 hown4 hgrow4 hat4 hlt4; have hsz4 := hgrow4.size; simp at hsz4; have hbl4 : Below w.heap.size w w4 := (hbl.alloc hszr _).grown hgrow4 (by simp; omega) (fun k hk => (hown.lt k hk).1); have c4 := (hbl4.cell (p := ⟨g, _, none⟩) hgw).trans C0.out)
          | (at_builtin; refine wpList_append_any _ rfl (.tmp 51) (.tmp 56) _ rfl w.heap.size 5 i0 _ 1 1 Try.underlying22 hi hz0 hz1 hz2 rfl (by omega) _ (p.length + 1) _ rfl hown4 B LA q.length lc (bs q) rfl ((l3.alloc (by omega) _).grown hgrow4 (by simp; omega) (fun k hk => by have := (hown.lt k hk).1; omega)) (bs_one q) (by unfold maxLen; omega) (by omega) (by omega) ?_; intro v5 w5 hown5 hgrow5 hat5))
        have e9 : bs (p ++ UInt8.ofNat (q.length - 1) :: q) = bs p ++ [.int .u8 ((q.length : Int) - 1)] ++ bs q := by
          simp [bs]
          omega
        have e8 : (p ++ UInt8.ofNat (q.length - 1) :: q).length = p.length + 1 + q.length := by simp; omega
        have hv5 : ∃ A5 c5, v5 = .slice A5 (p.length + 1 + q.length) c5 := by
          rcases hown5.2 with ⟨rfl, h0⟩ | ⟨g', cap', cur, rfl, _⟩
          · omega
          · exact ⟨_, _, rfl⟩
        obtain ⟨A5, c5, rfl⟩ := hv5
        go_roundg (ts.length - (k + 1))
        case measure => omega
        case rel =>
          refine ⟨k + 1, c5, A5, rfl, rfl, by omega, ?_, ?_, ?_⟩
          · rw [HST.out, hbt.out, e8]
          · rw [HST.out, hbt.out, e8, e9]; exact hown5
          · exact hbl4.grown hgrow5 (by omega) (fun k hk => (hown4.lt k hk).1)
      · have e1 : decide ((0 : Int) < (t.len : Int)) = true := by simp; omega
        have hbt : Hid (t.bytes = Pk.matchBytes t.len t.dist) := by
          have : t.bytes = Pk.matchBytes t.len t.dist := by unfold Pk.Tok.bytes; rw [if_pos (by omega)]
          exact Lib.hid this
        have hbl2 : t.bytes.length = 3 := by rw [hbt.out]; simp [Pk.matchBytes]
        clear hlv t1
        generalize t.len = n at *
        generalize t.dist = d at *
        go_wp2_with (at_builtin; refine wpList_append_lies _ rfl (.tmp 24) (.tmp 38) _ rfl w.heap.size 5 i0 _ 1 1 Try.underlying22 hi hz0 hz1 hz2 rfl (by omega) (.slice OA p.length oc) p.length (bs p) rfl (hown.alloc _) ⟨wr.heap.size, 0, none⟩ 3 3 [.int .u8 (128 + (n : Int) - 4), .int .u8 (((d : Int) - 1) / 256), .int .u8 (((d : Int) - 1) % 256)] rfl rfl (World.news_of_block (t := 5) (fr := (0, 0)) (heap_alloc_new wr _)) (by simp [Value.oneCell']) (by omega) (by unfold maxLen; omega) (by omega) (by simp; omega) (wr.heap.size + 1) (by simp) ?_; intro gg oc2 w4 hown4 hgrow4 hat4 hlt4; have hsz4 := hgrow4.size; simp at hsz4)
        have e9 : bs (p ++ Pk.matchBytes n d) = bs p ++ [.int .u8 (128 + (n : Int) - 4), .int .u8 (((d : Int) - 1) / 256), .int .u8 (((d : Int) - 1) % 256)] := by
          unfold Pk.matchBytes
          simp [bs]
          omega
        have e8 : (p ++ Pk.matchBytes n d).length = p.length + 3 := by simp [Pk.matchBytes]
        go_roundg (ts.length - (k + 1))
        case measure => omega
        case rel =>
          refine ⟨k + 1, oc2, some ⟨gg, 0, none⟩, rfl, rfl, by omega, ?_, ?_, ?_⟩
          · rw [HST.out, hbt.out, e8]
          · rw [HST.out, hbt.out, e8, e9]; exact hown4
          · exact (hbl.alloc hszr _).grown hgrow4 (by simp; omega) (fun k hk => (hown.lt k hk).1)
    · have hkk : k = ts.length := by omega
      subst hkk
      rw [List.take_length] at hown
      go_wp2_with fail
      go_ret
      refine ⟨_, rfl, ?_, hbl⟩
      rw [List.take_length]
      exact RdB.of_own hown rfl
end Go.Proofs.Ytgmpdclmfcmodaa
