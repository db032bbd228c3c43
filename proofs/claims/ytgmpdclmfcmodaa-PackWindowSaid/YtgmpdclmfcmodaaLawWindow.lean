/-
  The law PackWindow, walked.
-/
import Derived.Test.YtgmpdclmfcmodaaLawTokens
import Derived.Test.YtgmpdclmfcmodaaPure9
namespace Go.Proofs.Ytgmpdclmfcmodaa
open Go.RowKit

/-- The mark's bytes. -/
def markOf (l : List UInt8) : List UInt8 := l.map fun x => UInt8.ofNat (200 + x.toNat % 56)
theorem markOf_length (l : List UInt8) : (markOf l).length = l.length := by simp [markOf]
theorem markOf_ge (l : List UInt8) : ∀ b ∈ markOf l, 200 ≤ b.toNat := by
  intro b hb
  simp only [markOf, List.mem_map] at hb
  obtain ⟨x, _, rfl⟩ := hb
  rw [Pk.toNat_ofNat _ (by omega)]
  omega
theorem markOf_snoc (l : List UInt8) (i : Nat) (h : i < l.length) : markOf (l.take (i + 1)) = markOf (l.take i) ++ [UInt8.ofNat (200 + (l.getD i 0).toNat % 56)] := by
  rw [List.take_succ_eq_append_getElem h]
  rw [markOf, List.map_append, List.getD_eq_getElem?_getD, List.getElem?_eq_getElem h]
  rfl
theorem bs_gap (m : List UInt8) (j : Nat) (hj : j < 5000) : bs (m ++ Pk.gapBytes (j + 1)) = bs (m ++ Pk.gapBytes j) ++ [.int .u8 ((j : Int) % 256), .int .u8 ((j : Int) / 256 + 100)] := by
  have e1 : ((UInt8.ofNat j).toNat : Int) = (j : Int) % 256 := by simp
  have e2 : ((UInt8.ofNat (j / 256 + 100)).toNat : Int) = (j : Int) / 256 + 100 := by rw [Pk.toNat_ofNat _ (by omega)]; omega
  rw [Pk.gapBytes, ← List.append_assoc, bs_append, show bs [UInt8.ofNat j, UInt8.ofNat (j / 256 + 100)] = [.int .u8 (UInt8.ofNat j).toNat, .int .u8 (UInt8.ofNat (j / 256 + 100)).toNat] from rfl, e1, e2]

set_option maxRecDepth 100000 in
set_option maxHeartbeats 16000000 in
theorem window_walk (w : World) (vb : Value) (t : Int) (b : List UInt8) (hb : RdB w w.heap.size vb b) (ht : (Lit.int .i64 t).wf = true) :
    Calls Try.prog 9 #[vb, .int .i64 t] w fun e w' => e = .returned (.bool true) ∧ Below w.heap.size w w' := by
  obtain ⟨i0, hi, hz0, hz1, hz2⟩ := info_parts info5
  obtain ⟨ht1, ht2⟩ := int_wf ht
  obtain ⟨g, hg⟩ : ∃ g : Nat, (g : Int) = min (max t 0) 5000 := ⟨(min (max t 0) 5000).toNat, by omega⟩
  obtain ⟨g1, hg1⟩ : ∃ g : Nat, (g : Int) = max t 0 := ⟨(max t 0).toNat, by omega⟩
  have e1 : (if t < (0 : Int) then (0 : Int) else t) = g1 := by split <;> omega
  have e2 : (if (5000 : Int) < g1 then (5000 : Int) else g1) = g := by split <;> omega
  have hg2 : g ≤ 5000 := by omega
  obtain ⟨A, cap, rfl, hcap, hcap2, hbc⟩ := hb.byte
  clear hg hg1 ht
  have HBC := Lib.hid hbc
  clear hbc
  go_enter Try.func9, Try.ntmps9
  go_wp2_with fail
  obtain ⟨r, hr⟩ : ∃ r : Nat, r = min b.length 30 := ⟨_, rfl⟩
  have hrb : r ≤ b.length ∧ r ≤ 30 := by omega
  go_loopg [5, 6] r (fun q tv iv wr => ∃ (k : Nat) (OA : Option Addr) (oc : Nat), iv = .int .i64 k ∧ q = r - k ∧ k ≤ r ∧ tv = .slice OA k oc ∧ wr.ownsRow w.heap.size 5 1 (.slice OA k oc) k (bs (markOf (b.take k))) ∧ Below w.heap.size w wr)
  case atStart => exact ⟨0, none, 0, rfl, rfl, by omega, rfl, World.ownsRow_nil _ _ _ _, Below.refl _ _⟩
  case round =>
    obtain ⟨k, OA, oc, rfl, rfl, hk, rfl, hown, hbl⟩ := hrel
    have hszr := hbl.size
    by_cases hlt : k < r
    · have i1 : (k : Int) < b.length := by omega
      have i2 : (k : Int) < 30 := by omega
      have i1' : k < b.length := by omega
      obtain ⟨A1, c1, hv, _, _, hcell⟩ := (hb.below hbl).byte
      injection hv with h1 h2 h3
      subst h1 h3
      obtain ⟨ad, rfl, hx⟩ := hcell k (by omega)
      have hsn := markOf_snoc b k (by omega)
      generalize b.getD k 0 = x at *
      have hxl := x.toNat_lt
      obtain ⟨y, hy⟩ : ∃ y : Nat, y = x.toNat % 56 := ⟨_, rfl⟩
      have ey : (x.toNat : Int) % 56 = (y : Int) := by omega
      have hy2 : y ≤ 55 := by omega
      rw [← hy] at hsn
      have HSN := Lib.hid hsn
      clear hcell h2 hsn hy
      go_wp2_with (at_builtin; refine wpList_append_lies _ rfl (.tmp 31) (.tmp 38) _ rfl w.heap.size 5 i0 _ 1 1 Try.underlying22 hi hz0 hz1 hz2 rfl (by omega) (.slice OA k oc) k (bs (markOf (b.take k))) rfl (hown.alloc _) ⟨wr.heap.size, 0, none⟩ 1 1 [.int .u8 (200 + (y : Int))] rfl rfl (World.news_of_block (t := 5) (fr := (0, 0)) (heap_alloc_new wr _)) (by simp [Value.oneCell']) (by omega) (by unfold maxLen; omega) (by omega) (by simp; omega) (wr.heap.size + 1) (by simp) ?_; intro gg oc2 w4 hown4 hgrow4 hat4 hlt4)
      go_roundg (r - (k + 1))
      case measure => omega
      case rel =>
        refine ⟨k + 1, some ⟨gg, 0, none⟩, oc2, by go_num, rfl, by omega, rfl, ?_, (hbl.alloc hszr _).grown hgrow4 (by simp; omega) (fun g hg => (hown.lt g hg).1)⟩
        rw [HSN.out, bs_append]
        have e : bs [UInt8.ofNat (200 + y)] = [.int .u8 (200 + (y : Int))] := by
          simp only [bs, List.map_cons, List.map_nil]
          rw [Pk.toNat_ofNat _ (by omega)]
          rfl
        rw [e]
        exact hown4
    · obtain rfl : k = r := by omega
      have hml := markOf_length (b.take k)
      rw [List.length_take, Nat.min_eq_left hrb.1] at hml
      have hmg := markOf_ge (b.take k)
      have hfin : Hid (b.length ≤ k ∨ b.length > k ∧ 30 ≤ k) := Lib.hid (by omega)
      clear hr
      generalize markOf (b.take k) = m at *
      subst hml
      have hrm := RdB.of_own hown rfl
      have hk30 : m.length ≤ 30 := hrb.2
      clear hb HBC hrb hlt hk
      obtain ⟨w1, rfl⟩ : ∃ w1 : World, w1 = wr := ⟨_, rfl⟩
      rcases hfin.out with hx | ⟨hx, hy⟩
      have i1 : decide ((m.length : Int) < b.length) = false := decide_eq_false (by omega)
      have i1' : decide (m.length < b.length) = false := decide_eq_false (by omega)
      rotate_left
      have i1 : decide ((m.length : Int) < b.length) = true := decide_eq_true (by omega)
      have i1' : decide (m.length < b.length) = true := decide_eq_true (by omega)
      have i2 : decide ((m.length : Int) < 30) = false := decide_eq_false (by omega)
      rotate_left
      all_goals
        clear hx hfin
        have hrm2 := hrm
        obtain ⟨A6, c6, hv, _, _, hr6⟩ := hrm2
        injection hv with h1 _ h3
        subst h1 h3
        go_wp2_with (at_builtin; refine wpList_append_any _ rfl (.tmp 40) (.tmp 41) _ rfl w1.heap.size 5 i0 _ 1 1 Try.underlying22 hi hz0 hz1 hz2 rfl (by omega) (.slice (some ⟨w1.heap.size, 0, none⟩) 0 0) 0 [] rfl (World.ownsRow_made w1 _ _ (Nat.le_refl _) (by unfold maxLen; omega) rfl) w1.heap.size OA m.length oc (bs m) rfl (hr6.alloc (Nat.le_refl _) _) (bs_one m) (by unfold maxLen; omega) (by omega) (by simp) ?_; intro v1 w2 hown1 hgrow1 hat1; simp only [Nat.zero_add, List.nil_append] at hown1; obtain ⟨A5, c5, rfl⟩ := own_form hown1)
        have hbl1 : Below w1.heap.size w1 w2 := ((Below.refl _ _).alloc (Nat.le_refl _) _).grown hgrow1 (by simp) (by simp [Value.ownBlock])
        clear hgrow1 hat1 hown
        go_loopg [7, 8] g (fun q tv iv wr => ∃ (j : Nat) (OA : Option Addr) (oc : Nat), iv = .int .i64 j ∧ q = g - j ∧ j ≤ g ∧ tv = .slice OA (m.length + 2 * j) oc ∧ wr.ownsRow w1.heap.size 5 1 (.slice OA (m.length + 2 * j) oc) (m.length + 2 * j) (bs (m ++ Pk.gapBytes j)) ∧ Below w1.heap.size w1 wr)
        case atStart => exact ⟨0, A5, c5, rfl, rfl, by omega, rfl, by simpa [Pk.gapBytes] using hown1, hbl1⟩
        case round =>
          clear hown1 hbl1
          obtain ⟨j, OB, ob, rfl, rfl, hj, rfl, hown, hbl2⟩ := hrel
          have hsz2 := hbl2.size
          by_cases hlt : j < g
          · have j1 : (j : Int) < g := by omega
            have HB2 := Lib.hid (bs_gap m j (by omega))
            go_wp2_with (at_builtin; refine wpList_append_lies _ rfl (.tmp 48) (.tmp 55) _ rfl w1.heap.size 5 i0 _ 1 1 Try.underlying22 hi hz0 hz1 hz2 rfl (by omega) (.slice OB (m.length + 2 * j) ob) (m.length + 2 * j) (bs (m ++ Pk.gapBytes j)) rfl (hown.alloc _) ⟨wr.heap.size, 0, none⟩ 2 2 [.int .u8 ((j : Int) % 256), .int .u8 ((j : Int) / 256 + 100)] rfl rfl (World.news_of_block (t := 5) (fr := (0, 0)) (heap_alloc_new wr _)) (by simp [Value.oneCell']) (by omega) (by unfold maxLen; omega) (by omega) (by simp; omega) (wr.heap.size + 1) (by simp) ?_; intro gg oc2 w4 hown4 hgrow4 hat4 hlt4)
            go_roundg (g - (j + 1))
            case measure => omega
            case rel =>
              refine ⟨j + 1, some ⟨gg, 0, none⟩, oc2, by go_num, rfl, by omega, rfl, ?_, (hbl2.alloc hsz2 _).grown hgrow4 (by simp; omega) (fun g hg => (hown.lt g hg).1)⟩
              rw [HB2.out]
              exact hown4
          · obtain rfl : j = g := by omega
            have i1 : decide ((j : Int) < j) = false := decide_eq_false (by omega)
            have hrm3 := (hr6.below hbl2)
            clear hr6
            have hwl := Pk.win_length m j
            have hul : (m ++ Pk.gapBytes j).length = m.length + 2 * j := by rw [List.length_append, Pk.gapBytes_length]
            go_wp2_with (at_builtin; refine wpList_append_any _ rfl (.tmp 57) (.tmp 58) _ rfl w1.heap.size 5 i0 _ 1 1 Try.underlying22 hi hz0 hz1 hz2 rfl (by omega) (.slice OB (m.length + 2 * j) ob) (m.length + 2 * j) (bs (m ++ Pk.gapBytes j)) rfl hown w1.heap.size OA m.length oc (bs m) rfl hrm3 (bs_one m) (by unfold maxLen; omega) (by omega) hsz2 ?_; intro v3 w3 hown3 hgrow3 hat3; obtain ⟨A7, c7, rfl⟩ := own_form hown3)
            have hbl3 : Below w1.heap.size w1 w3 := hbl2.grown hgrow3 hsz2 (fun g hg => (hown.lt g hg).1)
            have hbw3 := hbl.trans (hbl3.mono hszr)
            have hsz3 := hbw3.size
            rw [← bs_append] at hown3
            have hra : RdB w3 w3.heap.size (.slice A7 (m.length + 2 * j + m.length) c7) (Pk.winText m j) := RdB.of_own hown3 rfl
            clear hgrow3 hat3 hown3 hown hrm3 hbl2 hbl hbl3 hul
            have hup := (Pk.unpack_pack [] (Pk.winText m j) (Pk.winText m j).length (by simp) (by omega)).1 (Nat.le_refl _)
            have htp := Pk.tokens_pack [] (Pk.winText m j)
            have hpl4 := Pk.pack_len [] (Pk.winText m j)
            have hlen2 : m.length + 2 * j + m.length = (Pk.winText m j).length := by omega
            have hlast : 0 < j → j ≤ 2046 → 4 ≤ m.length → m.length + 2 * j ≤ 4096 → ∃ out, Pk.can [] (Pk.winText m j) = out ++ [⟨[], m.length + 2 * j, m.length⟩] := fun h1 h2 h3 h4 => Pk.win_last m j hmg h2 h1 h3 h4 hk30
            have HUP := Lib.hid hup
            have HTP := Lib.hid htp
            have HLAST := Lib.hid hlast
            have hall : (Pk.winText m j).length ≤ 20000 := by omega
            rw [hlen2] at hra
            rw [hlen2]
            clear hup htp hlast hlen2 hwl hmg
            generalize Pk.winText m j = all at *
            go_wp2_with fail
            refine (pack_any w3 _ _ all hra (Nat.le_refl _) (by omega)).mono ?_
            rintro e w4 ⟨v4, rfl, h4, nb⟩
            have bl4 := hbw3.trans (nb.mono hsz3)
            replace hra := (hra.below nb).more nb.size
            clear nb hbw3 hsz3
            dsimp only
            go_wp2_with fail
            refine (unpack_any w4 _ v4 _ all.length h4 (Nat.le_refl _) (by omega) (by omega) (by omega)).mono ?_
            rintro e w5 ⟨hu, nb⟩
            rw [HUP.out] at hu
            obtain ⟨v5, rfl, h5⟩ := hu
            have bl5 := bl4.trans (nb.mono bl4.size)
            replace hra := (hra.below nb).more nb.size
            replace h4 := (h4.below nb).more nb.size
            clear nb bl4 HUP
            dsimp only
            go_wp2_with fail
            refine (tokens_any w5 _ v4 _ h4 (Nat.le_refl _) (by omega)).mono ?_
            rintro e w6 ⟨hu, nb⟩
            rw [HTP.out] at hu
            obtain ⟨v6, rfl, h6⟩ := hu
            have bl6 := bl5.trans (nb.mono bl5.size)
            replace hra := (hra.below nb).more nb.size
            replace h5 := (h5.below nb).more nb.size
            clear nb bl5 HTP h4
            dsimp only
            go_wp2_with fail
            refine (known_any w6).mono ?_
            rintro e w7 ⟨rfl, nb⟩
            have c1 := conv_of (hra.below nb)
            have c2 := conv_of (h5.below nb)
            replace h6 := h6.below nb
            have bl7 := bl6.trans (nb.mono bl6.size)
            have hcl := Pk.can_len [] all
            have hn4 : (Pk.can [] all).length ≤ 50000 := by omega
            clear nb bl6 hra h5 hpl4 hall hcl
            generalize Pk.can [] all = ts at *
            obtain ⟨TA, tc, rfl, tcap, tat_⟩ := h6.at_
            have HT := Lib.hid tat_
            clear tat_ h6
            dsimp only
            by_cases q1 : j = 0
            · have e1 : ((j : Int) == 0) = true := by rw [q1]; rfl
              have e1' : (j == 0) = true := by rw [q1]; rfl
              go_wp2_with fail
              go_ret
              exact ⟨rfl, bl7⟩
            have e1 : ((j : Int) == 0) = false := beq_eq_false_iff_ne.2 (by omega)
            have e1' : (j == 0) = false := beq_eq_false_iff_ne.2 (by omega)
            by_cases q2 : m.length < 4
            · have e2 : decide ((m.length : Int) < 4) = true := decide_eq_true (by omega)
              go_wp2_with fail
              go_ret
              exact ⟨rfl, bl7⟩
            have e2 : decide ((m.length : Int) < 4) = false := decide_eq_false (by omega)
            by_cases q3 : 4096 < m.length + 2 * j
            · have e3 : decide ((4096 : Int) < m.length + 2 * j) = true := decide_eq_true (by omega)
              go_wp2_with fail
              go_ret
              exact ⟨rfl, bl7⟩
            have e3 : decide ((4096 : Int) < m.length + 2 * j) = false := decide_eq_false (by omega)
            obtain ⟨out, hout⟩ := HLAST.out (by omega) (by omega) (by omega) (by omega)
            have hlo : ts.length = out.length + 1 := by rw [hout]; simp
            have hto : ts[ts.length - 1]? = some ⟨[], m.length + 2 * j, m.length⟩ := by rw [hout]; simp
            obtain ⟨gt, lv, rfl, hgt, c3, c4, c5, hlv⟩ := HT.out _ _ hto
            dsimp only at c4 c5
            clear hto hout HLAST HT c3 hlv
            generalize ts.length = n at *
            have f1 : (0 : Int) < n := by omega
            have f1' : 0 < n := by omega
            have f2 : (0 : Int) ≤ (n : Int) - 1 := by omega
            have f3 : (n : Int) - 1 < n := by omega
            have f4 : (((m.length + 2 * j : Nat) : Int) == (m.length : Int) + 2 * j) = true := by simp
            have f5 : ((n : Int) - 1).toNat = n - 1 := by omega
            clear hlo
            go_wp2_with fail
            go_ret
            exact ⟨by first | rfl | simp, bl7⟩
end Go.Proofs.Ytgmpdclmfcmodaa
