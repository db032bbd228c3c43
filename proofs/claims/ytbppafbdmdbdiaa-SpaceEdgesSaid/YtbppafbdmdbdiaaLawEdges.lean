/-
  The law SpaceEdges, walked.
-/
import Derived.Test.YtbppafbdmdbdiaaEdges
namespace Go.Proofs.Ytbppafbdmdbdiaa
open Go.RowKit
set_option linter.unusedVariables false
theorem e1 : (mapA newA 63 []).2 = 0 := by decide +kernel
theorem e2 : mapA e1A 64 [] = (e1A, 2) := by unfold mapA; rw [if_pos (by omega)]
theorem u8_int {a : Int} (h : (Lit.int .u8 a).wf = true) : 0 ≤ a ∧ a < 256 := by
  simp [Lit.wf, IntKind.min, IntKind.max, IntKind.bits, IntKind.signed] at h
  omega
theorem or_all : ∀ c : Fin 256, bits BinOp.or IntKind.u8 (c.val : Int) 1 = ((UInt8.ofNat (c.val ||| 1)).toNat : Int) ∧ UInt8.ofNat (c.val ||| 1) ≠ 0 := by decide +kernel
theorem or_one (c : Int) (h1 : 0 ≤ c) (h2 : c < 256) : ∃ v : UInt8, bits BinOp.or IntKind.u8 c 1 = (v.toNat : Int) ∧ v ≠ 0 := by
  obtain ⟨m, rfl⟩ : ∃ m : Nat, c = m := ⟨c.toNat, by omega⟩
  have := or_all ⟨m, by omega⟩
  exact ⟨_, this.1, this.2⟩
theorem edges_ok (k : Nat) (v : UInt8) (hv : v ≠ 0) (hk : k ≤ 64) : ∃ a2, storeA e1A (4096 - (k : Int)) (List.replicate k v) = (a2, 0) ∧ loadA a2 (4096 - (k : Int)) k = (a2, List.replicate k v, 0) ∧
    textA a2 (4096 - (k : Int)) 100 = (a2, [], 23) ∧ loadA a2 (4096 - (k : Int)) ((k : Int) + 1) = (a2, [], 23) := by
  have hc : (4096 : Int) - k = ((4096 - k : Nat) : Int) := by omega
  rw [hc]
  by_cases h0 : k = 0
  · subst h0
    refine ⟨e1A, ?_, ?_, ?_, ?_⟩
    · rfl
    · rfl
    · unfold textA
      rw [if_neg (by omega)]
      unfold textGo
      rw [if_pos (by omega)]
    · exact load_over e1A 0 (by omega)
  · obtain ⟨a2, b', h1, h2, h3, h4⟩ := edges_store k v (by omega) hk
    refine ⟨a2, h1, load_last a2 b' v h2 h3 k (by omega) hk h4, ?_, load_over a2 k (by omega)⟩
    unfold textA
    rw [if_neg (by omega)]
    exact text_end a2 b' h2 h3 100 k 4097 [] hk (by omega) (by simp; omega) (fun j hj hj2 => by rw [h4 j hj hj2]; exact hv)
theorem e62 : (needA e1A 62).page 62 = none := by decide +kernel
theorem edges_bad (k : Nat) (v : UInt8) (h1 : 64 < k) (h2 : k < 70) : (storeA e1A (4096 - (k : Int)) (List.replicate k v)).2 = 23 := by
  have hc : (4096 : Int) - k = ((4096 - k : Nat) : Int) := by omega
  rw [hc]
  unfold storeA
  rw [List.length_replicate]
  exact access_two e1A e62 k h1 (by omega)

section
variable {B : Nat} {w w' : World} {g : Nat} {a : AS}
theorem On.stepM {sps : Nat → Option Sp} {hm : Pages} {a' : AS} {K : Sp → Pages → Prop} (hB : B ≤ w.heap.size) (h : Stp C0 B sps hm g a' w w' K) : On B w' g a' ∧ Mv B NoX w w' := by
  obtain ⟨s', hm', h1, h2, _, h4, _⟩ := h
  exact ⟨⟨⟨_, hm', s', h1, upd_at _ _ _, h2⟩, Nat.le_trans hB h4.size⟩, h4⟩
theorem load_onM (h : On B w g a) (at_ n : Int) (hn1 : n ≤ 140737488355328) (ha1 : -9223372036854775808 ≤ at_) (ha2 : at_ ≤ 9223372036854775807) :
    Calls Try.prog 15 #[.pointer (some ⟨g, 0, none⟩), .int .i64 at_, .int .i64 n] w fun e w' => e = .returned (.tuple #[.string ⟨(loadA a at_ n).2.1.toArray⟩, .int .i64 (loadA a at_ n).2.2]) ∧ On B w' g (loadA a at_ n).1 ∧ Mv B NoX w w' := by
  obtain ⟨⟨sps, hm, s, h1, h2, rfl⟩, hB⟩ := h
  refine (load_all (ok0 B) h1 h2 at_ n hn1 ha1 ha2 hB).mono ?_
  intro e w' hs
  have := On.stepM hB hs
  obtain ⟨s', hm', _, _, _, _, hK⟩ := hs
  exact ⟨hK, this⟩
theorem store_onM (h : On B w g a) (at_ : Int) (t : ByteArray) (ht : t.size ≤ 140737488355328) (ha1 : -9223372036854775808 ≤ at_) (ha2 : at_ ≤ 9223372036854775807) :
    Calls Try.prog 14 #[.pointer (some ⟨g, 0, none⟩), .int .i64 at_, .string t] w fun e w' => e = .returned (.int .i64 (storeA a at_ t.data.toList).2) ∧ On B w' g (storeA a at_ t.data.toList).1 ∧ Mv B NoX w w' := by
  obtain ⟨⟨sps, hm, s, h1, h2, rfl⟩, hB⟩ := h
  refine (store_all (ok0 B) h1 h2 at_ t ht ha1 ha2 hB).mono ?_
  intro e w' hs
  have := On.stepM hB hs
  obtain ⟨s', hm', _, _, _, _, hK⟩ := hs
  exact ⟨hK, this⟩
theorem text_onM (h : On B w g a) (x most : Int) (ha1 : -9223372036854775808 ≤ x) (ha2 : x ≤ 9223372036854775807) :
    Calls Try.prog 16 #[.pointer (some ⟨g, 0, none⟩), .int .i64 x, .int .i64 most] w fun e w' => e = .returned (.tuple #[.string ⟨(textA a x most).2.1.toArray⟩, .int .i64 (textA a x most).2.2]) ∧ On B w' g (textA a x most).1 ∧ Mv B NoX w w' := by
  obtain ⟨⟨sps, hm, s, h1, h2, rfl⟩, hB⟩ := h
  refine (text_all (ok0 B) h1 h2 x most hB ha1 ha2 (fun k hk => hk.elim)).mono ?_
  intro e w' hs
  have := On.stepM hB hs
  obtain ⟨s', hm', _, _, _, _, hK⟩ := hs
  exact ⟨hK, this⟩
end

set_option maxRecDepth 100000 in
set_option maxHeartbeats 8000000 in
theorem edges_walk (w : World) (n c : Int) (hwn : (Lit.int .u8 n).wf = true) (hwc : (Lit.int .u8 c).wf = true) :
    Calls Try.prog 3 #[.int .u8 n, .int .u8 c] w fun e w' => e = .returned (.bool true) ∧ Below w.heap.size w w' := by
  have hq := ptr23_some
  obtain ⟨i5, hi, hz0, hz1, hz2⟩ := info_parts info5
  obtain ⟨hn1, hn2⟩ := u8_int hwn
  obtain ⟨hc1, hc2⟩ := u8_int hwc
  obtain ⟨n, rfl⟩ : ∃ m : Nat, n = m := ⟨n.toNat, by omega⟩
  obtain ⟨k, hk⟩ : ∃ k : Nat, k = n % 70 := ⟨_, rfl⟩
  have hk70 : k < 70 := by omega
  have e70 : (n : Int) % 70 = (k : Int) := by omega
  clear hwn hwc hk
  go_enter Try.func3, Try.ntmps3
  go_wp2_with fail
  refine (known_any w).mono ?_
  rintro e w1 ⟨rfl, b1⟩
  dsimp only
  go_wp2_with fail
  refine (new_on w1).mono ?_
  rintro e w2 ⟨rfl, o2, nb⟩
  dsimp only
  go_wp2_with fail
  refine (map_on o2 63 ⟨#[]⟩ (by decide)).mono ?_
  rintro e w3 ⟨rfl, o3, nb3⟩
  replace o3 : On w1.heap.size w3 (w1.heap.size + 1) e1A := o3
  rw [show (mapA newA 63 (⟨#[]⟩ : ByteArray).data.toList).2 = 0 from e1]
  dsimp only
  go_wp2_with fail
  refine (map_on o3 64 ⟨#[]⟩ (by decide)).mono ?_
  rintro e w4 ⟨rfl, o4, nb4⟩
  rw [show mapA e1A 64 (⟨#[]⟩ : ByteArray).data.toList = (e1A, 2) from e2] at *
  dsimp only
  have bl4 := b1.trans (((nb.trans nb3).trans nb4).mono b1.size)
  have hsz4 := bl4.size
  generalize w1.heap.size + 1 = g at *
  have hB1 : w.heap.size ≤ w1.heap.size := b1.size
  obtain ⟨B, hB⟩ : ∃ B, B = w1.heap.size := ⟨_, rfl⟩
  rw [← hB] at o4 hB1
  clear o2 o3 nb nb3 nb4 b1 hB
  have O4 := Lib.hid o4
  have BL4 := Lib.hid bl4
  clear o4 bl4
  obtain ⟨v, hv, hv0⟩ := or_one c hc1 hc2
  have HV0 := Lib.hid hv0
  clear hv0
  go_wp2_with fail
  go_loopg [7, 8] k (fun q tv iv wr => ∃ (i : Nat) (OA : Option Addr) (oc : Nat), iv = .int .i64 i ∧ q = k - i ∧ i ≤ k ∧ tv = .slice OA i oc ∧ wr.ownsRow w4.heap.size 5 1 (.slice OA i oc) i (bs (List.replicate i v)) ∧ Below w4.heap.size w4 wr)
  case atStart => exact ⟨0, none, 0, rfl, rfl, by omega, rfl, World.ownsRow_nil _ _ _ _, Below.refl _ _⟩
  case round =>
    obtain ⟨i, OA, oc, rfl, rfl, hi2, rfl, hown, hbl⟩ := hrel
    have hszr := hbl.size
    by_cases hlt : i < k
    · have i1 : (i : Int) < k := by omega
      have hbs : bs (List.replicate i v) ++ [.int .u8 v.toNat] = bs (List.replicate (i + 1) v) := by rw [List.replicate_succ', bs_append]; rfl
      have HBS := Lib.hid hbs
      clear hbs
      go_wp2_with (at_builtin; refine wpList_append_lies _ rfl (.tmp 35) (.tmp 38) _ rfl w4.heap.size 5 i5 _ 1 1 Try.underlying27 hi hz0 hz1 hz2 rfl (by omega) (.slice OA i oc) i (bs (List.replicate i v)) rfl (hown.alloc _) ⟨wr.heap.size, 0, none⟩ 1 1 [.int .u8 v.toNat] rfl rfl (World.news_of_block (t := 5) (fr := (0, 0)) (heap_alloc_new wr _)) (by simp [Value.oneCell']) (by omega) (by unfold maxLen; omega) (by omega) (by simp; omega) (wr.heap.size + 1) (by simp) ?_; intro gg oc4 w5 hown4 hgrow4 hat4 hlt4)
      rw [HBS.out] at hown4
      have hb5 : Below w4.heap.size w4 w5 := (hbl.alloc hszr _).grown hgrow4 (by simp; omega) (fun q hq => (hown.lt q hq).1)
      go_roundg (k - (i + 1))
      case measure => omega
      case rel => exact ⟨i + 1, _, _, by go_num, rfl, by omega, rfl, hown4, hb5⟩
    · obtain rfl : i = k := by omega
      have i1 : decide ((i : Int) < i) = false := decide_eq_false (by omega)
      obtain ⟨L, hLd⟩ : ∃ L, L = List.replicate i v := ⟨_, rfl⟩
      have hll : L.length = i := by rw [hLd]; simp
      rw [← hLd] at hown
      have HLD := Lib.hid hLd
      have HLL := Lib.hid hll
      clear hLd hll
      have hconv : ∀ W, Mv B NoX wr W → (convert 27 9 (.slice OA i oc)).run Try.prog W = .ok (.string ⟨L.toArray⟩) W := fun W hb => run_convert_string Try.underlying27 Try.underlying5 Try.underlying9 (RdB.of_own (own_mv hown hb (fun k hk => hk.elim)) rfl)
      have HC := Lib.hid hconv
      have hconv := HC.out _ (Mv.refl _ _ _)
      have ho5 := O4.out.below hbl
      have hbw : Below w.heap.size w wr := BL4.out.trans (hbl.mono hsz4)
      have O5 := Lib.hid ho5
      have BW := Lib.hid hbw
      have hszw := hbw.size
      have hBr := ho5.2
      clear hown hbl ho5 hbw O4 BL4 hv
      have hL : (⟨L.toArray⟩ : ByteArray).data.toList = L := by simp
      have hS : (⟨L.toArray⟩ : ByteArray).size = i := by show L.toArray.size = i; rw [List.size_toArray]; exact HLL.out
      have HL := Lib.hid hL
      have HS := Lib.hid hS
      clear hL hS
      by_cases hbig : 64 < i
      · have hst := edges_bad i v hbig hk70
        rw [← HLD.out] at hst
        have HST := Lib.hid hst
        have d1 : decide ((64 : Int) < i) = true := decide_eq_true (by omega)
        clear hst
        go_wp2_with fail
        refine (store_onM O5.out _ _ (by rw [HS.out]; omega) (by omega) (by omega)).mono ?_
        rintro e w6 ⟨rfl, o6, nb6⟩
        rw [show (⟨L.toArray⟩ : ByteArray).data.toList = L by simp, HST.out]
        have B6 := Lib.hid (BW.out.trans ((nb6.below hBr).mono hB1))
        clear o6 nb6
        dsimp only
        go_wp2_with fail
        go_ret
        exact ⟨by first | rfl | simp, B6.out⟩
      · obtain ⟨a2, h1, h2, h3, h4⟩ := edges_ok i v HV0.out (by omega)
        rw [← HLD.out] at h1 h2
        have H1 := Lib.hid h1
        have H2 := Lib.hid h2
        have H3 := Lib.hid h3
        have H4 := Lib.hid h4
        have d1 : decide ((64 : Int) < i) = false := decide_eq_false (by omega)
        clear h1 h2 h3 h4
        go_wp2_with fail
        refine (store_onM O5.out _ _ (by rw [HS.out]; omega) (by omega) (by omega)).mono ?_
        rintro e w6 ⟨rfl, o6, nb6⟩
        rw [show (⟨L.toArray⟩ : ByteArray).data.toList = L by simp, H1.out] at o6 ⊢
        have B6 := Lib.hid (BW.out.trans ((nb6.below hBr).mono hB1))
        have N6 := Lib.hid nb6
        have O6 := Lib.hid o6
        have hBr6 := o6.2
        clear o6 nb6
        dsimp only
        go_wp2_with fail
        refine (load_onM O6.out _ _ (by omega) (by omega) (by omega)).mono ?_
        rintro e w7 ⟨rfl, o7, nb7⟩
        rw [H2.out] at o7 ⊢
        have B7 := Lib.hid (B6.out.trans ((nb7.below hBr6).mono hB1))
        have N7 := Lib.hid (N6.out.trans nb7)
        have O7 := Lib.hid o7
        have hBr7 := o7.2
        clear o7 nb7
        dsimp only
        go_wp2_with fail
        refine (text_onM O7.out _ _ (by omega) (by omega)).mono ?_
        rintro e w8 ⟨rfl, o8, nb8⟩
        rw [H3.out] at o8 ⊢
        have B8 := Lib.hid (B7.out.trans ((nb8.below hBr7).mono hB1))
        have N8 := Lib.hid (N7.out.trans nb8)
        have O8 := Lib.hid o8
        have hBr8 := o8.2
        clear o8 nb8
        dsimp only
        go_wp2_with fail
        refine (load_onM O8.out _ _ (by omega) (by omega) (by omega)).mono ?_
        rintro e w9 ⟨rfl, o9, nb9⟩
        rw [H4.out] at o9 ⊢
        have B9 := Lib.hid (B8.out.trans ((nb9.below hBr8).mono hB1))
        have N9 := Lib.hid (N8.out.trans nb9)
        clear o9 nb9
        have hconv9 := HC.out _ N9.out
        dsimp only
        go_wp2_with fail
        go_ret
        exact ⟨by first | rfl | simp, B9.out⟩
end Go.Proofs.Ytbppafbdmdbdiaa
