/-
  The reference: Load.
-/
import Derived.Test.YtbppafbdmdbdiaaMRa
namespace Go.Proofs.Ytbppafbdmdbdiaa
open Go.RowKit
set_option linter.unusedVariables false

theorem reachA_page_ge : ∀ (c p : Nat) (a : AS) (q : Nat), q < p → (reachA c p a).1.page q = a.page q
  | 0, _, _, _, _ => rfl
  | c + 1, p, a, q, h => by
    unfold reachA
    split
    · rw [reachA_page_ge c (p + 1) _ q (by omega), needA_page_ne _ _ _ (by omega)]
    · exact needA_page_ne _ _ _ (by omega)
theorem reachA_some : ∀ (c p : Nat) (a : AS), (reachA c p a).2 = true → ∀ q, p ≤ q → q < p + c → ((reachA c p a).1.page q).isSome = true
  | 0, p, a, _, q, h1, h2 => by omega
  | c + 1, p, a, h, q, h1, h2 => by
    unfold reachA at h ⊢
    by_cases hs : ((needA a p).page p).isSome = true
    · rw [if_pos hs] at h ⊢
      by_cases e : q = p
      · rw [e, reachA_page_ge c (p + 1) _ p (by omega)]; exact hs
      · exact reachA_some c (p + 1) _ h q (by omega) (by omega)
    · rw [if_neg hs] at h; cases h
theorem accessA_some (a : AS) (x n : Nat) (h : (accessA a x n).2 = 0) (i : Nat) (hi : i < n) : (((accessA a x n).1).page ((x + i) / 64)).isSome = true ∧ x + i < 4096 := by
  unfold accessA at h ⊢
  rw [if_neg (by omega)] at h ⊢
  by_cases hb : (x : Int) < 0 ∨ 4096 ≤ (x : Int) ∨ 4096 - (x : Int) < n
  · rw [if_pos hb] at h; cases h
  · rw [if_neg hb] at h ⊢
    have hx : ((x : Int) / 64).toNat = x / 64 := by omega
    have hy : (((x : Int) + n - 1) / 64).toNat = (x + n - 1) / 64 := by omega
    simp only [hx, hy] at h ⊢
    refine ⟨reachA_some _ _ _ ?_ _ (by omega) (by omega), by omega⟩
    cases hr : (reachA ((x + n - 1) / 64 + 1 - x / 64) (x / 64) a).2 with
    | true => rfl
    | false => rw [hr] at h; cases h
theorem bytesA_succ (a : AS) (x i : Nat) : bytesA a x (i + 1) = bytesA a x i ++ [byteA a (x + i)] := by
  unfold bytesA
  rw [List.range_succ, List.map_append]
  rfl
theorem cut_one (b : List UInt8) (Q : Nat) (hQ : Q < b.length) : ((⟨b.toArray⟩ : ByteArray).extract Q (Q + 1)) = ⟨[b.getD Q 0].toArray⟩ := by
  apply ByteArray.ext
  rw [ByteArray.data_extract]
  apply Array.ext'
  rw [Array.toList_extract]
  show List.extract b Q (Q + 1) = [b.getD Q 0]
  rw [List.extract_eq_take_drop, show Q + 1 - Q = 1 by omega, List.getD_eq_getElem?_getD, List.getElem?_eq_getElem hQ, List.drop_eq_getElem_cons hQ]
  rfl
theorem bytes_append (b c : List UInt8) : (⟨b.toArray⟩ : ByteArray) ++ ⟨c.toArray⟩ = ⟨(b ++ c).toArray⟩ := by
  apply ByteArray.ext
  rw [ByteArray.data_append]
  simp

set_option maxRecDepth 100000 in
set_option maxHeartbeats 8000000 in
theorem refLoad_any (w : World) (m : Value) (a : AS) (at_ n : Int) (hn1 : n ≤ 9223372036854775807) (ha1 : -9223372036854775808 ≤ at_) (ha2 : at_ ≤ 9223372036854775807) (hs : SrcIs w m a.src) (ha : AOk a) :
    Calls Try.prog 42 #[.agg (rsCells (rsOf m a)), .int .i64 at_, .int .i64 n] w fun e w' => e = .returned (.tuple #[.agg (rsCells (rsOf m (loadA a at_ n).1)), .string ⟨(loadA a at_ n).2.1.toArray⟩, .int .i64 (loadA a at_ n).2.2]) ∧ Below w.heap.size w w' := by
  have hz := z61
  have HMAP := Lib.hid hs.map
  have HT := Lib.hid (Two.new w (rsOf m a))
  have HS := Lib.hid hs
  have HA := Lib.hid ha
  clear hs ha
  by_cases hneg : n < 0
  · have hr : loadA a at_ n = (a, [], 2) := by unfold loadA; rw [if_pos hneg]
    rw [hr]
    have e1 : decide (n < 0) = true := decide_eq_true hneg
    clear hr
    go_enter Try.func42, Try.ntmps42
    go_upto_region 1 with (fail)
    generalize ((w.alloc (.cells (rsCells (rsOf m a)) 61)).alloc (.cells (rsCells rs0) 61)) = W0 at *
    clear hz
    obtain ⟨k, hk⟩ : ∃ k, k = w.heap.size := ⟨_, rfl⟩
    rw [← hk] at HT ⊢
    have HN := Lib.hid hk
    clear hk
    obtain ⟨r0, hz0⟩ := HT.out.z
    have HZ0 := Lib.hid hz0
    clear hz0
    go_wp2_with (first
      | (with_reducible refine load_S HT.out.s rfl (.tmp 3) rfl rfl ?_)
      | (refine store_S HZ0.out (rsOf_map a HMAP.out) rfl (.tmp 6) (.tmp 15) rfl rfl rfl ?_; intro w1 hw1 hf1))
    refine bodyPost_ret (res_S3 rfl _ hw1 rfl) rfl ?_
    have hbel := (HT.out.ret hf1).resolve_right (by rw [HN.out]; omega)
    exact ⟨rfl, hbel⟩
  · have e1 : decide (n < 0) = false := decide_eq_false hneg
    have hr : loadA a at_ n = ((accessA a at_ n).1, if (accessA a at_ n).2 = 0 then bytesA (accessA a at_ n).1 at_.toNat n.toNat else [], (accessA a at_ n).2) := by unfold loadA; rw [if_neg hneg]
    rw [hr]
    have hrange := access_range a at_ n
    have hso : (accessA a at_ n).2 = 0 → ∀ i : Nat, (i : Int) < n → (((accessA a at_ n).1).page ((at_.toNat + i) / 64)).isSome = true ∧ at_.toNat + i < 4096 := fun h i hi => by
      rcases hrange h with h0 | ⟨h1, h2⟩
      · omega
      · have e2 : at_ = (at_.toNat : Int) := by omega
        have e3 : n = (n.toNat : Int) := by omega
        have := accessA_some a at_.toNat n.toNat (by rw [← e2, ← e3]; exact h) i (by omega)
        rw [← e2, ← e3] at this
        exact this
    have HSO := Lib.hid hso
    have HRG := Lib.hid hrange
    have HOKA := Lib.hid (accessA_ok HA.out at_ n)
    have HRE := Lib.hid (fun W hs => refReach_any W m a at_ n (by omega) hn1 ha1 ha2 hs HA.out)
    clear hr hrange hso
    generalize accessA a at_ n = R at *
    obtain ⟨a', r⟩ := R
    dsimp only at HSO HRG HOKA HRE ⊢
    obtain ⟨bb, hbb⟩ : ∃ bb, bb = if r = 0 then bytesA a' at_.toNat n.toNat else [] := ⟨_, rfl⟩
    rw [← hbb]
    have HBB := Lib.hid hbb
    clear hbb
    go_enter Try.func42, Try.ntmps42
    go_upto_region 1 with (fail)
    generalize ((w.alloc (.cells (rsCells (rsOf m a)) 61)).alloc (.cells (rsCells rs0) 61)) = W0 at *
    clear hz
    obtain ⟨k, hk⟩ : ∃ k, k = w.heap.size := ⟨_, rfl⟩
    rw [← hk] at HT ⊢
    have HN := Lib.hid hk
    have hkl := HT.out.lt
    clear hk
    go_wp2_with (with_reducible refine load_S HT.out.s rfl (.tmp 3) rfl rfl ?_)
    refine (HRE.out W0 (HS.out.two HT.out HN.out)).mono ?_
    rintro e w2 ⟨rfl, nb⟩
    have HT2 := Lib.hid (HT.out.below nb)
    have hlt2 := HT2.out.lt
    clear nb HRE
    dsimp only
    go_upto_region 4 with (refine store_S HT2.out.s (rsOf_map _ HMAP.out) rfl (.tmp 3) (.tmp 21) rfl rfl rfl ?_; intro w3 hw3 hf3)
    have HT3 := Lib.hid (HT2.out.step hw3 hf3)
    have hlt3 := HT3.out.lt
    obtain ⟨r3, hz3⟩ := HT3.out.z
    have HZ0 := Lib.hid hz3
    clear hw3 hf3 hz3
    by_cases hr0 : r = 0
    · subst hr0
      have hbb := HBB.out
      rw [if_pos rfl] at hbb
      have HB2 := Lib.hid hbb
      clear hbb HBB
      go_wp2_with fail
      go_loopg [10, 11] n.toNat (fun q ov iv wr => ∃ i : Nat, iv = .int .i64 i ∧ q = n.toNat - i ∧ i ≤ n.toNat ∧ wr = w3 ∧ ov = .string ⟨(bytesA a' at_.toNat i).toArray⟩)
      case atStart => exact ⟨0, rfl, rfl, by omega, rfl, rfl⟩
      case round =>
        obtain ⟨i, rfl, rfl, hi, rfl, rfl⟩ := hrel
        by_cases hlt : i < n.toNat
        · have i1 : (i : Int) < n := by omega
          obtain ⟨hp1, hx2⟩ := HSO.out (by first | rfl | trivial) i i1
          have hrg := HRG.out (by first | rfl | trivial)
          obtain ⟨x, rfl⟩ : ∃ x : Nat, at_ = x := ⟨at_.toNat, by omega⟩
          rw [Int.toNat_natCast] at hp1 hx2 ⊢
          obtain ⟨P, hP⟩ : ∃ P : Nat, P = (x + i) / 64 := ⟨_, rfl⟩
          obtain ⟨Q, hQ⟩ : ∃ Q : Nat, Q = (x + i) % 64 := ⟨_, rfl⟩
          have d1 : ((x : Int) + i) / 64 = (P : Int) := by omega
          have d2 : ((x : Int) + i) % 64 = (Q : Int) := by omega
          have hP64 : P < 64 := by omega
          have hQ64 : Q < 64 := by omega
          have j1 : (P : Int) < 64 := by omega
          rw [← hP] at hp1
          obtain ⟨b, hb⟩ := Option.isSome_iff_exists.1 hp1
          have hbl := HOKA.out.len P b hb
          have cbt := HT3.out.s.c_bt hP64
          have hbt : (rsOf m a').bt P = ⟨b.toArray⟩ := by show (⟨((a'.page P).getD []).toArray⟩ : ByteArray) = _; rw [hb]; rfl
          rw [hbt] at cbt
          have hby : byteA a' (x + i) = b.getD Q 0 := by unfold byteA; rw [← hP, ← hQ, hb]; rfl
          have hsuc := bytesA_succ a' x i
          rw [hby] at hsuc
          have hcut := cut_one b Q (by omega)
          have HSUC := Lib.hid hsuc
          have HCUT := Lib.hid hcut
          have hbsz : (⟨b.toArray⟩ : ByteArray).size = 64 := by show b.toArray.size = 64; simpa using hbl
          obtain ⟨T, hT⟩ : ∃ T : ByteArray, T = ⟨b.toArray⟩ := ⟨_, rfl⟩
          rw [← hT] at cbt HCUT hbsz
          have hQT : Q + 1 ≤ T.size := by omega
          have hQT1 : (Q : Int) + 1 ≤ (T.size : Int) := by omega
          have hQT2 : (Q : Int) ≤ (Q : Int) + 1 := by omega
          obtain ⟨O, hO⟩ : ∃ O : ByteArray, O = ⟨(bytesA a' x i).toArray⟩ := ⟨_, rfl⟩
          have hOs : O.size = i := by rw [hO]; show (bytesA a' x i).toArray.size = i; simp [bytesA]
          have HOO := Lib.hid hO
          rw [← hO]
          have hi4 : i ≤ 4096 := by omega
          clear hp1 hx2 hP hQ hb hbl hbt hby hsuc hcut hT hO hrg
          go_wp2_with fail
          go_roundg (n.toNat - (i + 1))
          case measure => omega
          case rel => exact ⟨i + 1, by go_num, rfl, by omega, rfl, by rw [HCUT.out, HOO.out, bytes_append, ← HSUC.out, Int.toNat_natCast]⟩
        · obtain rfl : i = n.toNat := by omega
          have i1 : decide (((n.toNat : Nat) : Int) < n) = false := decide_eq_false (by omega)
          rw [← HB2.out]
          go_wp2_with (first
            | (with_reducible refine load_S HT3.out.s rfl (.tmp 3) rfl rfl ?_)
            | (refine store_S HZ0.out (rsOf_map _ HMAP.out) rfl (.tmp 6) (.tmp 50) rfl rfl rfl ?_; intro w1 hw1 hf1))
          refine bodyPost_ret (res_S3 rfl _ hw1 rfl) rfl ?_
          have hbel := (HT3.out.ret hf1).resolve_right (by rw [HN.out]; omega)
          exact ⟨rfl, hbel⟩
    · have e2 : ((r : Int) != 0) = true := bne_iff_ne.2 (by omega)
      have e3 : ((r : Int) == 0) = false := beq_eq_false_iff_ne.2 (by omega)
      have hbb := HBB.out
      rw [if_neg hr0] at hbb
      have HB2 := Lib.hid hbb
      clear hr0 hbb HBB
      go_wp2_with (first
        | (with_reducible refine load_S HT3.out.s rfl (.tmp 3) rfl rfl ?_)
        | (refine store_S HZ0.out (rsOf_map _ HMAP.out) rfl (.tmp 6) (.tmp 25) rfl rfl rfl ?_; intro w1 hw1 hf1))
      refine bodyPost_ret (res_S3 rfl _ hw1 rfl) rfl ?_
      have hbel := (HT3.out.ret hf1).resolve_right (by rw [HN.out]; omega)
      exact ⟨by rw [HB2.out]; rfl, hbel⟩
end Go.Proofs.Ytbppafbdmdbdiaa

/-
  The reference: Store.
-/
namespace Go.Proofs.Ytbppafbdmdbdiaa
open Go.RowKit
set_option linter.unusedVariables false

theorem rs_store_step (m : Value) (a : AS) (x : Nat) (v : UInt8) (b : List UInt8) (hb : a.page (x / 64) = some b) :
    rsOf m (storeStep a x v) = { rsOf m a with bt := upd (rsOf m a).bt (x / 64) ⟨(b.set (x % 64) v).toArray⟩, ch := upd (rsOf m a).ch (x / 64) true } := by
  unfold rsOf storeStep
  congr 1
  · funext q
    show (upd a.page (x / 64) _ q).isSome = (a.page q).isSome
    by_cases e : q = x / 64
    · rw [e, upd_at, hb]; rfl
    · rw [upd_ne _ _ _ _ e]
  · funext q
    show (⟨((upd a.page (x / 64) _ q).getD []).toArray⟩ : ByteArray) = upd (fun p => ⟨((a.page p).getD []).toArray⟩) _ _ q
    by_cases e : q = x / 64
    · rw [e, upd_at, upd_at, hb]; rfl
    · rw [upd_ne _ _ _ _ e, upd_ne _ _ _ _ e]
theorem storeStep_ok {a : AS} (h : AOk a) (x : Nat) (v : UInt8) (hs : (a.page (x / 64)).isSome = true) : AOk (storeStep a x v) := by
  obtain ⟨b, hb⟩ := Option.isSome_iff_exists.1 hs
  refine ⟨fun q hq => ?_, fun q c hc => ?_⟩
  · have hq' : a.known q = false := hq
    have := h.unk q hq'
    show upd a.page (x / 64) _ q = none
    by_cases e : q = x / 64
    · rw [e, hb] at this; cases this
    · rw [upd_ne _ _ _ _ e]; exact this
  · replace hc : upd a.page (x / 64) _ q = some c := hc
    by_cases e : q = x / 64
    · rw [e, upd_at, hb] at hc
      injection hc with hc
      rw [← hc]
      show (b.set _ _).length = 64
      rw [List.length_set]; exact h.len _ b hb
    · rw [upd_ne _ _ _ _ e] at hc; exact h.len q c hc
theorem storeGo_ok {a : AS} (h : AOk a) (x : Nat) (l : List UInt8) : ∀ k, (∀ i, i < k → (a.page ((x + i) / 64)).isSome = true) → AOk (storeGo a x l k)
  | 0, _ => h
  | k + 1, hs => storeStep_ok (storeGo_ok h x l k (fun i hi => hs i (by omega))) _ _ (storeGo_some a x l _ (hs k (by omega)) k)
theorem storeGo_src (a : AS) (x : Nat) (l : List UInt8) : ∀ k, (storeGo a x l k).src = a.src
  | 0 => rfl
  | k + 1 => storeGo_src a x l k
theorem splice (b : List UInt8) (Q : Nat) (v : UInt8) (T : ByteArray) (hT : T = ⟨b.toArray⟩) (hQ : Q < b.length) (V : ByteArray) (hV : V = ⟨[v].toArray⟩) : (T.extract 0 Q ++ V) ++ T.extract (Q + 1) T.size = ⟨(b.set Q v).toArray⟩ := by
  have h1 : T.extract 0 Q = ⟨(b.take Q).toArray⟩ := by
    rw [hT]; apply ByteArray.ext; rw [ByteArray.data_extract]; apply Array.ext'; rw [Array.toList_extract]
    show List.extract b 0 Q = b.take Q
    rw [List.extract_eq_take_drop, List.drop_zero, Nat.sub_zero]
  have hs : T.size = b.length := by rw [hT]; show b.toArray.size = _; simp
  have h2 : T.extract (Q + 1) T.size = ⟨(b.drop (Q + 1)).toArray⟩ := by
    rw [hs, hT]; apply ByteArray.ext; rw [ByteArray.data_extract]; apply Array.ext'; rw [Array.toList_extract]
    show List.extract b (Q + 1) b.length = b.drop (Q + 1)
    rw [List.extract_eq_take_drop, List.take_of_length_le (by rw [List.length_drop]; omega)]
  rw [h1, h2, hV, bytes_append, bytes_append]
  congr 2
  rw [List.set_eq_take_append_cons_drop, if_pos hQ]
  simp

set_option maxRecDepth 100000 in
set_option maxHeartbeats 8000000 in
theorem refStore_any (w : World) (m : Value) (a : AS) (at_ : Int) (t : ByteArray) (ht : t.size ≤ 9223372036854775807) (ha1 : -9223372036854775808 ≤ at_) (ha2 : at_ ≤ 9223372036854775807) (hs : SrcIs w m a.src) (ha : AOk a) :
    Calls Try.prog 43 #[.agg (rsCells (rsOf m a)), .int .i64 at_, .string t] w fun e w' => e = .returned (.tuple #[.agg (rsCells (rsOf m (storeA a at_ t.data.toList).1)), .int .i64 (storeA a at_ t.data.toList).2]) ∧ Below w.heap.size w w' := by
  have hz := z61
  have HMAP := Lib.hid hs.map
  have HT := Lib.hid (Two.new w (rsOf m a))
  have HS := Lib.hid hs
  have HA := Lib.hid ha
  clear hs ha
  have hL : t.data.toList.length = t.size := by simp
  have hget : ∀ k (hk : k < t.size), t.extract k (k + 1) = ⟨[t.data.toList.getD k 0].toArray⟩ := fun k hk => cut_one t.data.toList k (by rw [hL]; exact hk)
  have hr : storeA a at_ t.data.toList = (if (accessA a at_ t.size).2 = 0 then storeGo (accessA a at_ t.size).1 at_.toNat t.data.toList t.size else (accessA a at_ t.size).1, (accessA a at_ t.size).2) := by unfold storeA; rw [hL]
  rw [hr]
  have hrange := access_range a at_ (t.size : Int)
  have hso : (accessA a at_ t.size).2 = 0 → ∀ i : Nat, i < t.size → (((accessA a at_ t.size).1).page ((at_.toNat + i) / 64)).isSome = true ∧ at_.toNat + i < 4096 := fun h i hi => by
    rcases hrange h with h0 | ⟨h1, h2⟩
    · omega
    · have e2 : at_ = (at_.toNat : Int) := by omega
      have := accessA_some a at_.toNat t.size (by rw [← e2]; exact h) i hi
      rw [← e2] at this
      exact this
  have HSO := Lib.hid hso
  have HRG := Lib.hid hrange
  have HOKA := Lib.hid (accessA_ok HA.out at_ (t.size : Int))
  have HRE := Lib.hid (fun W hs => refReach_any W m a at_ (t.size : Int) (by omega) (by omega) ha1 ha2 hs HA.out)
  have HGET := Lib.hid hget
  clear hr hrange hso hget hL
  generalize accessA a at_ (t.size : Int) = R at *
  obtain ⟨a', r⟩ := R
  dsimp only at HSO HRG HOKA HRE ⊢
  generalize t.data.toList = L at *
  obtain ⟨aa, haa⟩ : ∃ aa, aa = if r = 0 then storeGo a' at_.toNat L t.size else a' := ⟨_, rfl⟩
  rw [← haa]
  have HAA := Lib.hid haa
  clear haa
  go_enter Try.func43, Try.ntmps43
  go_upto_region 1 with (fail)
  generalize ((w.alloc (.cells (rsCells (rsOf m a)) 61)).alloc (.cells (rsCells rs0) 61)) = W0 at *
  clear hz
  obtain ⟨k, hk⟩ : ∃ k, k = w.heap.size := ⟨_, rfl⟩
  rw [← hk] at HT ⊢
  have HN := Lib.hid hk
  have hkl := HT.out.lt
  clear hk
  go_wp2_with (with_reducible refine load_S HT.out.s rfl (.tmp 3) rfl rfl ?_)
  refine (HRE.out W0 (HS.out.two HT.out HN.out)).mono ?_
  rintro e w2 ⟨rfl, nb⟩
  have HT2 := Lib.hid (HT.out.below nb)
  have hlt2 := HT2.out.lt
  clear nb HRE
  dsimp only
  go_upto_region 2 with (refine store_S HT2.out.s (rsOf_map _ HMAP.out) rfl (.tmp 3) (.tmp 19) rfl rfl rfl ?_; intro w3 hw3 hf3)
  have HT3 := Lib.hid (HT2.out.step hw3 hf3)
  have hlt3 := HT3.out.lt
  clear hw3 hf3
  by_cases hr0 : r = 0
  · subst hr0
    have haa := HAA.out
    rw [if_pos rfl] at haa
    have HA2 := Lib.hid haa
    clear haa HAA
    go_wp2_with fail
    go_loopg [9] t.size (fun q iv wr => ∃ i : Nat, iv = .int .i64 i ∧ q = t.size - i ∧ i ≤ t.size ∧ Two k (rsOf m (storeGo a' at_.toNat L i)) w wr)
    case atStart => exact ⟨0, rfl, rfl, by omega, HT3.out⟩
    case round =>
      obtain ⟨i, rfl, rfl, hi, ht4⟩ := hrel
      have HT4 := Lib.hid ht4
      have hlt4 := ht4.lt
      clear ht4
      by_cases hlt : i < t.size
      · have i1 : (i : Int) < t.size := by omega
        obtain ⟨hp1, hx2⟩ := HSO.out (by first | rfl | trivial) i hlt
        have hrg := HRG.out (by first | rfl | trivial)
        have hall : ∀ j, j < i → (a'.page ((at_.toNat + j) / 64)).isSome = true := fun j hj => (HSO.out (by first | rfl | trivial) j (by omega)).1
        obtain ⟨x, rfl⟩ : ∃ x : Nat, at_ = x := ⟨at_.toNat, by omega⟩
        rw [Int.toNat_natCast] at hp1 hx2 HT4 hall
        obtain ⟨P, hP⟩ : ∃ P : Nat, P = (x + i) / 64 := ⟨_, rfl⟩
        obtain ⟨Q, hQ⟩ : ∃ Q : Nat, Q = (x + i) % 64 := ⟨_, rfl⟩
        have d1 : ((x : Int) + i) / 64 = (P : Int) := by omega
        have d2 : ((x : Int) + i) % 64 = (Q : Int) := by omega
        have hP64 : P < 64 := by omega
        have hQ64 : Q < 64 := by omega
        have j1 : (P : Int) < 64 := by omega
        have hs9 := storeGo_some a' x L _ hp1 i
        rw [← hP] at hs9
        obtain ⟨b, hb⟩ := Option.isSome_iff_exists.1 hs9
        have hbl := (storeGo_ok HOKA.out x L i hall).len P b hb
        obtain ⟨A, hA⟩ : ∃ A, A = storeGo a' x L i := ⟨_, rfl⟩
        rw [← hA] at hb HT4
        have cbt := HT4.out.s.c_bt hP64
        have hbt : (rsOf m A).bt P = ⟨b.toArray⟩ := by show (⟨((A.page P).getD []).toArray⟩ : ByteArray) = _; rw [hb]; rfl
        rw [hbt] at cbt
        have hbsz : (⟨b.toArray⟩ : ByteArray).size = 64 := by show b.toArray.size = 64; simpa using hbl
        obtain ⟨T, hT⟩ : ∃ T : ByteArray, T = ⟨b.toArray⟩ := ⟨_, rfl⟩
        rw [← hT] at cbt hbsz
        have hspl := splice b Q (L.getD i 0) T hT (by omega) (t.extract i (i + 1)) (HGET.out i hlt)
        rw [hbsz] at hspl
        have hst : rsOf m (storeGo a' x L (i + 1)) = { rsOf m A with bt := upd (rsOf m A).bt P ⟨(b.set Q (L.getD i 0)).toArray⟩, ch := upd (rsOf m A).ch P true } := by
          show rsOf m (storeStep (storeGo a' x L i) (x + i) (L.getD i 0)) = _
          rw [rs_store_step m (storeGo a' x L i) (x + i) _ b (by rw [← hA, ← hP]; exact hb), ← hP, ← hQ, hA]
        have HST := Lib.hid hst
        have HSPL := Lib.hid hspl
        have hvs : (t.extract i (i + 1)).size = 1 := by rw [HGET.out i hlt]; rfl
        have HVS := Lib.hid hvs
        have hQT : Q + 1 ≤ T.size := by omega
        have hQT1 : (Q : Int) + 1 ≤ (T.size : Int) := by omega
        have hQT0 : (Q : Int) ≤ (T.size : Int) := by omega
        have hQT4 : Q ≤ T.size := by omega
        have hQT2 : (Q : Int) ≤ (Q : Int) + 1 := by omega
        have hi1 : (i : Int) + 1 ≤ (t.size : Int) := by omega
        have hi2 : i + 1 ≤ t.size := by omega
        have hi3 : (i : Int) ≤ (i : Int) + 1 := by omega
        have hi4 : i ≤ i + 1 := by omega
        have hQ4 : Q ≤ Q + 1 := by omega
        have hQ5 : (Q : Int) ≤ 64 := by omega
        have hmq : min Q 64 = Q := by omega
        have hs1 : ¬ 9223372036854775807 < Q + 1 := by omega
        have hs2 : ¬ 9223372036854775807 < Q + 1 + (63 - Q) := by omega
        have hQ6 : (Q : Int) + 1 ≤ 64 := by omega
        have hQ7 : (0 : Int) ≤ (Q : Int) + 1 := by omega
        have HT5 := Lib.hid (HT4.out.below (Below.refl _ _).drew)
        clear hp1 hx2 hP hQ hb hbl hbt hT hrg hs9 hspl hst hall hA hvs
        go_wp2_with fail
        refine wp_region_mixL (fun _ => True) [] [18] [0, 1, 2, 3, 4, 5, 6, 7, 8, 9, 10, 11, 12, 13, 14, 15, 16, 17, 18] (by kernel_rfl) (by kernel_rfl) trivial ?_
        simp only [inOrder, opAt]
        generalize wr.drew = W5 at *
        have y1 : IntKind.i64.wrap ((i : Int) + 1) = ((i + 1 : Nat) : Int) := IntWalk.i64_in _ (by omega)
        have y2 : IntKind.i64.wrap ((Q : Int) + 1) = ((Q + 1 : Nat) : Int) := IntWalk.i64_in _ (by omega)
        iterate 18
          (refine wpMixS_read (v := ?_) rfl rfl (fun w' hS => ?_) ?_
           rotate_left
           · ((try clear hS); go_simp; (try with_reducible rfl))
           try simp only [Act.put, List.setIfInBounds_toArray, List.set_cons_zero, List.set_cons_succ])
        have cb5 := HT5.out.s.c_bt hP64
        have fb5 := HT5.out.s.frozen (1 + P * 5 + 4)
        have HT6 := Lib.hid (HT5.out.bt hP64 (⟨(b.set Q (L.getD i 0)).toArray⟩ : ByteArray))
        have cc6 := HT6.out.s.c_ch hP64
        have fc6 := HT6.out.s.frozen (1 + P * 5 + 3)
        have HT7 := Lib.hid (HT6.out.ch hP64 true)
        have hlt5 := HT5.out.lt
        refine wpMixS_eff rfl rfl (fun K hK => ?_)
        go_simp
        rw [HSPL.out]
        refine hK.out _ _ _ (fun _ h => h) (fun h => by cases h) ?_
        clear hK K
        try simp only [Act.put, List.setIfInBounds_toArray, List.set_cons_zero, List.set_cons_succ]
        refine wpMixS_nil ?_
        clear cb5 fb5
        have hlt6 := HT6.out.lt
        generalize hW6 : W5.setCell ⟨k, 1 + P * 5 + 4, none⟩ (.string (⟨(b.set Q (L.getD i 0)).toArray⟩ : ByteArray)) = W6 at *
        clear hW6
        go_wp2_with fail
        go_roundg (t.size - (i + 1))
        case measure => omega
        case rel => exact ⟨i + 1, by go_num, rfl, by omega, by rw [Int.toNat_natCast, HST.out]; exact HT7.out⟩
      · obtain rfl : i = t.size := by omega
        have i1 : decide ((t.size : Int) < t.size) = false := decide_eq_false (by omega)
        rw [← HA2.out] at HT4
        obtain ⟨r4, hz4⟩ := HT4.out.z
        have HZ0 := Lib.hid hz4
        clear hz4
        go_wp2_with (first
          | (with_reducible refine load_S HT4.out.s rfl (.tmp 3) rfl rfl ?_)
          | (refine store_S HZ0.out (rsOf_map _ HMAP.out) rfl (.tmp 6) (.tmp 66) rfl rfl rfl ?_; intro w1 hw1 hf1))
        refine bodyPost_ret (res_S2 rfl _ hw1 rfl) rfl ?_
        have hbel := (HT4.out.ret hf1).resolve_right (by rw [HN.out]; omega)
        exact ⟨rfl, hbel⟩
  · have e2 : ((r : Int) != 0) = true := bne_iff_ne.2 (by omega)
    have e3 : ((r : Int) == 0) = false := beq_eq_false_iff_ne.2 (by omega)
    have haa := HAA.out
    rw [if_neg hr0] at haa
    have HA2 := Lib.hid haa
    obtain ⟨r4, hz4⟩ := HT3.out.z
    have HZ0 := Lib.hid hz4
    clear hr0 haa HAA hz4
    go_wp2_with (first
      | (with_reducible refine load_S HT3.out.s rfl (.tmp 3) rfl rfl ?_)
      | (refine store_S HZ0.out (rsOf_map _ HMAP.out) rfl (.tmp 6) (.tmp 23) rfl rfl rfl ?_; intro w1 hw1 hf1))
    refine bodyPost_ret (res_S2 rfl _ hw1 rfl) rfl ?_
    have hbel := (HT3.out.ret hf1).resolve_right (by rw [HN.out]; omega)
    exact ⟨by rw [HA2.out]; rfl, hbel⟩
end Go.Proofs.Ytbppafbdmdbdiaa

/-
  The reference: Text.
-/
namespace Go.Proofs.Ytbppafbdmdbdiaa
open Go.RowKit
set_option linter.unusedVariables false

theorem load_at (a : AS) (y : Nat) (hy : y < 4096) : loadA a (y : Int) 1 = match (needA a (y / 64)).page (y / 64) with | none => (needA a (y / 64), [], 23) | some b => (needA a (y / 64), [b.getD (y % 64) 0], 0) := by
  have hac : accessA a (y : Int) 1 = (needA a (y / 64), errOf ((needA a (y / 64)).page (y / 64)).isSome) := by
    unfold accessA
    rw [if_neg (by omega), if_neg (by omega), show (((y : Int) + 1 - 1) / 64).toNat = y / 64 by omega, show ((y : Int) / 64).toNat = y / 64 by omega, show y / 64 + 1 - y / 64 = 1 by omega]
    show ((reachA 1 (y / 64) a).1, errOf (reachA 1 (y / 64) a).2) = _
    unfold reachA
    cases ((needA a (y / 64)).page (y / 64)).isSome <;> rfl
  unfold loadA
  rw [if_neg (by omega), hac]
  cases hp : (needA a (y / 64)).page (y / 64) with
  | none => rfl
  | some b =>
    show (needA a (y / 64), (if (0 : Nat) = 0 then bytesA (needA a (y / 64)) (y : Int).toNat (1 : Int).toNat else []), 0) = _
    rw [if_pos rfl, Int.toNat_natCast]
    show (_, [byteA (needA a (y / 64)) (y + 0)], 0) = _
    unfold byteA
    rw [Nat.add_zero, hp]
    rfl

set_option maxRecDepth 100000 in
set_option maxHeartbeats 8000000 in
theorem refText_any (w : World) (m : Value) (a : AS) (at_ most : Int) (hn1 : most ≤ 4611686018427387904) (ha1 : -9223372036854775808 ≤ at_) (ha2 : at_ ≤ 9223372036854775807) (hs : SrcIs w m a.src) (ha : AOk a) :
    Calls Try.prog 44 #[.agg (rsCells (rsOf m a)), .int .i64 at_, .int .i64 most] w fun e w' => e = .returned (.tuple #[.agg (rsCells (rsOf m (textA a at_ most).1)), .string ⟨(textA a at_ most).2.1.toArray⟩, .int .i64 (textA a at_ most).2.2]) ∧ Below w.heap.size w w' := by
  have hz := z61
  have HMAP := Lib.hid hs.map
  have HT := Lib.hid (Two.new w (rsOf m a))
  have HS := Lib.hid hs
  have HA := Lib.hid ha
  clear hs ha
  by_cases hneg : most < 0
  · have hr : textA a at_ most = (a, [], 2) := by unfold textA; rw [if_pos hneg]
    rw [hr]
    have e1 : decide (most < 0) = true := decide_eq_true hneg
    clear hr
    go_enter Try.func44, Try.ntmps44
    go_upto_region 1 with (fail)
    generalize ((w.alloc (.cells (rsCells (rsOf m a)) 61)).alloc (.cells (rsCells rs0) 61)) = W0 at *
    clear hz
    obtain ⟨k, hk⟩ : ∃ k, k = w.heap.size := ⟨_, rfl⟩
    rw [← hk] at HT ⊢
    have HN := Lib.hid hk
    clear hk
    obtain ⟨r0, hz0⟩ := HT.out.z
    have HZ0 := Lib.hid hz0
    clear hz0
    go_wp2_with (first
      | (with_reducible refine load_S HT.out.s rfl (.tmp 3) rfl rfl ?_)
      | (refine store_S HZ0.out (rsOf_map a HMAP.out) rfl (.tmp 6) (.tmp 15) rfl rfl rfl ?_; intro w1 hw1 hf1))
    refine bodyPost_ret (res_S3 rfl _ hw1 rfl) rfl ?_
    have hbel := (HT.out.ret hf1).resolve_right (by rw [HN.out]; omega)
    exact ⟨rfl, hbel⟩
  · have e1 : decide (most < 0) = false := decide_eq_false hneg
    have hr : textA a at_ most = textGo 4097 a at_ [] most := by unfold textA; rw [if_neg hneg]
    rw [hr]
    obtain ⟨R, hR⟩ : ∃ R, R = textGo 4097 a at_ [] most := ⟨_, rfl⟩
    rw [← hR]
    have HR := Lib.hid hR
    clear hr hR
    go_enter Try.func44, Try.ntmps44
    go_upto_region 1 with (fail)
    generalize ((w.alloc (.cells (rsCells (rsOf m a)) 61)).alloc (.cells (rsCells rs0) 61)) = W0 at *
    clear hz
    obtain ⟨k, hk⟩ : ∃ k, k = w.heap.size := ⟨_, rfl⟩
    rw [← hk] at HT ⊢
    have HN := Lib.hid hk
    have hkl := HT.out.lt
    clear hk
    go_wp2_with fail
    go_loopg [9, 10] 4098 (fun q ov iv wr => ∃ (i f : Nat) (acc : List UInt8) (a1 : AS), iv = .int .i64 i ∧ ov = .string ⟨acc.toArray⟩ ∧ q = f + 2 ∧ i + f = 4096 ∧ acc.length = i ∧ (i = 0 ∨ ((i : Int) ≤ most + 1 ∧ 0 ≤ at_ ∧ at_ + i ≤ 4096)) ∧ Two k (rsOf m a1) w wr ∧ AOk a1 ∧ a1.src = a.src ∧ Hid ((i : Int) ≤ most → textGo (f + 1) a1 (at_ + i) acc most = R) ∧ Hid ((i : Int) = most + 1 → R = (a1, [], 5)))
    case atStart => exact ⟨0, 4096, [], a, rfl, rfl, rfl, rfl, rfl, .inl rfl, HT.out, HA.out, rfl, Lib.hid (fun _ => by rw [HR.out]; congr 1; omega), Lib.hid (fun h => by omega)⟩
    case round =>
      obtain ⟨i, f, acc, a1, rfl, rfl, rfl, hif, hal, hi0, ht1, hok1, hsr1, HGO, HEND⟩ := hrel
      have HT1 := Lib.hid ht1
      have HOK1 := Lib.hid hok1
      have HSR1 := Lib.hid hsr1
      have hlt1 := ht1.lt
      have HI0 := Lib.hid hi0
      clear ht1 hok1 hsr1 hi0
      obtain ⟨r0, hz0⟩ := HT1.out.z
      have HZ0 := Lib.hid hz0
      clear hz0
      by_cases hle : (i : Int) ≤ most
      · have hgo := HGO.out hle
        by_cases hout : at_ < 0 ∨ 4096 ≤ at_ + i
        · have hres : R = (a1, [], 23) := by rw [← hgo]; unfold textGo; rw [if_pos (by have := HI0.out; omega)]
          have HRES := Lib.hid hres
          have hc : decide (at_ < 0) = true ∨ (decide (at_ < 0) = false ∧ 0 ≤ at_ ∧ decide (4096 ≤ at_ + (i : Int)) = true) ∨ (decide (at_ < 0) = false ∧ i = 0 ∧ 4096 ≤ at_) := by
            by_cases c1 : at_ < 0
            · exact .inl (decide_eq_true c1)
            · exact .inr (.inl ⟨decide_eq_false c1, by omega, decide_eq_true (by omega)⟩)
          have hao : at_ + (i : Int) ≤ 9223372036854775807 := by have := HI0.out; omega
          clear hgo hres hout
          rcases hc with c1 | ⟨c1, b1, c2⟩ | ⟨c1, c2, c3⟩
          · go_wp2_with (first
              | (with_reducible refine load_S HT1.out.s rfl (.tmp 3) rfl rfl ?_)
              | (refine store_S HZ0.out (rsOf_map _ HMAP.out) rfl (.tmp 6) (.tmp 35) rfl rfl rfl ?_; intro w1 hw1 hf1))
            refine bodyPost_ret (res_S3 rfl _ hw1 rfl) rfl ?_
            have hbel := (HT1.out.ret hf1).resolve_right (by rw [HN.out]; omega)
            exact ⟨by rw [HRES.out]; rfl, hbel⟩
          · go_wp2_with (first
              | (with_reducible refine load_S HT1.out.s rfl (.tmp 3) rfl rfl ?_)
              | (refine store_S HZ0.out (rsOf_map _ HMAP.out) rfl (.tmp 6) (.tmp 35) rfl rfl rfl ?_; intro w1 hw1 hf1))
            refine bodyPost_ret (res_S3 rfl _ hw1 rfl) rfl ?_
            have hbel := (HT1.out.ret hf1).resolve_right (by rw [HN.out]; omega)
            exact ⟨by rw [HRES.out]; rfl, hbel⟩
          · subst c2
            have c4 : decide (4096 ≤ at_ + ((0 : Nat) : Int)) = true := decide_eq_true (by omega)
            have c5 : decide (4096 ≤ at_) = true := decide_eq_true c3
            go_wp2_with (first
              | (with_reducible refine load_S HT1.out.s rfl (.tmp 3) rfl rfl ?_)
              | (refine store_S HZ0.out (rsOf_map _ HMAP.out) rfl (.tmp 6) (.tmp 35) rfl rfl rfl ?_; intro w1 hw1 hf1))
            refine bodyPost_ret (res_S3 rfl _ hw1 rfl) rfl ?_
            have hbel := (HT1.out.ret hf1).resolve_right (by rw [HN.out]; omega)
            exact ⟨by rw [HRES.out]; rfl, hbel⟩
        · obtain ⟨x, rfl⟩ : ∃ x : Nat, at_ = x := ⟨at_.toNat, by omega⟩
          have c1 : decide ((x : Int) < 0) = false := decide_eq_false (by omega)
          have c2 : decide (4096 ≤ (x : Int) + (i : Int)) = false := decide_eq_false (by omega)
          have c3 : decide ((x : Int) + (i : Int) < 0) = false := decide_eq_false (by omega)
          have hxi : x + i < 4096 := by omega
          have hf1 : 1 ≤ f := by omega
          obtain ⟨P, hP⟩ : ∃ P : Nat, P = (x + i) / 64 := ⟨_, rfl⟩
          obtain ⟨Q, hQ⟩ : ∃ Q : Nat, Q = (x + i) % 64 := ⟨_, rfl⟩
          have hla := load_at a1 (x + i) hxi
          rw [← hP, ← hQ] at hla
          have HLO := Lib.hid (refLoad_any wr m a1 ((x + i : Nat) : Int) 1 (by omega) (by omega) (by omega) (by rw [HSR1.out]; exact HS.out.two HT1.out HN.out) HOK1.out)
          rw [hla] at HLO
          have hcast : (((x + i : Nat)) : Int) = (x : Int) + (i : Int) := by omega
          rw [hcast] at HLO
          have hgo2 : textGo (f + 1) a1 ((x : Int) + i) acc most = match (needA a1 P).page P with | none => (needA a1 P, [], 23) | some b => if b.getD Q 0 = 0 then (needA a1 P, acc, 0) else if (acc.length : Int) = most then (needA a1 P, [], 5) else textGo f (needA a1 P) ((x : Int) + i + 1) (acc ++ [b.getD Q 0]) most := by
            conv => lhs; unfold textGo
            rw [if_neg (by omega), show (((x : Int) + i) / 64).toNat = P by omega, show (((x : Int) + i) % 64).toNat = Q by omega]
            cases (needA a1 P).page P <;> rfl
          rw [hgo] at hgo2
          have HG2 := Lib.hid hgo2
          have HOK2 := Lib.hid (HOK1.out.need P)
          clear hP hQ hla hgo hgo2 hcast hout
          go_wp2_with (with_reducible refine load_S HT1.out.s rfl (.tmp 3) rfl rfl ?_)
          refine HLO.out.mono ?_
          rintro e w2 ⟨he, nb⟩
          have HT2 := Lib.hid (HT1.out.below nb)
          have hlt2 := HT2.out.lt
          clear nb HLO
          cases hpg : (needA a1 P).page P with
          | none =>
            rw [hpg] at he
            have hg2 := HG2.out
            rw [hpg] at hg2
            have hres : R = (needA a1 P, [], 23) := hg2
            have HRES := Lib.hid hres
            replace he : e = .returned (.tuple #[.agg (rsCells (rsOf m (needA a1 P))), .string ⟨#[]⟩, .int .i64 23]) := he
            subst he
            clear hpg hg2 hres HG2
            dsimp only
            go_upto_region 12 with (refine store_S HT2.out.s (rsOf_map _ HMAP.out) rfl (.tmp 3) (.tmp 42) rfl rfl rfl ?_; intro w3 hw3 hf3)
            have HT3 := Lib.hid (HT2.out.step hw3 hf3)
            have hlt3 := HT3.out.lt
            obtain ⟨r3, hz3⟩ := HT3.out.z
            have HZ3 := Lib.hid hz3
            clear hw3 hf3 hz3
            go_wp2_with (first
              | (with_reducible refine load_S HT3.out.s rfl (.tmp 3) rfl rfl ?_)
              | (refine store_S HZ3.out (rsOf_map _ HMAP.out) rfl (.tmp 6) (.tmp 47) rfl rfl rfl ?_; intro w1 hw1 hf1))
            refine bodyPost_ret (res_S3 rfl _ hw1 rfl) rfl ?_
            have hbel := (HT3.out.ret hf1).resolve_right (by rw [HN.out]; omega)
            exact ⟨by rw [HRES.out]; rfl, hbel⟩
          | some b =>
            rw [hpg] at he
            have hg2 := HG2.out
            rw [hpg] at hg2
            obtain ⟨c, hc⟩ : ∃ c, c = b.getD Q 0 := ⟨_, rfl⟩
            replace hg2 : R = if b.getD Q 0 = 0 then (needA a1 P, acc, 0) else if (acc.length : Int) = most then (needA a1 P, [], 5) else textGo f (needA a1 P) ((x : Int) + i + 1) (acc ++ [b.getD Q 0]) most := hg2
            replace he : e = .returned (.tuple #[.agg (rsCells (rsOf m (needA a1 P))), .string ⟨#[b.getD Q 0]⟩, .int .i64 0]) := he
            rw [← hc] at hg2 he
            subst he
            have HG3 := Lib.hid hg2
            clear hpg hg2 HG2 hc
            dsimp only
            go_upto_region 12 with (refine store_S HT2.out.s (rsOf_map _ HMAP.out) rfl (.tmp 3) (.tmp 42) rfl rfl rfl ?_; intro w3 hw3 hf3)
            have HT3 := Lib.hid (HT2.out.step hw3 hf3)
            have hlt3 := HT3.out.lt
            obtain ⟨r3, hz3⟩ := HT3.out.z
            have HZ3 := Lib.hid hz3
            clear hw3 hf3 hz3
            by_cases hc0 : c = 0
            · have hres : R = (needA a1 P, acc, 0) := by rw [HG3.out, if_pos hc0]
              have hst : (c == 0) = true := beq_iff_eq.2 hc0
              have HRES := Lib.hid hres
              clear hres hc0
              go_wp2_with (first
                | (with_reducible refine load_S HT3.out.s rfl (.tmp 3) rfl rfl ?_)
                | (refine store_S HZ3.out (rsOf_map _ HMAP.out) rfl (.tmp 6) (.tmp 51) rfl rfl rfl ?_; intro w1 hw1 hf1))
              refine bodyPost_ret (res_S3 rfl _ hw1 rfl) rfl ?_
              have hbel := (HT3.out.ret hf1).resolve_right (by rw [HN.out]; omega)
              exact ⟨by rw [HRES.out]; rfl, hbel⟩
            · have hst : (c == 0) = false := beq_eq_false_iff_ne.2 hc0
              have hg3 := HG3.out
              rw [if_neg hc0] at hg3
              have HG4 := Lib.hid hg3
              have hbs : (⟨acc.toArray⟩ : ByteArray) ++ ⟨#[c]⟩ = ⟨(acc ++ [c]).toArray⟩ := bytes_append acc [c]
              have HBS := Lib.hid hbs
              have hsz : (⟨acc.toArray⟩ : ByteArray).size = i := by show acc.toArray.size = i; simpa using hal
              obtain ⟨O, hO⟩ : ∃ O : ByteArray, O = ⟨acc.toArray⟩ := ⟨_, rfl⟩
              rw [← hO] at hsz HBS ⊢
              have hi4 : i ≤ 4096 := by omega
              clear hg3 hbs hO
              go_wp2_with fail
              go_roundg (f + 1)
              case measure => omega
              case rel =>
                refine ⟨i + 1, f - 1, acc ++ [c], needA a1 P, by go_num, by rw [HBS.out], by omega, by omega, by rw [List.length_append]; show acc.length + 1 = i + 1; omega, .inr (by have := HI0.out; omega), HT3.out, HOK2.out, (needA_src a1 P).trans HSR1.out, Lib.hid (fun h => ?_), Lib.hid (fun h => ?_)⟩
                · rw [HG4.out, if_neg (by omega), show f - 1 + 1 = f by omega]
                  congr 1 <;> omega
                · rw [HG4.out, if_pos (by omega)]
      · have hend := HEND.out (by have := HI0.out; omega)
        have HRES := Lib.hid hend
        have c1 : decide ((i : Int) ≤ most) = false := decide_eq_false hle
        clear hend
        go_wp2_with (first
          | (with_reducible refine load_S HT1.out.s rfl (.tmp 3) rfl rfl ?_)
          | (refine store_S HZ0.out (rsOf_map _ HMAP.out) rfl (.tmp 6) (.tmp 56) rfl rfl rfl ?_; intro w1 hw1 hf1))
        refine bodyPost_ret (res_S3 rfl _ hw1 rfl) rfl ?_
        have hbel := (HT1.out.ret hf1).resolve_right (by rw [HN.out]; omega)
        exact ⟨by rw [HRES.out]; rfl, hbel⟩
end Go.Proofs.Ytbppafbdmdbdiaa
