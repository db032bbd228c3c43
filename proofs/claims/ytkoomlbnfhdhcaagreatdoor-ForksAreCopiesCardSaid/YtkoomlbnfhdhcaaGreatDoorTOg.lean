/-
  Walks: counts encoded.
-/
import Derived.Test.YtkoomlbnfhdhcaaGreatDoorTOb
import Derived.Test.YtkoomlbnfhdhcaaGreatDoorTOe
namespace Go.Proofs.YtkoomlbnfhdhcaaGreatDoor
open Go.RowKit
set_option linter.unusedVariables false

def cntEnc (k : Nat) : List UInt8 := [0, 0, UInt8.ofNat k]
def cntC (k : Nat) : Array Value := #[.int .i64 0, .int .i64 0, .int .i64 (k : Int)]
theorem info150 : (Tryz.prog.info? 150).map (·.size) = some 3 := by kernel_rfl
theorem within169_any (w : World) (k m : Int) (h : 0 ≤ k ∧ k ≤ m) : Calls Tryz.prog 169 #[.int .i64 k, .int .i64 m] w fun e w' => e = .returned (.bool true) ∧ w = w' := by
  obtain ⟨h1, h2⟩ := h
  go_enter Tryz.func169, Tryz.ntmps169
  go_wp2_with fail
  go_ret
  exact ⟨rfl, rfl⟩
theorem cntCheck_any (w : World) (k : Nat) (hk : k ≤ 100) : Calls Tryz.prog 149 #[.agg (cntC k)] w fun e w' => e = .returned (.int .i64 0) ∧ Below w.heap.size w w' := by
  have i1 := fun W => within169_any W 0 1048576 (by omega)
  have i2 := fun W => within169_any W k 1048576 (by omega)
  unfold cntC
  go_enter Tryz.func149, Tryz.ntmps149
  go_wp2_with fail
  refine (i1 _).mono ?_
  rintro e w' ⟨rfl, rfl⟩
  go_wp2_with fail
  refine (i1 _).mono ?_
  rintro e w' ⟨rfl, rfl⟩
  go_wp2_with fail
  refine (i2 _).mono ?_
  rintro e w' ⟨rfl, rfl⟩
  go_wp2_with fail
  go_ret
  exact ⟨rfl, (Below.refl _ _).alloc (Nat.le_refl _) _⟩
set_option maxRecDepth 100000 in
set_option maxHeartbeats 4000000 in
/-- number_any, and which blocks stay. -/
theorem number2_any (w : World) (B p : Nat) (l : List UInt8) (n : Nat) (hn : n < 128) (h : Wr w B p l) (hl : l.length < 1000) (hB : B ≤ w.heap.size) :
    Calls Tryz.prog 112 #[.pointer (some ⟨p, 0, none⟩), .int .i64 (n : Int)] w fun e w' => (∃ v, e = .returned v) ∧ Wr w' B p (l ++ [UInt8.ofNat n]) ∧ Below B w w' ∧ ∀ q t cs, Blk w q t cs → t ≠ 221 → t ≠ 5 → Blk w' q t cs := by
  have hwk := works_any w B p l h
  obtain ⟨⟨v, hb, hown⟩, hle⟩ := h
  have n1 : (0 : Int) ≤ n := by omega
  have c0 := hb.cell 0
  simp at c0
  have hap := appNat_any w B v l n hn hown hl hB
  have HB := Lib.hid hb
  have HOWN := Lib.hid hown
  clear hb hown
  go_enter Tryz.func112, Tryz.ntmps112
  go_wp2_with fail
  refine hwk.mono ?_
  rintro e w' ⟨rfl, rfl⟩
  go_wp2_with fail
  refine hap.mono ?_
  rintro e w1 ⟨v', rfl, hown1, hgrow1⟩
  obtain ⟨OA, oc, rfl⟩ := own_slice hown1
  have hB1 := HB.out.grown hgrow1 (own_none_ne HOWN.out HB.out)
  have k0 := hB1.cell 0
  have f0 := hB1.frozen 0
  simp at k0
  have hbel : Below B w w1 := (Below.refl B w).grown hgrow1 hB (fun k hk => (HOWN.out.lt k hk).1)
  have hset := hB1.set_ 0 (.slice OA (l ++ [UInt8.ofNat n]).length oc)
  simp at hset
  have hown2 := own_fr hown1 ((Fr.refl [p] w1).setCell (p := ⟨p, 0, none⟩) (.inl (by simp)) (.slice OA (l ++ [UInt8.ofNat n]).length oc)) (fun g hg => by
    have := own_none_ne hown1 hB1
    simp
    rintro rfl
    exact this hg.symm)
  have hbel2 := hbel.setCell (p := ⟨p, 0, none⟩) hle (.slice OA (l ++ [UInt8.ofNat n]).length oc)
  have hothers : ∀ q t cs, Blk w q t cs → t ≠ 221 → t ≠ 5 → Blk (w1.setCell ⟨p, 0, none⟩ (.slice OA (l ++ [UInt8.ofNat n]).length oc)) q t cs := fun q t cs hq h1 h2 =>
    (hq.grown hgrow1 (fun e => own_blk_ne HOWN.out hq (fun e => h2 e.symm) e.symm)).far (p := ⟨p, 0, none⟩) (hq.ne_ HB.out h1) _
  go_wp2_with fail
  go_end0
  simp only [List.length_append, List.length_cons, List.length_nil, Nat.zero_add] at hset hown2 hbel2 hothers
  exact ⟨⟨_, rfl⟩, ⟨⟨_, hset, by simpa using hown2⟩, hle⟩, hbel2, hothers⟩
theorem newEncoder_any (w : World) : Calls Tryz.prog 148 #[.int .i64 0] w fun e w' => ∃ E, e = .returned (.pointer (some ⟨E, 0, none⟩)) ∧ Wr w' w.heap.size w.heap.size [] ∧ Blk w' E 249 #[.pointer (some ⟨w.heap.size, 0, none⟩), .int .i64 0] ∧ w.heap.size < E ∧ Below w.heap.size w w' := by
  go_enter Tryz.func148, Tryz.ntmps148
  go_wp2_with fail
  refine (newWriter_any w).mono ?_
  rintro e w2 ⟨rfl, HW, nb2⟩
  have hz := HW.lt
  unfold ptrV
  simp only [Option.map_some]
  go_wp2_with fail
  go_ret
  exact ⟨_, rfl, HW.below ((Below.refl _ _).alloc (Nat.le_refl _) _), Blk.new _ _ _, hz, nb2.alloc nb2.size _⟩
def intL (xs : List Nat) : Array Value := (xs.map fun (x : Nat) => Value.int .i64 (x : Int)).toArray
set_option maxRecDepth 100000 in
set_option maxHeartbeats 4000000 in
theorem numbers_any (w : World) (B p E A c : Nat) (l : List UInt8) (xs : List Nat) (hx : ∀ x ∈ xs, x < 128) (hw : Wr w B p l) (hE : Blk w E 249 #[.pointer (some ⟨p, 0, none⟩), .int .i64 0]) (hA : Blk w A 3 (intL xs)) (hB : B ≤ w.heap.size) (hl : l.length + xs.length < 1000) :
    Calls Tryz.prog 150 #[.pointer (some ⟨E, 0, none⟩), .slice (some ⟨A, 0, none⟩) xs.length c] w fun e w' => (∃ v, e = .returned v) ∧ Wr w' B p (l ++ xs.map UInt8.ofNat) ∧ Blk w' E 249 #[.pointer (some ⟨p, 0, none⟩), .int .i64 0] ∧ Below B w w' := by
  have hxl : xs.length < 1000 := by omega
  have HW := Lib.hid hw
  have HE := Lib.hid hE
  have HA := Lib.hid hA
  clear hw hE hA
  go_enter Tryz.func150, Tryz.ntmps150
  go_wp2_with fail
  go_loopg [8] xs.length (fun q iv wr => ∃ k : Nat, k ≤ xs.length ∧ q = xs.length - k ∧ iv = .int .i64 (k : Int) ∧ Wr wr B p (l ++ (xs.take k).map UInt8.ofNat) ∧ Blk wr E 249 #[.pointer (some ⟨p, 0, none⟩), .int .i64 0] ∧ Blk wr A 3 (intL xs) ∧ Below B w wr)
  case atStart => exact ⟨0, Nat.zero_le _, rfl, rfl, by simpa using HW.out, HE.out, HA.out, Below.refl _ _⟩
  case round =>
    obtain ⟨k, hk, rfl, rfl, hw, he, ha, hb⟩ := hrel
    by_cases hlt : k < xs.length
    case neg =>
      obtain rfl : k = xs.length := by omega
      go_wp2_with fail
      go_end0
      rw [List.take_length] at hw
      exact ⟨⟨_, rfl⟩, hw, he, hb⟩
    have i1 : (k : Int) < (xs.length : Int) := by omega
    have i0 : (0 : Int) ≤ (k : Int) := by omega
    obtain ⟨x, hxk⟩ : ∃ x, xs[k]? = some x := ⟨_, List.getElem?_eq_getElem hlt⟩
    have hx1 := hx x (List.mem_of_getElem? hxk)
    have ck := ha.cell k
    rw [show (intL xs)[k]? = some (.int .i64 (x : Int)) by simp [intL, hxk]] at ck
    have ce := he.cell 0
    simp at ce
    have htk : xs.take (k + 1) = xs.take k ++ [x] := by
      rw [List.take_add_one, hxk]; rfl
    have hnum := number2_any wr B p _ x hx1 hw (by simp; omega) (Nat.le_trans hB hb.size)
    have HR := Lib.hid (And.intro he (And.intro ha hb))
    clear hw he ha hb hxk
    go_wp2_with fail
    refine hnum.mono ?_
    rintro e w2 ⟨⟨v2, rfl⟩, h1, h2, h3⟩
    have HR2 := Lib.hid (And.intro h1 (And.intro h2 h3))
    clear h1 h2 h3 hnum ck ce
    go_wp2_with fail
    go_roundg (xs.length - (k + 1))
    case measure => omega
    case rel => exact ⟨k + 1, hlt, rfl, by go_num, by rw [htk]; have := HR2.out.1; simpa using this, HR2.out.2.2 _ _ _ HR.out.1 (by decide) (by decide), HR2.out.2.2 _ _ _ HR.out.2.1 (by decide) (by decide), HR.out.2.2.trans HR2.out.2.1⟩
set_option maxRecDepth 100000 in
set_option maxHeartbeats 4000000 in
theorem encBytes_any (w : World) (B p E : Nat) (l : List UInt8) (hw : Wr w B p l) (hE : Blk w E 249 #[.pointer (some ⟨p, 0, none⟩), .int .i64 0]) (hB : B ≤ E) (hl : l.length ≤ 4000000) :
    Calls Tryz.prog 151 #[.pointer (some ⟨E, 0, none⟩)] w fun e w' => e = .returned (.tuple #[.string (strL l), .int .i64 0]) ∧ Below B w w' := by
  have hby := bytes_any w B p l hw hl
  have c0 := hE.cell 0
  simp at c0
  have HE := Lib.hid hE
  clear hE
  go_enter Tryz.func151, Tryz.ntmps151
  go_wp2_with fail
  refine hby.mono ?_
  rintro e w1 ⟨v2, rfl, hown, nb⟩
  obtain ⟨OA, oc, rfl⟩ := own_slice hown
  have hE1 := HE.out.below nb HE.out.lt
  have c1 := hE1.cell 1
  have f1 := hE1.frozen 1
  simp at c1
  have hlt := HE.out.lt
  have hrd := (RdB.of_own hown rfl)
  have hb1 : Below B w (w1.setCell ⟨E, 1, none⟩ (.int .i64 0)) := (nb.mono (by omega)).setCell (p := ⟨E, 1, none⟩) hB _
  have hb2 : Fr [E] w1 (w1.setCell ⟨E, 1, none⟩ (.int .i64 0)) := (Fr.refl _ _).setCell (p := ⟨E, 1, none⟩) (.inl (by simp)) _
  have hown2 := own_fr hown hb2 (fun g hg => by
    simp
    rintro rfl
    have := (hown.lt _ hg).1
    omega)
  have hcv : (convert 24 9 (.slice OA l.length oc)).run Tryz.prog (w1.setCell ⟨E, 1, none⟩ (.int .i64 0)) = .ok (.string (strL l)) (w1.setCell ⟨E, 1, none⟩ (.int .i64 0)) := run_convert_string Tryz.underlying24 Tryz.underlying5 Tryz.underlying9 (RdB.of_own hown2 rfl)
  have HB := Lib.hid hb1
  clear hb1 hb2 hown hown2 hrd nb hby
  go_wp2_with fail
  refine bodyPost_ret (results_tmp2 rfl _ _ _) rfl ?_
  exact ⟨rfl, HB.out⟩
set_option maxRecDepth 100000 in
set_option maxHeartbeats 4000000 in
theorem cntEncode_any (w : World) (k : Nat) (hk : k ≤ 100) : Calls Tryz.prog 123 #[.agg (cntC k)] w fun e w' => e = .returned (.tuple #[.string (strL (cntEnc k)), .int .i64 0]) ∧ Below w.heap.size w w' := by
  have hck := fun W => cntCheck_any W k hk
  have HN := Lib.hid (Blk.new w 150 (cntC k))
  have HB0 := Lib.hid ((Below.refl w.heap.size w).alloc (Nat.le_refl _) (.cells (cntC k) 150))
  unfold cntC at *
  go_enter Tryz.func123, Tryz.ntmps123
  go_wp2_with (refine wpList_load_blk rfl 150 (.tmp 1) rfl w.heap.size rfl HN.out _ Tryz.underlying150 rfl info150 ?_)
  refine (hck _).mono ?_
  rintro e w1 ⟨rfl, nb⟩
  have HN1 := Lib.hid (HN.out.below nb HN.out.lt)
  have HB1 := Lib.hid (HB0.out.trans (nb.mono HB0.out.size))
  clear nb HN HB0
  go_wp2_with fail
  refine (newEncoder_any w1).mono ?_
  rintro e w2 ⟨E, rfl, hw2, hE2, hPE, nb⟩
  obtain ⟨P, hP⟩ : ∃ P, P = w1.heap.size := ⟨_, rfl⟩
  rw [← hP] at hw2 hE2 hPE nb
  have HP : Hid (w.heap.size < P) := Lib.hid (by rw [hP]; exact HN1.out.lt)
  have HN2 := Lib.hid (HN1.out.below nb HP.out)
  have HB2 := Lib.hid (HB1.out.trans (nb.mono (Nat.le_of_lt HP.out)))
  have HA3 : Hid (Blk (w2.alloc (.cells (intL [0, 0, k]) 3)) w2.heap.size 3 (intL [0, 0, k])) := Lib.hid (Blk.new _ _ _)
  have hb3 : Below w2.heap.size w2 (w2.alloc (.cells (intL [0, 0, k]) 3)) := (Below.refl _ _).alloc (Nat.le_refl _) _
  have HW3 := Lib.hid (hw2.below hb3)
  have HE3 := Lib.hid (hE2.below hb3 hE2.lt)
  have HB3 := Lib.hid (HB2.out.trans (hb3.mono HB2.out.size))
  have HPL : Hid (P < E) := Lib.hid hPE
  have HS3 : Hid (P ≤ (w2.alloc (.cells (intL [0, 0, k]) 3)).heap.size) := Lib.hid (Nat.le_of_lt HW3.out.lt)
  have hnum := fun c => numbers_any (w2.alloc (.cells (intL [0, 0, k]) 3)) P P E w2.heap.size c [] [0, 0, k] (by simp; omega) HW3.out HE3.out HA3.out HS3.out (by simp)
  simp only [List.nil_append, List.map_cons, List.map_nil, List.length_cons, List.length_nil, Nat.zero_add, Nat.reduceAdd] at hnum
  rw [show intL [0, 0, k] = #[.int .i64 0, .int .i64 0, .int .i64 (k : Int)] from rfl] at hnum HB3
  have c0 := HN2.out.cell 0
  have c1 := HN2.out.cell 1
  have c2 := HN2.out.cell 2
  simp at c0 c1 c2
  clear hP hw2 hE2 hPE nb hb3 HN1 HB1 HB2 HW3 HE3 HA3 HS3 HN2
  go_wp2_with fail
  refine (hnum _).mono ?_
  rintro e w4 ⟨⟨v4, rfl⟩, hw4, hE4, nb⟩
  have HB4 := Lib.hid (HB3.out.trans (nb.mono (Nat.le_of_lt HP.out)))
  have hby := encBytes_any w4 P P E _ hw4 hE4 (Nat.le_of_lt HPL.out) (by simp)
  clear nb HB3 hw4 hE4 hnum
  go_wp2_with fail
  refine hby.mono ?_
  rintro e w5 ⟨rfl, nb⟩
  go_wp2_with fail
  refine bodyPost_ret (results_tmp2 rfl _ _ _) rfl ?_
  exact ⟨rfl, HB4.out.trans (nb.mono (Nat.le_of_lt HP.out))⟩
end Go.Proofs.YtkoomlbnfhdhcaaGreatDoor

/-
  Walks: counts decoded, Made, SetMade.
-/
namespace Go.Proofs.YtkoomlbnfhdhcaaGreatDoor
open Go.RowKit
set_option linter.unusedVariables false

theorem build150 (W : World) : (Instr.build 150 #[(0, .int .i64 0)]).run Tryz.prog W = .ok (.agg #[.int .i64 0, .int .i64 0, .int .i64 0]) W := by kernel_rfl
theorem build150z (W : World) : (Instr.build 150 #[]).run Tryz.prog W = .ok (.agg #[.int .i64 0, .int .i64 0, .int .i64 0]) W := by kernel_rfl
set_option maxRecDepth 100000 in
set_option maxHeartbeats 4000000 in
theorem cntDecode_any (w : World) (k : Nat) (hk : k ≤ 100) : Calls Tryz.prog 118 #[.string (strL (cntEnc k))] w fun e w' => e = .returned (.tuple #[.agg (cntC k), .int .i64 0]) ∧ Below w.heap.size w w' := by
  obtain ⟨L, hL⟩ : ∃ L, L = cntEnc k := ⟨_, rfl⟩
  rw [← hL]
  have hLl : L.length ≤ 90000 := by rw [hL]; simp [cntEnc]
  have HL : Hid (L = UInt8.ofNat 0 :: UInt8.ofNat 0 :: [UInt8.ofNat k]) := Lib.hid (by rw [hL]; rfl)
  clear hL
  unfold cntC
  have hbd := build150
  obtain ⟨zc, hzc⟩ : ∃ zc : Array Value, zc = #[.int .i64 0, .int .i64 0, .int .i64 0] := ⟨_, rfl⟩
  have HC0 := Lib.hid (Blk.new w 150 zc)
  have HB0 := Lib.hid ((Below.refl w.heap.size w).alloc (Nat.le_refl _) (.cells zc 150))
  obtain ⟨cp, w2, hcv, hrd, hb2, hz2⟩ := str_rdB (w.alloc (.cells zc 150)) L (by omega)
  simp only [World.size_alloc] at hcv hrd
  rw [hzc] at HC0 HB0 hcv hb2
  clear hzc
  have HRD := Lib.hid hrd
  have HC2 := Lib.hid (HC0.out.below hb2 HC0.out.lt)
  have HB2 := Lib.hid (HB0.out.trans (hb2.mono HB0.out.size))
  clear hrd hb2 hz2 HC0 HB0
  go_enter Tryz.func118, Tryz.ntmps118
  go_wp2_with fail
  refine (newReader_any w2 _ L HRD.out hLl).mono ?_
  rintro e w3 ⟨B, R, rfl, hR, hBw, nb⟩
  rw [HL.out] at hR
  have HwB : Hid (w.heap.size < B) := Lib.hid (Nat.lt_of_lt_of_le HC2.out.lt hBw)
  have HC3 := Lib.hid (HC2.out.below nb HC2.out.lt)
  have HB3 := Lib.hid (HB2.out.trans (nb.mono HB2.out.size))
  have HR3 := Lib.hid hR
  clear hR nb HC2 HB2 HRD hBw HL
  unfold ptrV
  simp only [Option.map_some]
  go_wp2_with fail
  refine (readN_any w3 B R 0 _ 1048576 (by omega) (by omega) HR3.out (by simp)).mono ?_
  rintro e w4 ⟨rfl, hr, hb, hf⟩
  have HR4 := Lib.hid hr
  have HC4 := Lib.hid (HC3.out.below hb HwB.out)
  have HB4 := Lib.hid (HB3.out.trans (hb.mono (Nat.le_of_lt HwB.out)))
  obtain ⟨Q, hQ⟩ : ∃ Q, Q = w4.heap.size := ⟨_, rfl⟩
  have HRQ : Hid (R < Q) := Lib.hid (by rw [hQ]; exact hr.lt)
  have HBR : Hid (B ≤ R) := Lib.hid hr.le
  clear hr hb hf HR3 HC3 HB3
  have HQ5 := Lib.hid (Blk.new w4 150 #[.int .i64 0, .int .i64 0, .int .i64 0])
  have hbl5 : Below w4.heap.size w4 (w4.alloc (.cells #[.int .i64 0, .int .i64 0, .int .i64 0] 150)) := (Below.refl _ _).alloc (Nat.le_refl _) _
  go_wp2_with (refine wpList_store_blk rfl 150 (.tmp 5) (.tmp 11) rfl w4.heap.size rfl _ rfl HQ5.out rfl info150 rfl ?_; intro w5 hk5 hf5)
  rw [← hQ] at hk5 hf5 hbl5
  have hb5 : Below Q w4 w5 := belowFr1 hbl5 hf5 (Nat.le_refl _) (by rw [hQ]; exact Nat.le_refl _)
  have HQ6 := Lib.hid hk5
  have HR6 := Lib.hid (HR4.out.belowC hb5 HRQ.out)
  have HC6 := Lib.hid (HC4.out.below hb5 (by have := HwB.out; have := HBR.out; have := HRQ.out; omega))
  have HB6 : Hid (Below w.heap.size w w5) := Lib.hid (HB4.out.trans (hb5.mono (by have := HwB.out; have := HBR.out; have := HRQ.out; omega)))
  rw [← hQ]
  clear hQ hk5 hf5 hbl5 hb5 HQ5 HR4 HC4 HB4 hbd
  refine (readN_any w5 B R 0 _ 1048576 (by omega) (by omega) HR6.out (by simp)).mono ?_
  rintro e w' ⟨rfl, hr, hb, hf⟩
  have hq := HQ6.out.fr hf (by simp; have := HRQ.out; omega)
  have ck := hq.cell 1
  have fk := hq.frozen 1
  simp at ck
  go_wp2_with fail
  obtain ⟨w7, hW⟩ : ∃ W, W = w'.setCell ⟨Q, 1, none⟩ (.int .i64 0) := ⟨_, rfl⟩
  have HQ7 : Hid (Blk w7 Q 150 #[.int .i64 0, .int .i64 0, .int .i64 0]) := Lib.hid (by rw [hW]; have := hq.set_ 1 (.int .i64 0); simpa using this)
  have HR7 := Lib.hid (hr.far (Q := Q) (k := 1) (by have := HRQ.out; omega) (by have := HRQ.out; have := HBR.out; omega) (.int .i64 0))
  have HC7 : Hid (Blk w7 w.heap.size 150 _) := Lib.hid (by rw [hW]; exact (HC6.out.below hb HwB.out).far (p := ⟨Q, 1, none⟩) (by have := HwB.out; have := HRQ.out; have := HBR.out; show w.heap.size ≠ Q; omega) _)
  have HB7 : Hid (Below w.heap.size w w7) := Lib.hid (by rw [hW]; exact (HB6.out.trans (hb.mono (Nat.le_of_lt HwB.out))).setCell (p := ⟨Q, 1, none⟩) (by have := HwB.out; have := HRQ.out; have := HBR.out; show w.heap.size ≤ Q; omega) _)
  rw [← hW] at HR7 ⊢
  clear hW hq ck fk hr hb hf HQ6 HR6 HC6 HB6
  refine (readN_any w7 B R k _ 1048576 (by omega) (by omega) HR7.out (by simp)).mono ?_
  rintro e w' ⟨rfl, hr, hb, hf⟩
  have hq := HQ7.out.fr hf (by simp; have := HRQ.out; omega)
  have ck := hq.cell 2
  have fk := hq.frozen 2
  simp at ck
  go_wp2_with fail
  obtain ⟨w8, hW⟩ : ∃ W, W = w'.setCell ⟨Q, 2, none⟩ (.int .i64 (k : Int)) := ⟨_, rfl⟩
  have HQ8 : Hid (Blk w8 Q 150 #[.int .i64 0, .int .i64 0, .int .i64 (k : Int)]) := Lib.hid (by rw [hW]; have := hq.set_ 2 (.int .i64 (k : Int)); simpa using this)
  have HR8 := Lib.hid (hr.far (Q := Q) (k := 2) (by have := HRQ.out; omega) (by have := HRQ.out; have := HBR.out; omega) (.int .i64 (k : Int)))
  have HC8 : Hid (Blk w8 w.heap.size 150 _) := Lib.hid (by rw [hW]; exact (HC7.out.below hb HwB.out).far (p := ⟨Q, 2, none⟩) (by have := HwB.out; have := HRQ.out; have := HBR.out; show w.heap.size ≠ Q; omega) _)
  have HB8 : Hid (Below w.heap.size w w8) := Lib.hid (by rw [hW]; exact (HB7.out.trans (hb.mono (Nat.le_of_lt HwB.out))).setCell (p := ⟨Q, 2, none⟩) (by have := HwB.out; have := HRQ.out; have := HBR.out; show w.heap.size ≤ Q; omega) _)
  rw [← hW] at HR8 ⊢
  clear hW hq ck fk hr hb hf HQ7 HR7 HC7 HB7
  refine (close_any w8 B R HR8.out).mono ?_
  rintro e w' ⟨rfl, rfl⟩
  go_wp2_with (first | refine wpList_load_blk rfl 150 (.tmp 5) rfl Q rfl HQ8.out _ Tryz.underlying150 rfl info150 ?_ | (refine wpList_store_blk rfl 150 (.tmp 2) (.tmp 22) rfl w.heap.size rfl _ rfl HC8.out rfl info150 rfl ?_; intro w9 hk9 hf9))
  exact end_cell_tmp rfl rfl hk9 Tryz.underlying150 rfl info150 ⟨rfl, belowFr1 HB8.out hf9 (Nat.le_refl _) (Nat.le_refl _)⟩
/-- What stands for the counts of a process. -/
def CntIs (V : Val) (who : List UInt8) (k : Nat) : Prop := (V (oC who) = none ∧ k = 0) ∨ V (oC who) = some (cntEnc k)
set_option maxRecDepth 100000 in
set_option maxHeartbeats 4000000 in
theorem made_any (w : World) (B v n k : Nat) (V : Val) (who : List UInt8) (h : Env w B v V n) (hw : Who who) (hk : k ≤ 100) (hV : CntIs V who k) (hn : n ≤ 100000) :
    Calls Tryz.prog 70 #[.pointer (some ⟨v, 0, none⟩), .string (strL who)] w fun e w' => e = .returned (.tuple #[.agg (cntC k), .int .i64 0]) ∧ Env w' B v V n ∧ VF B w w' := by
  have hv := fun W => validW who hw W
  have hof := fun W => ofCounter_any W who
  have hbd := build150z
  have HBw := Lib.hid h.leB
  have HN := Lib.hid (Blk.new w 150 #[.int .i64 0, .int .i64 0, .int .i64 0])
  have HB0 := Lib.hid ((Below.refl w.heap.size w).alloc (Nat.le_refl _) (.cells #[.int .i64 0, .int .i64 0, .int .i64 0] 150))
  have HE := Lib.hid (h.below HB0.out)
  clear h
  rcases hV with ⟨hV, rfl⟩ | hV
  · have hg := fun W (h : Env W B v V n) => h.miss (okC hw) hV
    unfold oC at hg
    obtain ⟨x, hx⟩ : ∃ x, x = obV ⟨5, who, 0⟩ := ⟨_, rfl⟩
    rw [← hx] at hg hof
    clear hx hV
    unfold cntC
    go_enter Tryz.func70, Tryz.ntmps70
    go_wp2_with fail
    refine (hv _).mono ?_
    rintro e w1 ⟨rfl, nb⟩
    have HN1 := Lib.hid (HN.out.below nb HN.out.lt)
    have HB1 := Lib.hid (HB0.out.trans (nb.mono HB0.out.size))
    have HE1 := Lib.hid (HE.out.below nb)
    clear nb HN HB0 HE
    go_wp2_with fail
    refine (hof _).mono ?_
    rintro e w2 ⟨rfl, nb⟩
    have HN2 := Lib.hid (HN1.out.below nb HN1.out.lt)
    have HB2 := Lib.hid (HB1.out.trans (nb.mono HB1.out.size))
    have HE2 := Lib.hid (HE1.out.below nb)
    clear nb HN1 HB1 HE1
    go_wp2_with fail
    refine (hg _ HE2.out).mono ?_
    rintro e w3 ⟨rfl, h3, f3⟩
    have HN3 := Lib.hid (f3.blk HN2.out (by decide) (by decide))
    have HE3 := Lib.hid h3
    have HF3 := Lib.hid ((VF.of_below HB2.out).trans f3)
    clear h3 f3 HN2 HB2 HE2
    go_wp2_with (refine wpList_store_blk rfl 150 (.tmp 4) (.tmp 24) rfl w.heap.size rfl _ rfl HN3.out rfl info150 rfl ?_; intro w4 hk4 hf4)
    exact end_cell_tmp rfl rfl hk4 Tryz.underlying150 rfl info150 ⟨rfl, HE3.out.fr1 hf4 HN3.out (by decide) (by decide) (by decide) HBw.out, HF3.out.own hf4 (Nat.le_refl _)⟩
  · have hg := fun W (h : Env W B v V n) => h.hit (okC hw) hV hn
    have hd := fun W => cntDecode_any W k hk
    unfold oC at hg
    obtain ⟨x, hx⟩ : ∃ x, x = obV ⟨5, who, 0⟩ := ⟨_, rfl⟩
    rw [← hx] at hg hof
    clear hx hV
    unfold cntC at *
    go_enter Tryz.func70, Tryz.ntmps70
    go_wp2_with fail
    refine (hv _).mono ?_
    rintro e w1 ⟨rfl, nb⟩
    have HN1 := Lib.hid (HN.out.below nb HN.out.lt)
    have HB1 := Lib.hid (HB0.out.trans (nb.mono HB0.out.size))
    have HE1 := Lib.hid (HE.out.below nb)
    clear nb HN HB0 HE
    go_wp2_with fail
    refine (hof _).mono ?_
    rintro e w2 ⟨rfl, nb⟩
    have HN2 := Lib.hid (HN1.out.below nb HN1.out.lt)
    have HB2 := Lib.hid (HB1.out.trans (nb.mono HB1.out.size))
    have HE2 := Lib.hid (HE1.out.below nb)
    clear nb HN1 HB1 HE1
    go_wp2_with fail
    refine (hg _ HE2.out).mono ?_
    rintro e w3 ⟨rfl, nb⟩
    have HN3 := Lib.hid (HN2.out.below nb HN2.out.lt)
    have HB3 := Lib.hid (HB2.out.trans (nb.mono HB2.out.size))
    have HE3 := Lib.hid (HE2.out.below nb)
    clear nb HN2 HB2 HE2
    go_wp2_with fail
    refine (hd _).mono ?_
    rintro e w4 ⟨rfl, nb⟩
    have HN4 := Lib.hid (HN3.out.below nb HN3.out.lt)
    have HB4 := Lib.hid (HB3.out.trans (nb.mono HB3.out.size))
    have HE4 := Lib.hid (HE3.out.below nb)
    clear nb HN3 HB3 HE3
    go_wp2_with (refine wpList_store_blk rfl 150 (.tmp 4) (.tmp 27) rfl w.heap.size rfl _ rfl HN4.out rfl info150 rfl ?_; intro w5 hk5 hf5)
    exact end_cell_tmp rfl rfl hk5 Tryz.underlying150 rfl info150 ⟨rfl, HE4.out.fr1 hf5 HN4.out (by decide) (by decide) (by decide) HBw.out, (VF.of_below HB4.out).own hf5 (Nat.le_refl _)⟩
set_option maxRecDepth 100000 in
set_option maxHeartbeats 4000000 in
theorem setMade_any (w : World) (B v n k : Nat) (V : Val) (who : List UInt8) (h : Env w B v V n) (hw : Who who) (hk : k ≤ 100) (hn : n ≤ 100000) :
    Calls Tryz.prog 73 #[.pointer (some ⟨v, 0, none⟩), .string (strL who), .agg (cntC k)] w fun e w' => e = .returned (.int .i64 0) ∧ Env w' B v (vupd V (oC who) (cntEnc k)) (n + 1) ∧ VF B w w' := by
  have hv := fun W => validW who hw W
  have hof := fun W => ofCounter_any W who
  have hen := fun W => cntEncode_any W k hk
  have hset := fun W (h : Env W B v V n) => h.set (b := cntEnc k) (okC hw) hn (by simp [cntEnc])
  unfold oC at *
  obtain ⟨x, hx⟩ : ∃ x, x = obV ⟨5, who, 0⟩ := ⟨_, rfl⟩
  rw [← hx] at hset hof
  clear hx
  obtain ⟨V', hV'⟩ : ∃ V', V' = vupd V ⟨5, who, 0⟩ (cntEnc k) := ⟨_, rfl⟩
  rw [← hV'] at hset ⊢
  clear hV'
  obtain ⟨s, hs⟩ : ∃ s, s = strL (cntEnc k) := ⟨_, rfl⟩
  rw [← hs] at hset hen
  clear hs
  have HN := Lib.hid (Blk.new w 150 (cntC k))
  have HB0 := Lib.hid ((Below.refl w.heap.size w).alloc (Nat.le_refl _) (.cells (cntC k) 150))
  have HE := Lib.hid (h.below HB0.out)
  clear h
  unfold cntC at *
  go_enter Tryz.func73, Tryz.ntmps73
  go_wp2_with fail
  refine (hv _).mono ?_
  rintro e w1 ⟨rfl, nb⟩
  have HN1 := Lib.hid (HN.out.below nb HN.out.lt)
  have HB1 := Lib.hid (HB0.out.trans (nb.mono HB0.out.size))
  have HE1 := Lib.hid (HE.out.below nb)
  clear nb HN HB0 HE
  go_wp2_with (refine wpList_load_blk rfl 150 (.tmp 5) rfl w.heap.size rfl HN1.out _ Tryz.underlying150 rfl info150 ?_)
  refine (hen _).mono ?_
  rintro e w2 ⟨rfl, nb⟩
  have HB2 := Lib.hid (HB1.out.trans (nb.mono HB1.out.size))
  have HE2 := Lib.hid (HE1.out.below nb)
  clear nb HN1 HB1 HE1
  go_wp2_with fail
  refine (hof _).mono ?_
  rintro e w3 ⟨rfl, nb⟩
  have HB3 := Lib.hid (HB2.out.trans (nb.mono HB2.out.size))
  have HE3 := Lib.hid (HE2.out.below nb)
  clear nb HB2 HE2
  go_wp2_with fail
  refine (hset _ HE3.out).mono ?_
  rintro e w4 ⟨rfl, h4, f4⟩
  go_wp2_with fail
  go_ret
  exact ⟨rfl, h4, (VF.of_below HB3.out).trans f4⟩
end Go.Proofs.YtkoomlbnfhdhcaaGreatDoor

/-
  Walks: copyObject, Fork.
-/
namespace Go.Proofs.YtkoomlbnfhdhcaaGreatDoor
open Go.RowKit
set_option linter.unusedVariables false
set_option linter.unusedSimpArgs false

/-- The value of an object copied to another one. -/
def cpV (V : Val) (x y : Ob) : Val := match V x with
  | none => V
  | some b => vupd V y b
def Bdd (V : Val) : Prop := ∀ x b, V x = some b → b.length ≤ 65536
theorem Bdd.upd {V : Val} (h : Bdd V) (y : Ob) {b : List UInt8} (hb : b.length ≤ 65536) : Bdd (vupd V y b) := fun x c hx => by
  unfold vupd at hx
  split at hx
  · injection hx with hx; rw [← hx]; exact hb
  · exact h x c hx
theorem Bdd.cp {V : Val} (h : Bdd V) (x y : Ob) : Bdd (cpV V x y) := by
  unfold cpV
  split
  · exact h
  · rename_i b hb
    exact h.upd y (h x b hb)
set_option maxRecDepth 100000 in
set_option maxHeartbeats 4000000 in
theorem copyObject_any (w : World) (B v n : Nat) (V : Val) (x y : Ob) (h : Env w B v V n) (hx : ObOk x) (hy : ObOk y) (hV : Bdd V) (hn : n ≤ 100000) :
    Calls Tryz.prog 74 #[.pointer (some ⟨v, 0, none⟩), obV x, obV y] w fun e w' => e = .returned (.int .i64 0) ∧ Env w' B v (cpV V x y) (n + 1) ∧ VF B w w' := by
  have hget := fun W (h : Env W B v V n) => h.get hx hn
  have hset := fun W b (hb : V x = some b) (h : Env W B v V n) => h.set (b := b) hy hn (hV x b hb)
  unfold obV at *
  obtain ⟨X, hX⟩ : ∃ X, X = obCells x := ⟨_, rfl⟩
  obtain ⟨Y, hY⟩ : ∃ Y, Y = obCells y := ⟨_, rfl⟩
  have hX1 : X.toList.all (·.oneCell') = true := by rw [hX]; rfl
  have hY1 : Y.toList.all (·.oneCell') = true := by rw [hY]; rfl
  have hXs : (Tryz.prog.info? 81).map (·.size) = some X.size := by rw [hX]; kernel_rfl
  have hYs : (Tryz.prog.info? 81).map (·.size) = some Y.size := by rw [hY]; kernel_rfl
  rw [← hX] at hget
  rw [← hY] at hset
  rw [← hX, ← hY]
  clear hX hY
  cases hVx : V x with
  | none =>
    have hcp : cpV V x y = V := by unfold cpV; rw [hVx]
    rw [hcp]
    rw [hVx] at hget
    simp only [Option.isSome_none] at hget
    obtain ⟨s, hs⟩ : ∃ s, s = strL ((none : Option (List UInt8)).getD []) := ⟨_, rfl⟩
    rw [← hs] at hget
    clear hcp hset hs hVx
    obtain ⟨W0, hW0⟩ : ∃ W0, W0 = (w.alloc (.cells X 81)).alloc (.cells Y 81) := ⟨_, rfl⟩
    have HA : Hid (Blk W0 w.heap.size 81 X) := Lib.hid (by rw [hW0]; exact (Blk.new w 81 X).alloc _)
    have HQ : Hid (Blk W0 (w.heap.size + 1) 81 Y) := Lib.hid (by rw [hW0]; exact Blk.new_ _ _ _ (by simp))
    have HB0 : Hid (Below w.heap.size w W0) := Lib.hid (by rw [hW0]; exact ((Below.refl _ _).alloc (Nat.le_refl _) _).alloc (by simp) _)
    have HE := Lib.hid (h.below HB0.out)
    clear h
    go_enter Tryz.func74, Tryz.ntmps74
    go_upto_region 1 with (fail)
    rw [← hW0]
    clear hW0
    go_wp2_with (refine wpList_load_blk rfl 81 (.tmp 4) rfl w.heap.size rfl HA.out _ Tryz.underlying81 rfl hXs ?_)
    refine (hget _ HE.out).mono ?_
    rintro e w1 ⟨rfl, h1, f1⟩
    have HE1 := Lib.hid h1
    have HF1 := Lib.hid ((VF.of_below HB0.out).trans f1)
    have HQ1 := Lib.hid (f1.blk HQ.out (by decide) (by decide))
    clear h1 f1 HA HQ HB0 HE hget
    go_wp2_with fail
    go_ret
    exact ⟨rfl, HE1.out.more (Nat.le_succ _), HF1.out⟩
  | some b =>
    have hcp : cpV V x y = vupd V y b := by unfold cpV; rw [hVx]
    rw [hcp]
    have hset1 := fun W => hset W b hVx
    rw [hVx] at hget
    simp only [Option.isSome_some, Option.getD_some] at hget
    obtain ⟨V', hV'⟩ : ∃ V', V' = vupd V y b := ⟨_, rfl⟩
    rw [← hV'] at hset1 ⊢
    obtain ⟨s, hs⟩ : ∃ s, s = strL b := ⟨_, rfl⟩
    rw [← hs] at hset1 hget
    clear hcp hset hV' hs hVx
    obtain ⟨W0, hW0⟩ : ∃ W0, W0 = (w.alloc (.cells X 81)).alloc (.cells Y 81) := ⟨_, rfl⟩
    have HA : Hid (Blk W0 w.heap.size 81 X) := Lib.hid (by rw [hW0]; exact (Blk.new w 81 X).alloc _)
    have HQ : Hid (Blk W0 (w.heap.size + 1) 81 Y) := Lib.hid (by rw [hW0]; exact Blk.new_ _ _ _ (by simp))
    have HB0 : Hid (Below w.heap.size w W0) := Lib.hid (by rw [hW0]; exact ((Below.refl _ _).alloc (Nat.le_refl _) _).alloc (by simp) _)
    have HE := Lib.hid (h.below HB0.out)
    clear h
    go_enter Tryz.func74, Tryz.ntmps74
    go_upto_region 1 with (fail)
    rw [← hW0]
    clear hW0
    go_wp2_with (refine wpList_load_blk rfl 81 (.tmp 4) rfl w.heap.size rfl HA.out _ Tryz.underlying81 rfl hXs ?_)
    refine (hget _ HE.out).mono ?_
    rintro e w1 ⟨rfl, h1, f1⟩
    have HE1 := Lib.hid h1
    have HF1 := Lib.hid ((VF.of_below HB0.out).trans f1)
    have HQ1 := Lib.hid (f1.blk HQ.out (by decide) (by decide))
    clear h1 f1 HA HQ HB0 HE hget
    go_wp2_with (refine wpList_load_blk rfl 81 (.tmp 5) rfl (w.heap.size + 1) rfl HQ1.out _ Tryz.underlying81 rfl hYs ?_)
    refine (hset1 _ HE1.out).mono ?_
    rintro e w2 ⟨rfl, h2, f2⟩
    go_wp2_with fail
    go_ret
    exact ⟨rfl, h2, HF1.out.trans f2⟩
end Go.Proofs.YtkoomlbnfhdhcaaGreatDoor

/-
  Walks: Fork.
-/
namespace Go.Proofs.YtkoomlbnfhdhcaaGreatDoor
open Go.RowKit
set_option linter.unusedVariables false
set_option linter.unusedSimpArgs false

def chN (k : Nat) : List UInt8 := [49, 46, UInt8.ofNat (48 + (k + 1))]
theorem chN_who (k : Nat) (h : k ≤ 1) : Who (chN k) := by
  rcases (show k = 0 ∨ k = 1 by omega) with rfl | rfl
  · exact .inr (.inl rfl)
  · exact .inr (.inr rfl)
def cpPg (V : Val) (c : List UInt8) : Nat → Val
  | 0 => V
  | i + 1 => cpV (cpPg V c i) (oG n1 i) (oG c i)
theorem Bdd.cpPg {V : Val} (h : Bdd V) (c : List UInt8) : ∀ i, Bdd (cpPg V c i)
  | 0 => h
  | i + 1 => (Bdd.cpPg h c i).cp _ _
def forkQ (p : Pr) (k : Nat) : Pr := { p with sp := chN k }
def forkV2 (V : Val) (p : Pr) (k : Nat) : Val := vupd (vupd V (oC n1) (cntEnc (k + 1))) (oP (chN k)) (prEnc (forkQ p k))
def forkV3 (V : Val) (p : Pr) (k : Nat) : Val := cpV (forkV2 V p k) (oR n1) (oR (chN k))
def forkV (V : Val) (p : Pr) (k : Nat) : Val := cpPg (forkV3 V p k) (chN k) p.pages
theorem forkQ_ok {p : Pr} {k : Nat} (hk : k ≤ 1) (h : PrOk p) : PrOk (forkQ p k) := ⟨h.st, h.code, h.run, h.user, chN_who k hk, h.pages, h.term⟩
theorem Bdd.fork3 {V : Val} (h : Bdd V) {p : Pr} {k : Nat} (hk : k ≤ 1) (hp : PrOk p) (hg : p.gs = [] ∨ p.gs = [1, 5]) : Bdd (forkV2 V p k) :=
  (h.upd _ (by simp [cntEnc])).upd _ (by have := prEnc_length (forkQ p k) (forkQ_ok hk hp) hg; omega)
set_option maxRecDepth 100000 in
set_option maxHeartbeats 16000000 in
theorem spawn_any (w : World) (B v n k : Nat) (V : Val) (p : Pr) (h : Env w B v V n) (hp : Has V n1 p) (hr : p.st = 1) (hs : p.sp = n1) (hk : k ≤ 1) (hC : CntIs V n1 k) (hne : V (oP (chN k)) = none) (hV : Bdd V) (hn : n + 200 ≤ 100000) :
    Calls Tryz.prog 35 #[.pointer (some ⟨v, 0, none⟩), .string (strL n1), .bool false] w fun e w' => e = .returned (.tuple #[.string (strL (chN k)), .int .i64 0]) ∧ Env w' B v (forkV V p k) (n + 3 + p.pages) ∧ VF B w w' := by
  have hw1 : Who n1 := .inl rfl
  have hwc := chN_who k hk
  have hpg := hp.ok.pages
  have hrun := fun W (h : Env W B v V n) => running_any W B v n V n1 p h hp hr (by omega)
  have hmade := fun W (h : Env W B v V n) => made_any W B v n k V n1 h hw1 (by omega) hC (by omega)
  have hchild := fun W => child_any W ((k : Int) + 1) (by omega)
  have hcn : ([49, 46, UInt8.ofNat (48 + ((k : Int) + 1).toNat)] : List UInt8) = chN k := by
    unfold chN
    rw [show ((k : Int) + 1).toNat = k + 1 by omega]
  rw [hcn] at hchild
  have hhas := fun W (h : Env W B v V n) => h.has (okP hwc) (show n ≤ 100000 by omega)
  rw [hne] at hhas
  have hofp := fun W => ofProcess_any W (chN k)
  have how := fun W C gv (hg : GrOk W C gv p.gs) => owner_any W C v n1 p gv hg hs
  have hmk := fun W V' n' (h : Env W B v V' n') => mark_any W B v n' V' h.vw
  have hsm := fun W (h : Env W B v V n) => setMade_any W B v n (k + 1) V n1 h hw1 (by omega) (by omega)
  obtain ⟨V1, hV1⟩ : ∃ V1, V1 = vupd V (oC n1) (cntEnc (k + 1)) := ⟨_, rfl⟩
  have hput := fun W C gv (h : Env W B v V1 (n + 1)) (hg : GrOk W C gv p.gs) (hC : C ≤ W.heap.size) => put_any W B C v (n + 1) V1 (chN k) (forkQ p k) gv h hwc (forkQ_ok hk hp.ok) hg hC hp.gs (by omega)
  obtain ⟨V2, hV2⟩ : ∃ V2, V2 = forkV2 V p k := ⟨_, rfl⟩
  have hB2 : Bdd V2 := by rw [hV2]; exact hV.fork3 hk hp.ok hp.gs
  have hcpR := fun W (h : Env W B v V2 (n + 2)) => copyObject_any W B v (n + 2) V2 (oR n1) (oR (chN k)) h (okR hw1) (okR hwc) hB2 (by omega)
  obtain ⟨V3, hV3⟩ : ∃ V3, V3 = forkV3 V p k := ⟨_, rfl⟩
  have hB3 : Bdd V3 := by rw [hV3]; unfold forkV3; rw [← hV2]; exact hB2.cp _ _
  have hcpG := fun W i (hi : i < p.pages) (h : Env W B v (cpPg V3 (chN k) i) (n + 3 + i)) => copyObject_any W B v (n + 3 + i) (cpPg V3 (chN k) i) (oG n1 i) (oG (chN k) i) h (okG hw1 (by omega)) (okG hwc (by omega)) (hB3.cpPg _ i) (by omega)
  have hgs := hp.gs
  have hofr := fun W l => ofRegisters_any W l
  have hofg := fun W l i => ofPage_any W l i
  have hfin : forkV V p k = cpPg V3 (chN k) p.pages := by rw [hV3]; rfl
  rw [hfin]
  have e12 : vupd V1 (oP (chN k)) (prEnc (forkQ p k)) = V2 := by rw [hV2, hV1]; rfl
  have e23 : cpV V2 (oR n1) (oR (chN k)) = V3 := by rw [hV3, hV2]; rfl
  rw [← hV1] at hsm
  rw [e12] at hput
  rw [e23] at hcpR
  obtain ⟨xp, hxp⟩ : ∃ x, x = obV ⟨1, chN k, 0⟩ := ⟨_, rfl⟩
  obtain ⟨xr, hxr⟩ : ∃ x, x = obV ⟨2, n1, 0⟩ := ⟨_, rfl⟩
  obtain ⟨xc, hxc⟩ : ∃ x, x = obV ⟨2, chN k, 0⟩ := ⟨_, rfl⟩
  obtain ⟨xg, hxg⟩ : ∃ x : Nat → Value, x = fun i => obV ⟨3, n1, i⟩ := ⟨_, rfl⟩
  obtain ⟨xh, hxh⟩ : ∃ x : Nat → Value, x = fun i => obV ⟨3, chN k, i⟩ := ⟨_, rfl⟩
  have hofr1 : ∀ W, Calls Tryz.prog 46 #[.string (strL n1)] W fun e w' => e = .returned xr ∧ Below W.heap.size W w' := fun W => by rw [hxr]; exact hofr W n1
  have hofr2 : ∀ W, Calls Tryz.prog 46 #[.string (strL (chN k))] W fun e w' => e = .returned xc ∧ Below W.heap.size W w' := fun W => by rw [hxc]; exact hofr W (chN k)
  have hofg1 : ∀ W (i : Nat), Calls Tryz.prog 50 #[.string (strL n1), .int .i64 (i : Int)] W fun e w' => e = .returned (xg i) ∧ Below W.heap.size W w' := fun W i => by rw [hxg]; exact hofg W n1 i
  have hofg2 : ∀ W (i : Nat), Calls Tryz.prog 50 #[.string (strL (chN k)), .int .i64 (i : Int)] W fun e w' => e = .returned (xh i) ∧ Below W.heap.size W w' := fun W i => by rw [hxh]; exact hofg W (chN k) i
  have hcpR' : ∀ W, Env W B v V2 (n + 2) → Calls Tryz.prog 74 #[.pointer (some ⟨v, 0, none⟩), xr, xc] W fun e w' => e = .returned (.int .i64 0) ∧ Env w' B v V3 (n + 3) ∧ VF B W w' := by rw [hxr, hxc]; exact hcpR
  have hcpG' : ∀ W i, i < p.pages → Env W B v (cpPg V3 (chN k) i) (n + 3 + i) → Calls Tryz.prog 74 #[.pointer (some ⟨v, 0, none⟩), xg i, xh i] W fun e w' => e = .returned (.int .i64 0) ∧ Env w' B v (cpPg V3 (chN k) (i + 1)) (n + 3 + (i + 1)) ∧ VF B W w' := by rw [hxg, hxh]; exact hcpG
  rw [← hxp] at hofp
  have hhas' : ∀ W, Env W B v V n → Calls Tryz.prog 24 #[.pointer (some ⟨v, 0, none⟩), xp] W fun e w' => e = .returned (.bool false) ∧ Env w' B v V n ∧ VF B W w' := by rw [hxp]; exact hhas
  clear hofr hofg hcpR hcpG hhas hxp hxr hxc hxg hxh hcn hV hV1 hV2 hV3 hB2 hB3 hfin e12 e23 hne hC
  have hcq : (forkQ p k).pages = p.pages := rfl
  obtain ⟨VF3, hVF3⟩ : ∃ f : Nat → Val, f = cpPg V3 (chN k) := ⟨_, rfl⟩
  rw [← hVF3] at hcpG' ⊢
  have hV30 : V3 = VF3 0 := by rw [hVF3]; rfl
  rw [hV30] at hcpR'
  clear hVF3 hV30
  have k0 : (0 : Int) ≤ k := by omega
  have k1 : (k : Int) ≤ 1 := by omega
  have kn : ((k : Int) == 1048576) = false := beq_eq_false_iff_ne.2 (by omega)
  have kn2 : ¬ ((k : Int) = 1048576) := by omega
  have HBw := Lib.hid h.leB
  have HE := Lib.hid h
  have hp7 : (0 : Int) ≤ p.pages := by omega
  have hP2 : ∀ gv, (((prCells p gv).setIfInBounds 7 (.int .i64 0)).setIfInBounds 6 (.string (strL (chN k)))).setIfInBounds 7 (.int .i64 (p.pages : Int)) = prCells (forkQ p k) gv := fun gv => rfl
  clear h hp hr
  go_enter Tryz.func35, Tryz.ntmps35
  go_wp2_with fail
  refine (hrun _ HE.out).mono ?_
  rintro e w1 ⟨gv, rfl, hgr, h1, f1⟩
  have hone := pr_one p w1 _ gv hgr
  have hsz := pr_size p gv
  have hsz' := pr_size (forkQ p k) gv
  have hc6 : (prCells p gv)[6]? = some (.string (strL n1)) := by rw [← hs]; rfl
  have hc7 : (prCells p gv)[7]? = some (.int .i64 (p.pages : Int)) := rfl
  have hq6 : ((prCells p gv).setIfInBounds 7 (.int .i64 0))[6]? = some (.string (strL n1)) := by rw [← hs]; rfl
  have hq7 : ((prCells p gv).setIfInBounds 7 (.int .i64 0))[7]? = some (.int .i64 0) := rfl
  have hc7' : (prCells (forkQ p k) gv)[7]? = some (.int .i64 (p.pages : Int)) := rfl
  have hPQ := hP2 gv
  have hput1 := fun W C => hput W C gv
  have how1 := fun W C => how W C gv
  obtain ⟨A, hA⟩ : ∃ A, A = w1.heap.size := ⟨_, rfl⟩
  have HG1 := Lib.hid hgr
  have HE1 := Lib.hid h1
  have HF1 := Lib.hid f1
  clear hgr h1 f1 HE hrun hput how hP2
  unfold prV at *
  obtain ⟨P, hP⟩ : ∃ P, P = prCells p gv := ⟨_, rfl⟩
  obtain ⟨P', hP'⟩ : ∃ P', P' = prCells (forkQ p k) gv := ⟨_, rfl⟩
  rw [← hP] at hone hsz hc6 hc7 hq6 hq7 hPQ how1 ⊢
  rw [← hP'] at hsz' hc7' hPQ hput1
  have hi40 : (Tryz.prog.info? 40).map (·.size) = some P.size := by rw [hsz]; exact info40
  have hi40' : (Tryz.prog.info? 40).map (·.size) = some P'.size := by rw [hsz']; exact info40
  clear hP hP' hs
  have HA0 := Lib.hid (Blk.new w1 40 zPr)
  unfold zPr at HA0
  go_upto_region 4 with (refine wpList_store_blk rfl 40 (.tmp 8) (.tmp 22) rfl w1.heap.size rfl _ rfl HA0.out hsz hi40 hone ?_; intro w2 hk2 hf2)
  have hb2 : Below w1.heap.size w1 w2 := belowFr1 ((Below.refl _ _).alloc (Nat.le_refl _) _) hf2 (Nat.le_refl _) (Nat.le_refl _)
  have HA2 : Hid (Blk w2 A 40 P) := Lib.hid (by rw [hA]; exact hk2)
  have HE2 := Lib.hid (HE1.out.below hb2)
  have HG2 : Hid (GrOk w2 A gv p.gs) := Lib.hid (by rw [hA]; exact HG1.out.below hb2)
  have HF2 := Lib.hid (HF1.out.trans (VF.of_below hb2))
  have HAw : Hid (w.heap.size ≤ A) := Lib.hid (by rw [hA]; exact HF1.out.size)
  rw [← hA]
  clear hk2 hf2 hb2 HA0 HE1 HG1 HF1 hA
  go_wp2_with fail
  refine (hmade _ HE2.out).mono ?_
  rintro e w3 ⟨rfl, h3, f3⟩
  have HA3 := Lib.hid (f3.blk HA2.out (by decide) (by decide))
  have HE3 := Lib.hid h3
  have HG3 := Lib.hid (HG2.out.vfr f3)
  have HF3 := Lib.hid (HF2.out.trans f3)
  clear h3 f3 HA2 HE2 HG2 HF2 hmade
  unfold cntC at *
  have HM0 := Lib.hid (Blk.new w3 150 #[.int .i64 0, .int .i64 0, .int .i64 0])
  obtain ⟨M, hM⟩ : ∃ M, M = w3.heap.size := ⟨_, rfl⟩
  go_upto_region 7 with (refine wpList_store_blk rfl 150 (.tmp 10) (.tmp 31) rfl w3.heap.size rfl _ rfl HM0.out rfl info150 rfl ?_; intro w4 hk4 hf4)
  have hb4 : Below w3.heap.size w3 w4 := belowFr1 ((Below.refl _ _).alloc (Nat.le_refl _) _) hf4 (Nat.le_refl _) (Nat.le_refl _)
  rw [← hM] at hk4 ⊢
  have HAM : Hid (A < M) := Lib.hid (by rw [hM]; exact HA3.out.lt)
  have HMw : Hid (w.heap.size ≤ M) := Lib.hid (by have := HAw.out; have := HAM.out; omega)
  have HA4 := Lib.hid (HA3.out.below hb4 HA3.out.lt)
  have HM4 := Lib.hid hk4
  have HE4 := Lib.hid (HE3.out.below hb4)
  have HG4 := Lib.hid (HG3.out.below (hb4.mono (by rw [← hM]; exact Nat.le_of_lt HAM.out)))
  have HF4 := Lib.hid (HF3.out.trans (VF.of_below hb4))
  clear hk4 hf4 hb4 HM0 HA3 HE3 HG3 HF3 hM
  have m2 := HM4.out.cell 2
  have g2 := HM4.out.frozen 2
  simp at m2
  go_upto_region 10 with (fail)
  obtain ⟨w5, hw5⟩ : ∃ W, W = w4.setCell ⟨M, 2, none⟩ (.int .i64 ((k : Int) + 1)) := ⟨_, rfl⟩
  have hf5 : Fr [M] w4 w5 := by rw [hw5]; exact (Fr.refl _ _).setCell (p := ⟨M, 2, none⟩) (.inl (by simp)) _
  have HM5 : Hid (Blk w5 M 150 #[.int .i64 0, .int .i64 0, .int .i64 ((k : Int) + 1)]) := Lib.hid (by rw [hw5]; have := HM4.out.set_ 2 (.int .i64 ((k : Int) + 1)); simpa using this)
  have HA5 := Lib.hid (HA4.out.fr hf5 (by simp; have := HAM.out; omega))
  have HE5 := Lib.hid (HE4.out.fr1 hf5 HM4.out (by decide) (by decide) (by decide) (Nat.le_trans HBw.out HMw.out))
  have HG5 := Lib.hid (HG4.out.fr hf5 HM4.out (by decide))
  have HF5 := Lib.hid (HF4.out.own hf5 HMw.out)
  rw [← hw5]
  clear hw5 hf5 HM4 HA4 HE4 HG4 HF4 m2 g2
  have m2 := HM5.out.cell 2
  simp at m2
  go_wp2_with fail
  refine (hchild _).mono ?_
  rintro e w6 ⟨rfl, nb⟩
  have HM6 := Lib.hid (HM5.out.below nb HM5.out.lt)
  have HA6 := Lib.hid (HA5.out.below nb HA5.out.lt)
  have HE6 := Lib.hid (HE5.out.below nb)
  have HG6 := Lib.hid (HG5.out.below (nb.mono (Nat.le_of_lt HA5.out.lt)))
  have HF6 := Lib.hid (HF5.out.trans (VF.of_below nb))
  clear nb HM5 HA5 HE5 HG5 HF5 m2 hchild
  go_wp2_with fail
  refine (hofp _).mono ?_
  rintro e w7 ⟨rfl, nb⟩
  have HM7 := Lib.hid (HM6.out.below nb HM6.out.lt)
  have HA7 := Lib.hid (HA6.out.below nb HA6.out.lt)
  have HE7 := Lib.hid (HE6.out.below nb)
  have HG7 := Lib.hid (HG6.out.below (nb.mono (Nat.le_of_lt HA6.out.lt)))
  have HF7 := Lib.hid (HF6.out.trans (VF.of_below nb))
  clear nb HM6 HA6 HE6 HG6 HF6 hofp
  go_wp2_with fail
  refine (hhas' _ HE7.out).mono ?_
  rintro e w8 ⟨rfl, h8, f8⟩
  have HM8 := Lib.hid (f8.blk HM7.out (by decide) (by decide))
  have HA8 := Lib.hid (f8.blk HA7.out (by decide) (by decide))
  have HE8 := Lib.hid h8
  have HG8 := Lib.hid (HG7.out.vfr f8)
  have HF8 := Lib.hid (HF7.out.trans f8)
  clear h8 f8 HM7 HA7 HE7 HG7 HF7 hhas'
  go_upto_region 15 with (fail)
  have hi40l : (Tryz.prog.info? 40).map (·.size) = some P.toList.length := by rw [Array.length_toList]; exact hi40
  refine wp_region_mixL (fun W => Blk W A 40 P) [1, 2, 3] [3, 5] [0, 1, 2, 3, 4, 5] (by kernel_rfl) (by kernel_rfl) HA8.out.drew ?_
  simp only [inOrder, opAt]
  iterate 2
    (refine wpMixS_read (v := ?_) rfl rfl (fun w' hS => ?_) ?_
     rotate_left
     · ((try (have t := hS rfl; have t6 := t.cell 6; rw [hc6] at t6; clear t)); go_simp; (try with_reducible rfl))
     try simp only [Act.put, List.setIfInBounds_toArray, List.set_cons_zero, List.set_cons_succ])
  refine wpMixS_row rfl rfl 40 (.tmp 8) rfl A 0 rfl P.toList _ (fun w' hS => blk_range (hS rfl)) Tryz.underlying40 rfl hi40l ?_
  simp only [Act.put, List.setIfInBounds_toArray, List.set_cons_zero, List.set_cons_succ, Array.toArray_toList]
  refine wpMixS_eff rfl rfl (fun K hK => ?_)
  go_simp
  refine hK.out _ _ _ (fun _ h => h) (fun _ => HA8.out.drew.alloc _) ?_
  clear hK K
  try simp only [Act.put, List.setIfInBounds_toArray, List.set_cons_zero, List.set_cons_succ]
  iterate 1
    (refine wpMixS_read (v := ?_) rfl rfl (fun w' hS => ?_) ?_
     rotate_left
     · ((try clear hS); go_simp; (try with_reducible rfl))
     try simp only [Act.put, List.setIfInBounds_toArray, List.set_cons_zero, List.set_cons_succ])
  have HQ8 := Lib.hid (Blk.new w8.drew 40 zPr)
  unfold zPr at HQ8
  obtain ⟨Q, hQ⟩ : ∃ Q, Q = w8.heap.size := ⟨_, rfl⟩
  refine wpMixS_eff rfl rfl (fun K hK => ?_)
  refine wp_store_blk 40 (.tmp 13) (.tmp 59) rfl w8.heap.size rfl _ rfl HQ8.out hsz hi40 hone ?_
  intro w9 hk9 hf9
  have hb9 : Below w8.heap.size w8 w9 := belowFr1 ((Below.refl w8.heap.size w8).drew.alloc (Nat.le_refl _) _) hf9 (Nat.le_refl _) (Nat.le_refl _)
  refine hK.out _ _ _ (fun _ h => h) (fun h => by cases h) ?_
  rw [← hQ] at hk9 ⊢
  have HMQ : Hid (M < Q) := Lib.hid (by rw [hQ]; exact HM8.out.lt)
  have HQw : Hid (w.heap.size ≤ Q) := Lib.hid (by have := HMw.out; have := HMQ.out; omega)
  have HQ9 := Lib.hid hk9
  have HM9 := Lib.hid (HM8.out.below hb9 HM8.out.lt)
  have HA9 := Lib.hid (HA8.out.below hb9 HA8.out.lt)
  have HE9 := Lib.hid (HE8.out.below hb9)
  have HG9 := Lib.hid (HG8.out.below (hb9.mono (Nat.le_of_lt HA8.out.lt)))
  have HF9 := Lib.hid (HF8.out.trans (VF.of_below hb9))
  clear hK K hk9 hf9 hb9 HQ8 HM8 HA8 HE8 HG8 HF8 hQ
  try simp only [Act.put, List.setIfInBounds_toArray, List.set_cons_zero, List.set_cons_succ]
  refine wpMixS_nil ?_
  have q7 := HQ9.out.cell 7
  have g7 := HQ9.out.frozen 7
  rw [hc7] at q7
  go_upto_region 18 with (fail)
  obtain ⟨w10, hw10⟩ : ∃ W, W = w9.setCell ⟨Q, 7, none⟩ (.int .i64 0) := ⟨_, rfl⟩
  have hf10 : Fr [Q] w9 w10 := by rw [hw10]; exact (Fr.refl _ _).setCell (p := ⟨Q, 7, none⟩) (.inl (by simp)) _
  have HQ10 : Hid (Blk w10 Q 40 (P.setIfInBounds 7 (.int .i64 0))) := Lib.hid (by rw [hw10]; exact HQ9.out.set_ 7 (.int .i64 0))
  have HM10 := Lib.hid (HM9.out.fr hf10 (by simp; have := HMQ.out; omega))
  have HA10 := Lib.hid (HA9.out.fr hf10 (by simp; have := HMQ.out; have := HAM.out; omega))
  have HE10 := Lib.hid (HE9.out.fr1 hf10 HQ9.out (by decide) (by decide) (by decide) (Nat.le_trans HBw.out HQw.out))
  have HG10 := Lib.hid (HG9.out.fr hf10 HQ9.out (by decide))
  have HF10 := Lib.hid (HF9.out.own hf10 HQw.out)
  rw [← hw10]
  clear hw10 hf10 HQ9 HM9 HA9 HE9 HG9 HF9 q7 g7
  go_wp2_with (refine wpList_load_blk rfl 40 (.tmp 8) rfl A rfl HA10.out _ Tryz.underlying40 rfl hi40 ?_)
  refine (how1 w10 _ HG10.out).mono ?_
  rintro e w11 ⟨rfl, nb⟩
  have HQ11 := Lib.hid (HQ10.out.below nb HQ10.out.lt)
  have HM11 := Lib.hid (HM10.out.below nb HM10.out.lt)
  have HE11 := Lib.hid (HE10.out.below nb)
  have HG11 := Lib.hid (HG10.out.below (nb.mono (Nat.le_of_lt HA10.out.lt)))
  have HF11 := Lib.hid (HF10.out.trans (VF.of_below nb))
  have HAz := Lib.hid (Nat.le_trans (Nat.le_of_lt HA10.out.lt) nb.size)
  clear nb HQ10 HM10 HE10 HG10 HF10 how1 HA10
  have HO0 := Lib.hid (Blk.new w11 40 zPr)
  unfold zPr at HO0
  obtain ⟨O, hO⟩ : ∃ O, O = w11.heap.size := ⟨_, rfl⟩
  go_upto_region 21 with (refine wpList_store_blk rfl 40 (.tmp 14) (.tmp 68) rfl w11.heap.size rfl _ rfl HO0.out hsz hi40 hone ?_; intro w12 hk12 hf12)
  have hb12 : Below w11.heap.size w11 w12 := belowFr1 ((Below.refl _ _).alloc (Nat.le_refl _) _) hf12 (Nat.le_refl _) (Nat.le_refl _)
  rw [← hO] at hk12 ⊢
  have HQO : Hid (Q < O) := Lib.hid (by rw [hO]; exact HQ11.out.lt)
  have HO12 := Lib.hid hk12
  have HQ12 := Lib.hid (HQ11.out.below hb12 HQ11.out.lt)
  have HM12 := Lib.hid (HM11.out.below hb12 HM11.out.lt)
  have HE12 := Lib.hid (HE11.out.below hb12)
  have HG12 := Lib.hid (HG11.out.below (hb12.mono HAz.out))
  have HF12 := Lib.hid (HF11.out.trans (VF.of_below hb12))
  have HAz2 := Lib.hid (Nat.le_trans HAz.out hb12.size)
  clear hk12 hf12 hb12 HO0 HQ11 HM11 HE11 HG11 HF11 hO HAz
  have q6 := HQ12.out.drew.cell 6
  have g6 := HQ12.out.drew.frozen 6
  rw [hq6] at q6
  refine wp_region_mixL (fun W => Blk W O 40 P) [2, 4] [4, 6] [0, 1, 2, 3, 4, 5, 6] (by kernel_rfl) (by kernel_rfl) HO12.out.drew ?_
  simp only [inOrder, opAt]
  iterate 4
    (refine wpMixS_read (v := ?_) rfl rfl (fun w' hS => ?_) ?_
     rotate_left
     · ((try (have t := hS rfl; have t7 := t.cell 7; rw [hc7] at t7; clear t)); go_simp; (try with_reducible rfl))
     try simp only [Act.put, List.setIfInBounds_toArray, List.set_cons_zero, List.set_cons_succ])
  refine wpMixS_eff rfl rfl (fun K hK => ?_)
  go_simp
  obtain ⟨w13, hw13⟩ : ∃ W, W = (w12.setCell ⟨Q, 6, none⟩ (.string (strL (chN k)))).drew := ⟨_, rfl⟩
  have hf13 : Fr [Q] w12 w13 := by rw [hw13]; exact ((Fr.refl _ _).setCell (p := ⟨Q, 6, none⟩) (.inl (by simp)) _).drew
  have HQ13 : Hid (Blk w13 Q 40 ((P.setIfInBounds 7 (.int .i64 0)).setIfInBounds 6 (.string (strL (chN k))))) := Lib.hid (by rw [hw13]; exact (HQ12.out.set_ 6 (.string (strL (chN k)))).drew)
  have HO13 := Lib.hid (HO12.out.fr hf13 (by simp; have := HQO.out; omega))
  have HM13 := Lib.hid (HM12.out.fr hf13 (by simp; have := HMQ.out; omega))
  have HE13 := Lib.hid (HE12.out.fr1 hf13 HQ12.out (by decide) (by decide) (by decide) (Nat.le_trans HBw.out HQw.out))
  have HG13 := Lib.hid (HG12.out.fr hf13 HQ12.out (by decide))
  have HF13 := Lib.hid (HF12.out.own hf13 HQw.out)
  have HAz3 : Hid (A ≤ w13.heap.size) := Lib.hid (Nat.le_trans HAz2.out hf13.size)
  rw [← hw13]
  refine hK.out _ _ _ (fun _ h => h) (fun _ => HO13.out) ?_
  clear hK K hw13 hf13 HQ12 HO12 HM12 HE12 HG12 HF12 q6 g6 HAz2
  try simp only [Act.put, List.setIfInBounds_toArray, List.set_cons_zero, List.set_cons_succ]
  iterate 1
    (refine wpMixS_read (v := ?_) rfl rfl (fun w' hS => ?_) ?_
     rotate_left
     · ((try clear hS); go_simp; (try with_reducible rfl))
     try simp only [Act.put, List.setIfInBounds_toArray, List.set_cons_zero, List.set_cons_succ])
  have q7 := HQ13.out.cell 7
  have g7 := HQ13.out.frozen 7
  rw [show ((P.setIfInBounds 7 (.int .i64 0)).setIfInBounds 6 (.string (strL (chN k))))[7]? = some (.int .i64 0) by rw [Array.getElem?_setIfInBounds_ne (by decide)]; exact hq7] at q7
  refine wpMixS_eff rfl rfl (fun K hK => ?_)
  go_simp
  obtain ⟨w14, hw14⟩ : ∃ W, W = w13.setCell ⟨Q, 7, none⟩ (.int .i64 (p.pages : Int)) := ⟨_, rfl⟩
  have hf14 : Fr [Q] w13 w14 := by rw [hw14]; exact (Fr.refl _ _).setCell (p := ⟨Q, 7, none⟩) (.inl (by simp)) _
  have HQ14 : Hid (Blk w14 Q 40 P') := Lib.hid (by rw [hw14, ← hPQ]; exact HQ13.out.set_ 7 (.int .i64 (p.pages : Int)))
  have HM14 := Lib.hid (HM13.out.fr hf14 (by simp; have := HMQ.out; omega))
  have HE14 := Lib.hid (HE13.out.fr1 hf14 HQ13.out (by decide) (by decide) (by decide) (Nat.le_trans HBw.out HQw.out))
  have HG14 := Lib.hid (HG13.out.fr hf14 HQ13.out (by decide))
  have HF14 := Lib.hid (HF13.out.own hf14 HQw.out)
  have HAz4 : Hid (A ≤ w14.heap.size) := Lib.hid (Nat.le_trans HAz3.out hf14.size)
  rw [← hw14]
  refine hK.out _ _ _ (fun _ h => h) (fun h => by cases h) ?_
  clear hK K hw14 hf14 HQ13 HO13 HM13 HE13 HG13 HF13 q7 g7 HAz3 hPQ
  try simp only [Act.put, List.setIfInBounds_toArray, List.set_cons_zero, List.set_cons_succ]
  refine wpMixS_nil ?_
  go_wp2_with fail
  refine (hmk _ _ _ HE14.out).mono ?_
  rintro e w' ⟨mk, rfl, rfl⟩
  clear hmk
  go_wp2_with (refine wpList_load_blk rfl 150 (.tmp 10) rfl M rfl HM14.out _ Tryz.underlying150 rfl info150 ?_)
  refine (hsm _ HE14.out).mono ?_
  rintro e w15 ⟨rfl, h15, f15⟩
  have HQ15 := Lib.hid (f15.blk HQ14.out (by decide) (by decide))
  have HE15 := Lib.hid h15
  have HG15 := Lib.hid (HG14.out.vfr f15)
  have HF15 := Lib.hid (HF14.out.trans f15)
  have HAz5 : Hid (A ≤ w15.heap.size) := Lib.hid (Nat.le_trans HAz4.out f15.size)
  clear h15 f15 HQ14 HM14 HE14 HG14 HF14 HAz4 hsm
  go_wp2_with (refine wpList_load_blk rfl 40 (.tmp 13) rfl Q rfl HQ15.out _ Tryz.underlying40 rfl hi40' ?_)
  refine (hput1 w15 A HE15.out HG15.out HAz5.out).mono ?_
  rintro e w16 ⟨rfl, h16, f16⟩
  have HQ16 := Lib.hid (f16.blk HQ15.out (by decide) (by decide))
  have HE16 := Lib.hid h16
  have HF16 := Lib.hid (HF15.out.trans f16)
  clear h16 f16 HQ15 HE15 HG15 HF15 HAz5 hput1
  go_wp2_with fail
  refine (hofr1 _).mono ?_
  rintro e w17 ⟨rfl, nb⟩
  have HQ17 := Lib.hid (HQ16.out.below nb HQ16.out.lt)
  have HE17 := Lib.hid (HE16.out.below nb)
  have HF17 := Lib.hid (HF16.out.trans (VF.of_below nb))
  clear nb HQ16 HE16 HF16
  go_wp2_with fail
  refine (hofr2 _).mono ?_
  rintro e w18 ⟨rfl, nb⟩
  have HQ18 := Lib.hid (HQ17.out.below nb HQ17.out.lt)
  have HE18 := Lib.hid (HE17.out.below nb)
  have HF18 := Lib.hid (HF17.out.trans (VF.of_below nb))
  clear nb HQ17 HE17 HF17
  go_wp2_with fail
  refine (hcpR' _ HE18.out).mono ?_
  rintro e w19 ⟨rfl, h19, f19⟩
  have HQ19 := Lib.hid (f19.blk HQ18.out (by decide) (by decide))
  have HE19 := Lib.hid h19
  have HF19 := Lib.hid (HF18.out.trans f19)
  clear h19 f19 HQ18 HE18 HF18 hcpR' hofr1 hofr2
  go_wp2_with fail
  go_loopg [9, 17] p.pages (fun q ev iv wr => ∃ i : Nat, i ≤ p.pages ∧ q = p.pages - i ∧ ev = .int .i64 0 ∧ iv = .int .i64 (i : Int) ∧ Env wr B v (VF3 i) (n + 3 + i) ∧ Blk wr Q 40 P' ∧ VF B w wr)
  case atStart => exact ⟨0, Nat.zero_le _, rfl, rfl, rfl, HE19.out, HQ19.out, HF19.out⟩
  case round =>
    obtain ⟨i, hi, rfl, rfl, rfl, he, hq, hf⟩ := hrel
    have HEr := Lib.hid he
    have HQr := Lib.hid hq
    have HFr := Lib.hid hf
    have c7 := hq.cell 7
    rw [hc7'] at c7
    clear he hq hf
    by_cases hlt : i < p.pages
    case neg =>
      obtain rfl : i = p.pages := by omega
      go_wp2_with fail
      refine bodyPost_ret (results_tmp2 rfl _ _ _) rfl ?_
      exact ⟨rfl, HEr.out, HFr.out⟩
    have i1 : (i : Int) < (p.pages : Int) := by omega
    have i0 : (0 : Int) ≤ (i : Int) := by omega
    go_wp2_with fail
    refine (hofg1 _ i).mono ?_
    rintro e wa ⟨rfl, nb⟩
    have HQa := Lib.hid (HQr.out.below nb HQr.out.lt)
    have HEa := Lib.hid (HEr.out.below nb)
    have HFa := Lib.hid (HFr.out.trans (VF.of_below nb))
    clear nb HQr HEr HFr c7
    go_wp2_with fail
    refine (hofg2 _ i).mono ?_
    rintro e wb ⟨rfl, nb⟩
    have HQb := Lib.hid (HQa.out.below nb HQa.out.lt)
    have HEb := Lib.hid (HEa.out.below nb)
    have HFb := Lib.hid (HFa.out.trans (VF.of_below nb))
    clear nb HQa HEa HFa
    go_wp2_with fail
    refine (hcpG' _ i hlt HEb.out).mono ?_
    rintro e wc ⟨rfl, hc1, fc⟩
    have HEc := Lib.hid hc1
    have HQc := Lib.hid (fc.blk HQb.out (by decide) (by decide))
    have HFc := Lib.hid (HFb.out.trans fc)
    clear hc1 fc HEb HQb HFb
    go_wp2_with fail
    go_roundg (p.pages - (i + 1))
    case measure => omega
    case rel => exact ⟨i + 1, hlt, rfl, rfl, by go_num, HEc.out, HQc.out, HFc.out⟩
theorem fork_any (w : World) (B v n k : Nat) (V : Val) (p : Pr) (h : Env w B v V n) (hp : Has V n1 p) (hr : p.st = 1) (hs : p.sp = n1) (hk : k ≤ 1) (hC : CntIs V n1 k) (hne : V (oP (chN k)) = none) (hV : Bdd V) (hn : n + 200 ≤ 100000) :
    Calls Tryz.prog 11 #[.pointer (some ⟨v, 0, none⟩), .string (strL n1)] w fun e w' => e = .returned (.tuple #[.string (strL (chN k)), .int .i64 0]) ∧ Env w' B v (forkV V p k) (n + 3 + p.pages) ∧ VF B w w' := by
  have hsp := spawn_any w B v n k V p h hp hr hs hk hC hne hV hn
  obtain ⟨c, hc⟩ : ∃ c, c = strL (chN k) := ⟨_, rfl⟩
  rw [← hc] at hsp ⊢
  clear hc
  go_enter Tryz.func11, Tryz.ntmps11
  go_wp2_with fail
  refine hsp.mono ?_
  rintro e w1 ⟨rfl, h1, f1⟩
  go_wp2_with fail
  refine bodyPost_ret (results_tmp2 rfl _ _ _) rfl ?_
  exact ⟨rfl, h1, f1⟩
end Go.Proofs.YtkoomlbnfhdhcaaGreatDoor

/-
  Walks: Wait.
-/
namespace Go.Proofs.YtkoomlbnfhdhcaaGreatDoor
open Go.RowKit
set_option linter.unusedVariables false
set_option linter.unusedSimpArgs false

set_option maxRecDepth 100000 in
set_option maxHeartbeats 8000000 in
theorem wait1_any (w : World) (B v n kc : Nat) (V : Val) (p q : Pr) (h : Env w B v V n) (hp : Has V n1 p) (hq : Has V n11 q) (hst : q.st = 1) (hC : CntIs V n1 kc) (hk1 : 1 ≤ kc) (hk2 : kc ≤ 100) (hn : n ≤ 100000) :
    Calls Tryz.prog 53 #[.pointer (some ⟨v, 0, none⟩), .string (strL n1), .int .i64 1] w fun e w' => e = .returned (.tuple #[.int .i64 0, .int .i64 19]) ∧ Env w' B v V n ∧ VF B w w' := by
  have hw1 : Who n1 := .inl rfl
  have hget := fun W (h : Env W B v V n) => prGet_any W B v n V n1 p h hp hn
  have hgetc := fun W (h : Env W B v V n) => prGet_any W B v n V n11 q h hq hn
  have hmade := fun W (h : Env W B v V n) => made_any W B v n kc V n1 h hw1 hk2 hC hn
  have hchild := fun W => child_any W 1 (.inl rfl)
  rw [show ([49, 46, UInt8.ofNat (48 + (1 : Int).toNat)] : List UInt8) = n11 from rfl] at hchild
  have k0 : (0 : Int) ≤ kc := by omega
  have k1 : ¬ ((1 : Int) > (kc : Int)) := by omega
  have k2 : decide ((1 : Int) > (kc : Int)) = false := decide_eq_false (by omega)
  have k3 : ¬ ((kc : Int) < 1) := by omega
  have HBw := Lib.hid h.leB
  have HE := Lib.hid h
  clear h hp hq hC
  go_enter Tryz.func53, Tryz.ntmps53
  go_wp2_with fail
  refine (hget _ HE.out).mono ?_
  rintro e w1 ⟨gv0, rfl, hgr0, h1, f1⟩
  have hone := pr_one p w1 _ gv0 hgr0
  have hsz := pr_size p gv0
  have HE1 := Lib.hid h1
  have HF1 := Lib.hid f1
  clear hgr0 h1 f1 HE hget
  unfold prV at *
  obtain ⟨P, hP⟩ : ∃ P, P = prCells p gv0 := ⟨_, rfl⟩
  rw [← hP] at hone hsz ⊢
  have hi40 : (Tryz.prog.info? 40).map (·.size) = some P.size := by rw [hsz]; exact info40
  clear hP
  have HA0 := Lib.hid (Blk.new w1 40 zPr)
  unfold zPr at HA0
  go_upto_region 4 with (refine wpList_store_blk rfl 40 (.tmp 8) (.tmp 19) rfl w1.heap.size rfl _ rfl HA0.out hsz hi40 hone ?_; intro w2 hk2' hf2)
  have hb2 : Below w1.heap.size w1 w2 := belowFr1 ((Below.refl _ _).alloc (Nat.le_refl _) _) hf2 (Nat.le_refl _) (Nat.le_refl _)
  have HE2 := Lib.hid (HE1.out.below hb2)
  have HF2 := Lib.hid (HF1.out.trans (VF.of_below hb2))
  clear hk2' hf2 hb2 HA0 HE1 HF1
  go_wp2_with fail
  refine (hmade _ HE2.out).mono ?_
  rintro e w3 ⟨rfl, h3, f3⟩
  have HE3 := Lib.hid h3
  have HF3 := Lib.hid (HF2.out.trans f3)
  clear h3 f3 HE2 HF2 hmade
  unfold cntC at *
  have HM0 := Lib.hid (Blk.new w3 150 #[.int .i64 0, .int .i64 0, .int .i64 0])
  obtain ⟨M, hM⟩ : ∃ M, M = w3.heap.size := ⟨_, rfl⟩
  go_upto_region 7 with (refine wpList_store_blk rfl 150 (.tmp 10) (.tmp 28) rfl w3.heap.size rfl _ rfl HM0.out rfl info150 rfl ?_; intro w4 hk4 hf4)
  have hb4 : Below w3.heap.size w3 w4 := belowFr1 ((Below.refl _ _).alloc (Nat.le_refl _) _) hf4 (Nat.le_refl _) (Nat.le_refl _)
  rw [← hM] at hk4 ⊢
  have m2 := hk4.cell 2
  simp at m2
  have HE4 := Lib.hid (HE3.out.below hb4)
  have HF4 := Lib.hid (HF3.out.trans (VF.of_below hb4))
  clear hk4 hf4 hb4 HM0 HE3 HF3 hM
  go_wp2_with fail
  refine (hchild _).mono ?_
  rintro e w5 ⟨rfl, nb⟩
  have HE5 := Lib.hid (HE4.out.below nb)
  have HF5 := Lib.hid (HF4.out.trans (VF.of_below nb))
  clear nb m2 HE4 HF4 hchild
  go_wp2_with fail
  refine (hgetc _ HE5.out).mono ?_
  rintro e w6 ⟨gv, rfl, hgr, h6, f6⟩
  have hone' := pr_one q w6 _ gv hgr
  have hszq := pr_size q gv
  have hc1 : (prCells q gv)[1]? = some (.int .i64 1) := by
    have : (prCells q gv)[1]? = some (.int .i64 (q.st : Int)) := rfl
    rw [this, hst]
    rfl
  have HG6 := Lib.hid hgr
  have HE6 := Lib.hid h6
  have HF6 := Lib.hid (HF5.out.trans f6)
  clear hgr h6 f6 HE5 HF5 hgetc
  obtain ⟨Q, hQ⟩ : ∃ Q, Q = prCells q gv := ⟨_, rfl⟩
  rw [← hQ] at hone' hszq hc1 ⊢
  have hiQ : (Tryz.prog.info? 40).map (·.size) = some Q.size := by rw [hszq]; exact info40
  clear hQ
  have HN0 := Lib.hid (Blk.new w6 40 zPr)
  unfold zPr at HN0
  obtain ⟨N, hN⟩ : ∃ N, N = w6.heap.size := ⟨_, rfl⟩
  go_upto_region 13 with (refine wpList_store_blk rfl 40 (.tmp 13) (.tmp 53) rfl w6.heap.size rfl _ rfl HN0.out hszq hiQ hone' ?_; intro w7 hk7 hf7)
  have hb7 : Below w6.heap.size w6 w7 := belowFr1 ((Below.refl _ _).alloc (Nat.le_refl _) _) hf7 (Nat.le_refl _) (Nat.le_refl _)
  rw [← hN] at hk7 ⊢
  have HNw : Hid (w.heap.size ≤ N) := Lib.hid (by rw [hN]; exact HF6.out.size)
  have HN7 := Lib.hid hk7
  have HE7 := Lib.hid (HE6.out.below hb7)
  have HG7 : Hid (GrOk w7 N gv q.gs) := Lib.hid (by rw [hN]; exact HG6.out.below hb7)
  have HF7 := Lib.hid (HF6.out.trans (VF.of_below hb7))
  have n1' := hk7.cell 1
  have f1' := hk7.frozen 1
  rw [hc1] at n1'
  clear hk7 hf7 hb7 HN0 HE6 HG6 HF6 hN
  go_wp2_with fail
  refine bodyPost_ret (results_tmp2 rfl _ _ _) rfl ?_
  exact ⟨rfl, HE7.out, HF7.out⟩

set_option maxRecDepth 100000 in
set_option maxHeartbeats 8000000 in
theorem wait2_any (w : World) (B v n kc : Nat) (V : Val) (p q : Pr) (h : Env w B v V n) (hp : Has V n1 p) (hq : Has V n11 q) (hst : q.st = 2) (hC : CntIs V n1 kc) (hk1 : 1 ≤ kc) (hk2 : kc ≤ 100) (hn : n ≤ 100000) :
    Calls Tryz.prog 53 #[.pointer (some ⟨v, 0, none⟩), .string (strL n1), .int .i64 1] w fun e w' => e = .returned (.tuple #[.int .i64 (q.code : Int), .int .i64 0]) ∧ Env w' B v (vupd V (oP n11) (prEnc { q with st := 3 })) (n + 1) ∧ VF B w w' := by
  have hw1 : Who n1 := .inl rfl
  have hget := fun W (h : Env W B v V n) => prGet_any W B v n V n1 p h hp hn
  have hgetc := fun W (h : Env W B v V n) => prGet_any W B v n V n11 q h hq hn
  have hmade := fun W (h : Env W B v V n) => made_any W B v n kc V n1 h hw1 hk2 hC hn
  have hchild := fun W => child_any W 1 (.inl rfl)
  rw [show ([49, 46, UInt8.ofNat (48 + (1 : Int).toNat)] : List UInt8) = n11 from rfl] at hchild
  have hq3 : PrOk { q with st := 3 } := ⟨⟨by show 1 ≤ 3; decide, by show 3 ≤ 3; decide⟩, hq.ok.code, fun e => absurd (show 3 = 1 from e) (by decide), hq.ok.user, hq.ok.sp, hq.ok.pages, hq.ok.term⟩
  have hput := fun W C gv (h : Env W B v V n) (hg : GrOk W C gv q.gs) (hC : C ≤ W.heap.size) => put_any W B C v n V n11 { q with st := 3 } gv h hq.w hq3 hg hC hq.gs hn
  obtain ⟨V', hV'⟩ : ∃ V', V' = vupd V (oP n11) (prEnc { q with st := 3 }) := ⟨_, rfl⟩
  rw [← hV'] at hput ⊢
  clear hV' hq3
  have k0 : (0 : Int) ≤ kc := by omega
  have k1 : ¬ ((1 : Int) > (kc : Int)) := by omega
  have k2 : decide ((1 : Int) > (kc : Int)) = false := decide_eq_false (by omega)
  have k3 : ¬ ((kc : Int) < 1) := by omega
  have HBw := Lib.hid h.leB
  have HE := Lib.hid h
  clear h hp hq hC
  go_enter Tryz.func53, Tryz.ntmps53
  go_wp2_with fail
  refine (hget _ HE.out).mono ?_
  rintro e w1 ⟨gv0, rfl, hgr0, h1, f1⟩
  have hone := pr_one p w1 _ gv0 hgr0
  have hsz := pr_size p gv0
  have HE1 := Lib.hid h1
  have HF1 := Lib.hid f1
  clear hgr0 h1 f1 HE hget
  unfold prV at *
  obtain ⟨P, hP⟩ : ∃ P, P = prCells p gv0 := ⟨_, rfl⟩
  rw [← hP] at hone hsz ⊢
  have hi40 : (Tryz.prog.info? 40).map (·.size) = some P.size := by rw [hsz]; exact info40
  clear hP
  have HA0 := Lib.hid (Blk.new w1 40 zPr)
  unfold zPr at HA0
  go_upto_region 4 with (refine wpList_store_blk rfl 40 (.tmp 8) (.tmp 19) rfl w1.heap.size rfl _ rfl HA0.out hsz hi40 hone ?_; intro w2 hk2' hf2)
  have hb2 : Below w1.heap.size w1 w2 := belowFr1 ((Below.refl _ _).alloc (Nat.le_refl _) _) hf2 (Nat.le_refl _) (Nat.le_refl _)
  have HE2 := Lib.hid (HE1.out.below hb2)
  have HF2 := Lib.hid (HF1.out.trans (VF.of_below hb2))
  clear hk2' hf2 hb2 HA0 HE1 HF1
  go_wp2_with fail
  refine (hmade _ HE2.out).mono ?_
  rintro e w3 ⟨rfl, h3, f3⟩
  have HE3 := Lib.hid h3
  have HF3 := Lib.hid (HF2.out.trans f3)
  clear h3 f3 HE2 HF2 hmade
  unfold cntC at *
  have HM0 := Lib.hid (Blk.new w3 150 #[.int .i64 0, .int .i64 0, .int .i64 0])
  obtain ⟨M, hM⟩ : ∃ M, M = w3.heap.size := ⟨_, rfl⟩
  go_upto_region 7 with (refine wpList_store_blk rfl 150 (.tmp 10) (.tmp 28) rfl w3.heap.size rfl _ rfl HM0.out rfl info150 rfl ?_; intro w4 hk4 hf4)
  have hb4 : Below w3.heap.size w3 w4 := belowFr1 ((Below.refl _ _).alloc (Nat.le_refl _) _) hf4 (Nat.le_refl _) (Nat.le_refl _)
  rw [← hM] at hk4 ⊢
  have m2 := hk4.cell 2
  simp at m2
  have HE4 := Lib.hid (HE3.out.below hb4)
  have HF4 := Lib.hid (HF3.out.trans (VF.of_below hb4))
  clear hk4 hf4 hb4 HM0 HE3 HF3 hM
  go_wp2_with fail
  refine (hchild _).mono ?_
  rintro e w5 ⟨rfl, nb⟩
  have HE5 := Lib.hid (HE4.out.below nb)
  have HF5 := Lib.hid (HF4.out.trans (VF.of_below nb))
  clear nb m2 HE4 HF4 hchild
  go_wp2_with fail
  refine (hgetc _ HE5.out).mono ?_
  rintro e w6 ⟨gv, rfl, hgr, h6, f6⟩
  have hone' := pr_one q w6 _ gv hgr
  have hszq := pr_size q gv
  have hc1 : (prCells q gv)[1]? = some (.int .i64 2) := by
    have : (prCells q gv)[1]? = some (.int .i64 (q.st : Int)) := rfl
    rw [this, hst]
    rfl
  have hc2 : (prCells { q with st := 3 } gv)[2]? = some (.int .i64 (q.code : Int)) := rfl
  have hQ1 : (prCells q gv).setIfInBounds 1 (.int .i64 3) = prCells { q with st := 3 } gv := rfl
  have hszq' := pr_size { q with st := 3 } gv
  have hput1 := fun W C => hput W C gv
  clear hput
  have HG6 := Lib.hid hgr
  have HE6 := Lib.hid h6
  have HF6 := Lib.hid (HF5.out.trans f6)
  clear hgr h6 f6 HE5 HF5 hgetc
  obtain ⟨Q, hQ⟩ : ∃ Q, Q = prCells q gv := ⟨_, rfl⟩
  obtain ⟨Q', hQ'⟩ : ∃ Q', Q' = prCells { q with st := 3 } gv := ⟨_, rfl⟩
  rw [← hQ, ← hQ'] at hQ1
  rw [← hQ'] at hc2 hszq' hput1
  have hiQ' : (Tryz.prog.info? 40).map (·.size) = some Q'.size := by rw [hszq']; exact info40
  clear hQ'
  rw [← hQ] at hone' hszq hc1 ⊢
  have hiQ : (Tryz.prog.info? 40).map (·.size) = some Q.size := by rw [hszq]; exact info40
  clear hQ
  have HN0 := Lib.hid (Blk.new w6 40 zPr)
  unfold zPr at HN0
  obtain ⟨N, hN⟩ : ∃ N, N = w6.heap.size := ⟨_, rfl⟩
  go_upto_region 13 with (refine wpList_store_blk rfl 40 (.tmp 13) (.tmp 53) rfl w6.heap.size rfl _ rfl HN0.out hszq hiQ hone' ?_; intro w7 hk7 hf7)
  have hb7 : Below w6.heap.size w6 w7 := belowFr1 ((Below.refl _ _).alloc (Nat.le_refl _) _) hf7 (Nat.le_refl _) (Nat.le_refl _)
  rw [← hN] at hk7 ⊢
  have HNw : Hid (w.heap.size ≤ N) := Lib.hid (by rw [hN]; exact HF6.out.size)
  have HN7 := Lib.hid hk7
  have HE7 := Lib.hid (HE6.out.below hb7)
  have HG7 : Hid (GrOk w7 N gv q.gs) := Lib.hid (by rw [hN]; exact HG6.out.below hb7)
  have HF7 := Lib.hid (HF6.out.trans (VF.of_below hb7))
  have n1' := hk7.cell 1
  have f1' := hk7.frozen 1
  rw [hc1] at n1'
  clear hk7 hf7 hb7 HN0 HE6 HG6 HF6 hN
  go_upto_region 20 with (fail)
  obtain ⟨w8, hw8⟩ : ∃ W, W = w7.setCell ⟨N, 1, none⟩ (.int .i64 3) := ⟨_, rfl⟩
  have hf8 : Fr [N] w7 w8 := by rw [hw8]; exact (Fr.refl _ _).setCell (p := ⟨N, 1, none⟩) (.inl (by simp)) _
  have HN8 : Hid (Blk w8 N 40 Q') := Lib.hid (by rw [hw8, ← hQ1]; exact HN7.out.set_ 1 (.int .i64 3))
  have HE8 := Lib.hid (HE7.out.fr1 hf8 HN7.out (by decide) (by decide) (by decide) (Nat.le_trans HBw.out HNw.out))
  have HG8 := Lib.hid (HG7.out.fr hf8 HN7.out (by decide))
  have HF8 := Lib.hid (HF7.out.own hf8 HNw.out)
  rw [← hw8]
  clear hw8 hf8 HN7 HE7 HG7 HF7 n1' f1'
  go_wp2_with (refine wpList_load_blk rfl 40 (.tmp 13) rfl N rfl HN8.out _ Tryz.underlying40 rfl hiQ' ?_)
  refine (hput1 w8 N HE8.out HG8.out (Nat.le_of_lt HN8.out.lt)).mono ?_
  rintro e w9 ⟨rfl, h9, f9⟩
  have n2' := (f9.blk HN8.out (by decide) (by decide)).cell 2
  rw [hc2] at n2'
  go_wp2_with fail
  refine bodyPost_ret (results_tmp2 rfl _ _ _) rfl ?_
  exact ⟨rfl, h9, HF8.out.trans f9⟩

set_option maxRecDepth 100000 in
set_option maxHeartbeats 8000000 in
theorem wait3_any (w : World) (B v n kc : Nat) (V : Val) (p q : Pr) (h : Env w B v V n) (hp : Has V n1 p) (hq : Has V n11 q) (hst : q.st = 3) (hC : CntIs V n1 kc) (hk1 : 1 ≤ kc) (hk2 : kc ≤ 100) (hn : n ≤ 100000) :
    Calls Tryz.prog 53 #[.pointer (some ⟨v, 0, none⟩), .string (strL n1), .int .i64 1] w fun e w' => e = .returned (.tuple #[.int .i64 0, .int .i64 10]) ∧ Env w' B v V n ∧ VF B w w' := by
  have hw1 : Who n1 := .inl rfl
  have hget := fun W (h : Env W B v V n) => prGet_any W B v n V n1 p h hp hn
  have hgetc := fun W (h : Env W B v V n) => prGet_any W B v n V n11 q h hq hn
  have hmade := fun W (h : Env W B v V n) => made_any W B v n kc V n1 h hw1 hk2 hC hn
  have hchild := fun W => child_any W 1 (.inl rfl)
  rw [show ([49, 46, UInt8.ofNat (48 + (1 : Int).toNat)] : List UInt8) = n11 from rfl] at hchild
  have k0 : (0 : Int) ≤ kc := by omega
  have k1 : ¬ ((1 : Int) > (kc : Int)) := by omega
  have k2 : decide ((1 : Int) > (kc : Int)) = false := decide_eq_false (by omega)
  have k3 : ¬ ((kc : Int) < 1) := by omega
  have HBw := Lib.hid h.leB
  have HE := Lib.hid h
  clear h hp hq hC
  go_enter Tryz.func53, Tryz.ntmps53
  go_wp2_with fail
  refine (hget _ HE.out).mono ?_
  rintro e w1 ⟨gv0, rfl, hgr0, h1, f1⟩
  have hone := pr_one p w1 _ gv0 hgr0
  have hsz := pr_size p gv0
  have HE1 := Lib.hid h1
  have HF1 := Lib.hid f1
  clear hgr0 h1 f1 HE hget
  unfold prV at *
  obtain ⟨P, hP⟩ : ∃ P, P = prCells p gv0 := ⟨_, rfl⟩
  rw [← hP] at hone hsz ⊢
  have hi40 : (Tryz.prog.info? 40).map (·.size) = some P.size := by rw [hsz]; exact info40
  clear hP
  have HA0 := Lib.hid (Blk.new w1 40 zPr)
  unfold zPr at HA0
  go_upto_region 4 with (refine wpList_store_blk rfl 40 (.tmp 8) (.tmp 19) rfl w1.heap.size rfl _ rfl HA0.out hsz hi40 hone ?_; intro w2 hk2' hf2)
  have hb2 : Below w1.heap.size w1 w2 := belowFr1 ((Below.refl _ _).alloc (Nat.le_refl _) _) hf2 (Nat.le_refl _) (Nat.le_refl _)
  have HE2 := Lib.hid (HE1.out.below hb2)
  have HF2 := Lib.hid (HF1.out.trans (VF.of_below hb2))
  clear hk2' hf2 hb2 HA0 HE1 HF1
  go_wp2_with fail
  refine (hmade _ HE2.out).mono ?_
  rintro e w3 ⟨rfl, h3, f3⟩
  have HE3 := Lib.hid h3
  have HF3 := Lib.hid (HF2.out.trans f3)
  clear h3 f3 HE2 HF2 hmade
  unfold cntC at *
  have HM0 := Lib.hid (Blk.new w3 150 #[.int .i64 0, .int .i64 0, .int .i64 0])
  obtain ⟨M, hM⟩ : ∃ M, M = w3.heap.size := ⟨_, rfl⟩
  go_upto_region 7 with (refine wpList_store_blk rfl 150 (.tmp 10) (.tmp 28) rfl w3.heap.size rfl _ rfl HM0.out rfl info150 rfl ?_; intro w4 hk4 hf4)
  have hb4 : Below w3.heap.size w3 w4 := belowFr1 ((Below.refl _ _).alloc (Nat.le_refl _) _) hf4 (Nat.le_refl _) (Nat.le_refl _)
  rw [← hM] at hk4 ⊢
  have m2 := hk4.cell 2
  simp at m2
  have HE4 := Lib.hid (HE3.out.below hb4)
  have HF4 := Lib.hid (HF3.out.trans (VF.of_below hb4))
  clear hk4 hf4 hb4 HM0 HE3 HF3 hM
  go_wp2_with fail
  refine (hchild _).mono ?_
  rintro e w5 ⟨rfl, nb⟩
  have HE5 := Lib.hid (HE4.out.below nb)
  have HF5 := Lib.hid (HF4.out.trans (VF.of_below nb))
  clear nb m2 HE4 HF4 hchild
  go_wp2_with fail
  refine (hgetc _ HE5.out).mono ?_
  rintro e w6 ⟨gv, rfl, hgr, h6, f6⟩
  have hone' := pr_one q w6 _ gv hgr
  have hszq := pr_size q gv
  have hc1 : (prCells q gv)[1]? = some (.int .i64 3) := by
    have : (prCells q gv)[1]? = some (.int .i64 (q.st : Int)) := rfl
    rw [this, hst]
    rfl
  have HG6 := Lib.hid hgr
  have HE6 := Lib.hid h6
  have HF6 := Lib.hid (HF5.out.trans f6)
  clear hgr h6 f6 HE5 HF5 hgetc
  obtain ⟨Q, hQ⟩ : ∃ Q, Q = prCells q gv := ⟨_, rfl⟩
  rw [← hQ] at hone' hszq hc1 ⊢
  have hiQ : (Tryz.prog.info? 40).map (·.size) = some Q.size := by rw [hszq]; exact info40
  clear hQ
  have HN0 := Lib.hid (Blk.new w6 40 zPr)
  unfold zPr at HN0
  obtain ⟨N, hN⟩ : ∃ N, N = w6.heap.size := ⟨_, rfl⟩
  go_upto_region 13 with (refine wpList_store_blk rfl 40 (.tmp 13) (.tmp 53) rfl w6.heap.size rfl _ rfl HN0.out hszq hiQ hone' ?_; intro w7 hk7 hf7)
  have hb7 : Below w6.heap.size w6 w7 := belowFr1 ((Below.refl _ _).alloc (Nat.le_refl _) _) hf7 (Nat.le_refl _) (Nat.le_refl _)
  rw [← hN] at hk7 ⊢
  have HNw : Hid (w.heap.size ≤ N) := Lib.hid (by rw [hN]; exact HF6.out.size)
  have HN7 := Lib.hid hk7
  have HE7 := Lib.hid (HE6.out.below hb7)
  have HG7 : Hid (GrOk w7 N gv q.gs) := Lib.hid (by rw [hN]; exact HG6.out.below hb7)
  have HF7 := Lib.hid (HF6.out.trans (VF.of_below hb7))
  have n1' := hk7.cell 1
  have f1' := hk7.frozen 1
  rw [hc1] at n1'
  clear hk7 hf7 hb7 HN0 HE6 HG6 HF6 hN
  go_wp2_with fail
  refine bodyPost_ret (results_tmp2 rfl _ _ _) rfl ?_
  exact ⟨rfl, HE7.out, HF7.out⟩
end Go.Proofs.YtkoomlbnfhdhcaaGreatDoor

/-
  Plain: what a fork leaves in a view.
-/
namespace Go.Proofs.YtkoomlbnfhdhcaaGreatDoor
open Go.RowKit
set_option linter.unusedVariables false

theorem cpV_ne (V : Val) (x y z : Ob) (h : z ≠ y) : cpV V x y z = V z := by
  unfold cpV
  cases V x with
  | none => rfl
  | some b => exact vupd_ne _ _ _ _ h
theorem cpV_at (V : Val) (x y : Ob) (b : List UInt8) (h : V x = some b) : cpV V x y y = some b := by
  unfold cpV
  rw [h]
  exact vupd_at _ _ _
theorem cpPg_other (V : Val) (c : List UInt8) (y : Ob) (h : ¬ (y.k = 3 ∧ y.o = c)) : ∀ i, cpPg V c i y = V y
  | 0 => rfl
  | i + 1 => by
    show cpV (cpPg V c i) (oG n1 i) (oG c i) y = _
    rw [cpV_ne _ _ _ _ (fun e => h ⟨by rw [e], by rw [e]⟩)]
    exact cpPg_other V c y h i
theorem cpPg_at (V : Val) (c : List UInt8) (hc : n1 ≠ c) (i : Nat) (b : List UInt8) (hb : V (oG n1 i) = some b) : ∀ m, i < m → cpPg V c m (oG c i) = some b
  | 0, h => by omega
  | m + 1, h => by
    show cpV (cpPg V c m) (oG n1 m) (oG c m) (oG c i) = _
    by_cases e : i = m
    · subst e
      exact cpV_at _ _ _ b ((cpPg_other V c _ (fun hh => hc hh.2) i).trans hb)
    · rw [cpV_ne _ _ _ _ (fun hh => e (by injection hh))]
      exact cpPg_at V c hc i b hb m (by omega)
section
variable {V : Val} {p : Pr} {k : Nat}
theorem chN_ne (k : Nat) : n1 ≠ chN k := fun e => by unfold chN at e; cases e
theorem fork_other (V : Val) (p : Pr) (k : Nat) (y : Ob) (h1 : y ≠ oC n1) (h2 : y.o ≠ chN k) : forkV V p k y = V y := by
  unfold forkV forkV3 forkV2
  rw [cpPg_other _ _ _ (fun hh => h2 hh.2), cpV_ne _ _ _ _ (fun e => h2 (by rw [e])), vupd_ne _ _ _ _ (fun e => h2 (by rw [e])), vupd_ne _ _ _ _ h1]
theorem fork_cnt (V : Val) (p : Pr) (k : Nat) : forkV V p k (oC n1) = some (cntEnc (k + 1)) := by
  unfold forkV forkV3 forkV2
  rw [cpPg_other _ _ _ (fun hh => absurd hh.1 (show ¬ (5 = 3) by decide)), cpV_ne _ _ _ _ (fun e => chN_ne k (by injection e)), vupd_ne _ _ _ _ (fun e => chN_ne k (by injection e)), vupd_at]
theorem fork_pr (V : Val) (p : Pr) (k : Nat) : forkV V p k (oP (chN k)) = some (prEnc (forkQ p k)) := by
  unfold forkV forkV3 forkV2
  rw [cpPg_other _ _ _ (fun hh => absurd hh.1 (show ¬ (1 = 3) by decide)), cpV_ne _ _ _ _ (fun e => by injection e with e; cases e), vupd_at]
theorem forkV2_n1 (V : Val) (p : Pr) (k : Nat) (y : Ob) (h1 : y.o = n1) (h2 : y ≠ oC n1) : forkV2 V p k y = V y := by
  unfold forkV2
  rw [vupd_ne _ _ _ _ (fun e => chN_ne k (by rw [← h1, e])), vupd_ne _ _ _ _ h2]
theorem fork_rg (V : Val) (p : Pr) (k : Nat) (b : List UInt8) (h : V (oR n1) = some b) : forkV V p k (oR (chN k)) = some b := by
  unfold forkV forkV3
  rw [cpPg_other _ _ _ (fun hh => absurd hh.1 (show ¬ (2 = 3) by decide))]
  exact cpV_at _ _ _ b ((forkV2_n1 V p k _ rfl (fun e => by injection e with e; cases e)).trans h)
theorem fork_pg (V : Val) (p : Pr) (k i : Nat) (b : List UInt8) (hi : i < p.pages) (h : V (oG n1 i) = some b) : forkV V p k (oG (chN k) i) = some b := by
  unfold forkV forkV3
  refine cpPg_at _ _ (chN_ne k) i b ?_ _ hi
  rw [cpV_ne _ _ _ _ (fun e => by injection e with e; cases e)]
  exact (forkV2_n1 V p k _ rfl (fun e => by injection e with e; cases e)).trans h
theorem Has.of {V' : Val} {who : List UInt8} {p : Pr} (h : Has V who p) (h1 : V' (oP who) = V (oP who)) (h2 : V' oE = V oE) : Has V' who p := ⟨h1.trans h.v, h2.trans h.e, h.w, h.ok, h.gs⟩
theorem fork_oE (V : Val) (p : Pr) (k : Nat) : forkV V p k oE = V oE := fork_other V p k _ (fun e => by injection e with e; cases e) (fun e => by unfold chN at e; cases e)
theorem fork_oP1 (V : Val) (p : Pr) (k : Nat) : forkV V p k (oP n1) = V (oP n1) := fork_other V p k _ (fun e => by injection e with e; cases e) (chN_ne k)
theorem Has.forked (h : Has V n1 p) (k : Nat) (hk : k ≤ 1) : Has (forkV V p k) (chN k) (forkQ p k) :=
  ⟨fork_pr V p k, (fork_oE V p k).trans h.e, chN_who k hk, forkQ_ok hk h.ok, h.gs⟩
theorem Bdd.fork (h : Bdd V) {k : Nat} (hk : k ≤ 1) (hp : PrOk p) (hg : p.gs = [] ∨ p.gs = [1, 5]) : Bdd (forkV V p k) := ((h.fork3 hk hp hg).cp _ _).cpPg _ _
end
/-! ### The views of the example -/
def oneP : Pr := ⟨1, 0, 7, [1, 5], n1, 2, 3⟩
theorem oneP_ok : PrOk oneP := ⟨⟨by decide, by decide⟩, by decide, fun _ => rfl, by decide, .inl rfl, by decide, by decide⟩
def kV1 : Val := vupd vnone (oP n1) (prEnc oneP)
def kV2 : Val := forkV kV1 oneP 0
def kV3 : Val := forkV kV2 oneP 1
def kV4 : Val := vupd kV3 (oP n11) (prEnc { forkQ oneP 0 with st := 2, code := 9 })
def kV5 : Val := vupd kV4 (oP n11) (prEnc { ({ forkQ oneP 0 with st := 2, code := 9 } : Pr) with st := 3 })
theorem kH1 : Has kV1 n1 oneP := ⟨vupd_at _ _ _, rfl, .inl rfl, oneP_ok, .inr rfl⟩
theorem kB1 : Bdd kV1 := Bdd.upd (fun _ _ h => by cases h) _ (by have := prEnc_length oneP oneP_ok (.inr rfl); omega)
theorem kH2 : Has kV2 n1 oneP := kH1.of (fork_oP1 _ _ _) (fork_oE _ _ _)
theorem kB2 : Bdd kV2 := kB1.fork (by decide) oneP_ok (.inr rfl)
theorem kH2c : Has kV2 n11 (forkQ oneP 0) := kH1.forked 0 (by decide)
theorem kN1 : kV1 (oP (chN 0)) = none := by
  unfold kV1
  rw [vupd_ne _ _ _ _ (fun e => chN_ne 0 (by injection e with _ e; exact e.symm))]
  rfl
theorem kN2 : kV2 (oP (chN 1)) = none := by
  unfold kV2
  rw [fork_other _ _ _ _ (fun e => by injection e with e; cases e) (fun e => by revert e; decide)]
  unfold kV1
  rw [vupd_ne _ _ _ _ (fun e => chN_ne 1 (by injection e with _ e; exact e.symm))]
  rfl
theorem kC1 : CntIs kV1 n1 0 := .inl ⟨by unfold kV1; rw [vupd_ne _ _ _ _ (fun e => by injection e with e; cases e)]; rfl, rfl⟩
theorem kC2 : CntIs kV2 n1 1 := .inr (fork_cnt _ _ _)
theorem kC3 : CntIs kV3 n1 2 := .inr (fork_cnt _ _ _)
theorem kH3 : Has kV3 n1 oneP := kH2.of (fork_oP1 _ _ _) (fork_oE _ _ _)
theorem kH3c : Has kV3 n11 (forkQ oneP 0) := kH2c.of (fork_other _ _ _ _ (fun e => by injection e with e; cases e) (fun e => by revert e; decide)) (fork_oE _ _ _)
def endQ : Pr := { forkQ oneP 0 with st := 2, code := 9 }
theorem endQ_ok : PrOk endQ := ⟨⟨by decide, by decide⟩, by decide, fun e => absurd (show 2 = 1 from e) (by decide), by decide, .inr (.inl rfl), by decide, by decide⟩
theorem kH4 : Has kV4 n1 oneP := kH3.of (vupd_ne _ _ _ _ (fun e => by revert e; decide)) (vupd_ne _ _ _ _ (fun e => by revert e; decide))
theorem kH4c : Has kV4 n11 endQ := ⟨vupd_at _ _ _, (vupd_ne _ _ _ _ (fun e => by revert e; decide)).trans kH3.e, .inr (.inl rfl), endQ_ok, .inr rfl⟩
theorem kC4 : CntIs kV4 n1 2 := .inr ((vupd_ne _ _ _ _ (fun e => by revert e; decide)).trans (fork_cnt _ _ _))
theorem kH5 : Has kV5 n1 oneP := kH4.of (vupd_ne _ _ _ _ (fun e => by revert e; decide)) (vupd_ne _ _ _ _ (fun e => by revert e; decide))
def gonQ : Pr := { endQ with st := 3 }
theorem gonQ_ok : PrOk gonQ := ⟨⟨by decide, by decide⟩, by decide, fun e => absurd (show 3 = 1 from e) (by decide), by decide, .inr (.inl rfl), by decide, by decide⟩
theorem kH5c : Has kV5 n11 gonQ := ⟨vupd_at _ _ _, (vupd_ne _ _ _ _ (fun e => by revert e; decide)).trans kH4.e, .inr (.inl rfl), gonQ_ok, .inr rfl⟩
theorem kC5 : CntIs kV5 n1 2 := .inr ((vupd_ne _ _ _ _ (fun e => by revert e; decide)).trans (kC4.resolve_left (fun h => absurd h.2 (by decide))))
end Go.Proofs.YtkoomlbnfhdhcaaGreatDoor

/-
  Walks: the example of the document.
-/
namespace Go.Proofs.YtkoomlbnfhdhcaaGreatDoor
open Go.RowKit
set_option linter.unusedVariables false
set_option linter.unusedSimpArgs false

theorem build36 (b c : Nat) (W : World) : (Instr.build 36 #[(0, .int .i64 7), (1, .slice (some ⟨b, 0, none⟩) 2 c)]).run Tryz.prog W = .ok (.agg #[.int .i64 7, .slice (some ⟨b, 0, none⟩) 2 c]) W := by kernel_rfl
theorem build38 (W : World) : (Instr.build 38 #[]).run Tryz.prog W = .ok (.agg #[.string ⟨#[]⟩, .int .i64 0]) W := by kernel_rfl
theorem build40 (b c : Nat) (W : World) : (Instr.build 40 #[(0, .int .i64 1), (1, .int .i64 1), (4, .agg #[.int .i64 7, .slice (some ⟨b, 0, none⟩) 2 c]), (5, .string ⟨#[49]⟩), (6, .int .i64 2), (7, .agg #[.string ⟨#[]⟩, .int .i64 0]), (8, .int .i64 3)]).run Tryz.prog W = .ok (.agg #[.int .i64 1, .int .i64 1, .int .i64 0, .int .i64 0, .int .i64 7, .slice (some ⟨b, 0, none⟩) 2 c, .string ⟨#[49]⟩, .int .i64 2, .string ⟨#[]⟩, .int .i64 0, .int .i64 3]) W := by kernel_rfl
set_option maxRecDepth 100000 in
set_option maxHeartbeats 4000000 in
theorem one_any (w : World) : Calls Tryz.prog 102 #[] w fun e w' => ∃ gv, e = .returned (prV oneP gv) ∧ GrOk w' w'.heap.size gv [1, 5] ∧ Below w.heap.size w w' := by
  have hb36 := build36
  have hb38 := build38
  have hb40 := build40
  have HA2 := Lib.hid ((Blk.new w 40 zPr).alloc (.cells #[.int .i64 1, .int .i64 5] 3))
  have HG2 : Hid (Blk ((w.alloc (.cells zPr 40)).alloc (.cells #[.int .i64 1, .int .i64 5] 3)) (w.heap.size + 1) 3 #[.int .i64 1, .int .i64 5]) := Lib.hid (Blk.new_ _ _ _ (by simp))
  have HB2 : Hid (Below w.heap.size w ((w.alloc (.cells zPr 40)).alloc (.cells #[.int .i64 1, .int .i64 5] 3))) := Lib.hid (((Below.refl _ _).alloc (Nat.le_refl _) _).alloc (by simp) _)
  unfold zPr at HA2 HG2 HB2
  go_enter Tryz.func102, Tryz.ntmps102
  go_wp2_with (refine wpList_store_blk rfl 40 (.tmp 0) (.tmp 4) rfl w.heap.size rfl _ rfl HA2.out rfl info40 rfl ?_; intro w3 hk3 hf3)
  refine end_cell rfl rfl hk3 Tryz.underlying40 rfl info40 ⟨_, rfl, .inr ⟨rfl, w.heap.size + 1, 2, _, rfl, HG2.out.fr hf3 (by simp), rfl, rfl, ?_⟩, belowFr1 HB2.out hf3 (Nat.le_refl _) (Nat.le_refl _)⟩
  have := HG2.out.lt
  have := hf3.size
  omega
set_option maxRecDepth 100000 in
set_option maxHeartbeats 4000000 in
theorem begun_any (w : World) (hu : Usg w) (hb : 1 < w.heap.size) (hg : ∃ cs fr, w.heap[1]? = some (.cells cs 210 fr)) :
    Calls Tryz.prog 52 #[] w fun e w' => ∃ v, e = .returned (.tuple #[.pointer (some ⟨v, 0, none⟩), .bool true]) ∧ Env w' w.heap.size v kV1 1 ∧ Below w.heap.size w w' := by
  have HU := Lib.hid hu
  have HG := Lib.hid hg
  clear hu hg
  go_enter Tryz.func52, Tryz.ntmps52
  go_wp2_with fail
  refine (stateNew_any w).mono ?_
  rintro e w1 ⟨rfl, hs, nb⟩
  have HB1 := Lib.hid nb
  have hvn := viewNew_any w1 w.heap.size w.heap.size hs (Nat.le_refl _)
  clear hs nb
  go_wp2_with fail
  refine hvn.mono ?_
  rintro e w2 ⟨v, rfl, hlv, hvw, nb⟩
  have HB2 := Lib.hid (HB1.out.trans (nb.mono HB1.out.size))
  have HE2 : Hid (Env w2 w.heap.size v vnone 0) := Lib.hid ⟨hvw, HU.out.belowS HB2.out, hb, by rw [HB2.out.block 1 hb]; exact HG.out⟩
  clear hvw nb HB1 hvn hlv
  go_wp2_with fail
  refine (one_any w2).mono ?_
  rintro e w3 ⟨gv, rfl, hgr, nb⟩
  have HB3 := Lib.hid (HB2.out.trans (nb.mono HB2.out.size))
  have hst := start_any w3 w.heap.size w3.heap.size v 0 vnone oneP gv (HE2.out.below nb) rfl rfl oneP_ok rfl hgr (Nat.le_refl _) (.inr rfl) (by decide)
  have hv1 : vupd vnone (oP n1) (prEnc oneP) = kV1 := rfl
  rw [hv1] at hst
  clear nb hgr hv1 HE2 HB2
  obtain ⟨x, hx⟩ : ∃ x, x = prV oneP gv := ⟨_, rfl⟩
  rw [← hx] at hst ⊢
  clear hx
  go_wp2_with fail
  refine hst.mono ?_
  rintro e w4 ⟨rfl, h4, f4⟩
  go_wp2_with fail
  refine bodyPost_ret (results_tmp2 rfl _ _ _) rfl ?_
  exact ⟨v, rfl, h4, HB3.out.trans (f4.below HB3.out.size)⟩
set_option maxRecDepth 100000 in
set_option maxHeartbeats 8000000 in
theorem known_any (w : World) (hu : Usg w) (hb : 1 < w.heap.size) (hg : ∃ cs fr, w.heap[1]? = some (.cells cs 210 fr)) :
    Calls Tryz.prog 19 #[] w fun e w' => e = .returned (.bool true) ∧ Below w.heap.size w w' := by
  have hbe := begun_any w hu hb hg
  have e1 : (strL (chN 0)).toList = [49, 46, 49] := by unfold strL; rw [ByteArray.toList_mk]; rfl
  have e2 : (strL (chN 1)).toList = [49, 46, 50] := by unfold strL; rw [ByteArray.toList_mk]; rfl
  have HBw := Lib.hid (Nat.le_refl w.heap.size)
  obtain ⟨a, ha⟩ : ∃ a, a = strL (chN 0) := ⟨_, rfl⟩
  obtain ⟨b, hb'⟩ : ∃ b, b = strL (chN 1) := ⟨_, rfl⟩
  have hf1 := fun W B v (h : Env W B v kV1 1) => fork_any W B v 1 0 kV1 oneP h kH1 rfl rfl (by decide) kC1 kN1 kB1 (by decide)
  have hf2 := fun W B v (h : Env W B v kV2 6) => fork_any W B v 6 1 kV2 oneP h kH2 rfl rfl (by decide) kC2 kN2 kB2 (by decide)
  have hw1 := fun W B v (h : Env W B v kV3 11) => wait1_any W B v 11 2 kV3 oneP (forkQ oneP 0) h kH3 kH3c rfl kC3 (by decide) (by decide) (by decide)
  have hex := fun W B v (h : Env W B v kV3 11) => exit_any W B v 11 kV3 n11 (forkQ oneP 0) h kH3c rfl (by decide)
  have hw2 := fun W B v (h : Env W B v kV4 12) => wait2_any W B v 12 2 kV4 oneP endQ h kH4 kH4c rfl kC4 (by decide) (by decide) (by decide)
  have hw3 := fun W B v (h : Env W B v kV5 13) => wait3_any W B v 13 2 kV5 oneP gonQ h kH5 kH5c rfl kC5 (by decide) (by decide) (by decide)
  rw [show forkV kV1 oneP 0 = kV2 from rfl, show 1 + 3 + oneP.pages = 6 from rfl, ← ha] at hf1
  rw [show forkV kV2 oneP 1 = kV3 from rfl, show 6 + 3 + oneP.pages = 11 from rfl, ← hb'] at hf2
  rw [show vupd kV3 (oP n11) (prEnc { forkQ oneP 0 with st := 2, code := 9 }) = kV4 from rfl] at hex
  rw [show vupd kV4 (oP n11) (prEnc { endQ with st := 3 }) = kV5 from rfl, show ((endQ.code : Nat) : Int) = 9 from rfl] at hw2
  rw [← ha] at e1
  rw [← hb'] at e2
  clear ha hb' hu hg
  have hcn1 : strL n1 = ⟨#[49]⟩ := rfl
  have hcn11 : strL n11 = ⟨#[49, 46, 49]⟩ := rfl
  rw [hcn1] at hf1 hf2 hw1 hw2 hw3
  rw [hcn11] at hex
  clear hcn1 hcn11
  go_enter Tryz.func19, Tryz.ntmps19
  go_wp2_with fail
  refine hbe.mono ?_
  rintro e w1 ⟨v, rfl, h1, nb⟩
  have HE1 := Lib.hid h1
  have HF1 := Lib.hid nb
  clear h1 nb hbe
  go_wp2_with fail
  refine (hf1 _ _ _ HE1.out).mono ?_
  rintro e w2 ⟨rfl, h2, f2⟩
  have HE2 := Lib.hid h2
  have HF2 := Lib.hid (HF1.out.trans (f2.below HF1.out.size))
  clear h2 f2 HE1 HF1 hf1
  go_wp2_with fail
  refine (hf2 _ _ _ HE2.out).mono ?_
  rintro e w3 ⟨rfl, h3, f3⟩
  have HE3 := Lib.hid h3
  have HF3 := Lib.hid (HF2.out.trans (f3.below HF2.out.size))
  clear h3 f3 HE2 HF2 hf2
  go_wp2_with fail
  refine (hw1 _ _ _ HE3.out).mono ?_
  rintro e w4 ⟨rfl, h4, f4⟩
  have HE4 := Lib.hid h4
  have HF4 := Lib.hid (HF3.out.trans (f4.below HF3.out.size))
  clear h4 f4 HE3 HF3 hw1
  go_wp2_with fail
  refine (hex _ _ _ HE4.out).mono ?_
  rintro e w5 ⟨rfl, h5, f5⟩
  have HE5 := Lib.hid h5
  have HF5 := Lib.hid (HF4.out.trans (f5.below HF4.out.size))
  clear h5 f5 HE4 HF4 hex
  go_wp2_with fail
  refine (hw2 _ _ _ HE5.out).mono ?_
  rintro e w6 ⟨rfl, h6, f6⟩
  have HE6 := Lib.hid h6
  have HF6 := Lib.hid (HF5.out.trans (f6.below HF5.out.size))
  clear h6 f6 HE5 HF5 hw2
  go_wp2_with fail
  refine (hw3 _ _ _ HE6.out).mono ?_
  rintro e w7 ⟨rfl, h7, f7⟩
  have HF7 := Lib.hid (HF6.out.trans (f7.below HF6.out.size))
  clear h7 f7 HE6 HF6 hw3
  go_wp2_with fail
  go_ret
  exact ⟨rfl, HF7.out⟩
theorem knownE_any (w : World) (hu : Usg w) (hb : 1 < w.heap.size) (hg : ∃ cs fr, w.heap[1]? = some (.cells cs 210 fr)) :
    Calls Tryz.prog 4 #[] w fun e w' => e = .returned (.bool true) ∧ Below w.heap.size w w' := by
  have hk := known_any w hu hb hg
  go_enter Tryz.func4, Tryz.ntmps4
  go_wp2_with fail
  refine hk.mono ?_
  rintro e w1 ⟨rfl, nb⟩
  go_wp2_with fail
  go_ret
  exact ⟨rfl, nb⟩
end Go.Proofs.YtkoomlbnfhdhcaaGreatDoor
