/-
  Walks: images: Check, sizes.
-/
import Derived.Test.YtkoomlbnfhdhcaaGreatDoorTOb
import Derived.Test.YtkoomlbnfhdhcaaGreatDoorSh
import Derived.Test.YtkoomlbnfhdhcaaGreatDoorTOa
namespace Go.Proofs.YtkoomlbnfhdhcaaGreatDoor
open Go.RowKit
set_option linter.unusedVariables false

/-- An image. -/
structure Img where
  c : List UInt8
  d : List UInt8
  z : Int
  e : Int
def imgCells (i : Img) : Array Value := #[.string (strL i.c), .string (strL i.d), .int .i64 i.z, .int .i64 i.e]
def pgOf (n : Nat) : Nat := (n + 63) / 64
def datAt (i : Img) : Nat := pgOf i.c.length * 64
/-- An image that passes the check, and is short. -/
structure ImgOk (i : Img) : Prop where
  c0 : i.c.length ≠ 0
  c4 : i.c.length % 4 = 0
  cl : i.c.length ≤ 200
  dl : i.d.length ≤ 200
  z0 : 0 ≤ i.z
  zm : (datAt i : Int) + i.d.length + i.z ≤ 4096
  e0 : 0 ≤ i.e
  el : i.e ≤ (i.c.length : Int) - 4
  e4 : i.e.tmod 4 = 0
def imgChk (i : Img) : Int :=
  if i.c.length = 0 then 1 else if i.c.length % 4 ≠ 0 then 3 else if i.z < 0 ∨ 4096 < i.z then 2 else if 4096 < (datAt i : Int) + i.d.length + i.z then 5 else if i.e < 0 ∨ (i.c.length : Int) - 4 < i.e ∨ i.e.tmod 4 ≠ 0 then 2 else 0
theorem imgChk_ok (i : Img) (h1 : i.c.length ≤ 200) (h2 : i.d.length ≤ 200) (h : imgChk i = 0) : ImgOk i := by
  unfold imgChk at h
  split at h
  · omega
  split at h
  · omega
  split at h
  · omega
  split at h
  · omega
  split at h
  · omega
  rename_i a b c d e
  exact ⟨a, by omega, h1, h2, by omega, by omega, by omega, by omega, by omega⟩
theorem pagesOf_any (w : World) (n : Nat) (h : n ≤ 100000) : Calls Tryz.prog 55 #[.int .i64 (n : Int)] w fun e w' => e = .returned (.int .i64 (pgOf n : Nat)) ∧ w = w' := by
  have e1 : ((n : Int) + 64 - 1).tdiv 64 = ((pgOf n : Nat) : Int) := by
    unfold pgOf
    rw [Int.tdiv_eq_ediv_of_nonneg (by omega)]
    omega
  have b1 : pgOf n ≤ 100000 := by unfold pgOf; omega
  obtain ⟨q, hq⟩ : ∃ q, q = pgOf n := ⟨_, rfl⟩
  rw [← hq] at e1 b1 ⊢
  clear hq
  go_enter Tryz.func55, Tryz.ntmps55
  go_wp2_with fail
  go_ret
  exact ⟨by first | rfl | rw [e1], rfl⟩
theorem info23 : (Tryz.prog.info? 23).map (·.size) = some 4 := by kernel_rfl
theorem dataAt_any (w : World) (i : Img) (h : i.c.length ≤ 200) : Calls Tryz.prog 20 #[.agg (imgCells i)] w fun e w' => e = .returned (.int .i64 (datAt i : Nat)) ∧ Below w.heap.size w w' := by
  obtain ⟨c, d, z, en⟩ := i
  have hp := fun W => pagesOf_any W c.length (by dsimp only at h; omega)
  have b1 : pgOf c.length ≤ 100000 := by unfold pgOf; dsimp only at h; omega
  have hsz := strL_size c
  unfold imgCells datAt
  dsimp only at h ⊢
  obtain ⟨q, hq⟩ : ∃ q, q = pgOf c.length := ⟨_, rfl⟩
  rw [← hq] at hp b1 ⊢
  clear hq
  go_enter Tryz.func20, Tryz.ntmps20
  go_wp2_with fail
  refine (hp _).mono ?_
  rintro e w' ⟨rfl, rfl⟩
  go_wp2_with fail
  go_ret
  exact ⟨by push_cast; rfl, (Below.refl _ _).alloc (Nat.le_refl _) _⟩
set_option maxRecDepth 100000 in
set_option maxHeartbeats 8000000 in
theorem imgCheck_any (w : World) (i : Img) (h : i.c.length ≤ 200) (h2 : i.d.length ≤ 200) : Calls Tryz.prog 5 #[.agg (imgCells i)] w fun e w' => e = .returned (.int .i64 (imgChk i)) ∧ Below w.heap.size w w' := by
  have hda := fun W => dataAt_any W i h
  have hchk : imgChk i = imgChk i := rfl
  conv at hchk => rhs; unfold imgChk
  have hA : datAt i ≤ 300 := by unfold datAt pgOf; omega
  obtain ⟨c, d, z, en⟩ := i
  unfold imgCells at *
  dsimp only at h h2 hda hchk ⊢
  have hsc := strL_size c
  have hsd := strL_size d
  obtain ⟨A, hAd⟩ : ∃ A, A = datAt ⟨c, d, z, en⟩ := ⟨_, rfl⟩
  rw [← hAd] at hda hchk hA
  clear hAd
  obtain ⟨r, hr⟩ : ∃ r, r = imgChk ⟨c, d, z, en⟩ := ⟨_, rfl⟩
  rw [← hr] at hchk ⊢
  clear hr
  obtain ⟨n, hn⟩ : ∃ n, n = c.length := ⟨_, rfl⟩
  obtain ⟨m, hm⟩ : ∃ m, m = d.length := ⟨_, rfl⟩
  rw [← hn] at hsc h hchk
  rw [← hm] at hsd h2 hchk
  clear hn hm
  have HN := Lib.hid (Blk.new w 23 #[.string (strL c), .string (strL d), .int .i64 z, .int .i64 en])
  have HB0 := Lib.hid ((Below.refl w.heap.size w).alloc (Nat.le_refl _) (.cells #[.string (strL c), .string (strL d), .int .i64 z, .int .i64 en] 23))
  by_cases k1 : n = 0
  · rw [if_pos k1] at hchk
    have HR := Lib.hid hchk
    clear hchk hda
    subst k1
    go_enter Tryz.func5, Tryz.ntmps5
    go_wp2_with fail
    go_ret
    exact ⟨by rw [HR.out]; rfl, HB0.out⟩
  rw [if_neg k1] at hchk
  have d1 : ((n : Int) == 0) = false := by simp; omega
  by_cases k2 : n % 4 = 0
  case neg =>
    rw [if_pos k2] at hchk
    have HR := Lib.hid hchk
    have d2 : ((n : Int) % 4 != 0) = true := by simp; omega
    have d2' : ¬ ((n : Int) % 4 = 0) := by omega
    clear hchk hda
    go_enter Tryz.func5, Tryz.ntmps5
    go_wp2_with fail
    go_ret
    exact ⟨by rw [HR.out]; rfl, HB0.out⟩
  rw [if_neg (fun h => h k2)] at hchk
  have d2 : (n : Int) % 4 = 0 := by omega
  by_cases k3 : z < 0
  · rw [if_pos (.inl k3)] at hchk
    have HR := Lib.hid hchk
    have d3 : decide (z < 0) = true := decide_eq_true k3
    clear hchk hda
    go_enter Tryz.func5, Tryz.ntmps5
    go_wp2_with fail
    go_ret
    exact ⟨by rw [HR.out]; rfl, HB0.out⟩
  have d3 : decide (z < 0) = false := decide_eq_false k3
  by_cases k4 : 4096 < z
  · rw [if_pos (.inr k4)] at hchk
    have HR := Lib.hid hchk
    have d4 : decide (4096 < z) = true := decide_eq_true k4
    clear hchk hda
    go_enter Tryz.func5, Tryz.ntmps5
    go_wp2_with fail
    go_ret
    exact ⟨by rw [HR.out]; rfl, HB0.out⟩
  have d4 : decide (4096 < z) = false := decide_eq_false k4
  rw [if_neg (by omega)] at hchk
  have HCHK := Lib.hid hchk
  clear hchk
  obtain ⟨w0, hw0⟩ : ∃ w0, w0 = w.alloc (.cells #[.string (strL c), .string (strL d), .int .i64 z, .int .i64 en] 23) := ⟨_, rfl⟩
  rw [← hw0] at HN HB0
  have c0 := HN.out.cell 0
  have c1 := HN.out.cell 1
  have c2 := HN.out.cell 2
  have c3 := HN.out.cell 3
  simp at c0 c1 c2 c3
  go_enter Tryz.func5, Tryz.ntmps5
  go_upto_region 1 with (fail)
  rw [← hw0]
  clear hw0
  go_upto_region 7 with (fail)
  refine wp_region_mixL (fun W => Blk W w.heap.size 23 #[.string (strL c), .string (strL d), .int .i64 z, .int .i64 en]) [0, 1, 3, 4, 7] [1] [0, 2, 3, 4, 6, 7, 1, 5, 8, 9, 10] (by kernel_rfl) (by kernel_rfl) HN.out.drew ?_
  simp only [inOrder, opAt]
  clear c0 c1 c2 c3
  iterate 6
    (refine wpMixS_read (v := ?_) rfl rfl (fun w' hS => ?_) ?_
     rotate_left
     · ((try (have t := hS rfl; have c0 := t.cell 0; have c1 := t.cell 1; have c2 := t.cell 2; have c3 := t.cell 3; simp at c0 c1 c2 c3; clear t)); go_simp; (try with_reducible rfl))
     try simp only [Act.put, List.setIfInBounds_toArray, List.set_cons_zero, List.set_cons_succ])
  refine wpMixS_eff rfl rfl (fun K hK => ?_)
  go_simp
  refine (hda _).mono ?_
  rintro e w1 ⟨rfl, nb⟩
  have HN1 := Lib.hid (HN.out.drew.below nb HN.out.lt)
  have HB1 := Lib.hid (HB0.out.drew.trans (nb.mono HB0.out.size))
  refine hK.out _ _ _ (fun _ h => h) (fun _ => HN1.out) ?_
  clear hK K nb HN HB0 hda
  try simp only [Act.put, List.setIfInBounds_toArray, List.set_cons_zero, List.set_cons_succ]
  have w1e : IntKind.i64.wrap ((A : Int) + (m : Int)) = (A : Int) + m := IntWalk.i64_in _ (by omega)
  have w2e : IntKind.i64.wrap ((A : Int) + (m : Int) + z) = (A : Int) + m + z := IntWalk.i64_in _ (by omega)
  iterate 4
    (refine wpMixS_read (v := ?_) rfl rfl (fun w' hS => ?_) ?_
     rotate_left
     · ((try clear hS); go_simp; (try with_reducible rfl))
     try simp only [Act.put, List.setIfInBounds_toArray, List.set_cons_zero, List.set_cons_succ])
  refine wpMixS_nil ?_
  have c0 := HN1.out.cell 0
  have c1 := HN1.out.cell 1
  have c2 := HN1.out.cell 2
  have c3 := HN1.out.cell 3
  simp at c0 c1 c2 c3
  clear w1e w2e
  by_cases k5 : 4096 < (A : Int) + m + z
  · have hchk := HCHK.out
    rw [if_pos k5] at hchk
    have HR := Lib.hid hchk
    have d5 : decide (4096 < (A : Int) + m + z) = true := decide_eq_true k5
    clear hchk HCHK
    go_wp2_with fail
    go_ret
    exact ⟨by rw [HR.out]; rfl, HB1.out⟩
  have hchk := HCHK.out
  rw [if_neg k5] at hchk
  have d5 : decide (4096 < (A : Int) + m + z) = false := decide_eq_false k5
  clear HCHK
  by_cases k6 : en < 0
  · rw [if_pos (.inl k6)] at hchk
    have HR := Lib.hid hchk
    have d6 : decide (en < 0) = true := decide_eq_true k6
    clear hchk
    go_wp2_with fail
    go_ret
    exact ⟨by rw [HR.out]; rfl, HB1.out⟩
  have d6 : decide (en < 0) = false := decide_eq_false k6
  by_cases k7 : (n : Int) - 4 < en
  · rw [if_pos (.inr (.inl k7))] at hchk
    have HR := Lib.hid hchk
    have d7 : decide ((n : Int) - 4 < en) = true := decide_eq_true k7
    clear hchk
    go_wp2_with fail
    go_ret
    exact ⟨by rw [HR.out]; rfl, HB1.out⟩
  have d7 : decide ((n : Int) - 4 < en) = false := decide_eq_false k7
  have e1 : 0 ≤ en := by omega
  have e2 : en ≤ 200 := by omega
  have etm : en.tmod 4 = en % 4 := Int.tmod_eq_emod_of_nonneg e1
  rw [etm] at hchk
  by_cases k8 : en % 4 = 0
  · rw [if_neg (by omega)] at hchk
    have HR := Lib.hid hchk
    have d8 : (en % 4 != 0) = false := by simp; omega
    clear hchk
    go_wp2_with fail
    go_ret
    exact ⟨by rw [HR.out]; rfl, HB1.out⟩
  · rw [if_pos (by omega)] at hchk
    have HR := Lib.hid hchk
    have d8 : (en % 4 != 0) = true := by simp; omega
    clear hchk
    go_wp2_with fail
    go_ret
    exact ⟨by rw [HR.out]; rfl, HB1.out⟩
end Go.Proofs.YtkoomlbnfhdhcaaGreatDoor

/-
  Walks: images: End, NumPages.
-/
namespace Go.Proofs.YtkoomlbnfhdhcaaGreatDoor
open Go.RowKit
set_option linter.unusedVariables false

def endOf (i : Img) : Nat := datAt i + i.d.length + i.z.toNat
def npOf (i : Img) : Nat := pgOf (endOf i)
theorem ImgOk.chk {i : Img} (h : ImgOk i) : imgChk i = 0 := by
  obtain ⟨h1, h2, h3, h4, h5, h6, h7, h8, h9⟩ := h
  unfold imgChk
  rw [if_neg h1, if_neg (by omega), if_neg (by omega), if_neg (by omega), if_neg (by omega)]
theorem ImgOk.end_le {i : Img} (h : ImgOk i) : endOf i ≤ 4096 := by
  have := h.zm
  have := h.z0
  unfold endOf
  omega
theorem ImgOk.np_le {i : Img} (h : ImgOk i) : npOf i ≤ 64 := by
  have := h.end_le
  unfold npOf pgOf
  omega
set_option maxRecDepth 100000 in
set_option maxHeartbeats 4000000 in
theorem end_any (w : World) (i : Img) (h : ImgOk i) : Calls Tryz.prog 67 #[.agg (imgCells i)] w fun e w' => e = .returned (.int .i64 (endOf i : Nat)) ∧ Below w.heap.size w w' := by
  have hda := fun W => dataAt_any W i h.cl
  have hck := fun W => imgCheck_any W i h.cl h.dl
  rw [h.chk] at hck
  have hA : datAt i ≤ 300 := by have := h.cl; unfold datAt pgOf; omega
  have h1 := h.dl
  have h2 := h.z0
  have h3 := h.zm
  have hend : ((endOf i : Nat) : Int) = (datAt i : Int) + i.d.length + i.z := by unfold endOf; omega
  obtain ⟨c, d, z, en⟩ := i
  unfold imgCells at *
  dsimp only at h1 h2 h3 hda hck hend ⊢
  have hsd := strL_size d
  obtain ⟨A, hAd⟩ : ∃ A, A = datAt ⟨c, d, z, en⟩ := ⟨_, rfl⟩
  obtain ⟨E, hE⟩ : ∃ E, E = endOf ⟨c, d, z, en⟩ := ⟨_, rfl⟩
  rw [← hAd] at hda hA hend h3
  rw [← hE] at hend ⊢
  clear hAd hE h
  obtain ⟨m, hm⟩ : ∃ m, m = d.length := ⟨_, rfl⟩
  rw [← hm] at hsd h1 h3 hend
  clear hm
  have HN := Lib.hid (Blk.new w 23 #[.string (strL c), .string (strL d), .int .i64 z, .int .i64 en])
  have HB0 := Lib.hid ((Below.refl w.heap.size w).alloc (Nat.le_refl _) (.cells #[.string (strL c), .string (strL d), .int .i64 z, .int .i64 en] 23))
  have HE := Lib.hid hend
  clear hend
  go_enter Tryz.func67, Tryz.ntmps67
  go_wp2_with fail
  refine (hck _).mono ?_
  rintro e w1 ⟨rfl, nb⟩
  have HN1 := Lib.hid (HN.out.below nb HN.out.lt)
  have HB1 := Lib.hid (HB0.out.trans (nb.mono HB0.out.size))
  clear HN HB0 nb hck
  have w1e : IntKind.i64.wrap ((A : Int) + (m : Int)) = (A : Int) + m := IntWalk.i64_in _ (by omega)
  have w2e : IntKind.i64.wrap ((A : Int) + (m : Int) + z) = (A : Int) + m + z := IntWalk.i64_in _ (by omega)
  go_upto_region 3 with (fail)
  refine wp_region_mixL (fun W => Blk W w.heap.size 23 #[.string (strL c), .string (strL d), .int .i64 z, .int .i64 en]) [0, 1, 3, 4, 7] [1] [0, 2, 3, 4, 6, 7, 1, 5, 8, 9] (by kernel_rfl) (by kernel_rfl) HN1.out.drew ?_
  simp only [inOrder, opAt]
  iterate 6
    (refine wpMixS_read (v := ?_) rfl rfl (fun w' hS => ?_) ?_
     rotate_left
     · ((try (have t := hS rfl; have c0 := t.cell 0; have c1 := t.cell 1; have c2 := t.cell 2; have c3 := t.cell 3; simp at c0 c1 c2 c3; clear t)); go_simp; (try with_reducible rfl))
     try simp only [Act.put, List.setIfInBounds_toArray, List.set_cons_zero, List.set_cons_succ])
  refine wpMixS_eff rfl rfl (fun K hK => ?_)
  go_simp
  refine (hda _).mono ?_
  rintro e w2 ⟨rfl, nb⟩
  refine hK.out _ _ _ (fun _ h => h) (fun _ => HN1.out.drew.below nb HN1.out.lt) ?_
  have HB2 := Lib.hid (HB1.out.drew.trans (nb.mono HB1.out.size))
  clear hK K nb HN1 HB1 hda
  try simp only [Act.put, List.setIfInBounds_toArray, List.set_cons_zero, List.set_cons_succ]
  iterate 3
    (refine wpMixS_read (v := ?_) rfl rfl (fun w' hS => ?_) ?_
     rotate_left
     · ((try clear hS); go_simp; (try with_reducible rfl))
     try simp only [Act.put, List.setIfInBounds_toArray, List.set_cons_zero, List.set_cons_succ])
  refine wpMixS_nil ?_
  go_wp2_with fail
  go_ret
  exact ⟨by rw [HE.out]; rfl, HB2.out⟩
theorem numPages_any (w : World) (i : Img) (h : ImgOk i) : Calls Tryz.prog 30 #[.agg (imgCells i)] w fun e w' => e = .returned (.int .i64 (npOf i : Nat)) ∧ Below w.heap.size w w' := by
  have he := fun W => end_any W i h
  have hp := fun W => pagesOf_any W (endOf i) (by have := h.end_le; omega)
  unfold npOf
  obtain ⟨E, hE⟩ : ∃ E, E = endOf i := ⟨_, rfl⟩
  rw [← hE] at he hp ⊢
  clear hE h
  obtain ⟨c, d, z, en⟩ := i
  unfold imgCells at *
  dsimp only at he ⊢
  have HB0 := Lib.hid ((Below.refl w.heap.size w).alloc (Nat.le_refl _) (.cells #[.string (strL c), .string (strL d), .int .i64 z, .int .i64 en] 23))
  go_enter Tryz.func30, Tryz.ntmps30
  go_wp2_with fail
  refine (he _).mono ?_
  rintro e w1 ⟨rfl, nb⟩
  have HB1 := Lib.hid (HB0.out.trans (nb.mono HB0.out.size))
  clear HB0 nb
  go_wp2_with fail
  refine (hp _).mono ?_
  rintro e w2 ⟨rfl, rfl⟩
  go_wp2_with fail
  go_ret
  exact ⟨rfl, HB1.out⟩
end Go.Proofs.YtkoomlbnfhdhcaaGreatDoor

/-
  Walks: images: Memory.
-/
namespace Go.Proofs.YtkoomlbnfhdhcaaGreatDoor
open Go.RowKit
set_option linter.unusedVariables false

def zl (n : Nat) : List UInt8 := List.replicate n 0
theorem zl_length (n : Nat) : (zl n).length = n := by unfold zl; simp
theorem repeat_any (w : World) (c : Nat) (hc : c ≤ 100000) : Calls Tryz.prog 124 #[.string ⟨#[0]⟩, .int .i64 (c : Int)] w fun e w' => e = .returned (.string (strL (zl c))) ∧ Below w.heap.size w w' := by
  have h := Tryz.strings_Repeat ⟨#[0]⟩ c w (by omega) (by show 1 * c ≤ _; omega)
  have e : Lib.repeatL [0] c = zl c := by
    clear h hc
    unfold zl
    induction c with
    | zero => rfl
    | succ c ih => show [0] ++ Lib.repeatL [0] c = _; rw [ih]; rfl
  rw [show (⟨#[0]⟩ : ByteArray).data.toList = [0] from rfl, e] at h
  exact h
def memOf (i : Img) : List UInt8 := i.c ++ zl (datAt i - i.c.length) ++ i.d ++ zl (npOf i * 64 - (datAt i + i.d.length))
theorem dat_le (i : Img) : i.c.length ≤ datAt i := by unfold datAt pgOf; omega
theorem ImgOk.np_ge {i : Img} (h : ImgOk i) : datAt i + i.d.length ≤ npOf i * 64 := by
  unfold npOf pgOf endOf
  omega
theorem memOf_length {i : Img} (h : ImgOk i) : (memOf i).length = npOf i * 64 := by
  have := dat_le i
  have := h.np_ge
  unfold memOf
  simp only [List.length_append, zl_length]
  omega
set_option maxRecDepth 100000 in
set_option maxHeartbeats 4000000 in
theorem memory_any (w : World) (i : Img) (h : ImgOk i) : Calls Tryz.prog 76 #[.agg (imgCells i)] w fun e w' => e = .returned (.string (strL (memOf i))) ∧ Below w.heap.size w w' := by
  have hda := fun W => dataAt_any W i h.cl
  have hck := fun W => imgCheck_any W i h.cl h.dl
  have hnp := fun W => numPages_any W i h
  have hn1 := h.np_le
  have hn2 := h.np_ge
  have hd1 := dat_le i
  have hc1 := h.cl
  have hd2 := h.dl
  rw [h.chk] at hck
  have hre : ∀ W (c : Int), 0 ≤ c → c ≤ 100000 → Calls Tryz.prog 124 #[.string ⟨#[0]⟩, .int .i64 c] W fun e w' => e = .returned (.string (strL (zl c.toNat))) ∧ Below W.heap.size W w' := fun W c h0 h1 => by
    have := repeat_any W c.toNat (by omega)
    rwa [Int.toNat_of_nonneg h0] at this
  have HM : Hid (memOf i = i.c ++ zl (datAt i - i.c.length) ++ i.d ++ zl (npOf i * 64 - (datAt i + i.d.length))) := Lib.hid rfl
  obtain ⟨M, hM⟩ : ∃ M, M = memOf i := ⟨_, rfl⟩
  rw [← hM] at HM ⊢
  obtain ⟨A, hA⟩ : ∃ A, A = datAt i := ⟨_, rfl⟩
  obtain ⟨N, hN⟩ : ∃ N, N = npOf i := ⟨_, rfl⟩
  rw [← hA] at hda hn2 hd1 HM
  rw [← hN] at hnp hn1 hn2 HM
  clear hM hA hN h
  obtain ⟨c, d, z, en⟩ := i
  unfold imgCells at *
  dsimp only at hda hck hnp hn1 hn2 hd1 hc1 hd2 HM ⊢
  have hsc := strL_size c
  obtain ⟨w0, hw0⟩ : ∃ w0, w0 = w.alloc (.cells #[.string (strL c), .string (strL d), .int .i64 z, .int .i64 en] 23) := ⟨_, rfl⟩
  have HN := Lib.hid (Blk.new w 23 #[.string (strL c), .string (strL d), .int .i64 z, .int .i64 en])
  have HB0 := Lib.hid ((Below.refl w.heap.size w).alloc (Nat.le_refl _) (.cells #[.string (strL c), .string (strL d), .int .i64 z, .int .i64 en] 23))
  rw [← hw0] at HN HB0
  have c0 := HN.out.cell 0
  have c1 := HN.out.cell 1
  have c2 := HN.out.cell 2
  have c3 := HN.out.cell 3
  simp at c0 c1 c2 c3
  have w1e : IntKind.i64.wrap ((A : Int) - (c.length : Int)) = (A : Int) - (c.length : Int) := IntWalk.i64_in _ (by omega)
  go_enter Tryz.func76, Tryz.ntmps76
  go_upto_region 1 with (fail)
  rw [← hw0]
  clear hw0
  go_wp2_with fail
  refine (hck _).mono ?_
  rintro e w1 ⟨rfl, nb⟩
  have HN1 := Lib.hid (HN.out.below nb HN.out.lt)
  have HB1 := Lib.hid (HB0.out.trans (nb.mono HB0.out.size))
  clear nb HN HB0 hck c0 c1 c2 c3
  go_upto_region 3 with (fail)
  refine wp_region_mixL (fun W => Blk W w.heap.size 23 #[.string (strL c), .string (strL d), .int .i64 z, .int .i64 en]) [1, 2, 3, 5, 6, 8, 11] [3, 8] [0, 1, 2, 4, 5, 6, 10, 11, 3, 7, 8, 9, 12, 13] (by kernel_rfl) (by kernel_rfl) HN1.out.drew ?_
  simp only [inOrder, opAt]
  iterate 8
    (refine wpMixS_read (v := ?_) rfl rfl (fun w' hS => ?_) ?_
     rotate_left
     · ((try (have t := hS rfl; have c0 := t.cell 0; have c1 := t.cell 1; have c2 := t.cell 2; have c3 := t.cell 3; simp at c0 c1 c2 c3; clear t)); go_simp; (try with_reducible rfl))
     try simp only [Act.put, List.setIfInBounds_toArray, List.set_cons_zero, List.set_cons_succ])
  refine wpMixS_eff rfl rfl (fun K hK => ?_)
  go_simp
  refine (hda _).mono ?_
  rintro e w2 ⟨rfl, nb⟩
  have HN2 := Lib.hid (HN1.out.drew.below nb HN1.out.lt)
  have HB2 := Lib.hid (HB1.out.drew.trans (nb.mono HB1.out.size))
  refine hK.out _ _ _ (fun _ h => h) (fun _ => HN2.out) ?_
  clear hK K nb HN1 HB1 hda
  try simp only [Act.put, List.setIfInBounds_toArray, List.set_cons_zero, List.set_cons_succ]
  iterate 1
    (refine wpMixS_read (v := ?_) rfl rfl (fun w' hS => ?_) ?_
     rotate_left
     · ((try clear hS); go_simp; (try with_reducible rfl))
     try simp only [Act.put, List.setIfInBounds_toArray, List.set_cons_zero, List.set_cons_succ])
  refine wpMixS_eff rfl rfl (fun K hK => ?_)
  go_simp
  refine (hre w2 _ (by omega) (by omega)).mono ?_
  rintro e w3 ⟨rfl, nb⟩
  have HN3 := Lib.hid (HN2.out.below nb HN2.out.lt)
  have HB3 := Lib.hid (HB2.out.trans (nb.mono HB2.out.size))
  refine hK.out _ _ _ (fun _ h => h) (fun _ => HN3.out) ?_
  clear hK K nb HN2 HB2
  try simp only [Act.put, List.setIfInBounds_toArray, List.set_cons_zero, List.set_cons_succ]
  obtain ⟨k, hk⟩ : ∃ k, A = c.length + k := ⟨A - c.length, by omega⟩
  obtain ⟨k2, hk2⟩ : ∃ k2, N * 64 = A + d.length + k2 := ⟨N * 64 - (A + d.length), by omega⟩
  have HM2 := HM.out
  rw [show A - c.length = k by omega, show N * 64 - (A + d.length) = k2 by omega] at HM2
  have HM3 := Lib.hid HM2
  rw [show ((A : Int) - (c.length : Int)).toNat = k by omega]
  obtain ⟨zB, hzB⟩ : ∃ zB, zB = strL (zl k) := ⟨_, rfl⟩
  have zs : zB.size = k := by rw [hzB, strL_size, zl_length]
  have HZB := Lib.hid hzB
  rw [← hzB]
  have hsd := strL_size d
  have n1 : ¬ (9223372036854775807 < c.length + k) := by omega
  have n2 : ¬ (9223372036854775807 < c.length + k + d.length) := by omega
  have n3 : ¬ (9223372036854775807 < c.length + k + d.length + k2) := by omega
  have w4e : IntKind.i64.wrap ((N : Int) * 64) = (N : Int) * 64 := IntWalk.i64_in _ (by omega)
  clear HM HM2 hzB
  iterate 3
    (refine wpMixS_read (v := ?_) rfl rfl (fun w' hS => ?_) ?_
     rotate_left
     · ((try clear hS); go_simp; (try with_reducible rfl))
     try simp only [Act.put, List.setIfInBounds_toArray, List.set_cons_zero, List.set_cons_succ])
  refine wpMixS_nil ?_
  have c0 := HN3.out.cell 0
  have c1 := HN3.out.cell 1
  have c2 := HN3.out.cell 2
  have c3 := HN3.out.cell 3
  simp at c0 c1 c2 c3
  go_wp2_with fail
  refine (hnp w3).mono ?_
  rintro e w4 ⟨rfl, nb⟩
  have HB4 := Lib.hid (HB3.out.trans (nb.mono HB3.out.size))
  clear nb c0 c1 c2 c3
  have hlast : (N : Int) * 64 - ((c.length : Int) + k + d.length) = (k2 : Int) := by omega
  go_wp2_with fail
  refine (hre w4 _ (by omega) (by omega)).mono ?_
  rintro e w5 ⟨rfl, nb⟩
  rw [Int.toNat_natCast]
  obtain ⟨yB, hyB⟩ : ∃ yB, yB = strL (zl k2) := ⟨_, rfl⟩
  have ys : yB.size = k2 := by rw [hyB, strL_size, zl_length]
  have HYB := Lib.hid hyB
  rw [← hyB]
  clear hyB hlast
  go_wp2_with fail
  go_ret
  exact ⟨by rw [HM3.out, HZB.out, HYB.out, ← strL_append, ← strL_append, ← strL_append]; rfl, HB4.out.trans (nb.mono HB4.out.size)⟩
end Go.Proofs.YtkoomlbnfhdhcaaGreatDoor

/-
  Walks: images: Pages.
-/
namespace Go.Proofs.YtkoomlbnfhdhcaaGreatDoor
open Go.RowKit Go.Shelf
set_option linter.unusedVariables false
attribute [local go_sem] Oper.semAt_some

theorem extract_str (l : List UInt8) (i j : Nat) : (strL l).extract i j = strL ((l.drop i).take (j - i)) := by
  unfold strL
  rw [ByteArray.extract_mk]
def pgOfI (i : Img) (k : Nat) : List UInt8 := ((memOf i).drop (64 * k)).take 64
def pagesL (i : Img) : List (List UInt8) := (List.range (npOf i)).map (pgOfI i)
theorem pagesL_length (i : Img) : (pagesL i).length = npOf i := by simp [pagesL]
theorem pagesL_take (i : Img) (k : Nat) (h : k < npOf i) : (pagesL i).take (k + 1) = (pagesL i).take k ++ [pgOfI i k] := by
  unfold pagesL
  rw [← List.map_take, ← List.map_take, List.take_range, List.take_range, Nat.min_eq_left (by omega), Nat.min_eq_left (by omega), List.range_succ, List.map_append]
  rfl
def KpT (_ _ : World) : Prop := True
set_option maxRecDepth 100000 in
set_option maxHeartbeats 4000000 in
theorem pages1_in (n : Nat) (hn : 2 ≤ n) (l Bi : Nat) (i : Img) (hi : ImgOk i) (J Jx : List (List UInt8) → World → Prop)
    (W : World) (hJ : AbidesFrom W.heap.size J)
    (hY : ∀ pre x W, J pre W → pre.length < (pagesL i).length → YieldAt Fence.wide (n - 1) Tryz.prog l #[.string (strL x)] W fun e W' =>
      (e = .returned (.bool true) ∧ J (pre ++ [x]) W' ∧ KpT W W') ∨ (e = .returned (.bool false) ∧ Jx (pre ++ [x]) W'))
    (hB : Blk W Bi 23 (imgCells i)) (h0 : J [] W) :
    CallsIn Fence.wide n Tryz.prog 75 #[.func (.yield l) #[] #[], .pointer (some ⟨Bi, 0, none⟩)] W fun e W' => (∃ v, e = .returned v) ∧
      ((∃ ys, ys = pagesL i ∧ J ys W') ∨ (∃ pre, pre <+: pagesL i ∧ Jx pre W')) := by
  have hm := fun W => memory_any W i hi
  have hlen := memOf_length hi
  have hnp := hi.np_le
  have c0 := hB.cell 0
  have c1 := hB.cell 1
  have c2 := hB.cell 2
  have c3 := hB.cell 3
  have hpl := pagesL_length i
  have htk := fun k (h : k < npOf i) => pagesL_take i k h
  have hsl := fun k => extract_str (memOf i) (64 * k) (64 * k + 64)
  have hpg : ∀ k, ((memOf i).drop (64 * k)).take (64 * k + 64 - 64 * k) = pgOfI i k := fun k => by unfold pgOfI; rw [show 64 * k + 64 - 64 * k = 64 by omega]
  simp only [hpg] at hsl
  obtain ⟨M, hM⟩ : ∃ M, M = memOf i := ⟨_, rfl⟩
  obtain ⟨N, hN⟩ : ∃ N, N = npOf i := ⟨_, rfl⟩
  rw [← hM] at hm hlen hsl
  rw [← hN] at hlen hnp hpl htk
  have hms := strL_size M
  rw [hlen] at hms
  obtain ⟨xs, hxs⟩ : ∃ xs, xs = pagesL i := ⟨_, rfl⟩
  rw [← hxs] at hY hpl htk ⊢
  clear hM hN hxs hlen hpg
  obtain ⟨pg, hpgg⟩ : ∃ pg, pg = pgOfI i := ⟨_, rfl⟩
  rw [← hpgg] at hsl htk
  clear hpgg hi
  unfold imgCells at *
  obtain ⟨c, d, z, en⟩ := i
  dsimp only at hm c0 c1 c2 c3
  simp at c0 c1 c2 c3
  refine callsIn_of_wp Tryz.func75 rfl trivial ?_ rfl
  simp only [Tryz.ntmps75, List.size_toArray, List.length_cons, List.length_nil, Nat.reduceAdd, Nat.reduceSub, Array.replicate_succ, Array.replicate_zero, List.push_toArray, List.append_toArray, List.nil_append, List.cons_append]
  gi_wp2
  refine ⟨trivial, fun _ => by omega, (callsIn_wide.2 (hm W)).mono ?_⟩
  rintro e w1 ⟨rfl, nb⟩
  have hJ0 : J [] w1 := hJ [] _ _ none h0 (grown_of_below nb) (fun _ e => by cases e)
  have hz1 := nb.size
  gi_wp2
  gi_loopw [4] (fun p wr => ∃ k, k ≤ N ∧ p = .int .i64 ((64 * k : Nat) : Int) ∧ J (xs.take k) wr)
    (fun p wr => match p with | .int _ k => (5000 - k).toNat | _ => 0)
  case atStart => exact ⟨0, Nat.zero_le _, rfl, hJ0⟩
  case round =>
    obtain ⟨k, hk, rfl, hJs⟩ := hrel
    rcases Nat.lt_or_ge k N with hlt | hge
    · have htk1 := htk k hlt
      have hd : decide (64 * (k : Int) < (N : Int) * 64) = true := decide_eq_true (by omega)
      obtain ⟨fn, tmps, assign, body, hy, hR⟩ := hY (xs.take k) (pg k) wr hJs (by rw [List.length_take]; omega)
      gi_wp2
      refine ⟨fun _ => by omega, hR.mono ?_⟩
      rintro e W3 (⟨rfl, hJ3, hk3⟩ | ⟨rfl, hx3⟩)
      · rw [← htk1] at hJ3
        gi_wp2
        go_roundw
        case rel => exact ⟨k + 1, by omega, by go_num, hJ3⟩
        case measure => show (5000 - ((64 * (k : Int)) + 64)).toNat < (5000 - ((64 * k : Nat) : Int)).toNat; omega
      · gi_wp2
        refine bodyPost_ret (results_none rfl _ _ _) rfl ?_
        exact ⟨⟨_, rfl⟩, .inr ⟨_, by rw [← htk1]; exact List.take_prefix _ _, hx3⟩⟩
    · obtain rfl : k = N := by omega
      have hd : decide (((64 * k : Nat) : Int) < ((k * 64 : Nat) : Int)) = false := decide_eq_false (by omega)
      gi_wp2
      go_end0
      rw [List.take_of_length_le (by omega)] at hJs
      exact ⟨⟨_, rfl⟩, .inl ⟨_, rfl, hJs⟩⟩
theorem pages_in (n : Nat) (i : Img) (w : World) :
    CallsIn Fence.wide n Tryz.prog 39 #[.agg (imgCells i)] w fun e w' => e = .returned (.func (.func 75) #[] #[.pointer (some ⟨w.heap.size, 0, none⟩)]) ∧ w' = w.alloc (.cells (imgCells i) 23) := by
  obtain ⟨c, d, z, en⟩ := i
  unfold imgCells
  dsimp only
  refine callsIn_of_wp Tryz.func39 rfl trivial ?_ rfl
  simp only [Tryz.ntmps39, List.size_toArray, List.length_cons, List.length_nil, Nat.reduceAdd, Nat.reduceSub, Array.replicate_succ, Array.replicate_zero, List.push_toArray, List.append_toArray, List.nil_append, List.cons_append]
  gi_wp2
  go_ret
  exact ⟨rfl, rfl⟩
theorem pages_stops (n : Nat) (hn : 2 ≤ n) (Bi : Nat) (i : Img) (hi : ImgOk i) (w : World) (hB : Blk w Bi 23 (imgCells i)) :
    SeqStopsK Fence.wide n Tryz.prog 75 #[.pointer (some ⟨Bi, 0, none⟩)] (fun x : List UInt8 => #[.string (strL x)]) KpT (fun ys => ys = pagesL i) (fun pre => pre <+: pagesL i) (pagesL i).length w := fun l J Jx W hW hJ _ hY h0 =>
  pages1_in n hn l Bi i hi J Jx W hJ hY (hB.below hW hB.lt) h0
def strV (l : List (List UInt8)) : List Value := l.map fun x => .string (strL x)
theorem info9z : (Tryz.prog.info? 9).map (fun i => (i.zero, i.size, i.bytes)) = some (some (.string ⟨#[]⟩), 1, 16) := by kernel_rfl
theorem agg53 (W : World) : (isAgg 53).run Tryz.prog W = .ok false W := by kernel_rfl
set_option maxRecDepth 100000 in
set_option maxHeartbeats 4000000 in
theorem pagesF_in (n : Nat) (hn : 4 ≤ n) (i : Img) (hi : ImgOk i) (w : World) :
    CallsIn Fence.wide n Tryz.prog 13 #[.agg (imgCells i)] w fun e W' => ∃ v, e = .returned v ∧ W'.ownsRow w.heap.size 9 1 v (npOf i) (strV (pagesL i)) ∧ Below w.heap.size w W' := by
  have h1 : 1 ≤ n := by omega
  have hlen : (pagesL i).length ≤ 64 := by rw [pagesL_length]; exact hi.np_le
  obtain ⟨i0, hi0, hz0, hz1, hz2⟩ := info_parts info9z
  have hpin := fun W => pages_in (n - 1) i W
  have hst := fun Bi W (h : Blk W Bi 23 (imgCells i)) => pages_stops (n - 1) (by omega) Bi i hi W h
  rw [← pagesL_length]
  obtain ⟨xs, hxs⟩ : ∃ xs, xs = pagesL i := ⟨_, rfl⟩
  rw [← hxs] at hlen hst ⊢
  clear hxs hi
  obtain ⟨c, d, z, en⟩ := i
  unfold imgCells at *
  dsimp only at hpin hst ⊢
  obtain ⟨P, hP⟩ : ∃ P : Array Value, P = #[.string (strL c), .string (strL d), .int .i64 z, .int .i64 en] := ⟨_, rfl⟩
  refine callsIn_of_wp_marks Tryz.func13 rfl trivial ?_ rfl
  simp only [Tryz.ntmps13, List.size_toArray, List.length_cons, List.length_nil, Nat.reduceAdd, Nat.reduceSub, Array.replicate_succ, Array.replicate_zero, List.push_toArray, List.append_toArray, List.nil_append, List.cons_append]
  gi_wp2_with (refine ⟨trivial, (hpin _).mono ?_⟩; rintro e w' ⟨rfl, rfl⟩)
  rw [← hP] at hst ⊢
  clear hP hpin
  have b3 := (Boxed.new (w.alloc (.cells P 23)) 53 (.slice none 0 0)).alloc (.cells P 23)
  have b5 := Blk.new ((w.alloc (.cells P 23)).alloc (.cells #[.slice none 0 0] 53)) 23 P
  have hB0 : Below w.heap.size w (((w.alloc (.cells P 23)).alloc (.cells #[.slice none 0 0] 53)).alloc (.cells P 23)) := (((Below.refl _ w).alloc (Nat.le_refl _) _).alloc (by simp) _).alloc (by simp; omega) _
  have hsz : (((w.alloc (.cells P 23)).alloc (.cells #[.slice none 0 0] 53)).alloc (.cells P 23)).heap.size = w.heap.size + 1 + 1 + 1 := by simp
  simp only [World.size_alloc] at b3 b5
  obtain ⟨W0, hW0⟩ : ∃ W0, ((w.alloc (.cells P 23)).alloc (.cells #[.slice none 0 0] 53)).alloc (.cells P 23) = W0 := ⟨_, rfl⟩
  rw [hW0] at b3 b5 hB0 hsz ⊢
  clear hW0
  refine wpIn_rangeFunc_ownH rfl h1 (gf := 75) (lb := #[.pointer (some ⟨w.heap.size + 1 + 1, 0, none⟩)]) rfl trivial (enters_of Tryz.func75 (by kernel_rfl) rfl)
    (hst (w.heap.size + 1 + 1) W0 b5) (fun _ _ => trivial) (fun W l o o' _ h hc _ => trivial) (Below.refl _ _) (fun _ => rfl)
    (fun pre W => (∃ v, Boxed W (w.heap.size + 1) 53 v ∧ W.ownsRow w.heap.size 9 1 v (strV pre).length (strV pre) ∧ True) ∧ Below w.heap.size w W)
    (fun _ _ _ => False)
    (OwnFrom.and (Own.from (holdsRow_own w.heap.size (w.heap.size + 1) 53 9 1 (fun pre => (strV pre).length) (fun pre => strV pre) (fun _ _ => True)) _) (ownFrom_below (Nat.le_refl _) (by omega)))
    (fun _ _ _ _ _ hs _ _ => hs)
    ⟨⟨_, b3, World.ownsRow_nil _ _ _ _, trivial⟩, hB0⟩
    (fun x a' W => a' = { tmps := #[.agg P, .pointer (some ⟨w.heap.size, 0, none⟩), .slice none 0 0, .pointer (some ⟨w.heap.size + 1, 0, none⟩), .string (strL x), .agg P, .func (.func 75) #[] #[.pointer (some ⟨w.heap.size + 1 + 1, 0, none⟩)], .string (strL x), undef, undef, undef, undef, undef], defers := [] })
    (fun x a' _ X Y row hs hg hr => hs)
    ?assign ?body ?done ?stop
  case assign =>
    rintro l pre x W K hI hK
    gi_wp2
    exact hK _ _ (KeepsFrom.refl _ _) trivial hI rfl
  case body =>
    rintro l pre x a' W hl ⟨r, hr⟩ ⟨⟨v, hv, hrow, _⟩, hB⟩ rfl hlt
    have hc := hv.cell
    have hpl : (strV pre).length = pre.length := by simp [strV]
    gi_wp2_with (gi_at_builtin; refine wpListIn_append_own _ rfl _ _ 53 rfl w.heap.size 9 i0 (.string ⟨#[]⟩) 1 16 Tryz.underlying53 hi0 hz0 hz1 hz2 rfl (by decide) _ _ _ rfl (hrow.alloc _) ⟨W.heap.size, 0, none⟩ 1 1 [.string (strL x)] rfl rfl (cell_one_new _ _ _) (by simp [Value.oneCell']) (by unfold maxLen; omega) (by omega) (by have := hB.size; simp; omega) ?_; intro v' w1 hown' hgrow _; obtain ⟨g', cap', rfl⟩ := ownsRow_succ hown'; obtain ⟨hv1, hv2, hr2, hk2, hb2⟩ := hv.appended (by decide) hrow hB.size (by omega) hown' hgrow; have hc1 := hv1.cell; have hf1 := hv1.frozen)
    rw [hpl] at hv2 hr2 hk2 hb2
    exact ⟨hk2.from _, trivial, ⟨_, hv2, by simpa [strV] using hr2, trivial⟩, hB.trans hb2⟩
  case done =>
    rintro D zs W hD rfl ⟨⟨v, hv, hrow, _⟩, hB⟩ hK
    obtain ⟨OA, oc, rfl⟩ := own_slice hrow
    have hlv : (strV zs).length = zs.length := by simp [strV]
    rw [hlv] at hv hrow
    have hc := hv.cell
    gi_wp2
    refine ⟨by simp, .inl ⟨_, _, rfl, run_takeDeferred hK, ?_⟩⟩
    have hg := grownBy_putObj' W D (.deferred none)
    have hr2 : (W.putObj D (.deferred none)).ownsRow w.heap.size 9 1 (.slice OA zs.length oc) zs.length (strV zs) := by
      refine ⟨hrow.1, ?_⟩
      rcases hrow.2 with h2 | ⟨g, cap, cur, hv, hgb, hh, r⟩
      · exact .inl h2
      · refine .inr ⟨g, cap, cur, hv, hgb, ?_, r⟩
        rw [hg.block g (Blk.lt (t := 9) hh) (fun e => by
          cases e
          rw [hK] at hh
          cases hh)]
        exact hh
    refine ⟨.slice OA zs.length oc, ?_, _, rfl, hr2, hB.trans (belowK_b (w := w) (Nat.le_refl _) W D _ _ (by omega) hK rfl rfl)⟩
    simp [results]
  case stop =>
    rintro D c pre W _ _ h _
    exact h.elim
theorem pages_any (w : World) (i : Img) (h : ImgOk i) : Calls Tryz.prog 13 #[.agg (imgCells i)] w fun e w' => ∃ v, e = .returned v ∧ w'.ownsRow w.heap.size 9 1 v (npOf i) (strV (pagesL i)) ∧ Below w.heap.size w w' :=
  callsIn_wide.1 (pagesF_in 4 (Nat.le_refl _) i h w)
end Go.Proofs.YtkoomlbnfhdhcaaGreatDoor
