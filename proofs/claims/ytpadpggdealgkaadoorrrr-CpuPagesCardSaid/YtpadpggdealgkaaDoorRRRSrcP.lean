/-
  Walks: a source that is a closure over a memory of the reference.
-/
import Derived.Test.YtpadpggdealgkaaDoorRRRPlT
import Derived.Defers
import Derived.Recover
import Derived.Laws.Pointers
import Derived.Laws.EntriesVeiled
namespace Go.Proofs.YtpadpggdealgkaaDoorRRR
open Go.RowKit
set_option linter.unusedVariables false
set_option linter.unusedSectionVars false
set_option linter.unusedSimpArgs false

def srcV (mb : Nat) : Value := .func (.func 17) #[] #[.pointer (some ⟨mb, 0, none⟩)]
theorem cv_page {w : World} {b k : Nat} {m : Mm} (h : MB w b m) (hk : k < 64) : (convert 54 9 (.slice (some ⟨b, 64 + 64 * k, none⟩) 64 (4096 - 64 * k))).run Tryd.prog w = .ok (.string ⟨(pgL m k).toArray⟩) w := by
  refine run_convert_string (B := b + 1) Tryd.underlying54 Tryd.underlying5 Tryd.underlying9 ⟨some ⟨b, 64 + 64 * k, none⟩, 4096 - 64 * k, by rw [pgL_length], by rw [pgL_length]; omega, by unfold maxLen; omega, by rw [bs_length, pgL_length], fun _ => ⟨_, rfl, Nat.lt_succ_self _, fun j u hu => ?_⟩⟩
  have hj : j < 64 := by
    have := (List.getElem?_eq_some_iff.1 hu).1
    rw [bs_length, pgL_length] at this
    exact this
  have hu2 : (bs (pgL m k))[j]? = some (.int .u8 ((m.b (64 * k + j)).toNat : Nat)) := by
    unfold bs pgL
    simp [hj]
  rw [hu2] at hu
  rw [add_at, Nat.add_assoc, h.c_b (by omega)]
  exact hu
set_option maxRecDepth 100000 in
theorem src17_any (w : World) (mb p : Nat) (m : Mm) (hp : p < 64) (hm : MB w mb m) :
    Calls Tryd.prog 17 #[.int .i64 p, .pointer (some ⟨mb, 0, none⟩)] w fun e w' => e = .returned (.tuple #[.string ⟨(pgL m p).toArray⟩, .bool (m.th p)]) ∧ Fr [] w w' := by
  have i0 : (0 : Int) ≤ p := by omega
  have i1 : (p : Int) < 64 := by omega
  have HM := Lib.hid hm
  have hsa := fun W => slice_at W mb 64 p hp
  have HCV := Lib.hid (fun W (h : MB W mb m) => cv_page h hp)
  have HC := Lib.hid (fun W (h : MB W mb m) => h.c_th hp)
  clear hm hp
  have i2 : (64 : Int) * p + 64 ≤ 4096 := by omega
  have i3 : (64 : Int) * p ≤ 64 * p + 64 := by omega
  have w1 : IntKind.i64.wrap (64 * (p : Int)) = 64 * p := IntWalk.i64_in _ (by omega)
  have w2 : IntKind.i64.wrap (64 * (p : Int) + 64) = 64 * p + 64 := IntWalk.i64_in _ (by omega)
  go_enter Tryd.func17, Tryd.ntmps17
  go_upto_region 1 with (fail)
  refine wp_region_mixL (fun W => MB W mb m) [7, 11] [] [0, 1, 2, 3, 4, 5, 6, 7, 8, 9, 10, 11, 12, 13] (by kernel_rfl) (by kernel_rfl) HM.out.drew ?_
  simp only [inOrder, opAt]
  iterate 14
    (refine wpMixS_read (v := ?_) rfl rfl (fun w' hS => ?_) ?_
     rotate_left
     · ((try (have t := hS rfl; have t1 := HCV.out w' t; have t2 := HC.out w' t; clear t)); (try clear hS); go_simp; (try with_reducible rfl))
     try simp only [Act.put, List.setIfInBounds_toArray, List.set_cons_zero, List.set_cons_succ])
  refine wpMixS_nil ?_
  go_wp2_with fail
  go_ret2
  exact ⟨rfl, (Fr.refl _ _).drew⟩
theorem catch_idle (p : Addr) (w : World) :
    CallsD Tryd.prog 40 #[.pointer (some p)] .returning w fun e u' w' => e = .returned (.tuple #[]) ∧ u' = .returning ∧ w' = w := by
  refine callsD_of_wpS Tryd.func40 rfl fun c₀ cs hu => ?_
  apply wpS_seq
  apply wpS_region
  simp [wpOpsS, go_sem, recoverD, hu, Tryd.ntmps40, Exit.thenS]
  refine wpS_cond (t := false) (by simp [Act.eval, Array.replicate]) ?_
  simp only [Bool.false_eq_true, if_false]
  refine wpS_of_wp (wp_skip ?_)
  cases c₀
  simp_all [bodyPostS, results, Tryd.results40]
theorem zero94 (w : World) : (zeroValue 94).run Tryd.prog w = .ok (.pointer none) w := by kernel_rfl
/-- What asking answers. -/
def SrcRet (src : Nat → Option (List UInt8)) (n : Nat) (p : Nat) (e : Ending) (w' : World) : Prop := match src p with
  | none => e = .returned (ptrV none)
  | some b => ∃ h, n ≤ h ∧ e = .returned (ptrV (some h)) ∧ Blk w' h 102 (heldCells (padL b) false)
theorem SrcRet.none_ {src : Nat → Option (List UInt8)} {n p : Nat} {w' : World} (h : src p = none) : SrcRet src n p (.returned (.pointer none)) w' := by
  unfold SrcRet; rw [h]; rfl
theorem SrcRet.some_ {src : Nat → Option (List UInt8)} {n p k : Nat} {b : List UInt8} {w' : World} (h : src p = some b) (hk : n ≤ k) (hb : Blk w' k 102 (heldCells (padL b) false)) : SrcRet src n p (.returned (.pointer (some ⟨k, 0, none⟩))) w' := by
  unfold SrcRet; rw [h]; exact ⟨k, hk, rfl, hb⟩
set_option maxRecDepth 100000 in
set_option maxHeartbeats 4000000 in
theorem fetch39_any (w : World) (box mb : Nat) (m : Mm) (p : Nat) (hp : p < 64) (hb : Blk w box 92 #[srcV mb]) (hm : MB w mb m) :
    Calls Tryd.prog 39 #[.int .i64 p, .pointer (some ⟨box, 0, none⟩)] w fun e w' => SrcRet (srcMm m) w.heap.size p e w' ∧ Fr [] w w' := by
  have hmf : ∀ (fn : Fn) (first cap : Array Value) (w : World), (Instr.makeFunc fn first cap).run Tryd.prog w = .ok (.func fn first cap) w := fun _ _ _ _ => rfl
  have hz := zero94
  have k0 : w.cell? ⟨box, 0, none⟩ = some (srcV mb) := hb.cell 0
  unfold srcV at k0
  have zb := hb.lt
  have HG := Lib.hid (src17_any (w.alloc (.cells #[.pointer none] 94)) mb p m hp (hm.alloc _))
  have HN := Lib.hid (Blk.new w 94 #[.pointer none])
  have HF0 := Lib.hid ((Fr.refl [] w).alloc (.cells #[.pointer none] 94))
  go_enter_defers Tryd.func39, Tryd.ntmps39
  go_wp2_with fail
  refine HG.out.mono ?_
  rintro e w1 ⟨rfl, hf1⟩
  dsimp only
  have hn1 : Blk w1 w.heap.size 94 #[.pointer none] := HN.out.fr hf1 (by simp)
  have c1 : w1.cell? ⟨w.heap.size, 0, none⟩ = some (.pointer none) := hn1.cell 0
  have f1 := hn1.frozen 0
  have z1 := hn1.lt
  have HN1 := Lib.hid hn1
  have HF1 := Lib.hid (HF0.out.trans hf1 (by simp))
  clear hn1 hf1 HG
  cases hth : m.th p with
  | false =>
    have hs : srcMm m p = none := by unfold srcMm; rw [if_neg (by rw [hth]; rintro ⟨_, h⟩; cases h)]
    have HS := Lib.hid hs
    have hn2 := Lib.hid (HN1.out.set_ 0 (.pointer none))
    have hfr := Lib.hid (HF1.out.setCell (p := ⟨w.heap.size, 0, none⟩) (.inr (Nat.le_refl _)) (.pointer none))
    clear hs hth
    go_wp2_with fail
    refine leaves_cons (f := 40) (args := #[.pointer (some ⟨w.heap.size, 0, none⟩)]) (by simp) (by simp [go_sem]) ?_
    refine (catch_idle ⟨w.heap.size, 0, none⟩ _).mono ?_
    rintro e u' w'' ⟨rfl, rfl, rfl⟩
    have c9 := hn2.out.cell 0
    simp at c9
    simp [Leaves, settle, results, Tryd.results39, go_sem, c9]
    exact ⟨SrcRet.none_ HS.out, hfr.out⟩
  | true =>
    have hs : srcMm m p = some (pgL m p) := by unfold srcMm; rw [if_pos ⟨hp, hth⟩]
    have HS := Lib.hid hs
    have HH := Lib.hid (newHeld_any w1 ⟨(pgL m p).toArray⟩ (by show (pgL m p).toArray.size ≤ _; rw [List.size_toArray, pgL_length]; omega))
    clear hs hth
    go_wp2_with fail
    refine HH.out.mono ?_
    rintro e w2 ⟨rfl, hh2, nb⟩
    have hn2 := HN1.out.below nb HN1.out.lt
    have c2 : w2.cell? ⟨w.heap.size, 0, none⟩ = some (.pointer none) := hn2.cell 0
    have f2 := hn2.frozen 0
    have z2 := hn2.lt
    have hn3 := Lib.hid (hn2.set_ 0 (ptrV (some w1.heap.size)))
    have hfr := Lib.hid ((HF1.out.trans (Fr.of_below (L := []) nb) (by simp)).setCell (p := ⟨w.heap.size, 0, none⟩) (.inr (Nat.le_refl _)) (ptrV (some w1.heap.size)))
    have hh3 := Lib.hid (hh2.far (p := ⟨w.heap.size, 0, none⟩) (by show w1.heap.size ≠ w.heap.size; omega) (ptrV (some w1.heap.size)))
    clear hn2 nb hh2
    unfold ptrV at *
    simp only [Option.map_some] at *
    try dsimp only
    go_wp2_with fail
    refine leaves_cons (f := 40) (args := #[.pointer (some ⟨w.heap.size, 0, none⟩)]) (by simp) (by simp [go_sem]) ?_
    refine (catch_idle ⟨w.heap.size, 0, none⟩ _).mono ?_
    rintro e u' w'' ⟨rfl, rfl, rfl⟩
    have c9 := hn3.out.cell 0
    simp at c9
    simp [Leaves, settle, results, Tryd.results39, go_sem, c9]
    exact ⟨SrcRet.some_ HS.out (by omega) hh3.out, hfr.out⟩
/-! ### The source -/
def mmSrc (box mb root : Nat) (m : Mm) : Source where
  val := fetchV box
  src := srcMm m
  E := fun _ w => Blk w box 92 #[srcV mb] ∧ MB w mb m
  X := NoX
  root := root
theorem MvE.blk {w w' : World} {k : Nat} {t : TypeId} {cs : Array Value} (h : MvE w w') (hb : Blk w k t cs) (ht : t ≠ 97 ∧ t ≠ 102 ∧ t ≠ 5 ∧ t ≠ 3 ∧ t ≠ 96) : Blk w' k t cs :=
  (h.block k hb.lt fun ⟨cs', t', fr, he, ht'⟩ => by
    unfold Blk at hb
    rw [hb] at he
    injection he with he
    injection he with _ he
    subst he
    obtain ⟨h1, h2, h3, h4, h5⟩ := ht
    rcases ht' with h | h | h | h | h
    · exact h1 h
    · exact h2 h
    · exact h3 h
    · exact h4 h
    · exact h5 h).trans hb
theorem mmSrc_ok (box mb root : Nat) (m : Mm) (B : Nat) : SourceOk (mmSrc box mb root m) B where
  keeps := fun asked w w' ⟨h1, h2⟩ hm => ⟨hm.blk h1 (by decide), hm.blk h2 (by decide)⟩
  low := fun k hk => hk.elim
  apart := fun w asked k _ hk => hk.elim
  val := ⟨box, rfl⟩
  call := fun box' hbox w asked p hp hB ⟨h1, h2⟩ hask => by
    have hb : box' = box := by
      have : fetchV box = fetchV box' := hbox
      unfold fetchV at this
      simp at this
      exact this.symm
    subst hb
    refine (fetch39_any w box' mb m p hp h1 h2).mono ?_
    rintro e w' ⟨g1, g3⟩
    refine ⟨?_, ⟨h1.fr g3 (by simp), h2.fr g3 (by simp)⟩, g3.os, g3.tape, g3.output, g3.size, fun k hk hx => g3.block k hk (by simp)⟩
    unfold FetchRet
    unfold SrcRet at g1
    show (match srcMm m p with | none => _ | some b => _)
    cases hs : srcMm m p with
    | none => rw [hs] at g1; exact g1
    | some b => rw [hs] at g1; exact g1
theorem mmSrc_mach (box mb root : Nat) (m : Mm) : MachOk (mmSrc box mb root m) := fun a w w' b t cs ht ⟨h1, h2⟩ hb hf => by
  refine ⟨h1.fr hf ?_, h2.fr hf ?_⟩
  · have := h1.ne_ hb (by rcases ht with rfl | rfl | rfl <;> decide); simpa using this
  · have := h2.ne_ hb (by rcases ht with rfl | rfl | rfl <;> decide); simpa using this
theorem mmSrc_ty (box mb root : Nat) (m : Mm) : TyOk (mmSrc box mb root m) 47 := fun a w w' b cs ⟨h1, h2⟩ hb hf => by
  refine ⟨h1.fr hf ?_, h2.fr hf ?_⟩
  · have := h1.ne_ hb (by decide); simpa using this
  · have := h2.ne_ hb (by decide); simpa using this
theorem srcV_neq (W : World) (a : Nat) : (binOp BinOp.neq 92 (srcV a) Value.nilFunc).run Tryd.prog W = .ok (.bool true) W := by kernel_rfl
def spNew (box : Nat) : Sp := ⟨fetchV box, fun _ => false, fun _ => false, fun _ => false, fun _ => none⟩
set_option maxRecDepth 100000 in
set_option maxHeartbeats 4000000 in
theorem new_src (w : World) (a : Nat) : Calls Tryd.prog 18 #[srcV a] w fun e w' => e = .returned (ptrV (some (w.heap.size + 1))) ∧ Blk w' w.heap.size 92 #[srcV a] ∧ Blk w' (w.heap.size + 1) 97 (spCells (spNew w.heap.size)) ∧ Below w.heap.size w w' := by
  unfold spNew
  have hz := z86
  have hq := srcV_neq
  have hmf : ∀ (fn : Fn) (first cap : Array Value) (w : World), (Instr.makeFunc fn first cap).run Tryd.prog w = .ok (.func fn first cap) w := fun _ _ _ _ => rfl
  have h1 : Hid (Blk (w.alloc (.cells #[srcV a] 92)) w.heap.size 92 #[srcV a]) := Lib.hid (Blk.new w 92 #[srcV a])
  have hs : (w.alloc (.cells #[srcV a] 92)).heap.size = w.heap.size + 1 := by simp
  have h2 := Lib.hid (Blk.new_ (g := w.heap.size + 1) (w.alloc (.cells #[srcV a] 92)) 97 (spCells ⟨fetchV w.heap.size, fun _ => false, fun _ => false, fun _ => false, fun _ => none⟩) hs)
  have h3 := Lib.hid ((Below.refl w.heap.size w).alloc (Nat.le_refl _) (.cells #[srcV a] 92))
  unfold srcV fetchV at *
  go_enter Tryd.func18, Tryd.ntmps18
  go_wp2_with fail
  go_ret
  exact ⟨rfl, h1.out.alloc _, h2.out, h3.out.alloc (by omega) _⟩
def one (g : Nat) (s : Sp) : Nat → Option Sp := upd (fun _ => none) g (some s)
def none_ : Pages := fun _ => none
theorem mm_setup {w : World} {B box mb g : Nat} {m : Mm} (hB : B ≤ g) (h1 : Blk w box 92 #[srcV mb]) (h2 : MB w mb m) (h3 : Blk w g 97 (spCells (spNew box))) : All (mmSrc box mb g m) B w (one g (spNew box)) none_ := by
  refine ⟨⟨fun k x hx => ?_, fun k b sh hx => (by cases hx), fun k x hx p q hq => ?_, fun k x k' x' p q r b _ _ _ _ hh => (by cases hh)⟩, fun x hx => ?_, fun k x hx hne => ?_, fun k x hx p hp => ?_⟩
  · rcases upd_some _ _ _ _ _ hx with ⟨rfl, rfl⟩ | ⟨_, hx⟩
    · exact ⟨h3, hB⟩
    · cases hx
  · rcases upd_some _ _ _ _ _ hx with ⟨rfl, rfl⟩ | ⟨_, hx⟩
    · cases hq
    · cases hx
  · rcases upd_some _ _ _ _ _ hx with ⟨_, rfl⟩ | ⟨_, hx⟩
    · exact .inr ⟨rfl, h1, h2⟩
    · cases hx
  · rcases upd_some _ _ _ _ _ hx with ⟨rfl, rfl⟩ | ⟨_, hx⟩
    · exact absurd rfl hne
    · cases hx
  · rcases upd_some _ _ _ _ _ hx with ⟨_, rfl⟩ | ⟨_, hx⟩
    · exact ⟨rfl, rfl⟩
    · cases hx
theorem view_mm (box mb root : Nat) (m : Mm) : view (mmSrc box mb root m) none_ (spNew box) = newSA (srcMm m) := by
  unfold view newSA srcOf spNew fetchV
  rfl
end Go.Proofs.YtpadpggdealgkaaDoorRRR
