/-
  A source that counts: what stands in memory behind it; its functions.
-/
import Derived.Test.YtbppafbdmdbdiaaMSe
import Derived.Test.YtbppafbdmdbdiaaMaps
import Derived.Defers
import Derived.Recover
import Derived.Laws.Pointers
import Derived.Laws.EntriesVeiled
namespace Go.Proofs.Ytbppafbdmdbdiaa
open Go.RowKit
set_option linter.unusedVariables false

def encI (x : Int) : Value := .int .i64 x
def Pg (x : Int) : Prop := 0 ≤ x ∧ x < 64
theorem keyI : KeyOk Try.prog 3 encI Pg :=
  keyOk_of_keyed (Maps.int_keyed Try.underlying3) (fun x hx => by
    obtain ⟨h1, h2⟩ := hx
    refine ⟨_, Maps.keyOf_int_mk Try.underlying3 (a := x) ?_⟩
    simp [Lit.wf, IntKind.min, IntKind.max, IntKind.bits, IntKind.signed]
    omega) (fun x y _ _ h => by
    unfold encI at h
    injection h)
abbrev MI := MapIs encI Pg

def strOf : Value → ByteArray
  | .string b => b
  | _ => ⟨#[]⟩
/-- A map of strings. -/
def Strs (M : List (Int × Value)) : Prop := ∀ x v, mget M x = some v → ∃ b : ByteArray, v = .string b ∧ b.size ≤ 140737488355328
def srcM (M : List (Int × Value)) (p : Nat) : Option (List UInt8) := (mget M (p : Int)).map fun v => (strOf v).data.toList
/-- What counts: these pages, once each. -/
def Counts (c : List (Int × Value)) (asked : Nat → Bool) : Prop := ∀ p : Nat, p < 64 → mget c (p : Int) = if asked p then some (.int .i64 1) else none

def getV (a : Nat) : Value := .func (.func 18) #[.pointer (some ⟨a, 0, none⟩)] #[]

theorem zero9 (w : World) : (zeroValue 9).run Try.prog w = .ok (.string ⟨#[]⟩) w := by kernel_rfl
theorem zero3 (w : World) : (zeroValue 3).run Try.prog w = .ok (.int .i64 0) w := by kernel_rfl

set_option maxRecDepth 100000 in
set_option maxHeartbeats 4000000 in
theorem get_any (w : World) (a pm cm : Nat) (M c : List (Int × Value)) (p : Nat) (hp : p < 64) (ha : Blk w a 37 #[.map (some pm), .map (some cm)]) (hM : MI w pm M) (hc : MI w cm c) (hne : pm ≠ cm) (hS : Strs M) (hn : mget c (p : Int) = none) :
    Calls Try.prog 18 #[.pointer (some ⟨a, 0, none⟩), .int .i64 p] w fun e w' => e = .returned (.tuple #[(mget M (p : Int)).getD (.string ⟨#[]⟩), .bool (mget M (p : Int)).isSome]) ∧ MI w' cm (mput (p : Int) (.int .i64 1) c) ∧ Fr [cm] w w' := by
  have k1 : w.cell? ⟨a, 1, none⟩ = some (.map (some cm)) := ha.cell 1
  have k0 : w.cell? ⟨a, 0, none⟩ = some (.map (some pm)) := ha.cell 0
  have hpg : Pg (p : Int) := by unfold Pg; omega
  have h1 := run_lookup_map (P := Try.prog) keyI Try.underlying35 zero3 hc (p : Int) hpg false
  rw [hn] at h1
  obtain ⟨w1, h2, hc1, hf1⟩ := run_update_map (P := Try.prog) keyI Try.underlying35 hc (p : Int) hpg (.int .i64 1)
  have h3 := run_lookup_map (P := Try.prog) keyI Try.underlying32 zero9 (hM.fr hf1 (by simpa using hne)) (p : Int) hpg true
  have k0' : w1.cell? ⟨a, 0, none⟩ = some (.map (some pm)) := (ha.fr hf1 (by have := hc.ne_blk ha; simpa using fun e => this e.symm)).cell 0
  simp only [Bool.false_eq_true, if_false, if_true, Option.getD_none] at h1 h3
  generalize (mget M (p : Int)).getD (.string ⟨#[]⟩) = v at *
  generalize (mget M (p : Int)).isSome = b at *
  unfold encI at h1 h2 h3
  go_enter Try.func18, Try.ntmps18
  go_wp2_with fail
  go_ret2
  exact ⟨rfl, hc1, hf1⟩

theorem catch_idle (p : Addr) (w : World) :
    CallsD Try.prog 36 #[.pointer (some p)] .returning w fun e u' w' => e = .returned (.tuple #[]) ∧ u' = .returning ∧ w' = w := by
  refine callsD_of_wpS Try.func36 rfl fun c₀ cs hu => ?_
  apply wpS_seq
  apply wpS_region
  simp [wpOpsS, go_sem, recoverD, hu, Try.ntmps36, Exit.thenS]
  refine wpS_cond (t := false) (by simp [Act.eval, Array.replicate]) ?_
  simp only [Bool.false_eq_true, if_false]
  refine wpS_of_wp (wp_skip ?_)
  cases c₀
  simp_all [bodyPostS, results, Try.results36]

theorem zero83 (w : World) : (zeroValue 83).run Try.prog w = .ok (.pointer none) w := by kernel_rfl

/-- What asking answers. -/
def SrcRet (src : Nat → Option (List UInt8)) (n : Nat) (p : Nat) (e : Ending) (w' : World) : Prop := match src p with
  | none => e = .returned (ptrV none)
  | some b => ∃ h, n ≤ h ∧ e = .returned (ptrV (some h)) ∧ Blk w' h 91 (heldCells (padL b) false)
theorem SrcRet.none_ {src : Nat → Option (List UInt8)} {n p : Nat} {w' : World} (h : src p = none) : SrcRet src n p (.returned (.pointer none)) w' := by
  unfold SrcRet; rw [h]; rfl
theorem SrcRet.some_ {src : Nat → Option (List UInt8)} {n p k : Nat} {b : List UInt8} {w' : World} (h : src p = some b) (hk : n ≤ k) (hb : Blk w' k 91 (heldCells (padL b) false)) : SrcRet src n p (.returned (.pointer (some ⟨k, 0, none⟩))) w' := by
  unfold SrcRet; rw [h]; exact ⟨k, hk, rfl, hb⟩

set_option maxRecDepth 100000 in
set_option maxHeartbeats 4000000 in
theorem fetch_any (w : World) (box a pm cm : Nat) (M c : List (Int × Value)) (p : Nat) (hp : p < 64) (hb : Blk w box 80 #[getV a]) (ha : Blk w a 37 #[.map (some pm), .map (some cm)]) (hM : MI w pm M) (hc : MI w cm c) (hne : pm ≠ cm) (hS : Strs M) (hn : mget c (p : Int) = none) :
    Calls Try.prog 35 #[.int .i64 p, .pointer (some ⟨box, 0, none⟩)] w fun e w' => SrcRet (srcM M) w.heap.size p e w' ∧ MI w' cm (mput (p : Int) (.int .i64 1) c) ∧ Fr [cm] w w' := by
  have hmf : ∀ (fn : Fn) (first cap : Array Value) (w : World), (Instr.makeFunc fn first cap).run Try.prog w = .ok (.func fn first cap) w := fun _ _ _ _ => rfl
  have hz := zero83
  have k0 : w.cell? ⟨box, 0, none⟩ = some (getV a) := hb.cell 0
  unfold getV at k0
  have zb := hb.lt
  have zc := hc.lt
  have HG := Lib.hid (get_any (w.alloc (.cells #[.pointer none] 83)) a pm cm M c p hp (ha.alloc _) (hM.alloc _) (hc.alloc _) hne hS hn)
  have HSS := Lib.hid hS
  clear hn hS
  have HN := Lib.hid (Blk.new w 83 #[.pointer none])
  have HF0 := Lib.hid ((Fr.refl [cm] w).alloc (.cells #[.pointer none] 83))
  go_enter_defers Try.func35, Try.ntmps35
  go_wp2_with fail
  refine HG.out.mono ?_
  rintro e w1 ⟨rfl, hc1, hf1⟩
  dsimp only
  have hn1 : Blk w1 w.heap.size 83 #[.pointer none] := HN.out.fr hf1 (by simp; omega)
  have c1 : w1.cell? ⟨w.heap.size, 0, none⟩ = some (.pointer none) := hn1.cell 0
  have f1 := hn1.frozen 0
  have z1 := hn1.lt
  have HN1 := Lib.hid hn1
  have HC1 := Lib.hid hc1
  have HF1 := Lib.hid (HF0.out.trans hf1 (by simp))
  clear hn1 hc1 hf1 HG
  cases hm : mget M (p : Int) with
  | none =>
    simp only [Option.getD_none, Option.isSome_none]
    have hs : srcM M p = none := by unfold srcM; rw [hm]; rfl
    have HS := Lib.hid hs
    have hn2 := Lib.hid (HN1.out.set_ 0 (.pointer none))
    have hfr := Lib.hid (HF1.out.setCell (p := ⟨w.heap.size, 0, none⟩) (.inr (Nat.le_refl _)) (.pointer none))
    have hc2 := Lib.hid (HC1.out.setCell (p := ⟨w.heap.size, 0, none⟩) (by show cm ≠ w.heap.size; omega) (.pointer none))
    clear hs hm
    go_wp2_with fail
    refine leaves_cons (f := 36) (args := #[.pointer (some ⟨w.heap.size, 0, none⟩)]) (by simp) (by simp [go_sem]) ?_
    refine (catch_idle ⟨w.heap.size, 0, none⟩ _).mono ?_
    rintro e u' w'' ⟨rfl, rfl, rfl⟩
    have c9 := hn2.out.cell 0
    simp at c9
    simp [Leaves, settle, results, Try.results35, go_sem, c9]
    exact ⟨SrcRet.none_ HS.out, hc2.out, hfr.out⟩
  | some v =>
    simp only [Option.getD_some, Option.isSome_some]
    obtain ⟨b, rfl, hb9⟩ := HSS.out _ _ hm
    have hs : srcM M p = some b.data.toList := by unfold srcM; rw [hm]; rfl
    have HS := Lib.hid hs
    have HH := Lib.hid (newHeld_any w1 b hb9)
    clear hs hm
    go_wp2_with fail
    refine HH.out.mono ?_
    rintro e w2 ⟨rfl, hh2, nb⟩
    have hn2 := HN1.out.below nb HN1.out.lt
    have c2 : w2.cell? ⟨w.heap.size, 0, none⟩ = some (.pointer none) := hn2.cell 0
    have f2 := hn2.frozen 0
    have z2 := hn2.lt
    have hn3 := Lib.hid (hn2.set_ 0 (ptrV (some w1.heap.size)))
    have hfr := Lib.hid ((HF1.out.trans (Fr.of_below (L := []) nb) (by simp)).setCell (p := ⟨w.heap.size, 0, none⟩) (.inr (Nat.le_refl _)) (ptrV (some w1.heap.size)))
    have hc2 := Lib.hid ((HC1.out.fr (Fr.of_below (L := []) nb) (by simp)).setCell (p := ⟨w.heap.size, 0, none⟩) (by show cm ≠ w.heap.size; omega) (ptrV (some w1.heap.size)))
    have hh3 := Lib.hid (hh2.far (p := ⟨w.heap.size, 0, none⟩) (by show w1.heap.size ≠ w.heap.size; omega) (ptrV (some w1.heap.size)))
    clear hn2 nb hh2
    unfold ptrV at *
    simp only [Option.map_some] at *
    try dsimp only
    go_wp2_with fail
    refine leaves_cons (f := 36) (args := #[.pointer (some ⟨w.heap.size, 0, none⟩)]) (by simp) (by simp [go_sem]) ?_
    refine (catch_idle ⟨w.heap.size, 0, none⟩ _).mono ?_
    rintro e u' w'' ⟨rfl, rfl, rfl⟩
    have c9 := hn3.out.cell 0
    simp at c9
    simp [Leaves, settle, results, Try.results35, go_sem, c9]
    exact ⟨SrcRet.some_ HS.out (by omega) hh3.out, hc2.out, hfr.out⟩

/-! ### The source -/
def askedSrc (box a pm cm root : Nat) (M : List (Int × Value)) : Source where
  val := fetchV box
  src := srcM M
  E := fun asked w => Blk w box 80 #[getV a] ∧ Blk w a 37 #[.map (some pm), .map (some cm)] ∧ MI w pm M ∧ ∃ c, MI w cm c ∧ Counts c asked
  X := fun k => k = cm
  root := root
theorem MvE.blk {w w' : World} {k : Nat} {t : TypeId} {cs : Array Value} (h : MvE w w') (hb : Blk w k t cs) (ht : t ≠ 86 ∧ t ≠ 91 ∧ t ≠ 5 ∧ t ≠ 3 ∧ t ≠ 96) : Blk w' k t cs :=
  (h.block k hb.lt fun ⟨cs', t', fr, he, ht'⟩ => by
    unfold Blk at hb
    rw [hb] at he
    injection he with he
    injection he with _ he
    subst he
    obtain ⟨h1, h2, h3, h4, h5⟩ := ht
    rcases ht' with h | h | h | h | h
    · exact h1 h
    · exact h2 h
    · exact h3 h
    · exact h4 h
    · exact h5 h).trans hb
theorem MvE.map {w w' : World} {k : Nat} {m : List (Int × Value)} (h : MvE w w') (hb : MI w k m) : MI w' k m :=
  hb.keep (h.block k hb.lt fun ⟨cs', t', fr, he, ht'⟩ => by
    obtain ⟨_, es, clock, h1, _⟩ := hb
    rw [h1] at he
    cases he)
theorem Counts.put {c : List (Int × Value)} {asked : Nat → Bool} (h : Counts c asked) (p : Nat) : Counts (mput (p : Int) (.int .i64 1) c) (upd asked p true) := fun q hq => by
  rw [mget_mput, h q hq]
  by_cases e : q = p
  · rw [e, upd_at, if_pos rfl]; rfl
  · rw [upd_ne _ _ _ _ e, if_neg (by omega)]
theorem asked_ok (box a pm cm root : Nat) (M : List (Int × Value)) (B : Nat) (hB : B ≤ cm) (hne : pm ≠ cm) (hS : Strs M) : SourceOk (askedSrc box a pm cm root M) B where
  keeps := fun asked w w' ⟨h1, h2, h3, c, h4, h5⟩ hm => ⟨hm.blk h1 (by decide), hm.blk h2 (by decide), hm.map h3, c, hm.map h4, h5⟩
  low := fun k hk => by rw [show k = cm from hk]; exact hB
  apart := fun w asked k ⟨_, _, _, c, ⟨_, es, clock, h1, _⟩, _⟩ hk ⟨cs, t, fr, he, _⟩ => by
    rw [show k = cm from hk, h1] at he
    cases he
  val := ⟨box, rfl⟩
  call := fun box' hbox w asked p hp hB ⟨h1, h2, h3, c, h4, h5⟩ hask => by
    have hb : box' = box := by
      have : fetchV box = fetchV box' := hbox
      unfold fetchV at this
      simp at this
      exact this.symm
    subst hb
    refine (fetch_any w box' a pm cm M c p hp h1 h2 h3 h4 hne hS (by rw [h5 p hp, hask]; rfl)).mono ?_
    rintro e w' ⟨g1, g2, g3⟩
    refine ⟨?_, ⟨h1.fr g3 ?_, h2.fr g3 ?_, h3.fr g3 (by simpa using hne), _, g2, h5.put p⟩, g3.os, g3.tape, g3.output, g3.size, fun k hk hx => g3.block k hk (fun h => hx (List.mem_singleton.1 h))⟩
    · unfold FetchRet
      unfold SrcRet at g1
      show (match srcM M p with | none => _ | some b => _)
      cases hs : srcM M p with
      | none => rw [hs] at g1; exact g1
      | some b => rw [hs] at g1; exact g1
    · have := h4.ne_blk h1; simpa using fun e => this e.symm
    · have := h4.ne_blk h2; simpa using fun e => this e.symm

theorem getV_neq (W : World) (a : Nat) : (binOp BinOp.neq 80 (getV a) Value.nilFunc).run Try.prog W = .ok (.bool true) W := by kernel_rfl
set_option maxRecDepth 100000 in
set_option maxHeartbeats 4000000 in
theorem new_src (w : World) (a : Nat) : Calls Try.prog 12 #[getV a] w fun e w' => e = .returned (ptrV (some (w.heap.size + 1))) ∧ Blk w' w.heap.size 80 #[getV a] ∧ Blk w' (w.heap.size + 1) 86 (spCells ⟨fetchV w.heap.size, fun _ => false, fun _ => false, fun _ => false, fun _ => none⟩) ∧ Below w.heap.size w w' := by
  have hz := z86
  have hq := getV_neq
  have hmf : ∀ (fn : Fn) (first cap : Array Value) (w : World), (Instr.makeFunc fn first cap).run Try.prog w = .ok (.func fn first cap) w := fun _ _ _ _ => rfl
  have h1 : Hid (Blk (w.alloc (.cells #[getV a] 80)) w.heap.size 80 #[getV a]) := Lib.hid (Blk.new w 80 #[getV a])
  have hs : (w.alloc (.cells #[getV a] 80)).heap.size = w.heap.size + 1 := by simp
  have h2 := Lib.hid (Blk.new_ (g := w.heap.size + 1) (w.alloc (.cells #[getV a] 80)) 86 (spCells ⟨fetchV w.heap.size, fun _ => false, fun _ => false, fun _ => false, fun _ => none⟩) hs)
  have h3 := Lib.hid ((Below.refl w.heap.size w).alloc (Nat.le_refl _) (.cells #[getV a] 80))
  unfold getV fetchV at *
  go_enter Try.func12, Try.ntmps12
  go_wp2_with fail
  go_ret
  exact ⟨rfl, h1.out.alloc _, h2.out, h3.out.alloc (by omega) _⟩
end Go.Proofs.Ytbppafbdmdbdiaa

/-
  The function source: the pages of a source out of a list.
-/
namespace Go.Proofs.Ytbppafbdmdbdiaa
open Go.RowKit
set_option linter.unusedVariables false

abbrev Fl := UInt8 × ByteArray
/-- A slice of fills. -/
def RdF (w : World) (B : Nat) (v : Value) (l : List Fl) : Prop := ∃ A cap, v = .slice A l.length cap ∧ l.length ≤ maxLen ∧
  ∀ i (h : i < l.length), ∃ b o, A = some ⟨b, o, none⟩ ∧ b < B ∧ w.cell? ⟨b, o + i * 2, none⟩ = some (.int .u8 l[i].1.toNat) ∧ w.cell? ⟨b, o + i * 2 + 1, none⟩ = some (.string l[i].2) ∧ l[i].2.size ≤ maxLen
theorem RdF.below {w w' : World} {B : Nat} {v : Value} {l : List Fl} (h : RdF w B v l) (hb : Below B w w') : RdF w' B v l := by
  obtain ⟨A, cap, h1, h2, h3⟩ := h
  refine ⟨A, cap, h1, h2, fun i hi => ?_⟩
  obtain ⟨b, o, q1, q2, q3, q4, q5⟩ := h3 i hi
  exact ⟨b, o, q1, q2, (hb.cell (by exact q2)).trans q3, (hb.cell (by exact q2)).trans q4, q5⟩
def cutB (b : ByteArray) : ByteArray := b.extract 0 (min b.size 70)
def putF (m : List (Int × Value)) (x : Fl) : List (Int × Value) := mput ((x.1.toNat % 64 : Nat) : Int) (.string (cutB x.2)) m
def srcL (l : List Fl) : List (Int × Value) := (l.take 8).foldl putF []
theorem Strs.put {m : List (Int × Value)} (h : Strs m) (x : Fl) (hx : x.2.size ≤ maxLen) : Strs (putF m x) := fun y v hv => by
  unfold putF at hv
  rw [mget_mput] at hv
  split at hv
  · injection hv with hv
    subst hv
    refine ⟨_, rfl, ?_⟩
    unfold cutB
    rw [ByteArray.size_extract]
    omega
  · exact h y v hv
theorem strs_nil : Strs [] := fun y v hv => by rw [mget_nil] at hv; cases hv
theorem strs_srcL (l : List Fl) (hl : ∀ x ∈ l, x.2.size ≤ maxLen) : Strs (srcL l) := by
  unfold srcL
  have : ∀ (l : List Fl) (m : List (Int × Value)), (∀ x ∈ l, x.2.size ≤ maxLen) → Strs m → Strs (l.foldl putF m) := by
    intro l
    induction l with
    | nil => intro m _ h; exact h
    | cons x l ih => intro m hx h; exact ih _ (fun y hy => hx y (List.mem_cons_of_mem _ hy)) (h.put x (hx x List.mem_cons_self))
  exact this _ _ (fun x hx => hl x (List.mem_of_mem_take hx)) strs_nil
theorem srcL_step (l : List Fl) (k : Nat) (hk : k < l.length) : (l.take (k + 1)).foldl putF [] = putF ((l.take k).foldl putF []) l[k] := by
  rw [List.take_succ_eq_append_getElem hk, List.foldl_append]
  rfl

set_option maxRecDepth 100000 in
set_option maxHeartbeats 4000000 in
theorem source_any (w : World) (v : Value) (l : List Fl) (B : Nat) (hl : RdF w B v l) (hB : B ≤ w.heap.size) :
    Calls Try.prog 17 #[v] w fun e w' => e = .returned (.map (some w.heap.size)) ∧ MI w' w.heap.size (srcL l) ∧ Below w.heap.size w w' := by
  obtain ⟨A, cap, rfl, hlen, hcells⟩ := id hl
  obtain ⟨m, hm⟩ : ∃ m : Nat, m = min l.length 8 := ⟨_, rfl⟩
  have HC := Lib.hid hcells
  have HL := Lib.hid hl
  clear hcells hl
  unfold maxLen at hlen
  have hmm := @run_makeMap Try.prog
  have h0 : MI (w.alloc (.map #[] 0)) w.heap.size [] := MapIs.new w
  have hb0 : Below w.heap.size w (w.alloc (.map #[] 0)) := (Below.refl _ _).alloc (Nat.le_refl _) _
  have H0 := Lib.hid h0
  have HB0 := Lib.hid hb0
  clear h0 hb0
  go_enter Try.func17, Try.ntmps17
  go_wp2_with fail
  generalize w.alloc (.map #[] 0) = W at *
  clear hmm
  go_loopg [4] (m) (fun q iv wr => ∃ k : Nat, iv = .int .i64 k ∧ q = m - k ∧ k ≤ m ∧ MI wr w.heap.size ((l.take k).foldl putF []) ∧ Below w.heap.size w wr)
  case atStart => exact ⟨0, rfl, rfl, Nat.zero_le _, H0.out, HB0.out⟩
  case round =>
    obtain ⟨k, rfl, rfl, hk, hmi, hbl⟩ := hrel
    by_cases hlt : k < m
    · have i1 : (k : Int) < l.length := by omega
      have i2 : (k : Int) < 8 := by omega
      have hkl : k < l.length := by omega
      obtain ⟨b, o, rfl, hbB, hx1, hx2, hx3⟩ := HC.out k hkl
      have hst := srcL_step l k hkl
      generalize l[k] = x at *
      obtain ⟨x1, x2⟩ := x
      dsimp only at hx1 hx2 hx3
      have c1 : wr.cell? ⟨b, o + k * 2, none⟩ = some (.int .u8 x1.toNat) := (hbl.cell (by show b < _; omega)).trans hx1
      have c2 : wr.cell? ⟨b, o + k * 2 + 1, none⟩ = some (.string x2) := (hbl.cell (by show b < _; omega)).trans hx2
      have HST := Lib.hid hst
      have HMI := Lib.hid hmi.drew
      have HBL := Lib.hid hbl.drew
      have hwr : wr.drew.heap.size = wr.heap.size := rfl
      have c1d : wr.drew.cell? ⟨b, o + k * 2, none⟩ = some (.int .u8 x1.toNat) := c1
      have c2d : wr.drew.cell? ⟨b, o + k * 2 + 1, none⟩ = some (.string x2) := c2
      clear hst hmi hbl hx1 hx2 c1 c2
      obtain ⟨z, hz⟩ : ∃ z : Nat, z = x1.toNat % 64 := ⟨_, rfl⟩
      have hzx : x1.toNat < 256 := x1.toNat_lt
      have y1 : (x1.toNat : Int).tmod 64 = (z : Int) := by rw [Int.tmod_eq_emod_of_nonneg (by omega)]; omega
      have y2 : (x1.toNat : Int) % 64 = (z : Int) := by omega
      have hz64 : z < 64 := by omega
      obtain ⟨n, hn⟩ : ∃ n : Nat, n = min x2.size 70 := ⟨_, rfl⟩
      have y3 : (if (70 : Int) < (x2.size : Int) then (70 : Int) else (x2.size : Int)) = (n : Int) := by split <;> omega
      have y4 : (n : Int) ≤ (x2.size : Int) := by omega
      have y5 : n ≤ x2.size := by omega
      unfold maxLen at hx3
      have HZ := Lib.hid hz
      have HNN := Lib.hid hn
      clear hz hn y2
      go_wp2_with fail
      refine wp_region_mixL (fun W => W.cell? ⟨b, o + k * 2, none⟩ = some (.int .u8 x1.toNat) ∧ W.cell? ⟨b, o + k * 2 + 1, none⟩ = some (.string x2)) [0, 1, 2, 3, 4, 5, 6, 7, 8, 9, 10, 11, 12, 13, 14, 15, 16, 17, 18, 19, 20] [21] [0, 1, 2, 3, 4, 5, 6, 7, 8, 9, 10, 11, 12, 13, 14, 15, 16, 17, 18, 19, 20, 21] (by kernel_rfl) (by kernel_rfl) ⟨c1d, c2d⟩ ?_
      simp only [inOrder, opAt]
      generalize wr.drew = W0 at *
      iterate 21
        (refine wpMixS_read (v := ?_) rfl rfl (fun w' hS => ?_) ?_
         rotate_left
         · ((try (obtain ⟨s0, s1⟩ := hS rfl)); (try clear hS); go_simp; (try with_reducible rfl))
         try simp only [Act.put, List.setIfInBounds_toArray, List.set_cons_zero, List.set_cons_succ])
      have y6 : IntKind.i64.wrap (z : Int) = (z : Int) := IntWalk.i64_in _ (by omega)
      have hpg : Pg (z : Int) := by unfold Pg; omega
      obtain ⟨w3, hrun, hmi3, hfr3⟩ := run_update_map (P := Try.prog) keyI Try.underlying32 HMI.out (z : Int) hpg (.string (x2.extract 0 n))
      have hmi4 : MI w3 w.heap.size ((l.take (k + 1)).foldl putF []) := by
        rw [HST.out]
        unfold putF cutB
        rw [← HZ.out, ← HNN.out]
        exact hmi3
      have hbl4 : Below w.heap.size w w3 := HBL.out.trans (hfr3.below HBL.out.size (by simp))
      have HMI4 := Lib.hid hmi4
      have HBL4 := Lib.hid hbl4
      unfold encI at hrun
      clear hmi3 hfr3 hmi4 hbl4
      refine wpMixS_eff rfl rfl (fun K hK => ?_)
      go_simp
      refine hK.out _ _ _ (fun _ h => h) (fun h => by cases h) ?_
      clear hK K
      try simp only [Act.put, List.setIfInBounds_toArray, List.set_cons_zero, List.set_cons_succ]
      refine wpMixS_nil ?_
      go_wp2_with fail
      go_roundg (m - (k + 1))
      case measure => omega
      case rel => exact ⟨k + 1, by go_num, rfl, by omega, HMI4.out, HBL4.out⟩
    · obtain rfl : k = m := by omega
      have hfin : (l.take k).foldl putF [] = srcL l := by
        unfold srcL
        rw [hm]
        rcases Nat.le_total l.length 8 with h | h
        · rw [Nat.min_eq_left h, List.take_of_length_le (Nat.le_refl _), List.take_of_length_le h]
        · rw [Nat.min_eq_right h]
      rw [hfin] at hmi
      have HMI := Lib.hid hmi
      have HBL := Lib.hid hbl
      clear hfin hmi hbl
      by_cases h8 : k < l.length
      · have i1 : (k : Int) < l.length := by omega
        have i2 : decide ((k : Int) < 8) = false := decide_eq_false (by omega)
        go_wp2_with fail
        go_ret
        exact ⟨rfl, HMI.out, HBL.out⟩
      · have i1 : decide ((k : Int) < l.length) = false := decide_eq_false (by omega)
        go_wp2_with fail
        go_ret
        exact ⟨rfl, HMI.out, HBL.out⟩
end Go.Proofs.Ytbppafbdmdbdiaa
