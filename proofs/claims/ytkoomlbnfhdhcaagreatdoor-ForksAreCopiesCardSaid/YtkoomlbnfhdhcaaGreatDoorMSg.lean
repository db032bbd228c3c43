/-
  Walks: Pages.
-/
import Derived.Test.YtkoomlbnfhdhcaaGreatDoorMSf
import Derived.ChangeKeysEq
namespace Go.Proofs.YtkoomlbnfhdhcaaGreatDoor
open Go.RowKit
set_option linter.unusedVariables false

theorem info3 : (Tryz.prog.info? 3).map (fun i => (i.zero, i.size, i.bytes)) = some (some (.int .i64 0), 1, 8) := by kernel_rfl
def nums (l : List Nat) : List Value := l.map fun (p : Nat) => Value.int .i64 (p : Int)
theorem nums_append (l m : List Nat) : nums (l ++ m) = nums l ++ nums m := by simp [nums]
/-- The pages below k that are there. -/
def theres (x : AS) (k : Nat) : List Nat := (List.range k).filter fun p => (x.page p).isSome
theorem theres_need (x : AS) (k : Nat) : theres (needA x k) (k + 1) = theres x k ++ if ((needA x k).page k).isSome then [k] else [] := by
  unfold theres
  rw [List.range_succ, List.filter_append]
  congr 1
  · refine List.filter_congr fun p hp => ?_
    rw [needA_page_ne _ _ _ (by have := List.mem_range.1 hp; omega)]
  · by_cases h : ((needA x k).page k).isSome = true
    · rw [if_pos h]; simp [h]
    · rw [if_neg h]; simp only [Bool.not_eq_true] at h; simp [h]
theorem theres_le (x : AS) (k : Nat) : (theres x k).length ≤ k := by
  unfold theres
  exact Nat.le_trans (List.length_filter_le _ _) (by simp)
/-- A slice of numbers of the call's own. -/
def OwnInts (base : Nat) (l : List Nat) (e : Ending) (w : World) : Prop := ∃ OA oc, e = .returned (.slice OA l.length oc) ∧ w.ownsRow base 3 1 (.slice OA l.length oc) l.length (nums l)
theorem own_mv3 {w1 w2 : World} {B base n e : Nat} {X : Nat → Prop} {v : Value} {xs : List Value} (h : w1.ownsRow base e 1 v n xs) (he : e ≠ 98 ∧ e ≠ 125) (hm : Mv B X w1 w2) (hX : ∀ k, X k → k < base) : w2.ownsRow base e 1 v n xs := by
  refine ⟨h.1, ?_⟩
  rcases h.2 with h2 | ⟨g, cap, cur, hv, hg, hh, r⟩
  · exact .inl h2
  · exact .inr ⟨g, cap, cur, hv, hg, hm.blk hh he.1 he.2 (fun hx => by have := hX _ hx; omega), r⟩

section
variable {C : Source} {B : Nat} {w w' : World} {sps : Nat → Option Sp} {hm : Pages} {g : Nat} {s : Sp}
theorem All.below_own {base n e z : Nat} {v : Value} {xs : List Value} (h : All C B w sps hm) (ok : SourceOk C B) (hB : base ≤ w.heap.size) {w1 : World} (hown : w.ownsRow base e z v n xs) (ht : e = 5 ∨ e = 3 ∨ e = 148) (cs : Array Value)
    (hg : World.grownBy (w.alloc (.cells cs e)) w1 v.ownBlock) : All C B w1 sps hm ∧ Below base w w1 := by
  have hbel : Below w.heap.size w (w.alloc (.cells cs e)) := (Below.refl _ _).alloc (Nat.le_refl _) _
  have hA5 := h.below ok.keeps hbel
  refine ⟨hA5.rows ok.keeps hg (fun q hq => ?_), ((Below.refl _ _).alloc hB _).grown hg (by simp; omega) (fun q hq => (hown.lt q hq).1)⟩
  obtain ⟨cs2, hcs⟩ := own_blk (hown.alloc (.cells cs e)) q hq
  refine ⟨cs2, e, hcs, ?_⟩
  omega

set_option maxRecDepth 100000 in
set_option maxHeartbeats 8000000 in
theorem pages_all (ok : SourceOk C B) (h : All C B w sps hm) (hg : sps g = some s) (hB : B ≤ w.heap.size) (hX : ∀ k, C.X k → k < w.heap.size) :
    Calls Tryz.prog 51 #[.pointer (some ⟨g, 0, none⟩)] w fun e w' => OwnInts w.heap.size (theres (needUp 64 (view C hm s)) 64) e w' ∧ Stp C B sps hm g (needUp 64 (view C hm s)) w w' (fun _ _ => True) := by
  obtain ⟨i3, hi, hz0, hz1, hz2⟩ := info_parts info3
  obtain ⟨a, ha⟩ : ∃ a, a = view C hm s := ⟨_, rfl⟩
  rw [← ha]
  have HA := Lib.hid ha
  have H0 := Lib.hid h
  have HG := Lib.hid hg
  clear ha h hg
  go_enter Tryz.func51, Tryz.ntmps51
  go_wp2_with fail
  go_loopg [3, 5] 64 (fun q tv iv wr => ∃ (k : Nat) (OA : Option Addr) (oc : Nat) (s1 : Sp) (hm1 : Pages), iv = .int .i64 k ∧ q = 64 - k ∧ k ≤ 64 ∧ tv = .slice OA (theres (needUp k a) k).length oc ∧
    wr.ownsRow w.heap.size 3 1 (.slice OA (theres (needUp k a) k).length oc) (theres (needUp k a) k).length (nums (theres (needUp k a) k)) ∧
    All C B wr (upd sps g (some s1)) hm1 ∧ view C hm1 s1 = needUp k a ∧ (∀ k x, k ≠ g → sps k = some x → view C hm1 x = view C hm x) ∧ Mv B C.X w wr)
  case atStart =>
    refine ⟨0, none, 0, s, hm, rfl, rfl, by omega, rfl, World.ownsRow_nil _ _ _ _, ?_, HA.out.symm, fun _ _ _ _ => rfl, Mv.refl _ _ _⟩
    rw [upd_same sps g _ HG.out]
    exact H0.out
  case round =>
    obtain ⟨k, OA, oc, s1, hm1, rfl, rfl, hk, rfl, hown, hA1, hv1, ho1, hmv1⟩ := hrel
    have HOWN := Lib.hid hown
    have HA1 := Lib.hid hA1
    have HV1 := Lib.hid hv1
    have HO1 := Lib.hid ho1
    have HMV1 := Lib.hid hmv1
    have hsz1 := hmv1.size
    clear hown hA1 hv1 ho1 hmv1
    by_cases hlt : k < 64
    · have i1 : (k : Int) < 64 := by omega
      have hh : hasA (needUp k a) k = (needUp (k + 1) a, ((needUp (k + 1) a).page k).isSome) := by unfold hasA; rw [if_neg (by omega), Int.toNat_natCast]; rfl
      have HN := Lib.hid (has_all ok HA1.out (upd_at _ _ _) (k : Int) (by omega))
      have hth := theres_need (needUp k a) k
      have hle := theres_le (needUp k a) k
      have HH := Lib.hid hh
      have HTH := Lib.hid hth
      clear hh hth
      go_wp2_with fail
      refine HN.out.mono ?_
      rintro e w3 ⟨s3, hm3, hA3, hv3, ho3, hmv3, rfl⟩
      rw [upd_upd] at hA3
      rw [HV1.out, HH.out] at hv3 ⊢
      have hown3 := own_mv3 HOWN.out (by decide) hmv3 hX
      have hoth : ∀ k' x, k' ≠ g → sps k' = some x → view C hm3 x = view C hm x := fun k' x hne hx => (ho3 k' x hne (by rw [upd_ne _ _ _ _ hne]; exact hx)).trans (HO1.out k' x hne hx)
      have HA3 := Lib.hid hA3
      have HV3 := Lib.hid hv3
      have HOTH := Lib.hid hoth
      have HOWN3 := Lib.hid hown3
      have HMV3 := Lib.hid (HMV1.out.trans hmv3)
      have hsz3 := hmv3.size
      clear hA3 hv3 hoth hmv3 ho3 HN HOWN hown3
      dsimp only
      obtain ⟨L, hL⟩ : ∃ L, L = theres (needUp k a) k := ⟨_, rfl⟩
      have HL := Lib.hid hL
      rw [← hL] at HOWN3 hle ⊢
      clear hL
      cases hb : ((needUp (k + 1) a).page k).isSome with
      | false =>
        have hnx : theres (needUp (k + 1) a) (k + 1) = L := by
          rw [show needUp (k + 1) a = needA (needUp k a) k from rfl, HTH.out, HL.out]
          rw [show needUp (k + 1) a = needA (needUp k a) k from rfl] at hb
          rw [hb]
          simp
        have HNX := Lib.hid hnx
        clear hnx hb
        go_wp2_with fail
        go_roundg (64 - (k + 1))
        case measure => omega
        case rel => exact ⟨k + 1, OA, oc, s3, hm3, by go_num, rfl, by omega, by rw [HNX.out], by rw [HNX.out]; exact HOWN3.out, HA3.out, HV3.out, HOTH.out, HMV3.out⟩
      | true =>
        have hnx : theres (needUp (k + 1) a) (k + 1) = L ++ [k] := by
          rw [show needUp (k + 1) a = needA (needUp k a) k from rfl, HTH.out, HL.out]
          rw [show needUp (k + 1) a = needA (needUp k a) k from rfl] at hb
          rw [hb]
          simp
        have HNX := Lib.hid hnx
        clear hnx hb
        go_wp2_with (at_builtin; refine wpList_append_lies _ rfl (.tmp 11) (.tmp 13) _ rfl w.heap.size 3 i3 _ 1 8 Tryz.underlying34 hi hz0 hz1 hz2 rfl (by omega) (.slice OA L.length oc) L.length (nums L) rfl (HOWN3.out.alloc _) ⟨w3.heap.size, 0, none⟩ 1 1 [.int .i64 k] rfl rfl (World.news_of_block (t := 3) (fr := (0, 0)) (heap_alloc_new w3 _)) (by simp [Value.oneCell']) (by omega) (by unfold maxLen; omega) (by omega) (by simp; omega) (w3.heap.size + 1) (by simp) ?_; intro gg oc4 w4 hown4 hgrow4 hat4 hlt4)
        have h4 := HA3.out.below_own ok (by omega) HOWN3.out (.inr (.inl rfl)) _ hgrow4
        rw [show nums L ++ [.int .i64 k] = nums (L ++ [k]) by rw [nums_append]; rfl] at hown4
        have hmv4 := Mv.of_below_row HMV3.out h4.2
        go_roundg (64 - (k + 1))
        case measure => omega
        case rel => exact ⟨k + 1, _, _, s3, hm3, by go_num, rfl, by omega, by rw [HNX.out, List.length_append]; rfl, by rw [HNX.out, List.length_append]; exact hown4, h4.1, HV3.out, HOTH.out, hmv4⟩
    · obtain rfl : k = 64 := by omega
      have i1 : decide (((64 : Nat) : Int) < 64) = false := by decide
      go_wp2_with fail
      go_ret
      exact ⟨⟨OA, oc, rfl, HOWN.out⟩, s1, hm1, HA1.out, HV1.out, HO1.out, HMV1.out, trivial⟩
end
end Go.Proofs.YtkoomlbnfhdhcaaGreatDoor

/-
  Walks: Equal.
-/
namespace Go.Proofs.YtkoomlbnfhdhcaaGreatDoor
open Go.RowKit
set_option linter.unusedVariables false

theorem info5' : ∃ i, Tryz.prog.info? 5 = some i := by
  obtain ⟨i, hi, _⟩ := info_parts info5
  exact ⟨i, hi⟩
theorem cells5 : Tryz.prog.cellsOf 5 = 1 := by kernel_rfl
theorem plain5 : Tryz.prog.plainKey 5 = true := by kernel_rfl
theorem part5 (W : World) (b : List UInt8) (i : Nat) (hi : i < b.length) : (part 5 (bs b).toArray (i * 1)).run Tryz.prog W = .ok (.int .u8 (b.getD i 0).toNat) W := by
  refine run_part_plain W plain5 ?_
  rw [Nat.mul_one, List.getElem?_toArray, bs_get, List.getElem?_eq_getElem hi, List.getD_eq_getElem?_getD, List.getElem?_eq_getElem hi]
  rfl
theorem items89 (W : World) (d : Nat) (b c : List UInt8) (hb : b.length = 64) (hc : c.length = 64) : ∀ (is : List Nat), (∀ i ∈ is, i < 64) → (Op.eqItems (d + 1) 5 1 (bs b).toArray (bs c).toArray is).run Tryz.prog W = .ok (decide (∀ i ∈ is, b.getD i 0 = c.getD i 0)) W
  | [], _ => by simp [Op.eqItems]
  | i :: is, h => by
    have hi := h i List.mem_cons_self
    have ih := items89 W d b c hb hc is (fun j hj => h j (List.mem_cons_of_mem _ hj))
    have he : (Op.equalIn (d + 1) 5 (.int .u8 (b.getD i 0).toNat) (.int .u8 (c.getD i 0).toNat)).run Tryz.prog W = .ok (((b.getD i 0).toNat : Int) == ((c.getD i 0).toNat : Int)) W := by
      simp only [Op.equalIn, Sem.run_bind, run_underlying Tryz.underlying5, Result.andThen_ok]
      simp
    simp only [Op.eqItems, Sem.run_bind, part5 W b i (by omega), part5 W c i (by omega), he, Result.andThen_ok]
    by_cases e : b.getD i 0 = c.getD i 0
    · rw [e]
      simp only [beq_self_eq_true, Bool.not_true, Bool.false_eq_true, if_false, ih]
      refine congrArg (Result.ok · W) ?_
      exact decide_eq_decide.2 ⟨fun h j hj => (List.mem_cons.1 hj).elim (fun h2 => by rw [h2, e]) (fun h2 => h j h2), fun h j hj => h j (List.mem_cons_of_mem _ hj)⟩
    · have : (((b.getD i 0).toNat : Int) == ((c.getD i 0).toNat : Int)) = false := beq_eq_false_iff_ne.2 (fun h => e (UInt8.toNat_inj.1 (by omega)))
      rw [this]
      simp only [Bool.not_false, if_true, Sem.run_pure]
      refine congrArg (Result.ok · W) ?_
      exact (decide_eq_false (fun h => e (h i List.mem_cons_self))).symm
theorem eq_of_getD (b c : List UInt8) (hb : b.length = 64) (hc : c.length = 64) : (∀ i ∈ List.range 64, b.getD i 0 = c.getD i 0) ↔ b = c := by
  constructor
  · intro h
    refine List.ext_getElem (by omega) fun i h1 h2 => ?_
    have := h i (List.mem_range.2 (by omega))
    rw [List.getD_eq_getElem?_getD, List.getD_eq_getElem?_getD, List.getElem?_eq_getElem h1, List.getElem?_eq_getElem h2] at this
    exact this
  · rintro rfl i _; rfl
theorem neq89 (W : World) (b c : List UInt8) (hb : b.length = 64) (hc : c.length = 64) : (binOp .neq 123 (.agg (bs b).toArray) (.agg (bs c).toArray)).run Tryz.prog W = .ok (.bool (!decide (b = c))) W := by
  obtain ⟨i5, hi⟩ := info5'
  have h : ∀ d, (Op.equalIn (d + 2) 123 (.agg (bs b).toArray) (.agg (bs c).toArray)).run Tryz.prog W = .ok (decide (b = c)) W := fun d => by
    rw [run_equalIn_array W (d + 1) _ _ Tryz.underlying123 hi, cells5, items89 W d b c hb hc _ (fun i hi => List.mem_range.1 hi)]
    refine congrArg (Result.ok · W) ?_
    exact decide_eq_decide.2 (eq_of_getD b c hb hc)
  have h2 := h 9998
  simp only [Nat.reduceAdd] at h2
  rw [run_neq_struct, h2]
  rfl
theorem guard89 : Tryz.prog.eqGuardType Tryz.prog.depth 123 = false := by kernel_rfl
theorem info84 : (Tryz.prog.info? 96).map (·.size) = some 64 := by kernel_rfl

/-- Equal pages. -/
def eqUp (a b : AS) (k : Nat) : Bool := (List.range k).all fun p => decide (a.page p = b.page p)
def eqA (a b : AS) : Bool := eqUp a b 64
theorem eqUp_succ (a b : AS) (k : Nat) : eqUp a b (k + 1) = (eqUp a b k && decide (a.page k = b.page k)) := by
  unfold eqUp
  rw [List.range_succ, List.all_append]
  simp
theorem eqUp_false (a b : AS) (k n : Nat) (hk : k < n) (h : a.page k ≠ b.page k) : eqUp a b n = false := by
  unfold eqUp
  rw [List.all_eq_false]
  exact ⟨k, List.mem_range.2 hk, by simpa using h⟩
/-- The pages of a space as a row. -/
theorem row_range (W : World) (g : Nat) (s : Sp) (h : Blk W g 98 (spCells s)) : W.rangeAt g 193 (row ptrV s.pg) := fun j v hv => by
  have hj : j < 64 := by
    have := (List.getElem?_eq_some_iff.1 hv).1
    rw [row_length] at this
    exact this
  rw [h.cell, sp_pg s j hj, ← hv, row_get _ _ j hj]
end Go.Proofs.YtkoomlbnfhdhcaaGreatDoor

/-
  Walks: Equal.
-/
namespace Go.Proofs.YtkoomlbnfhdhcaaGreatDoor
open Go.RowKit
set_option linter.unusedVariables false

theorem info83 : (Tryz.prog.info? 95).map (·.size) = some 1 := by kernel_rfl
theorem info4 : (Tryz.prog.info? 4).map (·.size) = some 1 := by kernel_rfl
theorem idx_row (t e : TypeId) (d : TypeDesc) (R : Array Value) (k : Nat) (v : Value) (W : World) (hu : Tryz.prog.underlying t = some (.array 64 e)) (he : Tryz.prog.underlying e = some d) (hd : d.isRow = false) (hi : (Tryz.prog.info? e).map (·.size) = some 1) (hk : k < 64) (hv : R[k]? = some v) :
    (Instr.index t (.agg R) (.int .i64 (k : Int))).run Tryz.prog W = .ok v W := by
  have hp : (part e R k).run Tryz.prog W = .ok v W := by
    cases d <;> first | (simp at hd; done) | simp [part, isAgg, run_underlying he, hv]
  cases hq : Tryz.prog.info? e with
  | none => simp [hq] at hi
  | some i =>
    have hs : i.size = 1 := by simpa [hq] using hi
    unfold Instr.index
    simp [run_underlying hu, run_sizeOf W hq, asIntOf, hk, Program.cellsOf, hq, hs, hp]
theorem held_range (W : World) (r : Nat) (b : List UInt8) (sh : Bool) (h : Blk W r 125 (heldCells b sh)) : W.rangeAt r 0 (bs b) := fun j v hv => by
  rw [Nat.zero_add, h.cell]
  show (bs b ++ [Value.bool sh]).toArray[j]? = _
  rw [List.getElem?_toArray, List.getElem?_append_left (List.getElem?_eq_some_iff.1 hv).1]
  exact hv
/-- Two spaces behind a step. -/
def Stp2 (C : Source) (B : Nat) (sps : Nat → Option Sp) (hm : Pages) (g f : Nat) (a b : AS) (w w' : World) : Prop :=
  ∃ s1 c1 hm1, All C B w' (upd (upd sps g (some s1)) f (some c1)) hm1 ∧ view C hm1 s1 = a ∧ view C hm1 c1 = b ∧
    (∀ k' x, k' ≠ g → k' ≠ f → sps k' = some x → view C hm1 x = view C hm x) ∧ Mv B C.X w w'

section
variable {C : Source} {B : Nat} {w w' : World} {sps : Nat → Option Sp} {hm : Pages} {g f : Nat} {s o : Sp}
set_option maxRecDepth 100000 in
set_option maxHeartbeats 8000000 in
theorem equal_all (ok : SourceOk C B) (h : All C B w sps hm) (hg : sps g = some s) (hf : sps f = some o) (hgf : g ≠ f) (hB : B ≤ w.heap.size) (hX : ∀ k, C.X k → k < w.heap.size) :
    Calls Tryz.prog 18 #[.pointer (some ⟨g, 0, none⟩), .pointer (some ⟨f, 0, none⟩)] w fun e w' => e = .returned (.bool (eqA (needUp 64 (view C hm s)) (needUp 64 (view C hm o)))) ∧
      Stp2 C B sps hm g f (needUp 64 (view C hm s)) (needUp 64 (view C hm o)) w w' := by
  have hq := ptr23_some
  have HP := Lib.hid (pages_all ok h hg hB hX)
  have HF := Lib.hid hf
  obtain ⟨a, ha⟩ : ∃ a, a = view C hm s := ⟨_, rfl⟩
  obtain ⟨b, hb⟩ : ∃ b, b = view C hm o := ⟨_, rfl⟩
  rw [← ha] at HP ⊢
  rw [← hb]
  have HBV := Lib.hid hb
  clear ha hb h hg hf
  go_enter Tryz.func18, Tryz.ntmps18
  go_wp2_with fail
  refine HP.out.mono ?_
  rintro e w1 ⟨⟨OA, oc, rfl, _⟩, s1, hm1, hA1, hv1, ho1, hmv1, _⟩
  have hf1 : upd sps g (some s1) f = some o := by rw [upd_ne _ _ _ _ (fun e => hgf e.symm)]; exact HF.out
  have hsz1 := hmv1.size
  have HP2 := Lib.hid (pages_all ok hA1 hf1 (Nat.le_trans hB hsz1) (fun k hk => Nat.lt_of_lt_of_le (hX k hk) hsz1))
  rw [ho1 f o (fun e => hgf e.symm) HF.out, ← HBV.out] at HP2
  have HV1 := Lib.hid hv1
  have HO1 := Lib.hid ho1
  have HMV1 := Lib.hid hmv1
  clear hA1 hf1 hv1 ho1 hmv1 HP
  dsimp only
  go_wp2_with fail
  refine HP2.out.mono ?_
  rintro e w2 ⟨⟨OA2, oc2, rfl, _⟩, c2, hm2, hA2, hv2, ho2, hmv2, _⟩
  have hg2 : upd (upd sps g (some s1)) f (some c2) g = some s1 := by rw [upd_ne _ _ _ _ hgf, upd_at]
  have hs2 : view C hm2 s1 = needUp 64 a := (ho2 g s1 hgf (upd_at _ _ _)).trans HV1.out
  have hoth : ∀ k' x, k' ≠ g → k' ≠ f → sps k' = some x → view C hm2 x = view C hm x := fun k' x h1 h2 hx => (ho2 k' x h2 (by rw [upd_ne _ _ _ _ h1]; exact hx)).trans (HO1.out k' x h1 hx)
  have hmv := HMV1.out.trans hmv2
  have HA2 := Lib.hid hA2
  have HV2 := Lib.hid hv2
  have HS2 := Lib.hid hs2
  have HOTH := Lib.hid hoth
  have HMV := Lib.hid hmv
  have HG2 := Lib.hid hg2
  have hrow := Lib.hid (row_range w2 g s1 (hA2.blk g s1 hg2).1)
  clear hA2 hv2 ho2 hmv2 hs2 hoth hmv hg2 HV1 HO1 HMV1 HP2
  dsimp only
  go_wp2_with (with_reducible refine wpList_load_mid rfl 96 (.tmp 26) rfl g 193 rfl (row ptrV s1.pg) _ hrow.out Tryz.underlying96 rfl (by rw [row_length]; exact info84) ?_)
  have hR : ∀ k, k < 64 → (row ptrV s1.pg).toArray[k]? = some (ptrV (s1.pg k)) := fun k hk => by rw [List.getElem?_toArray, row_get _ _ k hk]
  generalize (row ptrV s1.pg).toArray = R at *
  have HR := Lib.hid hR
  clear hR hrow
  go_loopg [28] 64 (fun q iv wr => ∃ k : Nat, iv = .int .i64 k ∧ q = 64 - k ∧ k ≤ 64 ∧ eqUp (needUp 64 a) (needUp 64 b) k = true ∧ All C B wr (upd (upd sps g (some s1)) f (some c2)) hm2 ∧ Mv B C.X w wr)
  case atStart => exact ⟨0, rfl, rfl, by omega, rfl, HA2.out, HMV.out⟩
  case round =>
    obtain ⟨k, rfl, rfl, hk, heq, hA3, hmv3⟩ := hrel
    have HEQ := Lib.hid heq
    have HA3 := Lib.hid hA3
    have HMV3 := Lib.hid hmv3
    clear heq hA3 hmv3
    by_cases hlt : k < 64
    · have i1 : (k : Int) < 64 := by omega
      have i0 : (0 : Int) ≤ (k : Int) := by omega
      have hsu := eqUp_succ (needUp 64 a) (needUp 64 b) k
      rw [HEQ.out] at hsu
      have pa : (needUp 64 a).page k = pageOf hm2 (s1.pg k) := by rw [← HS2.out]; rfl
      have pb : (needUp 64 b).page k = pageOf hm2 (c2.pg k) := by rw [← HV2.out]; rfl
      rw [pa, pb] at hsu
      have hbad : pageOf hm2 (s1.pg k) ≠ pageOf hm2 (c2.pg k) → eqA (needUp 64 a) (needUp 64 b) = false := fun h => eqUp_false _ _ k 64 hlt (by rw [pa, pb]; exact h)
      have HSU := Lib.hid hsu
      have HBAD := Lib.hid hbad
      have c0 := HR.out k hlt
      have hbf := (HA3.out.blk f c2 (upd_at _ _ _)).1
      have k2 : wr.cell? ⟨f, 193 + k, none⟩ = some (ptrV (c2.pg k)) := by rw [hbf.cell, sp_pg c2 k hlt]
      have zf := hbf.lt
      have hq2 := ptr_eql2
      have hq3 := nil_eql
      have hq4 := ptr_neq2
      have hq5 := nil_neq
      clear hsu hbad pa pb hbf
      have hix := fun W => idx_row 96 95 _ R k _ W Tryz.underlying96 Tryz.underlying95 rfl info83 hlt c0
      clear c0
      cases h1 : s1.pg k with
      | none =>
        rw [h1] at hix HSU HBAD
        cases h2 : c2.pg k with
        | none =>
          rw [h2] at k2 HSU HBAD
          unfold ptrV at hix k2
          simp only [Option.map_none] at hix k2
          clear h1 h2
          go_wp2_with fail
          have HA4 := Lib.hid (HA3.out.below ok.keeps (Below.refl wr.heap.size wr).drew)
          have HMV4 : Hid (Mv B C.X w wr.drew) := Lib.hid HMV3.out.drew
          refine wp_region_mixL (fun _ => True) [0, 1, 2, 3, 4, 5, 6, 7, 8, 9, 10, 11, 12, 13, 14, 15, 16, 17, 18, 19] [] [0, 1, 2, 3, 4, 5, 6, 7, 8, 9, 10, 11, 12, 13, 14, 15, 16, 17, 18, 19] (by kernel_rfl) (by kernel_rfl) trivial ?_
          simp only [inOrder, opAt]
          generalize wr.drew = W3 at *
          iterate 9
            (refine wpMixS_read (v := ?_) rfl rfl (fun w' hS => ?_) ?_
             rotate_left
             · ((try clear hS); go_simp; (try with_reducible rfl))
             try simp only [Act.put, List.setIfInBounds_toArray, List.set_cons_zero, List.set_cons_succ])
          iterate 9
            (refine wpMixS_skip rfl rfl ?_
             try simp only [Act.put, List.setIfInBounds_toArray, List.set_cons_zero, List.set_cons_succ])
          iterate 2
            (refine wpMixS_read (v := ?_) rfl rfl (fun w' hS => ?_) ?_
             rotate_left
             · ((try clear hS); go_simp; (try with_reducible rfl))
             try simp only [Act.put, List.setIfInBounds_toArray, List.set_cons_zero, List.set_cons_succ])
          refine wpMixS_nil ?_
          go_wp2_with fail
          go_roundg (64 - (k + 1))
          case measure => omega
          case rel => exact ⟨k + 1, by go_num, rfl, by omega, by rw [HSU.out]; simp, HA4.out, HMV4.out⟩
        | some r2 =>
          obtain ⟨⟨b2, sh2⟩, hm2'⟩ := HA3.out.ref f c2 (upd_at _ _ _) k r2 h2
          have hp2 : pageOf hm2 (some r2) = some b2 := by show (hm2 r2).map _ = _; rw [hm2']; rfl
          rw [h2] at k2 HSU HBAD
          rw [hp2] at HSU HBAD
          unfold ptrV at hix k2
          simp only [Option.map_none, Option.map_some] at hix k2
          clear h1 h2 hm2' hp2
          go_wp2_with fail
          have HA4 := Lib.hid (HA3.out.below ok.keeps (Below.refl wr.heap.size wr).drew)
          have HMV4 : Hid (Mv B C.X w wr.drew) := Lib.hid HMV3.out.drew
          refine wp_region_mixL (fun _ => True) [0, 1, 2, 3, 4, 5, 6, 7, 8, 9, 10, 11, 12, 13, 14, 15, 16, 17, 18, 19] [] [0, 1, 2, 3, 4, 5, 6, 7, 8, 9, 10, 11, 12, 13, 14, 15, 16, 17, 18, 19] (by kernel_rfl) (by kernel_rfl) trivial ?_
          simp only [inOrder, opAt]
          generalize wr.drew = W3 at *
          iterate 6
            (refine wpMixS_read (v := ?_) rfl rfl (fun w' hS => ?_) ?_
             rotate_left
             · ((try clear hS); go_simp; (try with_reducible rfl))
             try simp only [Act.put, List.setIfInBounds_toArray, List.set_cons_zero, List.set_cons_succ])
          iterate 13
            (refine wpMixS_skip rfl rfl ?_
             try simp only [Act.put, List.setIfInBounds_toArray, List.set_cons_zero, List.set_cons_succ])
          iterate 1
            (refine wpMixS_read (v := ?_) rfl rfl (fun w' hS => ?_) ?_
             rotate_left
             · ((try clear hS); go_simp; (try with_reducible rfl))
             try simp only [Act.put, List.setIfInBounds_toArray, List.set_cons_zero, List.set_cons_succ])
          refine wpMixS_nil ?_
          go_wp2_with fail
          go_ret
          exact ⟨by rw [HBAD.out (by show (none : Option (List UInt8)) ≠ some b2; simp)]; rfl, s1, c2, hm2, HA4.out, HS2.out, HV2.out, HOTH.out, HMV4.out⟩
      | some r1 =>
        obtain ⟨⟨b1, sh1⟩, hm1'⟩ := HA3.out.ref g s1 HG2.out k r1 h1
        have hp1 : pageOf hm2 (some r1) = some b1 := by show (hm2 r1).map _ = _; rw [hm1']; rfl
        rw [h1] at hix HSU HBAD
        rw [hp1] at HSU HBAD
        cases h2 : c2.pg k with
        | none =>
          rw [h2] at k2 HSU HBAD
          unfold ptrV at hix k2
          simp only [Option.map_none, Option.map_some] at hix k2
          clear h1 h2 hm1' hp1
          go_wp2_with fail
          have HA4 := Lib.hid (HA3.out.below ok.keeps (Below.refl wr.heap.size wr).drew)
          have HMV4 : Hid (Mv B C.X w wr.drew) := Lib.hid HMV3.out.drew
          refine wp_region_mixL (fun _ => True) [0, 1, 2, 3, 4, 5, 6, 7, 8, 9, 10, 11, 12, 13, 14, 15, 16, 17, 18, 19] [] [0, 1, 2, 3, 4, 5, 6, 7, 8, 9, 10, 11, 12, 13, 14, 15, 16, 17, 18, 19] (by kernel_rfl) (by kernel_rfl) trivial ?_
          simp only [inOrder, opAt]
          generalize wr.drew = W3 at *
          iterate 6
            (refine wpMixS_read (v := ?_) rfl rfl (fun w' hS => ?_) ?_
             rotate_left
             · ((try clear hS); go_simp; (try with_reducible rfl))
             try simp only [Act.put, List.setIfInBounds_toArray, List.set_cons_zero, List.set_cons_succ])
          iterate 13
            (refine wpMixS_skip rfl rfl ?_
             try simp only [Act.put, List.setIfInBounds_toArray, List.set_cons_zero, List.set_cons_succ])
          iterate 1
            (refine wpMixS_read (v := ?_) rfl rfl (fun w' hS => ?_) ?_
             rotate_left
             · ((try clear hS); go_simp; (try with_reducible rfl))
             try simp only [Act.put, List.setIfInBounds_toArray, List.set_cons_zero, List.set_cons_succ])
          refine wpMixS_nil ?_
          go_wp2_with fail
          go_ret
          exact ⟨by rw [HBAD.out (by show some b1 ≠ (none : Option (List UInt8)); simp)]; rfl, s1, c2, hm2, HA4.out, HS2.out, HV2.out, HOTH.out, HMV4.out⟩
        | some r2 =>
          obtain ⟨⟨b2, sh2⟩, hm2'⟩ := HA3.out.ref f c2 (upd_at _ _ _) k r2 h2
          have hp2 : pageOf hm2 (some r2) = some b2 := by show (hm2 r2).map _ = _; rw [hm2']; rfl
          rw [h2] at k2 HSU HBAD
          rw [hp2] at HSU HBAD
          obtain ⟨hl1, hb1, _⟩ := HA3.out.mem r1 b1 sh1 hm1'
          obtain ⟨hl2, hb2, _⟩ := HA3.out.mem r2 b2 sh2 hm2'
          have hr1 := Lib.hid (held_range wr r1 b1 sh1 hb1)
          have hr2 := Lib.hid (held_range wr r2 b2 sh2 hb2)
          have hl1' := Lib.hid hl1
          have hl2' := Lib.hid hl2
          have hnq := fun W => neq89 W b1 b2 hl1 hl2
          have hg89 := guard89
          unfold ptrV at hix k2
          simp only [Option.map_some] at hix k2
          clear h1 h2 hm1' hp1 hm2' hp2 hb1 hb2 hl1 hl2
          go_wp2_with fail
          have HA4 := Lib.hid (HA3.out.below ok.keeps (Below.refl wr.heap.size wr).drew)
          have HMV4 : Hid (Mv B C.X w wr.drew) := Lib.hid HMV3.out.drew
          obtain ⟨d, hd⟩ : ∃ d : Bool, d = decide (b1 = b2) := ⟨_, rfl⟩
          rw [← hd] at hnq
          have HD := Lib.hid hd
          clear hd
          refine wp_region_mixL (fun W => W.rangeAt r1 0 (bs b1) ∧ W.rangeAt r2 0 (bs b2)) [0, 1, 2, 3, 4, 5, 6, 7, 8, 9, 10, 11, 12, 13, 14, 15, 16, 17, 18, 19] [] [0, 1, 2, 3, 4, 5, 6, 7, 8, 9, 10, 11, 12, 13, 14, 15, 16, 17, 18, 19] (by kernel_rfl) (by kernel_rfl) ⟨hr1.out, hr2.out⟩ ?_
          simp only [inOrder, opAt]
          generalize wr.drew = W3 at *
          iterate 12
            (refine wpMixS_read (v := ?_) rfl rfl (fun w' hS => ?_) ?_
             rotate_left
             · ((try clear hS); go_simp; (try with_reducible rfl))
             try simp only [Act.put, List.setIfInBounds_toArray, List.set_cons_zero, List.set_cons_succ])
          refine wpMixS_row rfl rfl 123 _ rfl r1 0 rfl (bs b1) _ (fun w' hS => (hS rfl).1) Tryz.underlying123 rfl (by rw [bs_length, hl1'.out]; exact info89) ?_
          try simp only [Act.put, List.setIfInBounds_toArray, List.set_cons_zero, List.set_cons_succ]
          iterate 3
            (refine wpMixS_read (v := ?_) rfl rfl (fun w' hS => ?_) ?_
             rotate_left
             · ((try clear hS); go_simp; (try with_reducible rfl))
             try simp only [Act.put, List.setIfInBounds_toArray, List.set_cons_zero, List.set_cons_succ])
          refine wpMixS_row rfl rfl 123 _ rfl r2 0 rfl (bs b2) _ (fun w' hS => (hS rfl).2) Tryz.underlying123 rfl (by rw [bs_length, hl2'.out]; exact info89) ?_
          try simp only [Act.put, List.setIfInBounds_toArray, List.set_cons_zero, List.set_cons_succ]
          iterate 3
            (refine wpMixS_read (v := ?_) rfl rfl (fun w' hS => ?_) ?_
             rotate_left
             · ((try clear hS); go_simp; (try with_reducible rfl))
             try simp only [Act.put, List.setIfInBounds_toArray, List.set_cons_zero, List.set_cons_succ])
          refine wpMixS_nil ?_
          cases d with
          | true =>
            have hbb : b1 = b2 := of_decide_eq_true HD.out.symm
            go_wp2_with fail
            go_roundg (64 - (k + 1))
            case measure => omega
            case rel => exact ⟨k + 1, by go_num, rfl, by omega, by rw [HSU.out, hbb]; simp, HA4.out, HMV4.out⟩
          | false =>
            have hbb : some b1 ≠ some b2 := fun h => of_decide_eq_false HD.out.symm (by injection h)
            have hfin := HBAD.out hbb
            go_wp2_with fail
            go_ret
            exact ⟨by rw [hfin]; rfl, s1, c2, hm2, HA4.out, HS2.out, HV2.out, HOTH.out, HMV4.out⟩
    · obtain rfl : k = 64 := by omega
      have i1 : decide (((64 : Nat) : Int) < 64) = false := by decide
      have hfin : eqA (needUp 64 a) (needUp 64 b) = true := HEQ.out
      go_wp2_with fail
      go_ret
      exact ⟨by rw [hfin]; rfl, s1, c2, hm2, HA3.out, HS2.out, HV2.out, HOTH.out, HMV3.out⟩
end
end Go.Proofs.YtkoomlbnfhdhcaaGreatDoor

/-
  Walks: Changes, Asked.
-/
namespace Go.Proofs.YtkoomlbnfhdhcaaGreatDoor
open Go.RowKit
set_option linter.unusedVariables false

abbrev Ch := Nat × Option (List UInt8)
def chCells (c : Ch) : List Value := match c.2 with
  | some b => [.int .i64 (c.1 : Int), .string ⟨b.toArray⟩, .bool false]
  | none => [.int .i64 (c.1 : Int), .string ⟨#[]⟩, .bool true]
theorem chCells_length (c : Ch) : (chCells c).length = 3 := by unfold chCells; split <;> rfl
def chVals (l : List Ch) : List Value := l.flatMap chCells
theorem chVals_append (l m : List Ch) : chVals (l ++ m) = chVals l ++ chVals m := by simp [chVals]
/-- The pages below k that have changed. -/
def chL (a : AS) (k : Nat) : List Ch := ((List.range k).filter fun p => a.changed p).map fun p => (p, a.page p)
theorem chL_succ (a : AS) (k : Nat) : chL a (k + 1) = chL a k ++ if a.changed k = true then [(k, a.page k)] else [] := by
  unfold chL
  rw [List.range_succ, List.filter_append, List.map_append]
  congr 1
  by_cases h : a.changed k = true
  · rw [if_pos h]; simp [h]
  · rw [if_neg h]; simp only [Bool.not_eq_true] at h; simp [h]
theorem chL_le (a : AS) (k : Nat) : (chL a k).length ≤ k := by
  unfold chL
  rw [List.length_map]
  exact Nat.le_trans (List.length_filter_le _ _) (by simp)
theorem info82 : (Tryz.prog.info? 94).map (·.size) = some 64 := by kernel_rfl
theorem changed_range (W : World) (g : Nat) (s : Sp) (h : Blk W g 98 (spCells s)) : W.rangeAt g 129 (row .bool s.changed) := fun j v hv => by
  have hj : j < 64 := by
    have := (List.getElem?_eq_some_iff.1 hv).1
    rw [row_length] at this
    exact this
  rw [h.cell, sp_changed s j hj, ← hv, row_get _ _ j hj]
theorem asked_range (W : World) (g : Nat) (s : Sp) (h : Blk W g 98 (spCells s)) : W.rangeAt g 65 (row .bool s.asked) := fun j v hv => by
  have hj : j < 64 := by
    have := (List.getElem?_eq_some_iff.1 hv).1
    rw [row_length] at this
    exact this
  rw [h.cell, sp_asked s j hj, ← hv, row_get _ _ j hj]
/-- A slice of changes of the call's own. -/
def OwnChs (base : Nat) (l : List Ch) (e : Ending) (w : World) : Prop := ∃ OA oc, e = .returned (.slice OA l.length oc) ∧ w.ownsRow base 148 3 (.slice OA l.length oc) l.length (chVals l)

section
variable {C : Source} {B : Nat} {w w' : World} {sps : Nat → Option Sp} {hm : Pages} {g : Nat} {s : Sp}
/-- The pages below k that have been asked for. -/
def askL (a : AS) (k : Nat) : List Nat := (List.range k).filter fun p => a.asked p
theorem askL_succ (a : AS) (k : Nat) : askL a (k + 1) = askL a k ++ if a.asked k = true then [k] else [] := by
  unfold askL
  rw [List.range_succ, List.filter_append]
  congr 1
  by_cases h : a.asked k = true
  · rw [if_pos h]; simp [h]
  · rw [if_neg h]; simp only [Bool.not_eq_true] at h; simp [h]
theorem askL_le (a : AS) (k : Nat) : (askL a k).length ≤ k := by
  unfold askL
  exact Nat.le_trans (List.length_filter_le _ _) (by simp)
end
end Go.Proofs.YtkoomlbnfhdhcaaGreatDoor
