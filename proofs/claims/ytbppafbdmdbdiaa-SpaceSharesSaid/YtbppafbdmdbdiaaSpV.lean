/-
  Walks: Pages.
-/
import Derived.Test.YtbppafbdmdbdiaaSpU
namespace Go.Proofs.Ytbppafbdmdbdiaa
open Go.RowKit
set_option linter.unusedVariables false

theorem info3 : (Try.prog.info? 3).map (fun i => (i.zero, i.size, i.bytes)) = some (some (.int .i64 0), 1, 8) := by kernel_rfl
def nums (l : List Nat) : List Value := l.map fun (p : Nat) => Value.int .i64 (p : Int)
theorem nums_append (l m : List Nat) : nums (l ++ m) = nums l ++ nums m := by simp [nums]
/-- The pages below k that are there. -/
def theres (x : AS) (k : Nat) : List Nat := (List.range k).filter fun p => (x.page p).isSome
theorem theres_need (x : AS) (k : Nat) : theres (needA x k) (k + 1) = theres x k ++ if ((needA x k).page k).isSome then [k] else [] := by
  unfold theres
  rw [List.range_succ, List.filter_append]
  congr 1
  · refine List.filter_congr fun p hp => ?_
    rw [needA_page_ne _ _ _ (by have := List.mem_range.1 hp; omega)]
  · by_cases h : ((needA x k).page k).isSome = true
    · rw [if_pos h]; simp [h]
    · rw [if_neg h]; simp only [Bool.not_eq_true] at h; simp [h]
theorem theres_le (x : AS) (k : Nat) : (theres x k).length ≤ k := by
  unfold theres
  exact Nat.le_trans (List.length_filter_le _ _) (by simp)
/-- A slice of numbers of the call's own. -/
def OwnInts (base : Nat) (l : List Nat) (e : Ending) (w : World) : Prop := ∃ OA oc, e = .returned (.slice OA l.length oc) ∧ w.ownsRow base 3 1 (.slice OA l.length oc) l.length (nums l)
theorem own_mv3 {w1 w2 : World} {B base n e : Nat} {X : Nat → Prop} {v : Value} {xs : List Value} (h : w1.ownsRow base e 1 v n xs) (he : e ≠ 86 ∧ e ≠ 91) (hm : Mv B X w1 w2) (hX : ∀ k, X k → k < base) : w2.ownsRow base e 1 v n xs := by
  refine ⟨h.1, ?_⟩
  rcases h.2 with h2 | ⟨g, cap, cur, hv, hg, hh, r⟩
  · exact .inl h2
  · exact .inr ⟨g, cap, cur, hv, hg, hm.blk hh he.1 he.2 (fun hx => by have := hX _ hx; omega), r⟩

section
variable {C : Source} {B : Nat} {w w' : World} {sps : Nat → Option Sp} {hm : Pages} {g : Nat} {s : Sp}
theorem All.below_own {base n e z : Nat} {v : Value} {xs : List Value} (h : All C B w sps hm) (ok : SourceOk C B) (hB : base ≤ w.heap.size) {w1 : World} (hown : w.ownsRow base e z v n xs) (ht : e = 5 ∨ e = 3 ∨ e = 96) (cs : Array Value)
    (hg : World.grownBy (w.alloc (.cells cs e)) w1 v.ownBlock) : All C B w1 sps hm ∧ Below base w w1 := by
  have hbel : Below w.heap.size w (w.alloc (.cells cs e)) := (Below.refl _ _).alloc (Nat.le_refl _) _
  have hA5 := h.below ok.keeps hbel
  refine ⟨hA5.rows ok.keeps hg (fun q hq => ?_), ((Below.refl _ _).alloc hB _).grown hg (by simp; omega) (fun q hq => (hown.lt q hq).1)⟩
  obtain ⟨cs2, hcs⟩ := own_blk (hown.alloc (.cells cs e)) q hq
  refine ⟨cs2, e, hcs, ?_⟩
  omega

set_option maxRecDepth 100000 in
set_option maxHeartbeats 8000000 in
theorem pages_all (ok : SourceOk C B) (h : All C B w sps hm) (hg : sps g = some s) (hB : B ≤ w.heap.size) (hX : ∀ k, C.X k → k < w.heap.size) :
    Calls Try.prog 34 #[.pointer (some ⟨g, 0, none⟩)] w fun e w' => OwnInts w.heap.size (theres (needUp 64 (view C hm s)) 64) e w' ∧ Stp C B sps hm g (needUp 64 (view C hm s)) w w' (fun _ _ => True) := by
  obtain ⟨i3, hi, hz0, hz1, hz2⟩ := info_parts info3
  obtain ⟨a, ha⟩ : ∃ a, a = view C hm s := ⟨_, rfl⟩
  rw [← ha]
  have HA := Lib.hid ha
  have H0 := Lib.hid h
  have HG := Lib.hid hg
  clear ha h hg
  go_enter Try.func34, Try.ntmps34
  go_wp2_with fail
  go_loopg [3, 5] 64 (fun q tv iv wr => ∃ (k : Nat) (OA : Option Addr) (oc : Nat) (s1 : Sp) (hm1 : Pages), iv = .int .i64 k ∧ q = 64 - k ∧ k ≤ 64 ∧ tv = .slice OA (theres (needUp k a) k).length oc ∧
    wr.ownsRow w.heap.size 3 1 (.slice OA (theres (needUp k a) k).length oc) (theres (needUp k a) k).length (nums (theres (needUp k a) k)) ∧
    All C B wr (upd sps g (some s1)) hm1 ∧ view C hm1 s1 = needUp k a ∧ (∀ k x, k ≠ g → sps k = some x → view C hm1 x = view C hm x) ∧ Mv B C.X w wr)
  case atStart =>
    refine ⟨0, none, 0, s, hm, rfl, rfl, by omega, rfl, World.ownsRow_nil _ _ _ _, ?_, HA.out.symm, fun _ _ _ _ => rfl, Mv.refl _ _ _⟩
    rw [upd_same sps g _ HG.out]
    exact H0.out
  case round =>
    obtain ⟨k, OA, oc, s1, hm1, rfl, rfl, hk, rfl, hown, hA1, hv1, ho1, hmv1⟩ := hrel
    have HOWN := Lib.hid hown
    have HA1 := Lib.hid hA1
    have HV1 := Lib.hid hv1
    have HO1 := Lib.hid ho1
    have HMV1 := Lib.hid hmv1
    have hsz1 := hmv1.size
    clear hown hA1 hv1 ho1 hmv1
    by_cases hlt : k < 64
    · have i1 : (k : Int) < 64 := by omega
      have hh : hasA (needUp k a) k = (needUp (k + 1) a, ((needUp (k + 1) a).page k).isSome) := by unfold hasA; rw [if_neg (by omega), Int.toNat_natCast]; rfl
      have HN := Lib.hid (has_all ok HA1.out (upd_at _ _ _) (k : Int) (by omega))
      have hth := theres_need (needUp k a) k
      have hle := theres_le (needUp k a) k
      have HH := Lib.hid hh
      have HTH := Lib.hid hth
      clear hh hth
      go_wp2_with fail
      refine HN.out.mono ?_
      rintro e w3 ⟨s3, hm3, hA3, hv3, ho3, hmv3, rfl⟩
      rw [upd_upd] at hA3
      rw [HV1.out, HH.out] at hv3 ⊢
      have hown3 := own_mv3 HOWN.out (by decide) hmv3 hX
      have hoth : ∀ k' x, k' ≠ g → sps k' = some x → view C hm3 x = view C hm x := fun k' x hne hx => (ho3 k' x hne (by rw [upd_ne _ _ _ _ hne]; exact hx)).trans (HO1.out k' x hne hx)
      have HA3 := Lib.hid hA3
      have HV3 := Lib.hid hv3
      have HOTH := Lib.hid hoth
      have HOWN3 := Lib.hid hown3
      have HMV3 := Lib.hid (HMV1.out.trans hmv3)
      have hsz3 := hmv3.size
      clear hA3 hv3 hoth hmv3 ho3 HN HOWN hown3
      dsimp only
      obtain ⟨L, hL⟩ : ∃ L, L = theres (needUp k a) k := ⟨_, rfl⟩
      have HL := Lib.hid hL
      rw [← hL] at HOWN3 hle ⊢
      clear hL
      cases hb : ((needUp (k + 1) a).page k).isSome with
      | false =>
        have hnx : theres (needUp (k + 1) a) (k + 1) = L := by
          rw [show needUp (k + 1) a = needA (needUp k a) k from rfl, HTH.out, HL.out]
          rw [show needUp (k + 1) a = needA (needUp k a) k from rfl] at hb
          rw [hb]
          simp
        have HNX := Lib.hid hnx
        clear hnx hb
        go_wp2_with fail
        go_roundg (64 - (k + 1))
        case measure => omega
        case rel => exact ⟨k + 1, OA, oc, s3, hm3, by go_num, rfl, by omega, by rw [HNX.out], by rw [HNX.out]; exact HOWN3.out, HA3.out, HV3.out, HOTH.out, HMV3.out⟩
      | true =>
        have hnx : theres (needUp (k + 1) a) (k + 1) = L ++ [k] := by
          rw [show needUp (k + 1) a = needA (needUp k a) k from rfl, HTH.out, HL.out]
          rw [show needUp (k + 1) a = needA (needUp k a) k from rfl] at hb
          rw [hb]
          simp
        have HNX := Lib.hid hnx
        clear hnx hb
        go_wp2_with (at_builtin; refine wpList_append_lies _ rfl (.tmp 11) (.tmp 13) _ rfl w.heap.size 3 i3 _ 1 8 Try.underlying56 hi hz0 hz1 hz2 rfl (by omega) (.slice OA L.length oc) L.length (nums L) rfl (HOWN3.out.alloc _) ⟨w3.heap.size, 0, none⟩ 1 1 [.int .i64 k] rfl rfl (World.news_of_block (t := 3) (fr := (0, 0)) (heap_alloc_new w3 _)) (by simp [Value.oneCell']) (by omega) (by unfold maxLen; omega) (by omega) (by simp; omega) (w3.heap.size + 1) (by simp) ?_; intro gg oc4 w4 hown4 hgrow4 hat4 hlt4)
        have h4 := HA3.out.below_own ok (by omega) HOWN3.out (.inr (.inl rfl)) _ hgrow4
        rw [show nums L ++ [.int .i64 k] = nums (L ++ [k]) by rw [nums_append]; rfl] at hown4
        have hmv4 := Mv.of_below_row HMV3.out h4.2
        go_roundg (64 - (k + 1))
        case measure => omega
        case rel => exact ⟨k + 1, _, _, s3, hm3, by go_num, rfl, by omega, by rw [HNX.out, List.length_append]; rfl, by rw [HNX.out, List.length_append]; exact hown4, h4.1, HV3.out, HOTH.out, hmv4⟩
    · obtain rfl : k = 64 := by omega
      have i1 : decide (((64 : Nat) : Int) < 64) = false := by decide
      go_wp2_with fail
      go_ret
      exact ⟨⟨OA, oc, rfl, HOWN.out⟩, s1, hm1, HA1.out, HV1.out, HO1.out, HMV1.out, trivial⟩
end
end Go.Proofs.Ytbppafbdmdbdiaa
