/-
  The law PackTokens, walked.
-/
import Derived.Test.YtgmpdclmfcmodaaTokens
import Derived.Test.YtgmpdclmfcmodaaUnpacks
namespace Go.Proofs.Ytgmpdclmfcmodaa
open Go.RowKit

theorem string_eq (l m : List UInt8) : ((⟨l.toArray⟩ : ByteArray) = ⟨m.toArray⟩) ↔ l = m := by
  constructor
  · intro h
    injection h with h
    exact List.toArray_inj h
  · rintro rfl; rfl

theorem equal_any (w : World) (B B' : Nat) (v v' : Value) (l m : List UInt8) (h : RdB w B v l) (h' : RdB w B' v' m) : Calls Try.prog 37 #[v, v'] w fun e w' => e = .returned (.bool (decide (l = m))) ∧ w = w' := by
  have c := conv_of h
  have c' := conv_of h'
  by_cases hlm : l = m
  · subst hlm
    go_enter Try.func37, Try.ntmps37
    go_wp2_with fail
    go_ret
    exact ⟨by simp, rfl⟩
  · have e1 : ¬ ((⟨l.toArray⟩ : ByteArray) = ⟨m.toArray⟩) := by rw [string_eq]; exact hlm
    go_enter Try.func37, Try.ntmps37
    go_wp2_with fail
    go_ret
    exact ⟨by simp [hlm], rfl⟩

theorem unpackGo_err (bg most : Nat) : ∀ f at_ rest text a n, Pk.unpackGo bg most f at_ rest text = .error (a, n) → n = 2 ∨ n = 5 ∨ n = 28
  | 0, at_, rest, text, a, n, h => by cases h
  | f + 1, at_, rest, text, a, n, h => by
    unfold Pk.unpackGo at h
    by_cases hr : rest = []
    · rw [if_pos hr] at h; cases h
    · rw [if_neg hr] at h
      cases ht : Pk.tokenOf rest with
      | error k =>
        rw [ht] at h
        injection h with h
        injection h with _ h
        subst h
        rcases Pk.tokenOf_err ht with rfl | rfl
        · exact .inr (.inr rfl)
        · exact .inl rfl
      | ok x =>
        obtain ⟨t, s⟩ := x
        rw [ht] at h
        simp only at h
        by_cases h3 : text.length < t.dist
        · rw [if_pos h3] at h
          injection h with h
          injection h with _ h
          exact .inl h.symm
        · rw [if_neg h3] at h
          by_cases h4 : most < text.length - bg + t.lit.length + t.len
          · rw [if_pos h4] at h
            injection h with h
            injection h with _ h
            exact .inr (.inl h.symm)
          · rw [if_neg h4] at h
            exact unpackGo_err bg most f _ _ _ a n h
theorem unpack_err {dict p : List UInt8} {most : Int} {a n : Nat} (h : Pk.unpack dict p most = .error (a, n)) : n = 2 ∨ n = 5 ∨ n = 28 := by
  unfold Pk.unpack at h
  split at h
  · injection h with h
    injection h with _ h
    exact .inl h.symm
  · split at h
    · injection h with h
      injection h with _ h
      exact .inr (.inl h.symm)
    · exact unpackGo_err _ _ _ _ _ _ _ _ h

/-- Is it what packing returns? -/
def rcanon (p : List UInt8) : Bool :=
  match Pk.unpack [] p 1048576 with
  | .error _ => false
  | .ok b => decide (Pk.pack [] b = p)

set_option maxRecDepth 100000 in
set_option maxHeartbeats 4000000 in
theorem canonical_any (w : World) (B : Nat) (v : Value) (p : List UInt8) (h : RdB w B v p) (hB : B ≤ w.heap.size) (hpl : p.length ≤ 8000000) :
    Calls Try.prog 27 #[v] w fun e w' => e = .returned (.bool (rcanon p)) ∧ Below w.heap.size w w' := by
  have hul := Pk.unpack_length [] p 1048576
  have her := fun a n => unpack_err (dict := []) (p := p) (most := 1048576) (a := a) (n := n)
  have hR : Hid (rcanon p = match Pk.unpack [] p 1048576 with | .error _ => false | .ok b => decide (Pk.pack [] b = p)) := Lib.hid rfl
  go_enter Try.func27, Try.ntmps27
  go_wp2_with fail
  refine (unpack_any w B v p 1048576 h hB hpl (by omega) (by omega)).mono ?_
  rintro e w1 ⟨hu, bl⟩
  generalize Pk.unpack [] p 1048576 = R at *
  cases R with
  | error x =>
    obtain ⟨a, n⟩ := x
    simp only [UnpRet] at hu
    subst hu
    have hn : n ≠ 0 := by have := her a n rfl; omega
    have e1 : ((n : Int) == 0) = false := beq_eq_false_iff_ne.2 (by omega)
    have e2 : (n == 0) = false := beq_eq_false_iff_ne.2 hn
    clear her hul
    dsimp only
    go_wp2_with fail
    go_ret
    rw [hR.out]
    exact ⟨rfl, bl⟩
  | ok b =>
    obtain ⟨u, rfl, hu⟩ := hu
    have hbl : b.length ≤ 1048576 := by have := hul b rfl; omega
    clear hul her
    dsimp only
    go_wp2_with fail
    refine (pack_any w1 _ u b hu (Nat.le_refl _) hbl).mono ?_
    rintro e w2 ⟨v2, rfl, h2, nb⟩
    dsimp only
    go_wp2_with fail
    refine (equal_any w2 _ B v2 v _ p h2 ((h.below (bl.mono hB)).below (nb.mono (by have := bl.size; omega)))).mono ?_
    rintro e w3 ⟨rfl, rfl⟩
    have bl2 := bl.trans (nb.mono bl.size)
    generalize decide (Pk.pack [] b = p) = r at *
    dsimp only
    go_wp2_with fail
    go_ret
    have hr : rcanon p = r := hR.out
    rw [hr]
    exact ⟨rfl, bl2⟩

/-- The parts of what listing tokens returns. -/
def tat : Except (Nat × Nat) (List Pk.Tok) → Nat
  | .error (a, _) => a
  | .ok _ => 0
def terr : Except (Nat × Nat) (List Pk.Tok) → Nat
  | .error (_, n) => n
  | .ok _ => 0
def tlist : Except (Nat × Nat) (List Pk.Tok) → List Pk.Tok
  | .error _ => []
  | .ok l => l
theorem RdT.nil (w : World) (B : Nat) : RdT w B (.slice none 0 0) [] := ⟨none, 0, [], 0, rfl, Nat.le_refl _, rfl, fun h => by simp at h, by simp⟩
theorem TksRet.form {w' : World} {R : Except (Nat × Nat) (List Pk.Tok)} {e : Ending} (h : TksRet w' R e) :
    ∃ v, e = .returned (.tuple #[v, .int .i64 (tat R), .int .i64 (terr R)]) ∧ RdT w' w'.heap.size v (tlist R) := by
  cases R with
  | error x =>
    obtain ⟨a, n⟩ := x
    exact ⟨_, h, RdT.nil _ _⟩
  | ok l =>
    obtain ⟨v, h1, h2⟩ := h
    exact ⟨v, h1, h2⟩

theorem tokGo_len : ∀ f at_ rest acc l, Pk.tokGo f at_ rest acc = .ok l → l.length ≤ acc.length + rest.length
  | 0, at_, rest, acc, l, h => by
    injection h with h
    subst h
    omega
  | f + 1, at_, rest, acc, l, h => by
    unfold Pk.tokGo at h
    by_cases hr : rest = []
    · rw [if_pos hr] at h
      injection h with h
      subst h
      omega
    · rw [if_neg hr] at h
      cases ht : Pk.tokenOf rest with
      | error n => rw [ht] at h; cases h
      | ok x =>
        obtain ⟨t, s⟩ := x
        rw [ht] at h
        have hs := Pk.tokenOf_ok ht
        have := tokGo_len f _ _ _ l h
        rw [List.length_append, List.length_singleton, List.length_drop] at this
        omega
theorem tlist_len (p : List UInt8) : (tlist (Pk.tokens p)).length ≤ p.length := by
  cases h : Pk.tokens p with
  | error x => simp [tlist]
  | ok l =>
    have := tokGo_len _ _ _ _ _ h
    simpa [tlist] using this

set_option maxRecDepth 100000 in
set_option maxHeartbeats 16000000 in
theorem tokens_walk (w : World) (vp : Value) (p : List UInt8) (hp : RdB w w.heap.size vp p) :
    Calls Try.prog 11 #[vp] w fun e w' => e = .returned (.bool true) ∧ Below w.heap.size w w' := by
  go_enter Try.func11, Try.ntmps11
  go_wp2_with fail
  refine (cut_any w w.heap.size vp p hp).mono ?_
  rintro e w1 ⟨v1, rfl, hp1, rfl⟩
  dsimp only
  have hpl : (p.take 400).length ≤ 400 := by rw [List.length_take]; omega
  generalize p.take 400 = q at *
  clear hp
  go_wp2_with fail
  refine (tokens_any w _ v1 q hp1 (Nat.le_refl _) (by omega)).mono ?_
  rintro e w1 ⟨hu, bl1⟩
  obtain ⟨u1, rfl, k1⟩ := hu.form
  clear hu
  dsimp only
  go_wp2_with fail
  refine (rtokens_any w1 _ v1 q (hp1.below bl1) bl1.size (by omega)).mono ?_
  rintro e w2 ⟨hu, nb⟩
  obtain ⟨u2, rfl, k2⟩ := hu.form
  replace k1 := (k1.below nb).more nb.size
  have bl2 := bl1.trans (nb.mono bl1.size)
  clear hu bl1 nb
  dsimp only
  go_wp2_with fail
  refine (known_any w2).mono ?_
  rintro e w3 ⟨rfl, nb⟩
  replace k1 := (k1.below nb).more nb.size
  replace k2 := (k2.below nb).more nb.size
  have bl3 := bl2.trans (nb.mono bl2.size)
  clear bl2 nb
  have htll := tlist_len q
  generalize Pk.tokens q = R at *
  obtain ⟨TA, tc, rfl, tcap, tat_⟩ := k1.at_
  obtain ⟨UA, uc, rfl, ucap, uat_⟩ := k2.at_
  have HT := Lib.hid tat_
  have HU := Lib.hid uat_
  clear tat_ uat_ k1 k2
  generalize tlist R = ts at *
  dsimp only
  go_wp2_with fail
  have hsz3 := bl3.size
  go_loopg [9] ts.length (fun n iv wr => ∃ k : Nat, iv = .int .i64 k ∧ n = ts.length - k ∧ k ≤ ts.length ∧ Below w3.heap.size w3 wr)
  case atStart => exact ⟨0, rfl, by omega, by omega, Below.refl _ _⟩
  case round =>
    obtain ⟨k, rfl, rfl, hk, hbl⟩ := hrel
    by_cases hlt : k < ts.length
    · have i1 : (k : Int) < ts.length := by omega
      have htk : ts[k]? = some ts[k] := List.getElem?_eq_getElem hlt
      generalize ts[k] = t at htk
      obtain ⟨g, lv, rfl, hg, c0, c1, c2, hlv⟩ := HT.out k t htk
      obtain ⟨g', lv', rfl, hg', d0, d1, d2, hlv'⟩ := HU.out k t htk
      rw [← hbl.cell (p := ⟨g, _, none⟩) hg] at c0 c1 c2
      rw [← hbl.cell (p := ⟨g', _, none⟩) hg'] at d0 d1 d2
      have hv1 := hlv.below hbl
      have hv2 := hlv'.below hbl
      have cv := conv_of (w := wr.drew) (B := w3.heap.size) hv1
      have cv' := conv_of (w := wr.drew) (B := w3.heap.size) hv2
      clear hv1 hv2
      obtain ⟨LA, lc, rfl, _, _, _⟩ := hlv
      obtain ⟨LA', lc', rfl, _, _, _⟩ := hlv'
      clear htk
      obtain ⟨tq, td, tn⟩ := t
      dsimp only at *
      go_wp2_with fail
      refine wp_region_mixS (fun w' => w'.cell? ⟨g, k * 3, none⟩ = some (.slice LA tq.length lc) ∧ w'.cell? ⟨g, k * 3 + 1, none⟩ = some (.int .i64 td) ∧ w'.cell? ⟨g, k * 3 + 2, none⟩ = some (.int .i64 tn) ∧
          w'.cell? ⟨g', k * 3, none⟩ = some (.slice LA' tq.length lc') ∧ w'.cell? ⟨g', k * 3 + 1, none⟩ = some (.int .i64 td) ∧ w'.cell? ⟨g', k * 3 + 2, none⟩ = some (.int .i64 tn) ∧
          (convert 22 9 (.slice LA tq.length lc)).run Try.prog w' = .ok (.string ⟨tq.toArray⟩) w' ∧ (convert 22 9 (.slice LA' tq.length lc')).run Try.prog w' = .ok (.string ⟨tq.toArray⟩) w')
        [0, 1, 2, 3, 4, 5, 6, 7, 8, 9, 10, 11, 12, 13, 14, 15, 16, 17, 18, 19, 20, 21, 22, 23, 24, 25, 26, 27, 28, 29, 30, 31, 32, 33, 34, 35, 36, 37, 38] [] [0, 1, 2, 3, 4, 5, 6, 7, 8, 9, 10, 11, 12, 13, 14, 15, 16, 17, 18, 19, 20, 21, 22, 23, 24, 25, 26, 27, 28, 29, 30, 31, 32, 33, 34, 35, 36, 37, 38] (by kernel_rfl) (by kernel_rfl) ⟨c0, c1, c2, d0, d1, d2, cv, cv'⟩ ?_
      clear c0 c1 c2 d0 d1 d2 cv cv'
      simp only [inOrder, opAt]
      repeat
        (refine wpMixS_read (v := ?_) rfl rfl (fun w' hS => ?_) ?_
         rotate_left
         · ((try replace hS := hS rfl); (try dsimp only at hS); go_simp; (try with_reducible rfl))
         try simp only [Act.put, List.setIfInBounds_toArray, List.set_cons_zero, List.set_cons_succ])
      refine wpMixS_nil ?_
      go_wp2_with fail
      go_roundg (ts.length - (k + 1))
      case measure => omega
      case rel => exact ⟨k + 1, by go_num, rfl, by omega, hbl.trans (Fr.nil_below (Fr.drew (Fr.refl _ _)) |>.mono hbl.size)⟩
    · have i1 : decide ((k : Int) < ts.length) = false := decide_eq_false (by omega)
      have bl4 := bl3.trans (hbl.mono hsz3)
      clear HT HU
      go_wp2_with fail
      refine (runpack_any wr _ (.slice none 0 0) v1 [] q 1048576 (RdB.nil _ _) (hp1.below bl4) bl4.size (by omega) (by omega) (by omega)).mono ?_
      rintro e w5 ⟨hu, nb⟩
      have bl5 := bl4.trans (nb.mono bl4.size)
      have hp5 := (hp1.below bl5).more bl5.size
      have hrc : Hid (rcanon q = match Pk.unpack [] q 1048576 with | .error _ => false | .ok b => decide (Pk.pack [] b = q)) := Lib.hid rfl
      have her := fun a n => unpack_err (dict := []) (p := q) (most := 1048576) (a := a) (n := n)
      clear bl4 nb bl3 hbl hp1
      generalize Pk.unpack [] q 1048576 = R2 at *
      cases R2 with
      | error x =>
        obtain ⟨a, n⟩ := x
        simp only [UnpRet] at hu
        subst hu
        have hn : n ≠ 0 := by have := her a n rfl; omega
        have e1 : ((n : Int) == 0) = false := beq_eq_false_iff_ne.2 (by omega)
        have e2 : (n == 0) = false := beq_eq_false_iff_ne.2 hn
        clear her
        dsimp only
        go_wp2_with fail
        have hcv := conv_of (w := w5.drew) hp5
        refine wp_region_mixS (fun w' => (convert 22 9 v1).run Try.prog w' = .ok (.string ⟨q.toArray⟩) w') [0, 1, 2, 3, 4, 5, 6, 7, 8, 9, 10, 11, 12, 13, 14, 15] [9, 10] [0, 1, 2, 3, 4, 5, 6, 7, 8, 12, 13, 9, 10, 11, 14, 15, 16] (by kernel_rfl) (by kernel_rfl) hcv ?_
        simp only [inOrder, opAt]
        iterate 3
          (refine wpMixS_read (v := ?_) rfl rfl (fun w' hS => ?_) ?_
           rotate_left
           · ((try replace hS := hS rfl); (try dsimp only at hS); go_simp; (try with_reducible rfl))
           try simp only [Act.put, List.setIfInBounds_toArray, List.set_cons_zero, List.set_cons_succ])
        iterate 3
          (refine wpMixS_skip rfl rfl ?_
           try simp only [Act.put, List.setIfInBounds_toArray, List.set_cons_zero, List.set_cons_succ])
        iterate 2
          (refine wpMixS_read (v := ?_) rfl rfl (fun w' hS => ?_) ?_
           rotate_left
           · ((try replace hS := hS rfl); (try dsimp only at hS); go_simp; (try with_reducible rfl))
           try simp only [Act.put, List.setIfInBounds_toArray, List.set_cons_zero, List.set_cons_succ])
        iterate 3
          (refine wpMixS_skip rfl rfl ?_
           try simp only [Act.put, List.setIfInBounds_toArray, List.set_cons_zero, List.set_cons_succ])
        iterate 2
          (refine wpMixS_skipe rfl rfl (fun _ => hcv) ?_
           try simp only [Act.put, List.setIfInBounds_toArray, List.set_cons_zero, List.set_cons_succ])
        iterate 2
          (refine wpMixS_skip rfl rfl ?_
           try simp only [Act.put, List.setIfInBounds_toArray, List.set_cons_zero, List.set_cons_succ])
        iterate 2
          (refine wpMixS_read (v := ?_) rfl rfl (fun w' hS => ?_) ?_
           rotate_left
           · ((try replace hS := hS rfl); (try dsimp only at hS); go_simp; (try with_reducible rfl))
           try simp only [Act.put, List.setIfInBounds_toArray, List.set_cons_zero, List.set_cons_succ])
        refine wpMixS_nil ?_
        have bl6 := bl5.trans ((Fr.nil_below (Fr.drew (Fr.refl [] w5))).mono bl5.size)
        go_wp2_with fail
        refine (canonical_any w5.drew _ v1 q hp5 (Nat.le_refl _) (by omega)).mono ?_
        rintro e w6 ⟨rfl, nb⟩
        rw [hrc.out]
        dsimp only
        go_wp2_with fail
        go_ret
        exact ⟨rfl, bl6.trans (nb.mono bl6.size)⟩
      | ok b =>
        obtain ⟨u, rfl, hu⟩ := hu
        clear her
        obtain ⟨U, uc2, rfl, _, _, _⟩ := id hu
        dsimp only
        have bl6 := bl5.trans ((Fr.nil_below (Fr.drew (Fr.refl [] w5))).mono bl5.size)
        have hcv := conv_of (w := w5.drew) hp5
        by_cases hb8 : b.length ≤ 8000
        · have e1 : decide ((b.length : Int) ≤ 8000) = true := decide_eq_true (by omega)
          have e1' : decide (b.length ≤ 8000) = true := decide_eq_true hb8
          have e3 : decide ((8000 : Int) < (b.length : Int)) = false := decide_eq_false (by omega)
          go_wp2_with fail
          refine wp_region_mixS (fun w' => (convert 22 9 v1).run Try.prog w' = .ok (.string ⟨q.toArray⟩) w') [0, 1, 2, 3, 4, 5, 6, 7, 8, 9, 10, 11, 12, 13, 14, 15] [9, 10] [0, 1, 2, 3, 4, 5, 6, 7, 8, 12, 13, 9, 10, 11, 14, 15, 16] (by kernel_rfl) (by kernel_rfl) hcv ?_
          simp only [inOrder, opAt]
          iterate 11
            (refine wpMixS_read (v := ?_) rfl rfl (fun w' hS => ?_) ?_
             rotate_left
             · ((try replace hS := hS rfl); (try dsimp only at hS); go_simp; (try with_reducible rfl))
             try simp only [Act.put, List.setIfInBounds_toArray, List.set_cons_zero, List.set_cons_succ])
          refine wpMixS_eff rfl rfl (fun K hK => ?_)
          go_simp
          refine (rcanonical_any w5.drew _ (.slice none 0 0) _ [] b (RdB.nil _ _) hu (Nat.le_refl _) (by simp) (by omega)).mono ?_
          rintro e w6 ⟨v6, rfl, h6, nb⟩
          have bl7 := bl6.trans (nb.mono bl6.size)
          have hp6 : RdB w6 w6.heap.size v1 q := ((show RdB w5.drew w5.drew.heap.size v1 q from hp5).below nb).more nb.size
          clear nb
          dsimp only
          refine hK.out _ _ _ (fun _ h => h) (fun _ => conv_of hp6) ?_
          clear hK K
          try simp only [Act.put, List.setIfInBounds_toArray, List.set_cons_zero, List.set_cons_succ]
          refine wpMixS_eff rfl rfl (fun K hK => ?_)
          go_simp
          refine (rbytes_any w6 _ v6 _ h6 (Pk.can_ok [] b) (Nat.le_refl _) (by rw [Pk.pack_eq]; have := Pk.pack_len [] b; omega) (by have := Pk.can_len [] b; omega)).mono ?_
          rintro e w7 ⟨v7, rfl, h7, nb⟩
          rw [Pk.pack_eq] at h7
          have bl8 := bl7.trans (nb.mono bl7.size)
          have hp7 := (hp6.below nb).more nb.size
          clear nb hp6 h6
          dsimp only
          refine hK.out (fun w' => (convert 22 9 v1).run Try.prog w' = .ok (.string ⟨q.toArray⟩) w' ∧ (convert 22 9 v7).run Try.prog w' = .ok (.string ⟨(Pk.pack [] b).toArray⟩) w') _ _ (fun _ h => h.1) (fun _ => ⟨conv_of hp7, conv_of h7⟩) ?_
          clear hK K
          try simp only [Act.put, List.setIfInBounds_toArray, List.set_cons_zero, List.set_cons_succ]
          have hrq : rcanon q = (Pk.pack [] b == q) := hrc.out.trans (by by_cases h : Pk.pack [] b = q <;> simp [h])
          iterate 4
            (refine wpMixS_read (v := ?_) rfl rfl (fun w' hS => ?_) ?_
             rotate_left
             · ((try replace hS := hS rfl); (try dsimp only at hS); go_simp; (try with_reducible rfl))
             try simp only [Act.put, List.setIfInBounds_toArray, List.set_cons_zero, List.set_cons_succ])
          refine wpMixS_nil ?_
          generalize (Pk.pack [] b == q) = r at *
          go_wp2_with fail
          refine (canonical_any w7 _ v1 q hp7 (Nat.le_refl _) (by omega)).mono ?_
          rintro e w8 ⟨rfl, nb⟩
          rw [hrq]
          dsimp only
          go_wp2_with fail
          go_ret
          exact ⟨rfl, bl8.trans (nb.mono bl8.size)⟩
        · have e1 : decide ((b.length : Int) ≤ 8000) = false := decide_eq_false (by omega)
          have e1' : decide (b.length ≤ 8000) = false := decide_eq_false hb8
          have e3 : decide ((8000 : Int) < (b.length : Int)) = true := decide_eq_true (by omega)
          go_wp2_with fail
          refine wp_region_mixS (fun w' => (convert 22 9 v1).run Try.prog w' = .ok (.string ⟨q.toArray⟩) w') [0, 1, 2, 3, 4, 5, 6, 7, 8, 9, 10, 11, 12, 13, 14, 15] [9, 10] [0, 1, 2, 3, 4, 5, 6, 7, 8, 12, 13, 9, 10, 11, 14, 15, 16] (by kernel_rfl) (by kernel_rfl) hcv ?_
          simp only [inOrder, opAt]
          iterate 8
            (refine wpMixS_read (v := ?_) rfl rfl (fun w' hS => ?_) ?_
             rotate_left
             · ((try replace hS := hS rfl); (try dsimp only at hS); go_simp; (try with_reducible rfl))
             try simp only [Act.put, List.setIfInBounds_toArray, List.set_cons_zero, List.set_cons_succ])
          iterate 3
            (refine wpMixS_skip rfl rfl ?_
             try simp only [Act.put, List.setIfInBounds_toArray, List.set_cons_zero, List.set_cons_succ])
          iterate 2
            (refine wpMixS_skipe rfl rfl (fun _ => hcv) ?_
             try simp only [Act.put, List.setIfInBounds_toArray, List.set_cons_zero, List.set_cons_succ])
          iterate 2
            (refine wpMixS_skip rfl rfl ?_
             try simp only [Act.put, List.setIfInBounds_toArray, List.set_cons_zero, List.set_cons_succ])
          iterate 2
            (refine wpMixS_read (v := ?_) rfl rfl (fun w' hS => ?_) ?_
             rotate_left
             · ((try replace hS := hS rfl); (try dsimp only at hS); go_simp; (try with_reducible rfl))
             try simp only [Act.put, List.setIfInBounds_toArray, List.set_cons_zero, List.set_cons_succ])
          refine wpMixS_nil ?_
          go_wp2_with fail
          go_ret
          exact ⟨rfl, bl6⟩
end Go.Proofs.Ytgmpdclmfcmodaa
