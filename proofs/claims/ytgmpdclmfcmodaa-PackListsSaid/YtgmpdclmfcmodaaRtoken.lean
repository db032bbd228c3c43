/-
  Walks: the tokens of the reference.
-/
import Derived.Test.YtgmpdclmfcmodaaToken
namespace Go.Proofs.Ytgmpdclmfcmodaa
open Go.RowKit

theorem own_form {w : World} {base e size n : Nat} {v : Value} {xs : List Value} (h : w.ownsRow base e size v n xs) : ∃ A c, v = .slice A n c := by
  rcases h.2 with ⟨rfl, h0⟩ | ⟨g, c, _, rfl, _⟩
  · exact ⟨none, 0, by rw [h0]⟩
  · exact ⟨_, _, rfl⟩
theorem getD_drop (p : List UInt8) (i k : Nat) : (p.drop i).getD k 0 = p.getD (i + k) 0 := by
  rw [List.getD_eq_getElem?_getD, List.getD_eq_getElem?_getD, List.getElem?_drop]

/-- .. and where the literals lie is the call's own. -/
def TokOwn (w' : World) (base : Nat) (r : Except Nat (Pk.Tok × Nat)) (e : Ending) : Prop :=
  match r with
  | .error n => e = .returned (.tuple #[.agg #[.slice none 0 0, .int .i64 0, .int .i64 0], .int .i64 0, .int .i64 n])
  | .ok (t, s) => ∃ lv, e = .returned (.tuple #[.agg #[lv, .int .i64 t.dist, .int .i64 t.len], .int .i64 s, .int .i64 0]) ∧ w'.ownsRow base 5 1 lv t.lit.length (bs t.lit)
theorem TokOwn.ret {w' : World} {base : Nat} {r : Except Nat (Pk.Tok × Nat)} {e : Ending} (h : TokOwn w' base r e) : TokRet w' w'.heap.size r e := by
  cases r with
  | error n => exact h
  | ok x =>
    obtain ⟨lv, h1, h2⟩ := h
    exact ⟨lv, h1, RdB.of_own h2 rfl⟩

set_option maxRecDepth 100000 in
set_option maxHeartbeats 4000000 in
theorem rtoken_own (w : World) (B : Nat) (vp : Value) (p : List UInt8) (i : Nat) (hp : RdB w B vp p) (hB : B ≤ w.heap.size) (hne : i < p.length) (hpl : p.length ≤ 8000000) :
    Calls Try.prog 36 #[vp, .int .i64 i] w fun e w' => TokOwn w' w.heap.size (Pk.tokenOf (p.drop i)) e ∧ Below w.heap.size w w' := by
  have hp0 := hp
  obtain ⟨i0, hi, hz0, hz1, hz2⟩ := info_parts info5
  obtain ⟨A, cap, rfl, hcap, hcap2, hby⟩ := hp.byte
  obtain ⟨ad, rfl, c0⟩ := hby i hne
  have hadB : ad.block < w.heap.size := by
    obtain ⟨_, _, hv, _, _, hr⟩ := hp0
    injection hv with e1 _ _
    subst e1
    obtain ⟨ad', e, hb, _⟩ := hr.2 (by omega)
    injection e with e
    subst e
    omega
  have i1 : (i : Int) < p.length := by omega
  have hbA : ∀ o, Below w.heap.size w (w.alloc o) := fun o => (Below.refl _ _).alloc (Nat.le_refl _) o
  have hdl : (p.drop i).length = p.length - i := List.length_drop
  have hto : Hid (Pk.tokenOf (p.drop i) = _) := Lib.hid (by unfold Pk.tokenOf; rw [getD_drop, getD_drop, getD_drop, Nat.add_zero, hdl])
  have hl := u8_lt (p.getD i 0)
  have cell' : ∀ j x, w.cell? (ad.add j) = some x → ∀ o, (w.alloc o).cell? (ad.add j) = some x := fun j x h o => by rw [World.cell?_alloc_lt w o _ (by rw [block_of_add]; exact hadB)]; exact h
  by_cases h1 : (p.getD i 0).toNat < 128
  · rw [if_pos h1] at hto
    have cc := cell' _ _ c0
    by_cases h2 : p.length - i < (p.getD i 0).toNat + 2
    · rw [if_pos h2] at hto
      generalize (p.getD i 0).toNat = c at *
      have e1 : decide ((c : Int) < 128) = true := decide_eq_true (by omega)
      have i2 : 0 ≤ (i : Int) := by omega
      have e2 : decide ((p.length : Int) < (i : Int) + 1 + ((c : Int) + 1)) = true := decide_eq_true (by omega)
      go_enter Try.func36, Try.ntmps36
      go_wp2_with fail
      simp [bodyPost, results, Try.results36, go_sem]
      rw [hto.out]
      exact ⟨rfl, hbA _⟩
    · obtain ⟨A', c', hsl, hsr⟩ := slice_mid Try.underlying22 hi hz1 hp0 (i + 1) (i + (p.getD i 0).toNat + 2) (by omega) (by omega) .i64 .i64
      rw [if_neg h2] at hto
      have hlit : ((p.drop i).take ((p.getD i 0).toNat + 2)).drop 1 = (p.take (i + (p.getD i 0).toNat + 2)).drop (i + 1) := by
        rw [List.drop_take, List.drop_take, List.drop_drop]
        congr 1
        omega
      rw [hlit] at hto
      clear hlit
      have hll : ((p.take (i + (p.getD i 0).toNat + 2)).drop (i + 1)).length = (p.getD i 0).toNat + 1 := by rw [List.length_drop, List.length_take]; omega
      generalize (p.getD i 0).toNat = c at *
      generalize (p.take (i + c + 2)).drop (i + 1) = lit at *
      rw [show ((i + c + 2 : Nat) : Int) = (i : Int) + 1 + ((c : Int) + 1) by omega, show ((i + 1 : Nat) : Int) = (i : Int) + 1 by omega] at hsl
      have e1 : decide ((c : Int) < 128) = true := decide_eq_true (by omega)
      have e2 : decide ((p.length : Int) < (i : Int) + 1 + ((c : Int) + 1)) = false := decide_eq_false (by omega)
      rw [show i + c + 2 - (i + 1) = c + 1 by omega] at hsl hsr
      obtain ⟨A1, c1, hv1, hv2, hv3, hrd⟩ := hsr
      injection hv1 with hv1 hvx hv4
      subst hv1 hv4
      rw [hll] at hrd
      clear hvx
      have hmd : ∀ o, ((w.alloc o).alloc (.cells #[] 5)).ownsRow (w.heap.size + 1) 5 1 (.slice (some ⟨w.heap.size + 1, 0, none⟩) 0 0) 0 [] := fun o => by
        have := World.ownsRow_made (base := (w.alloc o).heap.size) (e := 5) (size := 1) (w.alloc o) #[] 0 (Nat.le_refl _) (by unfold maxLen; omega) rfl
        simpa using this
      go_enter Try.func36, Try.ntmps36
      go_wp2_with (at_builtin; refine wpList_append_any _ rfl (.tmp 28) (.tmp 36) _ rfl (w.heap.size + 1) 5 i0 _ 1 1 Try.underlying22 hi hz0 hz1 hz2 rfl (by omega) (.slice (some ⟨w.heap.size + 1, 0, none⟩) 0 0) 0 [] rfl (hmd _) B A' (c + 1) c' (bs lit) rfl ((hrd.alloc hB _).alloc (by simp; omega) _) (bs_one lit) (by unfold maxLen; omega) (by omega) (by simp) ?_; intro v1 w1 hown1 hgrow1 hat1; simp only [Nat.zero_add, List.nil_append] at hown1; obtain ⟨A5, c5, rfl⟩ := own_form hown1; have hblk := (((Blk.new_ w 57 #[.slice none 0 0, .int .i64 0, .int .i64 0] rfl).alloc (.cells #[] 5)).grown hgrow1 (by simp [Value.ownBlock])); have b0 := hblk.cell 0; have b1 := hblk.cell 1; have b2 := hblk.cell 2; have f0 := hblk.frozen 0; have f1 := hblk.frozen 1; have f2 := hblk.frozen 2; simp at b0 b1 b2)
      have hown9 := own_fr hown1 (((((Fr.refl [w.heap.size] w1).setCell (p := ⟨w.heap.size, 0, none⟩) (.inl (by simp)) (.slice A5 (c + 1) c5)).setCell (p := ⟨w.heap.size, 1, none⟩) (.inl (by simp)) (.int .i64 0)).setCell (p := ⟨w.heap.size, 2, none⟩) (.inl (by simp)) (.int .i64 0)))
        (fun g hg => by have := (hown1.lt g hg).1; simp; omega)
      have hfin := ((hblk.set_ 0 (.slice A5 (c + 1) c5)).set_ 1 (.int .i64 0)).set_ 2 (.int .i64 0)
      have hbl1 := ((((((Below.refl w.heap.size w).alloc (Nat.le_refl _) (.cells #[.slice none 0 0, .int .i64 0, .int .i64 0] 57)).alloc (by simp) (.cells #[] 5)).grown hgrow1 (by simp; omega) (by simp [Value.ownBlock])).setCell (p := ⟨w.heap.size, 0, none⟩) (Nat.le_refl _) (.slice A5 (c + 1) c5)).setCell (p := ⟨w.heap.size, 1, none⟩) (Nat.le_refl _) (.int .i64 0)).setCell (p := ⟨w.heap.size, 2, none⟩) (Nat.le_refl _) (.int .i64 0)
      clear hblk b0 b1 b2 f0 f1 f2
      generalize (((w1.setCell ⟨w.heap.size, 0, none⟩ (.slice A5 (c + 1) c5)).setCell ⟨w.heap.size, 1, none⟩ (.int .i64 0)).setCell ⟨w.heap.size, 2, none⟩ (.int .i64 0)) = w9 at *
      have q0 := hfin.cell 0
      have q1 := hfin.cell 1
      have q2 := hfin.cell 2
      simp at q0 q1 q2
      simp [bodyPost, results, Try.results36, go_sem, q0, q1, q2]
      rw [hto.out]
      refine ⟨⟨_, ?_, by rw [hll]; exact own_base hown9 (fun g hg => by have := (hown9.lt g hg).1; omega)⟩, hbl1⟩
      simp
      omega
  · rw [if_neg h1] at hto
    have cc := cell' _ _ c0
    by_cases h2 : p.length - i < 3
    · rw [if_pos h2] at hto
      generalize (p.getD i 0).toNat = c at *
      have e1 : decide ((c : Int) < 128) = false := decide_eq_false (by omega)
      have e2 : decide ((p.length : Int) < (i : Int) + 3) = true := decide_eq_true (by omega)
      go_enter Try.func36, Try.ntmps36
      go_wp2_with fail
      simp [bodyPost, results, Try.results36, go_sem]
      rw [hto.out]
      exact ⟨rfl, hbA _⟩
    · rw [if_neg h2] at hto
      obtain ⟨ad', e', c1⟩ := hby (i + 1) (by omega)
      injection e' with e'
      subst e'
      obtain ⟨ad', e', c2⟩ := hby (i + 2) (by omega)
      injection e' with e'
      subst e'
      have l1 := u8_lt (p.getD (i + 1) 0)
      have l2 := u8_lt (p.getD (i + 2) 0)
      have cx := cell' _ _ c1
      have cy := cell' _ _ c2
      have e1 : decide (((p.getD i 0).toNat : Int) < 128) = false := decide_eq_false (by omega)
      have e2 : decide ((p.length : Int) < (i : Int) + 3) = false := decide_eq_false (by omega)
      have k1 : (i : Int) + 1 < p.length := by omega
      have k2 : (i : Int) + 2 < p.length := by omega
      generalize (p.getD i 0).toNat = c at *
      generalize (p.getD (i + 1) 0).toNat = x at *
      generalize (p.getD (i + 2) 0).toNat = y at *
      simp [Addr.add] at cx cy
      have k3 : (0 : Int) ≤ (i : Int) + 1 := by omega
      have k4 : (0 : Int) ≤ (i : Int) + 2 := by omega
      have k5 : ((i : Int) + 2).toNat = i + 2 := by omega
      have k6 : ad.add (i + 2) = ⟨ad.block, ad.off + (i + 2), none⟩ := by simp [Addr.add]
      have w1 := wrap64 ((i : Int) + 1) (by omega) (by omega)
      have w2 := wrap64 ((i : Int) + 2) (by omega) (by omega)
      go_enter Try.func36, Try.ntmps36
      go_wp2_with fail
      refine wp_region_mix (fun w' => w'.cell? ⟨ad.block, ad.off + (i + 1), none⟩ = some (.int .u8 x) ∧ w'.cell? ⟨ad.block, ad.off + (i + 2), none⟩ = some (.int .u8 y))
        [0, 1, 2, 3, 4, 5, 6, 7, 8, 9, 10, 11, 12, 13, 14] [] [0, 1, 2, 3, 4, 5, 6, 7, 8, 9, 10, 11, 12, 13, 14, 15] (by kernel_rfl) (by kernel_rfl) ⟨cx _, cy _⟩ ?_
      simp only [inOrder, opAt]
      repeat
        (refine wpMix_read (v := ?_) rfl rfl (fun w' hS => ?_) ?_
         rotate_left
         · ((try replace hS := hS rfl); (try dsimp only at hS); go_simp; (try with_reducible rfl))
         simp only [Act.put, List.setIfInBounds_toArray, List.set_cons_zero, List.set_cons_succ])
      refine wpMix_nil ?_
      simp only [wrap64 (x : Int) (by omega) (by omega), wrap64 (y : Int) (by omega) (by omega), wrap64 ((x : Int) * 256) (by omega) (by omega), wrap64 ((x : Int) * 256 + y) (by omega) (by omega),
        wrap64 ((x : Int) * 256 + y + 1) (by omega) (by omega)]
      by_cases h4 : 4096 < x * 256 + y + 1
      · have e4 : decide ((4096 : Int) < (x : Int) * 256 + y + 1) = true := decide_eq_true (by omega)
        go_wp2_with fail
        simp [bodyPost, results, Try.results36, go_sem]
        rw [hto.out, if_pos h4]
        exact ⟨rfl, Fr.nil_below (Fr.drew (Fr.of_below (hbA _)))⟩
      · have e4 : decide ((4096 : Int) < (x : Int) * 256 + y + 1) = false := decide_eq_false (by omega)
        go_wp2_with fail
        simp [bodyPost, results, Try.results36, go_sem]
        rw [hto.out, if_neg h4]
        refine ⟨⟨.slice none 0 0, ?_, World.ownsRow_nil _ _ _ _⟩, Fr.nil_below (Fr.drew (Fr.of_below (hbA _)))⟩
        simp
        omega

theorem rtoken_any (w : World) (B : Nat) (vp : Value) (p : List UInt8) (i : Nat) (hp : RdB w B vp p) (hB : B ≤ w.heap.size) (hne : i < p.length) (hpl : p.length ≤ 8000000) :
    Calls Try.prog 36 #[vp, .int .i64 i] w fun e w' => TokRet w' w'.heap.size (Pk.tokenOf (p.drop i)) e ∧ Below w.heap.size w w' :=
  (rtoken_own w B vp p i hp hB hne hpl).mono fun _ _ h => ⟨h.1.ret, h.2⟩
end Go.Proofs.Ytgmpdclmfcmodaa
