/-
  Walks: the tokens of a packed form.
-/
import Derived.Test.YtgmpdclmfcmodaaBytes
import Derived.Test.YtgmpdclmfcmodaaPure3
namespace Go.Proofs.Ytgmpdclmfcmodaa
open Go.RowKit


/-- What a token function returns: a triple of the token's cells, its size, 0; or zeros and the error. -/
def TokRet (w' : World) (B : Nat) (r : Except Nat (Pk.Tok × Nat)) (e : Ending) : Prop :=
  match r with
  | .error n => e = .returned (.tuple #[.agg #[.slice none 0 0, .int .i64 0, .int .i64 0], .int .i64 0, .int .i64 n])
  | .ok (t, s) => ∃ lv, e = .returned (.tuple #[.agg #[lv, .int .i64 t.dist, .int .i64 t.len], .int .i64 s, .int .i64 0]) ∧ RdB w' B lv t.lit

theorem u8_lt (c : UInt8) : c.toNat < 256 := c.toNat_lt

theorem wrap64 (n : Int) (h1 : -9223372036854775808 ≤ n) (h2 : n < 9223372036854775808) : IntKind.i64.wrap n = n := by
  simp [IntKind.wrap, IntKind.bits, IntKind.signed]
  omega

set_option maxRecDepth 100000 in
set_option maxHeartbeats 4000000 in
theorem token_any (w : World) (B : Nat) (vp : Value) (p : List UInt8) (hp : RdB w B vp p) (hB : B ≤ w.heap.size) (hne : 0 < p.length) (hpl : p.length ≤ 8000000) :
    Calls Try.prog 35 #[vp] w fun e w' => TokRet w' B (Pk.tokenOf p) e ∧ Below w.heap.size w w' := by
  have hp0 := hp
  obtain ⟨i0, hi, hz0, hz1, hz2⟩ := info_parts info5
  obtain ⟨A, cap, rfl, hcap, hcap2, hby⟩ := hp.byte
  have hc0 := hby 0 hne
  obtain ⟨ad, rfl, c0⟩ := hc0
  have hl := u8_lt (p.getD 0 0)
  have hadB : ad.block < w.heap.size := by
    obtain ⟨_, _, hv, _, _, hr⟩ := hp0
    injection hv with e1 _ _
    subst e1
    obtain ⟨ad', e, hb, _⟩ := hr.2 hne
    injection e with e
    subst e
    omega
  rw [show (ad.add 0) = ad by simp [Addr.add]] at c0
  have i1 : (0 : Int) < p.length := by omega
  have hbA : ∀ o, Below w.heap.size w (w.alloc o) := fun o => (Below.refl _ _).alloc (Nat.le_refl _) o
  have info49 : (Try.prog.info? 49).map (fun i => (i.zero, i.size)) = some (some (.agg #[.slice none 0 0, .int .i64 0, .int .i64 0]), 3) := by kernel_rfl
  by_cases h1 : (p.getD 0 0).toNat < 128
  · by_cases h2 : p.length < (p.getD 0 0).toNat + 2
    · have hto : Hid (Pk.tokenOf p = .error 28) := Lib.hid (by unfold Pk.tokenOf; rw [if_pos h1, if_pos h2])
      generalize (p.getD 0 0).toNat = c at *
      have e1 : decide ((c : Int) < 128) = true := decide_eq_true (by omega)
      have e2 : decide ((p.length : Int) < (c : Int) + 2) = true := decide_eq_true (by omega)
      have cc : ∀ o, (w.alloc o).cell? ad = some (.int .u8 c) := fun o => by rw [World.cell?_alloc_lt w o ad hadB]; exact c0
      go_enter Try.func35, Try.ntmps35
      go_wp2_with fail
      simp [bodyPost, results, Try.results35, go_sem]
      rw [hto.out]
      exact ⟨rfl, hbA _⟩
    · obtain ⟨A', c', hsl, hsr⟩ := slice_mid Try.underlying22 hi hz1 hp0 1 ((p.getD 0 0).toNat + 2) (by omega) (by omega) .i64 .i64
      have hto : Hid (Pk.tokenOf p = .ok (⟨(p.take ((p.getD 0 0).toNat + 2)).drop 1, 0, 0⟩, (p.getD 0 0).toNat + 2)) := Lib.hid (by unfold Pk.tokenOf; rw [if_pos h1, if_neg h2])
      generalize (p.getD 0 0).toNat = c at *
      rw [show ((c + 2 : Nat) : Int) = (c : Int) + 2 by omega] at hsl
      have e1 : decide ((c : Int) < 128) = true := decide_eq_true (by omega)
      have e2 : decide ((p.length : Int) < (c : Int) + 2) = false := decide_eq_false (by omega)
      have cc : ∀ o, (w.alloc o).cell? ad = some (.int .u8 c) := fun o => by rw [World.cell?_alloc_lt w o ad hadB]; exact c0
      go_enter Try.func35, Try.ntmps35
      go_wp2_with fail
      simp [bodyPost, results, Try.results35, go_sem]
      rw [hto.out]
      refine ⟨⟨_, rfl, ?_⟩, hbA _⟩
      have h3 := (hp0.upto (k := c + 2) (by omega)).cut (k := 1) (by omega)
      rw [if_neg (by omega)] at h3
      have h4 := h3.below (hbA (.cells #[.slice (some ⟨ad.block, ad.off + 1, none⟩) (c + 1) (cap - 1), .int .i64 0, .int .i64 0] 49) |>.mono hB)
      simpa [Addr.add] using h4
  · by_cases h2 : p.length < 3
    · have hto : Hid (Pk.tokenOf p = .error 28) := Lib.hid (by unfold Pk.tokenOf; rw [if_neg h1, if_pos h2])
      generalize (p.getD 0 0).toNat = c at *
      have e1 : decide ((c : Int) < 128) = false := decide_eq_false (by omega)
      have e2 : decide ((p.length : Int) < 3) = true := decide_eq_true (by omega)
      have cc : ∀ o, (w.alloc o).cell? ad = some (.int .u8 c) := fun o => by rw [World.cell?_alloc_lt w o ad hadB]; exact c0
      go_enter Try.func35, Try.ntmps35
      go_wp2_with fail
      simp [bodyPost, results, Try.results35, go_sem]
      rw [hto.out]
      exact ⟨rfl, hbA _⟩
    · obtain ⟨ad', e', c1⟩ := hby 1 (by omega)
      injection e' with e'
      subst e'
      obtain ⟨ad', e', c2⟩ := hby 2 (by omega)
      injection e' with e'
      subst e'
      have l1 := u8_lt (p.getD 1 0)
      have l2 := u8_lt (p.getD 2 0)
      have e1 : decide (((p.getD 0 0).toNat : Int) < 128) = false := decide_eq_false (by omega)
      have e2 : decide ((p.length : Int) < 3) = false := decide_eq_false (by omega)
      have hto : Hid (Pk.tokenOf p = if 4096 < (p.getD 1 0).toNat * 256 + (p.getD 2 0).toNat + 1 then .error 2 else .ok (⟨[], (p.getD 1 0).toNat * 256 + (p.getD 2 0).toNat + 1, (p.getD 0 0).toNat - 124⟩, 3)) :=
        Lib.hid (by unfold Pk.tokenOf; rw [if_neg h1, if_neg h2])
      have k1 : (1 : Int) < p.length := by omega
      have k2 : (2 : Int) < p.length := by omega
      generalize (p.getD 0 0).toNat = c at *
      generalize (p.getD 1 0).toNat = x at *
      generalize (p.getD 2 0).toNat = y at *
      have cc : ∀ o, (w.alloc o).cell? ad = some (.int .u8 c) := fun o => by rw [World.cell?_alloc_lt w o ad hadB]; exact c0
      have cx : ∀ o, (w.alloc o).cell? (ad.add 1) = some (.int .u8 x) := fun o => by rw [World.cell?_alloc_lt w o _ (by rw [block_of_add]; exact hadB)]; exact c1
      have cy : ∀ o, (w.alloc o).cell? (ad.add 2) = some (.int .u8 y) := fun o => by rw [World.cell?_alloc_lt w o _ (by rw [block_of_add]; exact hadB)]; exact c2
      simp [Addr.add] at cx cy
      go_enter Try.func35, Try.ntmps35
      go_wp2_with fail
      refine wp_region_mix (fun w' => w'.cell? ad = some (.int .u8 c) ∧ w'.cell? ⟨ad.block, ad.off + 1, none⟩ = some (.int .u8 x) ∧ w'.cell? ⟨ad.block, ad.off + 2, none⟩ = some (.int .u8 y))
        [0, 1, 2, 3, 4, 5, 6, 7, 8, 9, 10, 11, 12, 13, 14, 15, 16, 17] [18] [0, 1, 2, 3, 4, 5, 6, 7, 8, 9, 10, 11, 12, 13, 14, 15, 16, 17, 18] (by kernel_rfl) (by kernel_rfl) ⟨cc _, cx _, cy _⟩ ?_
      simp only [inOrder, opAt]
      repeat
        (refine wpMix_read (v := ?_) rfl rfl (fun w' hS => ?_) ?_
         rotate_left
         · ((try replace hS := hS rfl); (try dsimp only at hS); go_simp; (try with_reducible rfl))
         simp only [Act.put, List.setIfInBounds_toArray, List.set_cons_zero, List.set_cons_succ])
      refine wpMix_eff rfl rfl (fun K hK => ?_)
      go_simp
      refine hK.out _ _ (fun h => by cases h) ?_
      clear hK K
      refine wpMix_nil ?_
      simp only [wrap64 (x : Int) (by omega) (by omega), wrap64 (y : Int) (by omega) (by omega), wrap64 (c : Int) (by omega) (by omega), wrap64 ((x : Int) * 256) (by omega) (by omega), wrap64 ((x : Int) * 256 + y) (by omega) (by omega),
        wrap64 ((x : Int) * 256 + y + 1) (by omega) (by omega), wrap64 ((c : Int) - 128) (by omega) (by omega), wrap64 ((c : Int) - 128 + 4) (by omega) (by omega)]
      by_cases h4 : 4096 < x * 256 + y + 1
      · have e4 : decide ((4096 : Int) < (x : Int) * 256 + y + 1) = true := decide_eq_true (by omega)
        go_wp2_with fail
        simp [bodyPost, results, Try.results35, go_sem]
        rw [hto.out, if_pos h4]
        exact ⟨rfl, Fr.nil_below (Fr.drew (Fr.of_below (hbA _)))⟩
      · have e4 : decide ((4096 : Int) < (x : Int) * 256 + y + 1) = false := decide_eq_false (by omega)
        go_wp2_with fail
        simp [bodyPost, results, Try.results35, go_sem]
        rw [hto.out, if_neg h4]
        refine ⟨⟨.slice none 0 0, ?_, RdB.nil _ _⟩, Fr.nil_below (Fr.drew (Fr.of_below (hbA _)))⟩
        simp
        omega
end Go.Proofs.Ytgmpdclmfcmodaa
