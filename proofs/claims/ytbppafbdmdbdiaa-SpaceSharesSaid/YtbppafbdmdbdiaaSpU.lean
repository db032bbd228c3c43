/-
  Walks: Fork.
-/
import Derived.Test.YtbppafbdmdbdiaaSpT
namespace Go.Proofs.Ytbppafbdmdbdiaa
open Go.RowKit
set_option linter.unusedVariables false

theorem child_none (x : AS) (k : Nat) (h : (needA x k).page k = none) : childA (needA x k) (k + 1) = { childA x k with known := upd (childA x k).known k true } := by
  unfold childA
  congr 1
  · funext p
    show decide (p < k + 1) = upd (fun p => decide (p < k)) k true p
    by_cases e : p = k
    · rw [e, upd_at]; simp
    · rw [upd_ne _ _ _ _ e]; simp; omega
  · funext p
    by_cases e : p = k
    · rw [e, h]; simp
    · rw [needA_page_ne _ _ _ e, show decide (p < k + 1) = decide (p < k) by simp; omega]
  · funext p
    by_cases e : p = k
    · rw [e, h]; simp
    · rw [needA_page_ne _ _ _ e]
      show _ = if p < k then x.page p else none
      by_cases h1 : p < k
      · rw [if_pos (by omega), if_pos h1]
      · rw [if_neg (by omega), if_neg h1]
theorem child_some (x : AS) (k : Nat) (b : List UInt8) (h : (needA x k).page k = some b) : childA (needA x k) (k + 1) = { childA x k with known := upd (childA x k).known k true, page := upd (childA x k).page k (some b), changed := upd (childA x k).changed k true } := by
  unfold childA
  congr 1
  · funext p
    show decide (p < k + 1) = upd (fun p => decide (p < k)) k true p
    by_cases e : p = k
    · rw [e, upd_at]; simp
    · rw [upd_ne _ _ _ _ e]; simp; omega
  · funext p
    by_cases e : p = k
    · rw [e, upd_at, h]; simp
    · rw [upd_ne _ _ _ _ e, needA_page_ne _ _ _ e, show decide (p < k + 1) = decide (p < k) by simp; omega]
  · funext p
    by_cases e : p = k
    · rw [e, upd_at, h]; simp
    · rw [upd_ne _ _ _ _ e, needA_page_ne _ _ _ e]
      show _ = if p < k then x.page p else none
      by_cases h1 : p < k
      · rw [if_pos (by omega), if_pos h1]
      · rw [if_neg (by omega), if_neg h1]
theorem child_zero (a : AS) (hm : Pages) (C : Source) : view C hm emptySp = childA a 0 := by
  unfold view childA emptySp
  congr 1

/-- The spaces behind a fork, the pages below k done. -/
def ForkI (C : Source) (B : Nat) (sps : Nat → Option Sp) (hm : Pages) (g f : Nat) (a : AS) (k : Nat) (w w' : World) : Prop :=
  ∃ s1 c1 hm1, All C B w' (upd (upd sps g (some s1)) f (some c1)) hm1 ∧ view C hm1 s1 = needUp k a ∧ view C hm1 c1 = childA (needUp k a) k ∧
    (∀ k' x, k' ≠ g → sps k' = some x → view C hm1 x = view C hm x) ∧ Mv B C.X w w' ∧ ∀ p, p < k → c1.pg p = s1.pg p ∧ ∀ q, s1.pg p = some q → ∃ b, hm1 q = some (b, true)

section
variable {C : Source} {B : Nat} {w w' : World} {sps : Nat → Option Sp} {hm : Pages} {g : Nat} {s : Sp}
set_option maxRecDepth 100000 in
set_option maxHeartbeats 8000000 in
theorem fork_all (ok : SourceOk C B) (h : All C B w sps hm) (hg : sps g = some s) (hB : B ≤ w.heap.size) :
    Calls Try.prog 20 #[.pointer (some ⟨g, 0, none⟩)] w fun e w' => e = .returned (ptrV (some w.heap.size)) ∧ ForkI C B sps hm g w.heap.size (view C hm s) 64 w w' := by
  have hq := ptr23_some
  have hz := z86
  have hnew := h.newsp ok.keeps hB
  have hb0 : Below w.heap.size w (w.alloc (.cells (spCells emptySp) 86)) := (Below.refl _ _).alloc (Nat.le_refl _) _
  have hgf : g ≠ w.heap.size := by have := (h.blk g s hg).1.lt; omega
  have hfr := h.fresh
  have hst : ForkI C B sps hm g w.heap.size (view C hm s) 0 w (w.alloc (.cells (spCells emptySp) 86)) := by
    refine ⟨s, emptySp, hm, ?_, rfl, child_zero _ _ _, fun _ _ _ _ => rfl, Mv.of_below hb0, fun p hp => absurd hp (by omega)⟩
    rw [upd_same sps g _ hg]
    exact hnew
  have HST := Lib.hid hst
  have HFR := Lib.hid hfr
  have HSZ : Hid (w.heap.size < (w.alloc (.cells (spCells emptySp) 86)).heap.size) := Lib.hid (by simp)
  clear hnew hb0 hst hfr h
  obtain ⟨a, ha⟩ : ∃ a, a = view C hm s := ⟨_, rfl⟩
  rw [← ha] at HST ⊢
  clear ha
  unfold emptySp at *
  go_enter Try.func20, Try.ntmps20
  go_wp2_with fail
  generalize w.alloc (.cells (spCells ⟨.nilFunc, fun _ => false, fun _ => false, fun _ => false, fun _ => none⟩) 86) = W0 at *
  clear hz
  obtain ⟨f, hf⟩ : ∃ f, f = w.heap.size := ⟨_, rfl⟩
  rw [← hf] at hgf HST HFR HSZ ⊢
  have hBf : B ≤ f := by omega
  have HF := Lib.hid hf
  clear hf
  go_loopg [10] 64 (fun q iv wr => ∃ k : Nat, iv = .int .i64 k ∧ q = 64 - k ∧ k ≤ 64 ∧ ForkI C B sps hm g f a k w wr)
  case atStart => exact ⟨0, rfl, rfl, by omega, HST.out⟩
  case round =>
    obtain ⟨k, rfl, rfl, hk, s1, c1, hm1, hA1, hs1, hc1, ho1, hmv1, hsh1⟩ := hrel
    have HSH1 := Lib.hid hsh1
    clear hsh1
    have HA1 := Lib.hid hA1
    have HS1 := Lib.hid hs1
    have HC1 := Lib.hid hc1
    have HO1 := Lib.hid ho1
    have HMV1 := Lib.hid hmv1
    have hsz1 := hmv1.size
    clear hA1 hs1 hc1 ho1 hmv1
    by_cases hlt : k < 64
    · have i1 : (k : Int) < 64 := by omega
      have i0 : (0 : Int) ≤ (k : Int) := by omega
      have hbf := (HA1.out.blk f c1 (upd_at _ _ _)).1
      have k1 : wr.cell? ⟨f, 1 + k, none⟩ = some (.bool (c1.known k)) := (hbf.cell _).trans (sp_known c1 k hlt)
      have f1 := hbf.frozen (1 + k)
      have zf := hbf.lt
      have hset := hbf.set_ (1 + k) (.bool true)
      rw [sp_set_known c1 k true hlt] at hset
      have hfr1 : Fr [f] wr (wr.setCell ⟨f, 1 + k, none⟩ (.bool true)) := (Fr.refl _ _).setCell (.inl (by simp)) _
      have hA2 := HA1.out.flags ok.keeps (upd_at _ f (some c1)) { c1 with known := upd c1.known k true } rfl (fun _ h => h) rfl (fun p hp => HA1.out.inv f c1 (upd_at _ _ _) p (by
        replace hp : upd c1.known k true p = false := hp
        by_cases e : p = k
        · rw [e, upd_at] at hp; cases hp
        · rw [upd_ne _ _ _ _ e] at hp; exact hp)) hfr1 hset
      rw [upd_upd] at hA2
      have hmv2 := HMV1.out.trans (HA1.out.toRep.fr_sp (upd_at _ f (some c1)) hfr1).more
      have hg2 : upd (upd sps g (some s1)) f (some { c1 with known := upd c1.known k true }) g = some s1 := by rw [upd_ne _ _ _ _ hgf, upd_at]
      have HN := Lib.hid (need_more ok hA2 hg2 k hlt (by have := hfr1.size; omega))
      have HMV2 := Lib.hid hmv2
      clear hset hfr1 hA2 hmv2 hg2 hbf
      go_wp2_with fail
      refine HN.out.mono ?_
      rintro e w3 ⟨s3, hm3, hA3, hv3, ho3, hmv3, rfl, hk1, hk2, _⟩
      have HK1 := Lib.hid hk1
      have HK2 := Lib.hid hk2
      clear hk1 hk2
      rw [upd_comm _ _ _ _ _ hgf, upd_upd] at hA3
      have hfc : upd (upd sps g (some s3)) f (some { c1 with known := upd c1.known k true }) f = some { c1 with known := upd c1.known k true } := upd_at _ _ _
      have hgs : upd (upd sps g (some s3)) f (some { c1 with known := upd c1.known k true }) g = some s3 := by rw [upd_ne _ _ _ _ hgf, upd_at]
      have hvc : view C hm3 { c1 with known := upd c1.known k true } = { childA (needUp k a) k with known := upd (childA (needUp k a) k).known k true } := by
        rw [ho3 f _ (fun e => hgf e.symm) (upd_at _ _ _), ← HC1.out]
        rfl
      have hoth : ∀ k' x, k' ≠ g → sps k' = some x → view C hm3 x = view C hm x := fun k' x hne hx => by
        have hkf : k' ≠ f := fun e => by rw [e, HFR.out] at hx; cases hx
        rw [ho3 k' x hne (by rw [upd_ne _ _ _ _ hkf, upd_ne _ _ _ _ hne]; exact hx)]
        exact HO1.out k' x hne hx
      rw [HS1.out] at hv3
      have hps := page_some (C := C) hA3.toRep hgs k
      rw [hv3] at hps
      have HA3 := Lib.hid hA3
      have HV3 := Lib.hid hv3
      have HVC := Lib.hid hvc
      have HOTH := Lib.hid hoth
      have HPS := Lib.hid hps
      have HMV3 := Lib.hid (HMV2.out.trans hmv3)
      have HFC := Lib.hid hfc
      have HGS := Lib.hid hgs
      clear hA3 hv3 hvc hoth hps hmv3 ho3 hfc hgs HN HMV2 k1 f1
      unfold ptrV
      cases hpg : s3.pg k with
      | none =>
        have hpn : (needA (needUp k a) k).page k = none := by
          have h9 := HPS.out
          rw [hpg] at h9
          cases hpp : (needA (needUp k a) k).page k with
          | none => rfl
          | some b => rw [hpp] at h9; cases h9
        have HPN := Lib.hid hpn
        have hq2 := nil_neq
        have hsx : ∀ p, p < k + 1 → (upd c1.pg k none) p = s3.pg p ∧ ∀ q, s3.pg p = some q → ∃ b, hm3 q = some (b, true) := fun p hp => by
          by_cases e : p = k
          · subst e; rw [upd_at, hpg]; exact ⟨rfl, fun q hq => by cases hq⟩
          · rw [upd_ne _ _ _ _ e, HK1.out p e]
            obtain ⟨h1, h2⟩ := HSH1.out p (by omega)
            exact ⟨h1, fun q hq => let ⟨b, hb⟩ := h2 q hq; ⟨b, HK2.out _ _ hb⟩⟩
        have hc0 : c1.pg k = none := by
          cases hcp : c1.pg k with
          | none => rfl
          | some r =>
            have h9 := (HA1.out.inv f c1 (upd_at _ _ _) k (by
              have h8 : (view C hm1 c1).known k = false := by rw [HC1.out]; simp [childA]
              exact h8)).2
            rw [hcp] at h9; cases h9
        rw [upd_same c1.pg k none hc0] at hsx
        have HSX := Lib.hid hsx
        clear hpg hpn hsx hc0
        simp only [Option.map_none]
        go_wp2_with fail
        go_roundg (64 - (k + 1))
        case measure => omega
        case rel => exact ⟨k + 1, by go_num, rfl, by omega, s3, _, hm3, HA3.out, HV3.out, by rw [HVC.out]; exact (child_none _ _ HPN.out).symm, HOTH.out, HMV3.out, HSX.out⟩
      | some r =>
        obtain ⟨⟨b0, sh0⟩, hmr⟩ := HA3.out.ref g s3 HGS.out k r hpg
        have hpn : (needA (needUp k a) k).page k = some b0 := by
          rw [← HV3.out]
          show pageOf hm3 (s3.pg k) = _
          rw [hpg]
          show (hm3 r).map _ = _
          rw [hmr]; rfl
        have HPN := Lib.hid hpn
        obtain ⟨hl, hbr, _⟩ := HA3.out.mem r b0 sh0 hmr
        have hbf := (HA3.out.blk f _ HFC.out).1
        have hrf := HA3.out.toRep.page_ne HFC.out hmr
        have c1' : w3.cell? ⟨r, 64, none⟩ = some (.bool sh0) := by rw [hbr.cell, held_shared b0 sh0 hl]
        have f1 := hbr.frozen 64
        have c2 : w3.cell? ⟨f, 193 + k, none⟩ = some (ptrV (c1.pg k)) := by rw [hbf.cell, sp_pg _ k hlt]
        have f2 := hbf.frozen (193 + k)
        have c3 : w3.cell? ⟨f, 129 + k, none⟩ = some (.bool (c1.changed k)) := by rw [hbf.cell, sp_changed _ k hlt]
        have f3 := hbf.frozen (129 + k)
        have zr := hbr.lt
        have zf3 := hbf.lt
        have hne1 : 193 + k ≠ 129 + k := by omega
        have HSH := Lib.hid (HA3.out.share ok HFC.out k hlt (upd_at _ _ _) hmr rfl)
        have hq2 := ptr_neq2
        have HPG := Lib.hid hpg
        clear hpg hmr hpn hl hbr hbf
        unfold ptrV at HSH
        simp only [Option.map_some] at HSH ⊢
        go_wp2_with fail
        obtain ⟨c4, hm4, hA4, hv4, ho4, hmv4, hcp4, hhm4⟩ := HSH.out
        rw [upd_upd] at hA4
        go_roundg (64 - (k + 1))
        case measure => omega
        case rel =>
          refine ⟨k + 1, by go_num, rfl, by omega, s3, c4, hm4, hA4, ?_, ?_, fun k' x hne hx => ?_, HMV3.out.trans hmv4, fun p hp => ?_⟩
          · rw [ho4 g s3 hgf HGS.out]; exact HV3.out
          · rw [hv4, HVC.out]
            exact (child_some _ _ b0 HPN.out).symm
          · have hkf : k' ≠ f := fun e => by rw [e, HFR.out] at hx; cases hx
            rw [ho4 k' x hkf (by rw [upd_ne _ _ _ _ hkf, upd_ne _ _ _ _ hne]; exact hx)]
            exact HOTH.out k' x hne hx
          · have hup : ∀ q b, hm3 q = some (b, true) → ∃ b', hm4 q = some (b', true) := fun q b hq => by
              rw [hhm4]
              by_cases e : q = r
              · rw [e, upd_at]; exact ⟨_, rfl⟩
              · rw [upd_ne _ _ _ _ e]; exact ⟨b, hq⟩
            rw [hcp4]
            by_cases e : p = k
            · subst e
              rw [upd_at, HPG.out]
              refine ⟨rfl, fun q hq => ?_⟩
              injection hq with hq
              subst hq
              rw [hhm4, upd_at]
              exact ⟨_, rfl⟩
            · rw [upd_ne _ _ _ _ e, HK1.out p e]
              obtain ⟨h1, h2⟩ := HSH1.out p (by omega)
              exact ⟨h1, fun q hq => let ⟨b, hb⟩ := h2 q hq; hup q b (HK2.out _ _ hb)⟩
    · obtain rfl : k = 64 := by omega
      have i1 : decide (((64 : Nat) : Int) < 64) = false := by decide
      go_wp2_with fail
      go_ret
      have hf9 := HF.out
      subst hf9
      exact ⟨rfl, s1, c1, hm1, HA1.out, HS1.out, HC1.out, HO1.out, HMV1.out, HSH1.out⟩
end
end Go.Proofs.Ytbppafbdmdbdiaa
