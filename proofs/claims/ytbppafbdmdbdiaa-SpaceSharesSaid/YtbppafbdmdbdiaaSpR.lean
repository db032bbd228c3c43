/-
  Walks: Unmap, Has, SetWord.
-/
import Derived.Test.YtbppafbdmdbdiaaSpQ
import Derived.Test.YtbppafbdmdbdiaaSpNil
namespace Go.Proofs.Ytbppafbdmdbdiaa
open Go.RowKit
set_option linter.unusedVariables false

/-- A page is unmapped. -/
def dropA (a : AS) (p : Nat) : AS := { a with page := upd a.page p none, changed := upd a.changed p true }
def unmapA (a : AS) (p : Int) : AS × Nat :=
  if p < 0 ∨ 64 ≤ p then (a, 2) else if ((needA a p.toNat).page p.toNat).isSome then (dropA (needA a p.toNat) p.toNat, 0) else (needA a p.toNat, 8)
def hasA (a : AS) (p : Int) : AS × Bool :=
  if p < 0 ∨ 64 ≤ p then (a, false) else (needA a p.toNat, ((needA a p.toNat).page p.toNat).isSome)
def BoolK (e : Ending) (r : Bool) : Sp → Pages → Prop := fun _ _ => e = .returned (.bool r)

section
variable {C : Source} {B : Nat} {w w' : World} {sps : Nat → Option Sp} {hm : Pages} {g : Nat} {s : Sp}

theorem All.drop (h : All C B w sps hm) (ok : SourceOk C B) (hg : sps g = some s) (p : Nat) (hp : p < 64) (hk : s.known p = true)
    (hw : w' = (w.setCell ⟨g, 193 + p, none⟩ (.pointer none)).setCell ⟨g, 129 + p, none⟩ (.bool true)) :
    ∃ s' hm', All C B w' (upd sps g (some s')) hm' ∧ view C hm' s' = dropA (view C hm s) p ∧ (∀ k y, k ≠ g → sps k = some y → view C hm' y = view C hm y) ∧ Mv B C.X w w' := by
  have hbg := (h.blk g s hg).1
  have hset := hbg.set_ (193 + p) (ptrV none)
  rw [sp_set_pg s p _ hp] at hset
  have hf1 : Fr [g] w (w.setCell ⟨g, 193 + p, none⟩ (.pointer none)) := (Fr.refl _ _).setCell (.inl (by simp)) _
  have hinv : ∀ r, s.known r = false → s.asked r = false ∧ upd s.pg p none r = none := fun r hr => by
    obtain ⟨i1, i2⟩ := h.inv g s hg r hr
    exact ⟨i1, by rw [upd_ne _ _ _ _ (fun e => by rw [e, hk] at hr; cases hr)]; exact i2⟩
  have hA1 := h.take ok.keeps hg p { s with pg := upd s.pg p none } rfl (fun _ h => h) rfl hinv hf1 hset
  have hg1 : upd sps g (some { s with pg := upd s.pg p none }) g = some { s with pg := upd s.pg p none } := upd_at _ _ _
  have hset2 := hset.set_ (129 + p) (.bool true)
  rw [sp_set_changed _ p true hp] at hset2
  have hf2 : Fr [g] (w.setCell ⟨g, 193 + p, none⟩ (.pointer none)) ((w.setCell ⟨g, 193 + p, none⟩ (.pointer none)).setCell ⟨g, 129 + p, none⟩ (.bool true)) := (Fr.refl _ _).setCell (.inl (by simp)) _
  have hA2 := hA1.flags ok.keeps hg1 { s with pg := upd s.pg p none, changed := upd s.changed p true } rfl (fun _ h => h) rfl hinv hf2 hset2
  rw [upd_upd] at hA2
  subst hw
  refine ⟨_, _, hA2, ?_, fun k y hne hy => rfl, ((h.toRep.fr_sp hg hf1).trans (hA1.toRep.fr_sp hg1 hf2)).more⟩
  unfold view dropA
  congr 1
  funext r
  show pageOf hm (upd s.pg p none r) = upd _ p none r
  by_cases e : r = p
  · subst e
    rw [upd_at, upd_at]
    rfl
  · rw [upd_ne _ _ _ _ e, upd_ne _ _ _ _ e]

set_option maxRecDepth 100000 in
set_option maxHeartbeats 8000000 in
theorem unmap_all (ok : SourceOk C B) (h : All C B w sps hm) (hg : sps g = some s) (p : Int) (hB : B ≤ w.heap.size) :
    Calls Try.prog 23 #[.pointer (some ⟨g, 0, none⟩), .int .i64 p] w fun e w' => Stp C B sps hm g (unmapA (view C hm s) p).1 w w' (ErrK e (unmapA (view C hm s) p).2) := by
  have hq := ptr23_some
  by_cases hp : 0 ≤ p ∧ p < 64
  · have hpb : Hid (pageB p = true) := Lib.hid (decide_eq_true hp)
    obtain ⟨n, rfl⟩ : ∃ n : Nat, p = n := ⟨p.toNat, by omega⟩
    have hn : n < 64 := by omega
    have hr : unmapA (view C hm s) n = if ((needA (view C hm s) n).page n).isSome then (dropA (needA (view C hm s) n) n, 0) else (needA (view C hm s) n, 8) := by unfold unmapA; rw [if_neg (by omega), Int.toNat_natCast]
    obtain ⟨R, hR⟩ : ∃ R, R = unmapA (view C hm s) n := ⟨_, rfl⟩
    rw [← hR]
    rw [hr] at hR
    have HR := Lib.hid hR
    have HN := Lib.hid (need_all ok h hg n hn hB)
    have HNK := Lib.hid (needA_known (view C hm s) n)
    have i1 : (n : Int) < 64 := by omega
    have i0 : (0 : Int) ≤ (n : Int) := by omega
    clear hr hR hp
    go_enter Try.func23, Try.ntmps23
    go_wp2_with fail
    refine (isPage_any _ _).mono ?_
    rintro e w' ⟨rfl, rfl⟩
    rw [hpb.out]
    dsimp only
    go_wp2_with fail
    refine HN.out.mono ?_
    rintro e w2 ⟨s2, hm2, hA2, hv2, ho2, hmv2, rfl⟩
    have hgr2 : upd sps g (some s2) g = some s2 := upd_at _ _ _
    have hps := page_some (C := C) hA2.toRep hgr2 n
    rw [hv2] at hps
    have HA2 := Lib.hid hA2
    have HV2 := Lib.hid hv2
    have HO2 := Lib.hid ho2
    have HMV2 := Lib.hid hmv2
    have hsz2 := hmv2.size
    have HPS := Lib.hid hps
    clear hA2 hv2 ho2 hmv2 hps HN hgr2
    unfold ptrV
    cases hpg : s2.pg n with
    | none =>
      have hr2 : R = (needA (view C hm s) n, 8) := by rw [HR.out, if_neg (by rw [HPS.out, hpg]; simp)]
      have HRF := Lib.hid hr2
      have hq2 := nil_eql
      clear hr2 hpg
      simp only [Option.map_none]
      go_wp2_with fail
      go_ret
      exact ⟨s2, hm2, HA2.out, by rw [HRF.out]; exact HV2.out, HO2.out, HMV2.out, by rw [HRF.out]; rfl⟩
    | some r =>
      have hr2 : R = (dropA (needA (view C hm s) n) n, 0) := by rw [HR.out, if_pos (by rw [HPS.out, hpg]; rfl)]
      have HRF := Lib.hid hr2
      have hq2 := ptr_eql2
      have hkn : s2.known n = true := by
        have e1 : (view C hm2 s2).known n = true := by rw [HV2.out]; exact HNK.out
        exact e1
      have hfin := HA2.out.drop ok (upd_at _ _ _) n hn hkn rfl
      have hbg3 := (HA2.out.blk g s2 (upd_at _ _ _)).1
      have c1 : w2.cell? ⟨g, 193 + n, none⟩ = some (ptrV (s2.pg n)) := by rw [hbg3.cell, sp_pg s2 n hn]
      have f1 := hbg3.frozen (193 + n)
      have c2 : w2.cell? ⟨g, 129 + n, none⟩ = some (.bool (s2.changed n)) := by rw [hbg3.cell, sp_changed s2 n hn]
      have f2 := hbg3.frozen (129 + n)
      have HFIN := Lib.hid hfin
      have zg := hbg3.lt
      have hne : 193 + n ≠ 129 + n := by omega
      clear hr2 hpg hkn hfin hbg3
      simp only [Option.map_some]
      go_wp2_with fail
      obtain ⟨s4, hm4, hA4, hv4, ho4, hmv4⟩ := HFIN.out
      rw [upd_upd] at hA4
      go_ret
      exact ⟨s4, hm4, hA4, by rw [hv4, HV2.out, HRF.out], fun k y hne hy => by rw [ho4 k y hne (by rw [upd_ne _ _ _ _ hne]; exact hy)]; exact HO2.out k y hne hy, HMV2.out.trans hmv4, by rw [HRF.out]; rfl⟩
  · have hpb : Hid (pageB p = false) := Lib.hid (decide_eq_false hp)
    have hr : unmapA (view C hm s) p = (view C hm s, 2) := by unfold unmapA; rw [if_pos (by omega)]
    rw [hr]
    have HS := Lib.hid (fun e (he : ErrK e 2 s hm) => Stp.self h hg he)
    clear hr hp
    go_enter Try.func23, Try.ntmps23
    go_wp2_with fail
    refine (isPage_any _ _).mono ?_
    rintro e w' ⟨rfl, rfl⟩
    rw [hpb.out]
    dsimp only
    go_wp2_with fail
    go_ret
    exact HS.out _ rfl

theorem ptr23_neq (W : World) (q : Nat) : (binOp BinOp.neq 23 (.pointer (some ⟨q, 0, none⟩)) (.pointer none)).run Try.prog W = .ok (.bool true) W := by kernel_rfl
set_option maxRecDepth 100000 in
set_option maxHeartbeats 8000000 in
theorem has_all (ok : SourceOk C B) (h : All C B w sps hm) (hg : sps g = some s) (p : Int) (hB : B ≤ w.heap.size) :
    Calls Try.prog 33 #[.pointer (some ⟨g, 0, none⟩), .int .i64 p] w fun e w' => Stp C B sps hm g (hasA (view C hm s) p).1 w w' (BoolK e (hasA (view C hm s) p).2) := by
  have hq := ptr23_neq
  by_cases hp : 0 ≤ p ∧ p < 64
  · have hpb : Hid (pageB p = true) := Lib.hid (decide_eq_true hp)
    obtain ⟨n, rfl⟩ : ∃ n : Nat, p = n := ⟨p.toNat, by omega⟩
    have hn : n < 64 := by omega
    have hr : hasA (view C hm s) n = (needA (view C hm s) n, ((needA (view C hm s) n).page n).isSome) := by unfold hasA; rw [if_neg (by omega), Int.toNat_natCast]
    rw [hr]
    have HN := Lib.hid (need_all ok h hg n hn hB)
    clear hr hp
    go_enter Try.func33, Try.ntmps33
    go_wp2_with fail
    refine (isPage_any _ _).mono ?_
    rintro e w' ⟨rfl, rfl⟩
    rw [hpb.out]
    dsimp only
    go_wp2_with fail
    refine HN.out.mono ?_
    rintro e w2 ⟨s2, hm2, hA2, hv2, ho2, hmv2, rfl⟩
    have hgr2 : upd sps g (some s2) g = some s2 := upd_at _ _ _
    have hps := page_some (C := C) hA2.toRep hgr2 n
    rw [hv2] at hps
    have HA2 := Lib.hid hA2
    have HV2 := Lib.hid hv2
    have HO2 := Lib.hid ho2
    have HMV2 := Lib.hid hmv2
    have HPS := Lib.hid hps
    clear hA2 hv2 ho2 hmv2 hps HN hgr2
    unfold ptrV
    cases hpg : s2.pg n with
    | none =>
      have hr2 : ((needA (view C hm s) n).page n).isSome = false := by rw [HPS.out, hpg]; rfl
      have HR2 := Lib.hid hr2
      have hq2 := nil_neq
      clear hr2 hpg
      simp only [Option.map_none]
      go_wp2_with fail
      go_ret
      exact ⟨s2, hm2, HA2.out, HV2.out, HO2.out, HMV2.out, by rw [HR2.out]; rfl⟩
    | some r =>
      have hr2 : ((needA (view C hm s) n).page n).isSome = true := by rw [HPS.out, hpg]; rfl
      have HR2 := Lib.hid hr2
      have hq2 := ptr_neq2
      clear hr2 hpg
      simp only [Option.map_some]
      go_wp2_with fail
      go_ret
      exact ⟨s2, hm2, HA2.out, HV2.out, HO2.out, HMV2.out, by rw [HR2.out]; rfl⟩
  · have hpb : Hid (pageB p = false) := Lib.hid (decide_eq_false hp)
    have hr : hasA (view C hm s) p = (view C hm s, false) := by unfold hasA; rw [if_pos (by omega)]
    rw [hr]
    have HS := Lib.hid (fun e (he : BoolK e false s hm) => Stp.self h hg he)
    clear hr hp
    go_enter Try.func33, Try.ntmps33
    go_wp2_with fail
    refine (isPage_any _ _).mono ?_
    rintro e w' ⟨rfl, rfl⟩
    rw [hpb.out]
    dsimp only
    go_wp2_with fail
    go_ret
    exact HS.out _ rfl
end
end Go.Proofs.Ytbppafbdmdbdiaa
