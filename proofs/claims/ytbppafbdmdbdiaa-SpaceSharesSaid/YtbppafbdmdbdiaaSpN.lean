/-
  Walks: Map.
-/
import Derived.Test.YtbppafbdmdbdiaaSpM
namespace Go.Proofs.Ytbppafbdmdbdiaa
open Go.RowKit
set_option linter.unusedVariables false

/-- A page is mapped. -/
def putA (a : AS) (p : Nat) (l : List UInt8) : AS := { a with page := upd a.page p (some (padL l)), changed := upd a.changed p true }
def mapA (a : AS) (p : Int) (l : List UInt8) : AS × Nat :=
  if p < 0 ∨ 64 ≤ p then (a, 2) else if 64 < l.length then (a, 5) else if ((needA a p.toNat).page p.toNat).isSome then (needA a p.toNat, 13) else (putA (needA a p.toNat) p.toNat l, 0)

section
variable {C : Source} {B : Nat} {w w' : World} {sps : Nat → Option Sp} {hm : Pages} {g : Nat} {s : Sp}

/-- A page of a new block is put, and marked. -/
theorem All.put_new (h : All C B w sps hm) (ok : SourceOk C B) (hg : sps g = some s) (p : Nat) (hp : p < 64) (hk : s.known p = true) (q : Nat) (l : List UInt8) (hnew : ∀ c, hm q ≠ some c) (hBq : B ≤ q) (hbq : Blk w q 91 (heldCells (padL l) false))
    (hw : w' = (w.setCell ⟨g, 193 + p, none⟩ (ptrV (some q))).setCell ⟨g, 129 + p, none⟩ (.bool true)) :
    ∃ s' hm', All C B w' (upd sps g (some s')) hm' ∧ view C hm' s' = putA (view C hm s) p l ∧ (∀ k y, k ≠ g → sps k = some y → view C hm' y = view C hm y) ∧ Mv B C.X w w' := by
  have hbg := (h.blk g s hg).1
  have hset := hbg.set_ (193 + p) (ptrV (some q))
  rw [sp_set_pg s p _ hp] at hset
  have hqg : q ≠ g := hbq.ne_ hbg (by decide)
  have hf1 : Fr [g] w (w.setCell ⟨g, 193 + p, none⟩ (ptrV (some q))) := (Fr.refl _ _).setCell (.inl (by simp)) _
  have hinv : ∀ r, s.known r = false → s.asked r = false ∧ upd s.pg p (some q) r = none := fun r hr => by
    obtain ⟨i1, i2⟩ := h.inv g s hg r hr
    exact ⟨i1, by rw [upd_ne _ _ _ _ (fun e => by rw [e, hk] at hr; cases hr)]; exact i2⟩
  have hA1 := h.put ok.keeps hg p { s with pg := upd s.pg p (some q) } q (padL l) rfl (fun _ h => h) rfl hinv (padL_length l) hf1 hset hnew hBq (hbq.far (p := ⟨g, 193 + p, none⟩) (by show q ≠ g; exact hqg) _)
  have hg1 : upd sps g (some { s with pg := upd s.pg p (some q) }) g = some { s with pg := upd s.pg p (some q) } := upd_at _ _ _
  have hset2 := hset.set_ (129 + p) (.bool true)
  rw [sp_set_changed _ p true hp] at hset2
  have hf2 : Fr [g] (w.setCell ⟨g, 193 + p, none⟩ (ptrV (some q))) ((w.setCell ⟨g, 193 + p, none⟩ (ptrV (some q))).setCell ⟨g, 129 + p, none⟩ (.bool true)) := (Fr.refl _ _).setCell (.inl (by simp)) _
  have hA2 := hA1.flags ok.keeps hg1 { s with pg := upd s.pg p (some q), changed := upd s.changed p true } rfl (fun _ h => h) rfl hinv hf2 hset2
  rw [upd_upd] at hA2
  subst hw
  refine ⟨_, _, hA2, ?_, fun k y hne hy => ?_, ((h.toRep.fr_sp hg hf1).trans (hA1.toRep.fr_sp hg1 hf2)).more⟩
  · unfold view putA
    congr 1
    funext r
    show pageOf (upd hm q _) (upd s.pg p (some q) r) = upd _ p _ r
    by_cases e : r = p
    · subst e
      rw [upd_at, upd_at]
      show (upd hm q _ q).map _ = _
      rw [upd_at]
      rfl
    · rw [upd_ne _ _ _ _ e, upd_ne _ _ _ _ e]
      exact view_new h.toRep q hnew _ g s hg r
  · unfold view
    congr 1
    funext r
    exact view_new h.toRep q hnew _ k y hy r

theorem needA_known (a : AS) (p : Nat) : (needA a p).known p = true := by
  unfold needA
  split
  · assumption
  · split
    · exact upd_at _ _ _
    · exact upd_at _ _ _

set_option maxRecDepth 100000 in
set_option maxHeartbeats 8000000 in
theorem map_all (ok : SourceOk C B) (h : All C B w sps hm) (hg : sps g = some s) (p : Int) (t : ByteArray) (ht : t.size ≤ 140737488355328) (hB : B ≤ w.heap.size) :
    Calls Try.prog 13 #[.pointer (some ⟨g, 0, none⟩), .int .i64 p, .string t] w fun e w' => Stp C B sps hm g (mapA (view C hm s) p t.data.toList).1 w w' (ErrK e (mapA (view C hm s) p t.data.toList).2) := by
  have hq := ptr23_some
  have hL : t.data.toList.length = t.size := by simp
  by_cases hp : 0 ≤ p ∧ p < 64
  · have hpb : Hid (pageB p = true) := Lib.hid (decide_eq_true hp)
    obtain ⟨n, rfl⟩ : ∃ n : Nat, p = n := ⟨p.toNat, by omega⟩
    have hn : n < 64 := by omega
    by_cases hl : 64 < t.size
    · have hr : mapA (view C hm s) n t.data.toList = (view C hm s, 5) := by unfold mapA; rw [if_neg (by omega), if_pos (by omega)]
      rw [hr]
      have HS := Lib.hid (fun e (he : ErrK e 5 s hm) => Stp.self h hg he)
      have e1 : decide ((64 : Int) < t.size) = true := decide_eq_true (by omega)
      clear hr hL hp
      go_enter Try.func13, Try.ntmps13
      go_wp2_with fail
      refine (isPage_any _ _).mono ?_
      rintro e w' ⟨rfl, rfl⟩
      rw [hpb.out]
      dsimp only
      go_wp2_with fail
      go_ret
      exact HS.out _ rfl
    · have e1 : decide ((64 : Int) < t.size) = false := decide_eq_false (by omega)
      have hr : mapA (view C hm s) n t.data.toList = if ((needA (view C hm s) n).page n).isSome then (needA (view C hm s) n, 13) else (putA (needA (view C hm s) n) n t.data.toList, 0) := by unfold mapA; rw [if_neg (by omega), if_neg (by omega), Int.toNat_natCast]
      obtain ⟨R, hR⟩ : ∃ R, R = mapA (view C hm s) n t.data.toList := ⟨_, rfl⟩
      rw [← hR]
      rw [hr] at hR
      have HR := Lib.hid hR
      have HN := Lib.hid (need_all ok h hg n hn hB)
      have HNK := Lib.hid (needA_known (view C hm s) n)
      have HNH := Lib.hid (fun W => newHeld_any W t ht)
      have i1 : (n : Int) < 64 := by omega
      have i0 : (0 : Int) ≤ (n : Int) := by omega
      clear hr hR hL hp
      go_enter Try.func13, Try.ntmps13
      go_wp2_with fail
      refine (isPage_any _ _).mono ?_
      rintro e w' ⟨rfl, rfl⟩
      rw [hpb.out]
      dsimp only
      go_wp2_with fail
      refine HN.out.mono ?_
      rintro e w2 ⟨s2, hm2, hA2, hv2, ho2, hmv2, rfl⟩
      have hgr2 : upd sps g (some s2) g = some s2 := upd_at _ _ _
      have hps := page_some (C := C) hA2.toRep hgr2 n
      rw [hv2] at hps
      have HA2 := Lib.hid hA2
      have HV2 := Lib.hid hv2
      have HO2 := Lib.hid ho2
      have HMV2 := Lib.hid hmv2
      have hsz2 := hmv2.size
      have HPS := Lib.hid hps
      clear hA2 hv2 ho2 hmv2 hps HN hgr2
      unfold ptrV
      cases hpg : s2.pg n with
      | some r =>
        have hr2 : R = (needA (view C hm s) n, 13) := by rw [HR.out, if_pos (by rw [HPS.out, hpg]; rfl)]
        have HRF := Lib.hid hr2
        have hq2 := ptr_neq2
        clear hr2 hpg
        simp only [Option.map_some]
        go_wp2_with fail
        go_ret
        exact ⟨s2, hm2, HA2.out, by rw [HRF.out]; exact HV2.out, HO2.out, HMV2.out, by rw [HRF.out]; rfl⟩
      | none =>
        have hr2 : R = (putA (needA (view C hm s) n) n t.data.toList, 0) := by rw [HR.out, if_neg (by rw [HPS.out, hpg]; simp)]
        have HRF := Lib.hid hr2
        have hq2 := nil_neq
        clear hr2 hpg
        simp only [Option.map_none]
        go_upto_region 9 with (fail)
        have HBL := Lib.hid (HA2.out.below ok.keeps (Below.refl w2.heap.size w2).drew)
        have HMVd : Hid (Mv B C.X w w2.drew) := Lib.hid HMV2.out.drew
        have hszd : w2.drew.heap.size = w2.heap.size := rfl
        rw [← hszd] at hsz2
        clear hszd
        refine wp_region_mixL (fun _ => True) [] [3, 7] [0, 1, 2, 4, 5, 3, 6, 7] (by kernel_rfl) (by kernel_rfl) trivial ?_
        simp only [inOrder, opAt]
        generalize w2.drew = W2 at *
        iterate 5
          (refine wpMixS_read (v := ?_) rfl rfl (fun w' hS => ?_) ?_
           rotate_left
           · ((try clear hS); go_simp; (try with_reducible rfl))
           try simp only [Act.put, List.setIfInBounds_toArray, List.set_cons_zero, List.set_cons_succ])
        refine wpMixS_eff rfl rfl (fun K hK => ?_)
        go_simp
        refine (HNH.out W2).mono ?_
        rintro e w3 ⟨rfl, hnb, nb⟩
        have hA3 := HBL.out.below ok.keeps nb
        have hgr3 : upd sps g (some s2) g = some s2 := upd_at _ _ _
        have hnew : ∀ c, hm2 W2.heap.size ≠ some c := fun c hc => by
          obtain ⟨b1, sh1⟩ := c
          have := (HBL.out.mem W2.heap.size b1 sh1 hc).2.1.lt
          omega
        have hkn : s2.known n = true := by
          have e1 : (view C hm2 s2).known n = true := by rw [HV2.out]; exact HNK.out
          exact e1
        have hfin := hA3.put_new ok hgr3 n hn hkn W2.heap.size t.data.toList hnew (Nat.le_trans hB hsz2) hnb rfl
        have hbg3 := (hA3.blk g s2 hgr3).1
        have c1 : w3.cell? ⟨g, 193 + n, none⟩ = some (ptrV (s2.pg n)) := by rw [hbg3.cell, sp_pg s2 n hn]
        have f1 := hbg3.frozen (193 + n)
        have c2 : w3.cell? ⟨g, 129 + n, none⟩ = some (.bool (s2.changed n)) := by rw [hbg3.cell, sp_changed s2 n hn]
        have f2 := hbg3.frozen (129 + n)
        have HFIN := Lib.hid hfin
        have NB := Lib.hid nb
        have zg := hbg3.lt
        have hne : 193 + n ≠ 129 + n := by omega
        clear hA3 hgr3 hnew hkn hfin hbg3 nb hnb
        unfold ptrV at HFIN c1
        unfold ptrV
        simp only [Option.map_some] at HFIN ⊢
        try dsimp only
        refine hK.out _ _ _ (fun _ h => h) (fun h => by cases h) ?_
        clear hK K
        try simp only [Act.put, List.setIfInBounds_toArray, List.set_cons_zero, List.set_cons_succ]
        iterate 1
          (refine wpMixS_read (v := ?_) rfl rfl (fun w' hS => ?_) ?_
           rotate_left
           · ((try clear hS); go_simp; (try with_reducible rfl))
           try simp only [Act.put, List.setIfInBounds_toArray, List.set_cons_zero, List.set_cons_succ])
        refine wpMixS_eff rfl rfl (fun K hK => ?_)
        go_simp
        refine hK.out _ _ _ (fun _ h => h) (fun h => by cases h) ?_
        clear hK K
        try simp only [Act.put, List.setIfInBounds_toArray, List.set_cons_zero, List.set_cons_succ]
        refine wpMixS_nil ?_
        go_wp2_with fail
        obtain ⟨s4, hm4, hA4, hv4, ho4, hmv4⟩ := HFIN.out
        rw [upd_upd] at hA4
        go_ret
        exact ⟨s4, hm4, hA4, by rw [hv4, HV2.out, HRF.out], fun k y hne hy => by rw [ho4 k y hne (by rw [upd_ne _ _ _ _ hne]; exact hy)]; exact HO2.out k y hne hy, (HMVd.out.trans (Mv.of_below NB.out)).trans hmv4, by rw [HRF.out]; rfl⟩
  · have hpb : Hid (pageB p = false) := Lib.hid (decide_eq_false hp)
    have hr : mapA (view C hm s) p t.data.toList = (view C hm s, 2) := by unfold mapA; rw [if_pos (by omega)]
    rw [hr]
    have HS := Lib.hid (fun e (he : ErrK e 2 s hm) => Stp.self h hg he)
    clear hr hL hp
    go_enter Try.func13, Try.ntmps13
    go_wp2_with fail
    refine (isPage_any _ _).mono ?_
    rintro e w' ⟨rfl, rfl⟩
    rw [hpb.out]
    dsimp only
    go_wp2_with fail
    go_ret
    exact HS.out _ rfl
end
end Go.Proofs.Ytbppafbdmdbdiaa
