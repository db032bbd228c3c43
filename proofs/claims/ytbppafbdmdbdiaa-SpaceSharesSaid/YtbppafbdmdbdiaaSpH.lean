/-
  Walks: slices.Index and Contains of pages, access.
-/
import Derived.Test.YtbppafbdmdbdiaaSpG
namespace Go.Proofs.Ytbppafbdmdbdiaa
open Go.RowKit
set_option linter.unusedVariables false

theorem ptr_eql (W : World) (q : Nat) : (binOp BinOp.eql 83 (.pointer none) (.pointer (some ⟨q, 0, none⟩))).run Try.prog W = .ok (.bool false) W := by kernel_rfl
theorem ptr_eql2 (W : World) (q : Nat) : (binOp BinOp.eql 83 (.pointer (some ⟨q, 0, none⟩)) (.pointer none)).run Try.prog W = .ok (.bool false) W := by kernel_rfl
theorem nil_eql (W : World) : (binOp BinOp.eql 83 (.pointer none) (.pointer none)).run Try.prog W = .ok (.bool true) W := by kernel_rfl
theorem ptr_neq2 (W : World) (q : Nat) : (binOp BinOp.neq 83 (.pointer (some ⟨q, 0, none⟩)) (.pointer none)).run Try.prog W = .ok (.bool true) W := by kernel_rfl
theorem nil_neq (W : World) : (binOp BinOp.neq 83 (.pointer none) (.pointer none)).run Try.prog W = .ok (.bool false) W := by kernel_rfl
theorem ret_int {k : IntKind} {a b : Int} (h : a = b) : Ending.returned (.int k a) = .returned (.int k b) := by rw [h]

set_option maxRecDepth 100000 in
set_option maxHeartbeats 1000000 in
theorem index_held (w : World) (b off n cap : Nat) (hn : n ≤ 64) (h : ∀ i, i < n → ∃ q, w.cell? ⟨b, off + i, none⟩ = some (ptrV (some q))) :
    Calls Try.prog 54 #[.slice (some ⟨b, off, none⟩) n cap, .pointer none] w fun e w' => e = .returned (.int .i64 (-1)) ∧ w = w' := by
  have H := Lib.hid h
  clear h
  go_enter Try.func54, Try.ntmps54
  go_wp2_with fail
  go_loopg [8] n (fun q iv wr => wr = w ∧ ∃ k : Nat, iv = .int .i64 k ∧ q = n - k ∧ k ≤ n)
  case atStart => exact ⟨rfl, 0, rfl, by omega, by omega⟩
  case round =>
    obtain ⟨rfl, k, rfl, rfl, hk⟩ := hrel
    by_cases hlt : k < n
    · have i1 : (k : Int) < n := by omega
      obtain ⟨q, hc⟩ := H.out k hlt
      unfold ptrV at hc
      simp only [Option.map_some] at hc
      have hq := ptr_eql
      go_wp2_with fail
      go_roundg (n - (k + 1))
      case measure => omega
      case rel => exact ⟨rfl, k + 1, by go_num, rfl, by omega⟩
    · obtain rfl : k = n := by omega
      have i1 : decide ((k : Int) < k) = false := decide_eq_false (by omega)
      go_wp2_with fail
      go_ret
      exact ⟨rfl, rfl⟩

theorem contains_held (w : World) (b off n cap : Nat) (hn : n ≤ 64) (h : ∀ i, i < n → ∃ q, w.cell? ⟨b, off + i, none⟩ = some (ptrV (some q))) :
    Calls Try.prog 50 #[.slice (some ⟨b, off, none⟩) n cap, .pointer none] w fun e w' => e = .returned (.bool false) ∧ w = w' := by
  go_enter Try.func50, Try.ntmps50
  go_wp2_with fail
  refine (index_held w b off n cap hn h).mono ?_
  rintro e w' ⟨rfl, rfl⟩
  dsimp only
  go_wp2_with fail
  go_ret
  exact ⟨rfl, rfl⟩

/-- The pages from p on, c of them, are needed until one is not there. -/
def reachA : Nat → Nat → AS → AS × Bool
  | 0, _, a => (a, true)
  | c + 1, p, a => if ((needA a p).page p).isSome then reachA c (p + 1) (needA a p) else (needA a p, false)
def errOf (b : Bool) : Nat := if b then 0 else 23
/-- access: the space behind it, and the error. -/
def accessA (a : AS) (at_ n : Int) : AS × Nat :=
  if n = 0 then (a, 0) else if at_ < 0 ∨ 4096 ≤ at_ ∨ 4096 - at_ < n then (a, 23)
  else let r := reachA (((at_ + n - 1) / 64).toNat + 1 - (at_ / 64).toNat) (at_ / 64).toNat a
    (r.1, errOf r.2)

/-- What access returns, and which pages are there then. -/
def AccK (e : Ending) (r : Nat) (at_ n : Int) : Sp → Pages → Prop := fun s' _ => e = .returned (.int .i64 r) ∧ (r = 0 → ∀ i : Int, 0 ≤ i → i < n → (s'.pg ((at_ + i) / 64).toNat).isSome = true)

/-- .. and if all pages are known nothing changes. -/
def AccKM (e : Ending) (r : Nat) (at_ n : Int) (s : Sp) (hm : Pages) : Sp → Pages → Prop := fun s' hm' => AccK e r at_ n s' hm' ∧ (Kn s → s' = s ∧ hm' = hm)
theorem needA_page_ne (a : AS) (p q : Nat) (h : q ≠ p) : (needA a p).page q = a.page q := by
  unfold needA
  split
  · rfl
  · split
    · rfl
    · exact upd_ne _ _ _ _ h

section
variable {C : Source} {B : Nat} {w w' : World} {sps : Nat → Option Sp} {hm : Pages} {g : Nat} {s : Sp}
theorem page_some (h : Rep B w sps hm) (hg : sps g = some s) (p : Nat) : ((view C hm s).page p).isSome = (s.pg p).isSome := by
  show (pageOf hm (s.pg p)).isSome = _
  cases hp : s.pg p with
  | none => rfl
  | some q =>
    obtain ⟨c, hc⟩ := h.ref g s hg p q hp
    show ((hm q).map _).isSome = _
    rw [hc]; rfl

set_option maxRecDepth 100000 in
set_option maxHeartbeats 8000000 in
theorem access_more (ok : SourceOk C B) (h : All C B w sps hm) (hg : sps g = some s) (at_ n : Int) (hn0 : 0 ≤ n) (hn1 : n ≤ 140737488355328) (ha1 : -9223372036854775808 ≤ at_) (ha2 : at_ ≤ 9223372036854775807) (hB : B ≤ w.heap.size) :
    Calls Try.prog 40 #[.pointer (some ⟨g, 0, none⟩), .int .i64 at_, .int .i64 n] w fun e w' => Stp C B sps hm g (accessA (view C hm s) at_ n).1 w w' (AccKM e (accessA (view C hm s) at_ n).2 at_ n s hm) := by
  have hself : ∀ e, e = Ending.returned (.int .i64 (accessA (view C hm s) at_ n).2) → (accessA (view C hm s) at_ n).1 = view C hm s → ((accessA (view C hm s) at_ n).2 = 0 → n = 0) →
      Stp C B sps hm g (accessA (view C hm s) at_ n).1 w w (AccKM e (accessA (view C hm s) at_ n).2 at_ n s hm) := fun e he h1 h2 => by
    have hs : upd sps g (some s) = sps := upd_same _ _ _ hg
    exact ⟨s, hm, by rw [hs]; exact h, h1.symm, fun _ _ _ _ => rfl, Mv.refl _ _ _, ⟨he, fun h3 i i1 i2 => by have := h2 h3; omega⟩, fun _ => ⟨rfl, rfl⟩⟩
  by_cases h0 : n = 0
  · have hr : accessA (view C hm s) at_ n = (view C hm s, 0) := by unfold accessA; rw [if_pos h0]
    rw [hr] at hself ⊢
    subst h0
    go_enter Try.func40, Try.ntmps40
    go_wp2_with fail
    go_ret
    exact hself _ (by first | rfl | trivial) (by first | rfl | trivial) (fun _ => by first | rfl | trivial)
  · have e0 : (n == 0) = false := beq_eq_false_iff_ne.2 h0
    by_cases hbad : at_ < 0 ∨ 4096 ≤ at_ ∨ 4096 - at_ < n
    · have hr : accessA (view C hm s) at_ n = (view C hm s, 23) := by unfold accessA; rw [if_neg h0, if_pos hbad]
      rw [hr] at hself ⊢
      have hc : decide (at_ < 0) = true ∨ (decide (at_ < 0) = false ∧ decide (4096 ≤ at_) = true) ∨ (0 ≤ at_ ∧ at_ < 4096 ∧ decide (at_ < 0) = false ∧ decide (4096 ≤ at_) = false ∧ decide (4096 - at_ < n) = true) := by
        by_cases c1 : at_ < 0
        · exact .inl (decide_eq_true c1)
        · by_cases c2 : 4096 ≤ at_
          · exact .inr (.inl ⟨decide_eq_false c1, decide_eq_true c2⟩)
          · exact .inr (.inr ⟨by omega, by omega, decide_eq_false c1, decide_eq_false c2, decide_eq_true (by omega)⟩)
      have HS := Lib.hid hself
      clear hbad hself hr h0
      rcases hc with c1 | ⟨c1, c2⟩ | ⟨b1, b2, c1, c2, c3⟩
      all_goals
        go_enter Try.func40, Try.ntmps40
        go_wp2_with fail
        go_ret
        exact HS.out _ (by first | rfl | trivial) (by first | rfl | trivial) (fun h => by first | cases h | omega)
    · clear hself
      obtain ⟨x, rfl⟩ : ∃ x : Nat, at_ = x := ⟨at_.toNat, by omega⟩
      obtain ⟨m, rfl⟩ : ∃ m : Nat, n = m := ⟨n.toNat, by omega⟩
      have hx : x < 4096 := by omega
      have hxm : x + m ≤ 4096 := by omega
      have hm1 : 1 ≤ m := by omega
      obtain ⟨lo, hlo⟩ : ∃ lo : Nat, lo = x / 64 := ⟨_, rfl⟩
      obtain ⟨hi, hhi⟩ : ∃ hi : Nat, hi = (x + m - 1) / 64 := ⟨_, rfl⟩
      have hle : lo ≤ hi := by omega
      have hh : hi < 64 := by omega
      have hr : accessA (view C hm s) x m = ((reachA (hi + 1 - lo) lo (view C hm s)).1, errOf (reachA (hi + 1 - lo) lo (view C hm s)).2) := by
        unfold accessA
        rw [if_neg h0, if_neg hbad]
        have q1 : (((x : Int) + m - 1) / 64).toNat = hi := by omega
        have q2 : ((x : Int) / 64).toNat = lo := by omega
        rw [q1, q2]
      rw [hr]
      obtain ⟨R, hR⟩ : ∃ R, R = reachA (hi + 1 - lo) lo (view C hm s) := ⟨_, rfl⟩
      rw [← hR]
      have c1 : decide ((x : Int) < 0) = false := decide_eq_false (by omega)
      have c2 : decide ((4096 : Int) ≤ x) = false := decide_eq_false (by omega)
      have c3 : decide ((4096 : Int) - x < m) = false := decide_eq_false (by omega)
      have d1 : (x : Int) / 64 = (lo : Int) := by omega
      have d2 : ((x : Int) + m - 1) / 64 = (hi : Int) := by omega
      have HR := Lib.hid hR
      have HLO := Lib.hid hlo
      have HHI := Lib.hid hhi
      clear hbad hr hR hlo hhi
      go_enter Try.func40, Try.ntmps40
      go_wp2_with fail
      go_loopg [7] (hi + 1 - lo) (fun q pv wr => ∃ (p : Nat) (s1 : Sp) (hm1 : Pages), pv = .int .i64 p ∧ q = hi + 1 - p ∧ lo ≤ p ∧ p ≤ hi + 1 ∧ All C B wr (upd sps g (some s1)) hm1 ∧ Hid (reachA (hi + 1 - p) p (view C hm1 s1) = R) ∧ (∀ k x, k ≠ g → sps k = some x → view C hm1 x = view C hm x) ∧ Mv B C.X w wr ∧ (∀ q, lo ≤ q → q < p → (s1.pg q).isSome = true) ∧ (Kn s → s1 = s ∧ hm1 = hm))
      case atStart =>
        have hs : upd sps g (some s) = sps := upd_same _ _ _ hg
        exact ⟨lo, s, hm, rfl, rfl, Nat.le_refl _, by omega, by rw [hs]; exact h, Lib.hid HR.out.symm, fun _ _ _ _ => rfl, Mv.refl _ _ _, fun q h1 h2 => (by omega), fun _ => ⟨rfl, rfl⟩⟩
      case round =>
        obtain ⟨p, s1, hm1, rfl, rfl, hp1, hp2, hall, HRR, hoth, hmv, hsome, hkn⟩ := hrel
        have HKN := Lib.hid hkn
        clear hkn
        have hgr : upd sps g (some s1) g = some s1 := upd_at _ _ _
        have HALL := Lib.hid hall
        have HSOME := Lib.hid hsome
        have HOTH := Lib.hid hoth
        have HMV := Lib.hid hmv
        clear hsome hoth hmv hall
        by_cases hlt : p ≤ hi
        · have i1 : (p : Int) ≤ hi := by omega
          have hsz := HMV.out.size
          have hneed := need_more ok HALL.out hgr p (by omega) (Nat.le_trans hB hsz)
          have HN := Lib.hid hneed
          have hRR := HRR.out
          rw [show hi + 1 - p = (hi - p) + 1 by omega] at hRR
          unfold reachA at hRR
          have HR2 := Lib.hid hRR
          clear hneed hRR HRR HR hgr
          go_wp2_with fail
          refine HN.out.mono ?_
          rintro e w2 ⟨s2, hm2, hA2, hv2, ho2, hmv2, rfl, _, _, hkk⟩
          rw [upd_upd] at hA2
          have hkn2 : Kn s → s2 = s ∧ hm2 = hm := fun hk => by
            obtain ⟨e1, e2⟩ := HKN.out hk
            obtain ⟨e3, e4⟩ := hkk (by rw [e1]; exact hk p (by omega))
            exact ⟨e3.trans e1, e4.trans e2⟩
          have HKN2 := Lib.hid hkn2
          clear hkk hkn2 HKN
          have hgr2 : upd sps g (some s2) g = some s2 := upd_at _ _ _
          have hps := page_some (C := C) hA2.toRep hgr2 p
          rw [hv2] at hps
          have hoth2 : ∀ k x, k ≠ g → sps k = some x → view C hm2 x = view C hm x := fun k x hne hx => (ho2 k x hne (by rw [upd_ne _ _ _ _ hne]; exact hx)).trans (HOTH.out k x hne hx)
          have hmvv := HMV.out.trans hmv2
          have HOTH2 := Lib.hid hoth2
          have HMV2 := Lib.hid hmvv
          have HA2 := Lib.hid hA2
          have HV2 := Lib.hid hv2
          have HPS := Lib.hid hps
          clear hA2 hv2 ho2 hmv2 hoth2 hmvv hps HN HOTH HMV hgr2
          cases hpg : s2.pg p with
          | none =>
            have hr2 : R = (view C hm2 s2, false) := by
              rw [← HR2.out, if_neg (by rw [HPS.out, hpg]; simp), HV2.out]
            have HRF := Lib.hid hr2
            clear hr2 hpg HR2
            have hq := nil_eql
            unfold ptrV
            simp only [Option.map_none]
            go_wp2_with fail
            go_ret
            exact ⟨s2, hm2, HA2.out, by rw [HRF.out], HOTH2.out, HMV2.out, ⟨by rw [HRF.out]; rfl, by rw [HRF.out]; exact fun h => by cases h⟩, HKN2.out⟩
          | some r =>
            have hr2 : reachA (hi - p) (p + 1) (view C hm2 s2) = R := by
              rw [← HR2.out, if_pos (by rw [HPS.out, hpg]; rfl), HV2.out]
            have HRF := Lib.hid hr2
            have hkeep : ∀ q, lo ≤ q → q < p + 1 → (s2.pg q).isSome = true := fun q h1 h2 => by
              by_cases e : q = p
              · rw [e, hpg]; rfl
              · have a1 := page_some (C := C) HA2.out.toRep (upd_at sps g (some s2)) q
                have a2 := page_some (C := C) HALL.out.toRep (upd_at sps g (some s1)) q
                rw [HV2.out, needA_page_ne _ _ _ e, a2] at a1
                rw [← a1]
                exact HSOME.out q h1 (by omega)
            have HK := Lib.hid hkeep
            clear hr2 hpg HR2 hkeep HALL HSOME
            have hq := ptr_eql2
            unfold ptrV
            simp only [Option.map_some]
            go_wp2_with fail
            go_roundg (hi + 1 - (p + 1))
            case measure => omega
            case rel => exact ⟨p + 1, s2, hm2, by go_num, rfl, by omega, by omega, HA2.out, Lib.hid (by rw [show hi + 1 - (p + 1) = hi - p by omega]; exact HRF.out), HOTH2.out, HMV2.out, HK.out, HKN2.out⟩
        · obtain rfl : p = hi + 1 := by omega
          have i1 : decide ((((hi + 1 : Nat) : Int)) ≤ (hi : Int)) = false := decide_eq_false (by omega)
          have i2 : decide ((hi : Int) + 1 ≤ (hi : Int)) = false := decide_eq_false (by omega)
          have hr2 : R = (view C hm1 s1, true) := by
            rw [← HRR.out, Nat.sub_self]; rfl
          have HRF := Lib.hid hr2
          have j1 : (lo : Int) ≤ (hi : Int) + 1 := by omega
          have j2 : (hi : Int) + 1 ≤ 64 := by omega
          have hcells : ∀ i, i < hi + 1 - lo → ∃ q, wr.cell? ⟨g, 193 + lo + i, none⟩ = some (ptrV (some q)) := fun i hi2 => by
            have hb := (HALL.out.blk g s1 hgr).1
            have hso := HSOME.out (lo + i) (by omega) (by omega)
            obtain ⟨q, hq⟩ := Option.isSome_iff_exists.1 hso
            exact ⟨q, by rw [hb.cell, show 193 + lo + i = 193 + (lo + i) by omega, sp_pg s1 (lo + i) (by omega), hq]⟩
          have HCE := Lib.hid hcells
          clear hr2 HRR HR hgr hcells
          go_wp2_with fail
          refine (contains_held wr g (193 + lo) (hi + 1 - lo) (64 - lo) (by omega) HCE.out).mono ?_
          rintro e w2 ⟨rfl, rfl⟩
          dsimp only
          go_wp2_with fail
          go_ret
          refine ⟨s1, hm1, HALL.out, by rw [HRF.out], HOTH.out, HMV.out, ⟨by rw [HRF.out]; rfl, fun _ i i1 i2 => ?_⟩, HKN.out⟩
          have q1 : lo ≤ (((x : Int) + i) / 64).toNat := by have := HLO.out; omega
          have q2 : (((x : Int) + i) / 64).toNat < hi + 1 := by have := HHI.out; omega
          exact HSOME.out _ q1 q2
theorem access_all (ok : SourceOk C B) (h : All C B w sps hm) (hg : sps g = some s) (at_ n : Int) (hn0 : 0 ≤ n) (hn1 : n ≤ 140737488355328) (ha1 : -9223372036854775808 ≤ at_) (ha2 : at_ ≤ 9223372036854775807) (hB : B ≤ w.heap.size) :
    Calls Try.prog 40 #[.pointer (some ⟨g, 0, none⟩), .int .i64 at_, .int .i64 n] w fun e w' => Stp C B sps hm g (accessA (view C hm s) at_ n).1 w w' (AccK e (accessA (view C hm s) at_ n).2 at_ n) :=
  (access_more ok h hg at_ n hn0 hn1 ha1 ha2 hB).mono fun e w' h => h.weak fun _ _ h => h.1
end
end Go.Proofs.Ytbppafbdmdbdiaa
