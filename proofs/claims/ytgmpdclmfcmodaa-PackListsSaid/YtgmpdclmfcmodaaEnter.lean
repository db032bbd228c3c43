/-
  Walks of the finder: enter.
-/
import Derived.Test.YtgmpdclmfcmodaaFinder
namespace Go.Proofs.Ytgmpdclmfcmodaa
open Go.RowKit

theorem lastOf_succ (l key : List UInt8) (k : Nat) : Pk.lastOf l key (k + 1) = if Pk.four l k = key then some k else Pk.lastOf l key k := rfl

/-- The finder behind a round of enter. -/
theorem Fin.next {w : World} {g tb bb mb cap cap2 k : Nat} {l : List UInt8} {tc bc : Array Value} {m : List (List UInt8 × Value)}
    (hg : Blk w g 69 #[.slice (some ⟨tb, 0, none⟩) l.length cap, .map (some mb), .slice (some ⟨bb, 0, none⟩) l.length cap2, .int .i64 k])
    (c1 : l.length ≤ cap) (c2 : cap ≤ maxLen) (c3 : l.length ≤ cap2) (c4 : cap2 ≤ maxLen)
    (htb : Blk w tb 5 tc) (ht : ∀ i, i < l.length → tc[i]? = some (.int .u8 (l.getD i 0).toNat))
    (hbb : Blk w bb 3 bc) (hbs : l.length ≤ bc.size) (hb : ∀ p, p < k + 1 → bc[p]? = some (.int .i64 (prev l p)))
    (hm : MapIs encB (fun x => x.length = 4) w mb m) (hmm : ∀ x : List UInt8, x.length = 4 → mget m x = (Pk.lastOf l x (k + 1)).map fun q => .int .i64 q) :
    Fin (w.setCell ⟨g, 3, none⟩ (.int .i64 ((k : Int) + 1))) g tb bb mb l (k + 1) := by
  refine ⟨cap, cap2, tc, bc, m, ?_, c1, c2, c3, c4, htb.far (htb.ne_ hg (by decide)) _, ht, hbb.far (hbb.ne_ hg (by decide)) _, hbs, hb, hm.setCell (hm.ne_blk hg) _, hmm⟩
  have := hg.set_ 3 (.int .i64 ((k : Int) + 1))
  simpa using this

theorem chain_set {l : List UInt8} {k : Nat} {bc : Array Value} (hbs : k < bc.size) (hb : ∀ p, p < k → bc[p]? = some (.int .i64 (prev l p))) (v : Int) (hv : v = prev l k) :
    ∀ p, p < k + 1 → (bc.setIfInBounds k (.int .i64 v))[p]? = some (.int .i64 (prev l p)) := by
  intro p hp
  by_cases e : p = k
  · subst e
    rw [Array.getElem?_setIfInBounds_self_of_lt hbs, hv]
  · rw [Array.getElem?_setIfInBounds_ne (fun h => e h.symm)]
    exact hb p (by omega)

theorem map_next {l : List UInt8} {k : Nat} {m : List (List UInt8 × Value)} (hmm : ∀ x : List UInt8, x.length = 4 → mget m x = (Pk.lastOf l x k).map fun q => .int .i64 q) :
    ∀ x : List UInt8, x.length = 4 → mget (mput (Pk.four l k) (.int .i64 k) m) x = (Pk.lastOf l x (k + 1)).map fun q => .int .i64 q := by
  intro x hx
  rw [mget_mput, lastOf_succ]
  by_cases e : x = Pk.four l k
  · rw [if_pos e, if_pos e.symm]
    rfl
  · rw [if_neg e, if_neg (fun h => e h.symm)]
    exact hmm x hx

set_option maxHeartbeats 800000 in
/-- enter: the places below a place are entered. -/
theorem enter_any (w : World) (g tb bb mb : Nat) (l : List UInt8) (k to : Nat) (hf : Fin w g tb bb mb l k) (hk : k ≤ to) (hto : to + 4 ≤ l.length) (hl : l.length ≤ 4000000) :
    Calls Try.prog 38 #[.pointer (some ⟨g, 0, none⟩), .int .i64 to] w fun e w' =>
      e = .returned (.tuple #[]) ∧ Fin w' g tb bb mb l to ∧ Fr [g, bb, mb] w w' := by
  go_enter Try.func38, Try.ntmps38
  go_wp2
  go_loopg [] (to - k) (fun n wr => ∃ k', n = to - k' ∧ k ≤ k' ∧ k' ≤ to ∧ Fin wr g tb bb mb l k' ∧ Fr [g, bb, mb] w wr)
  case atStart => exact ⟨k, rfl, Nat.le_refl _, hk, hf, Fr.refl _ _⟩
  case round =>
    obtain ⟨k', hn, hk1, hk2, hfin, hfr⟩ := hrel
    obtain ⟨cap, cap2, tc, bc, m, hg, c1, c2, c3, c4, htb, ht, hbb, hbs, hb, hm, hmm⟩ := hfin
    have g0 := hg.cell 0
    have g1 := hg.cell 1
    have g2 := hg.cell 2
    have g3 := hg.cell 3
    simp at g0 g1 g2 g3
    have lg := hg.lt
    have lt := htb.lt
    have lb := hbb.lt
    have lm := hm.lt
    by_cases hlt : k' < to
    · go_wp2
      go_quiet (fail)
      go_wp2_with fail
      refine (next_any (wr.drewN nq) g tb cap l k' (by simpa using g0) c1 c2 (fun i hi => ?_) (by omega)).mono ?_
      · rw [World.cell?_drewN]
        rw [htb.cell, ht i hi]
      rintro e w1 ⟨rfl, rfl⟩
      go_wp2_with fail
      simp only [← List.getD_eq_getElem?_getD]
      refine wp_forget (fun w2 => Blk w2 g 69 #[.slice (some ⟨tb, 0, none⟩) l.length cap, .map (some mb), .slice (some ⟨bb, 0, none⟩) l.length cap2, .int .i64 k'] ∧
        Blk w2 tb 5 tc ∧ Blk w2 bb 3 bc ∧ MapIs encB (fun x => x.length = 4) w2 mb m ∧
        Blk w2 (wr.heap.size + 1) 81 #[.int .u8 (l.getD k' 0).toNat, .int .u8 (l.getD (k'+1) 0).toNat, .int .u8 (l.getD (k'+2) 0).toNat, .int .u8 (l.getD (k'+3) 0).toNat] ∧
        Fr [g, bb, mb] w w2) ?_ ?_
      · refine ⟨((hg.drewN _).alloc _).alloc _, ((htb.drewN _).alloc _).alloc _, ((hbb.drewN _).alloc _).alloc _, ?_, ?_, ((hfr.drewN _).alloc _).alloc _⟩
        · exact hm.fr ((((Fr.refl [] wr).drewN _).alloc _).alloc _) (by simp)
        · exact Blk.new_ _ _ _ (by simp)
      clear hg htb hbb hm hfr g0 g1 g2 g3 lg lt lb lm
      rintro w2 ⟨hg, htb, hbb, hm, ha, hfr⟩
      generalize wr.heap.size + 1 = ab at *
      have g1 := hg.cell 1
      have g2 := hg.cell 2
      have g3 := hg.cell 3
      have b1 : w2.cell? ⟨bb, k', none⟩ = some (bc[k']'(by omega)) := by rw [hbb.cell, Array.getElem?_eq_getElem]
      have b2 := hbb.frozen k'
      simp at g1 g2 g3
      have i1 : (0 : Int) ≤ (k' : Int) := by omega
      have i2 : (k' : Int) < l.length := by omega
      go_still_tail 9, (by kernel_rfl)
      go_wp2_with fail
      refine wp_forget (fun w3 => Blk w3 g 69 #[.slice (some ⟨tb, 0, none⟩) l.length cap, .map (some mb), .slice (some ⟨bb, 0, none⟩) l.length cap2, .int .i64 k'] ∧
        Blk w3 tb 5 tc ∧ Blk w3 bb 3 (bc.setIfInBounds k' (.int .i64 (-1))) ∧ MapIs encB (fun x => x.length = 4) w3 mb m ∧
        Blk w3 ab 81 #[.int .u8 (l.getD k' 0).toNat, .int .u8 (l.getD (k'+1) 0).toNat, .int .u8 (l.getD (k'+2) 0).toNat, .int .u8 (l.getD (k'+3) 0).toNat] ∧
        Fr [g, bb, mb] w w3) ?_ ?_
      · have n1 := hg.ne_ hbb (by decide)
        have n2 := htb.ne_ hbb (by decide)
        have n3 := ha.ne_ hbb (by decide)
        have n4 := hm.ne_blk hbb
        exact ⟨(hg.far n1 _).drew, (htb.far n2 _).drew, (hbb.set_ _ _).drew, (hm.setCell n4 _).drew, (ha.far n3 _).drew, (hfr.setCell (.inl (by simp)) _).drew⟩
      clear hg htb hbb hm hfr g1 g2 g3 b1 b2 ha
      rintro w3 ⟨hg, htb, hbb, hm, ha, hfr⟩
      have hx : (Pk.four l k').length = 4 := Pk.four_length l k' (by omega)
      have hlk := fun n => run_lookup_map key81 Try.underlying66 (z := .int .i64 0) (fun _ => by kernel_rfl) (hm.drewN n) (Pk.four l k') hx true
      rw [hmm _ hx, Pk.four_list l k' (by omega)] at hlk
      have hpv : prev l k' = match Pk.lastOf l (Pk.four l k') k' with | some q => (q : Int) | none => -1 := rfl
      rw [Pk.four_list l k' (by omega)] at hpv
      unfold encB bs at hlk
      simp only [List.map_cons, List.map_nil] at hlk
      have g1 := hg.cell 1
      have g2 := hg.cell 2
      have g3 := hg.cell 3
      have a0 := ha.cell 0
      have a1 := ha.cell 1
      have a2 := ha.cell 2
      have a3 := ha.cell 3
      simp at g1 g2 g3 a0 a1 a2 a3
      simp only [← List.getD_eq_getElem?_getD] at a0 a1 a2 a3
      have HM := Lib.hid (map_next hmm)
      clear hmm
      rw [Pk.four_list l k' (by omega)] at HM
      have HPV := Lib.hid hpv
      have HBS := Lib.hid hb
      clear hpv hb
      rcases hlast : Pk.lastOf l [l.getD k' 0, l.getD (k' + 1) 0, l.getD (k' + 2) 0, l.getD (k' + 3) 0] k' with _ | q
      case' none =>
        rw [hlast] at hlk HPV
        clear hlast
        simp only [Option.map_none, Option.getD_none, Option.isSome_none, if_true] at hlk
        generalize l.getD k' 0 = b0 at *
        generalize l.getD (k'+1) 0 = b1 at *
        generalize l.getD (k'+2) 0 = b2 at *
        generalize l.getD (k'+3) 0 = b3 at *
        go_quiet (fail)
        go_wp2_with fail
        refine wp_forget (fun w5 => ∃ bc5, Blk w5 g 69 #[.slice (some ⟨tb, 0, none⟩) l.length cap, .map (some mb), .slice (some ⟨bb, 0, none⟩) l.length cap2, .int .i64 k'] ∧
          Blk w5 tb 5 tc ∧ Blk w5 bb 3 bc5 ∧ MapIs encB (fun x => x.length = 4) w5 mb m ∧
          Blk w5 ab 81 #[.int .u8 b0.toNat, .int .u8 b1.toNat, .int .u8 b2.toNat, .int .u8 b3.toNat] ∧
          Fr [g, bb, mb] w w5 ∧ l.length ≤ bc5.size ∧ (∀ p, p < k' + 1 → bc5[p]? = some (.int .i64 (prev l p)))) ?_ ?_
        · exact ⟨_, hg.drewN _, htb.drewN _, hbb.drewN _, hm.drewN _, ha.drewN _, hfr.drewN _, by simpa using hbs, chain_set (by omega) HBS.out _ HPV.out.symm⟩
      case' some =>
        rw [hlast] at hlk HPV
        clear hlast
        simp only [Option.map_some, Option.getD_some, Option.isSome_some, if_true] at hlk
        generalize l.getD k' 0 = b0 at *
        generalize l.getD (k'+1) 0 = b1 at *
        generalize l.getD (k'+2) 0 = b2 at *
        generalize l.getD (k'+3) 0 = b3 at *
        have z1 : w3.cell? ⟨bb, k', none⟩ = some (.int .i64 (-1)) := by rw [hbb.cell, Array.getElem?_setIfInBounds_self_of_lt (by omega)]
        have z2 := hbb.frozen k'
        go_quiet (fail)
        go_wp2_with fail
        refine wp_region_tail 10 (by kernel_rfl) (by kernel_rfl) ?_
        simp only [List.take_succ_cons, List.take_zero, List.drop_succ_cons, List.drop_zero]
        repeat still_step
        refine wpStill_nil ?_
        go_wp2_with fail
        refine wp_forget (fun w5 => ∃ bc5, Blk w5 g 69 #[.slice (some ⟨tb, 0, none⟩) l.length cap, .map (some mb), .slice (some ⟨bb, 0, none⟩) l.length cap2, .int .i64 k'] ∧
          Blk w5 tb 5 tc ∧ Blk w5 bb 3 bc5 ∧ MapIs encB (fun x => x.length = 4) w5 mb m ∧
          Blk w5 ab 81 #[.int .u8 b0.toNat, .int .u8 b1.toNat, .int .u8 b2.toNat, .int .u8 b3.toNat] ∧
          Fr [g, bb, mb] w w5 ∧ l.length ≤ bc5.size ∧ (∀ p, p < k' + 1 → bc5[p]? = some (.int .i64 (prev l p)))) ?_ ?_
        · have n1 := hg.ne_ hbb (by decide)
          have n2 := htb.ne_ hbb (by decide)
          have n3 := ha.ne_ hbb (by decide)
          have n4 := hm.ne_blk hbb
          refine ⟨_, (hg.far n1 _).drewN _, (htb.far n2 _).drewN _, (hbb.set_ _ _).drewN _, (hm.setCell n4 _).drewN _, (ha.far n3 _).drewN _, (hfr.setCell (.inl (by simp)) _).drewN _, by simpa using hbs, ?_⟩
          exact chain_set (by simp; omega) (fun p hp => by rw [Array.getElem?_setIfInBounds_ne (by omega)]; exact HBS.out p hp) _ HPV.out.symm
      all_goals
        clear hg htb hbb hm hfr g1 g2 g3 a0 a1 a2 a3 ha hlk
        rintro w5 ⟨bc5, hg, htb, hbb, hm, ha, hfr, hbs5, hb5⟩
        have HB5 := Lib.hid hb5
        clear hb5
        have g1 := hg.cell 1
        have g3 := hg.cell 3
        have a0 := ha.cell 0
        have a1 := ha.cell 1
        have a2 := ha.cell 2
        have a3 := ha.cell 3
        simp at g1 g3 a0 a1 a2 a3
        obtain ⟨w6, hrun, hm6, hf6⟩ := run_update_map key81 Try.underlying66 hm.drew [b0, b1, b2, b3] rfl (.int .i64 k')
        unfold encB bs at hrun
        simp only [List.map_cons, List.map_nil] at hrun
        have n1 := hm.ne_blk hg
        have n2 := hm.ne_blk hbb
        have n3 := hm.ne_blk htb
        have hg6 : Blk w6 g _ _ := hg.drew.fr hf6 (by simpa using n1.symm)
        have hb6 : Blk w6 bb _ _ := hbb.drew.fr hf6 (by simpa using n2.symm)
        have ht6 : Blk w6 tb _ _ := htb.drew.fr hf6 (by simpa using n3.symm)
        have g36 := hg6.cell 3
        have f36 := hg6.frozen 3
        simp at g36
        refine wp_region_tail 9 (by kernel_rfl) (by kernel_rfl) ?_
        simp only [List.take_succ_cons, List.take_zero, List.drop_succ_cons, List.drop_zero]
        repeat still_step
        refine wpStill_nil ?_
        go_wp2_with fail
        go_roundg (to - (k' + 1))
        case measure => omega
        case rel => exact ⟨k' + 1, rfl, by omega, by omega, Fin.next hg6 c1 c2 c3 c4 ht6 ht hb6 hbs5 HB5.out hm6 HM.out, (hfr.drew.trans hf6 (by simp)).setCell (.inl (by simp)) _⟩
    · go_wp2
      go_quiet (fail)
      go_wp2
      go_end0
      obtain rfl : k' = to := by omega
      exact ⟨rfl, ⟨cap, cap2, tc, bc, m, hg.drewN _, c1, c2, c3, c4, htb.drewN _, ht, hbb.drewN _, hbs, hb, hm.drewN _, hmm⟩, hfr.drewN _⟩
end Go.Proofs.Ytgmpdclmfcmodaa
