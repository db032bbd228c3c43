/-
  Walks of the reference: length, best.
-/
import Derived.Test.YtgmpdclmfcmodaaPackWith
import Derived.Test.YtgmpdclmfcmodaaPure2
namespace Go.Proofs.Ytgmpdclmfcmodaa
open Go.RowKit

set_option maxRecDepth 100000 in
set_option maxHeartbeats 1600000 in
/-- length of the reference: the length of a match. -/
theorem rlength_any (w : World) (tb cap : Nat) (l : List UInt8) (p d : Nat)
    (ht : ∀ i, i < l.length → w.cell? ⟨tb, i, none⟩ = some (.int .u8 (l.getD i 0).toNat)) (hl : l.length ≤ 4000000)
    (hp : p < l.length) (hd : d ≤ p) (hd0 : 0 < d) :
    Calls Try.prog 41 #[.slice (some ⟨tb, 0, none⟩) l.length cap, .int .i64 p, .int .i64 d] w fun e w' =>
      e = .returned (.int .i64 (Pk.comm l (p - d) p (Pk.most l p))) ∧ ∃ n, w.drewN n = w' := by
  have HT := Lib.hid ht
  clear ht
  go_enter Try.func41, Try.ntmps41
  go_wp2
  go_loopw [7] (fun i wr => ∃ k : Nat, k ≤ Pk.most l p ∧ (∀ j, j < k → l[p - d + j]? = l[p + j]?) ∧ i = .int .i64 k ∧ (∃ n, w.drewN n = wr)) (fun i _ => Pk.most l p - (intOf i).toNat)
  case atStart => exact ⟨0, by omega, fun j hj => by omega, rfl, 0, rfl⟩
  case round =>
    obtain ⟨k, hk, hsame, rfl, n, rfl⟩ := hrel
    have HS := Lib.hid hsame
    clear hsame
    have hm : Pk.most l p = min 131 (l.length - p) := rfl
    by_cases hlt : k < Pk.most l p
    · have h1 := HT.out (p + k) (by omega)
      have h2 := HT.out (p - d + k) (by omega)
      have i1 : (0 : Int) ≤ (p : Int) + k := by omega
      have i2 : (p : Int) + k < l.length := by omega
      have i3 : (0 : Int) ≤ (p : Int) + k - d := by omega
      have i4 : (p : Int) + k - d < l.length := by omega
      have i5 : p + k - d = p - d + k := by omega
      have i6 : (k : Int) < 131 := by omega
      have e1 : l[p + k]? = some (l.getD (p + k) 0) := by rw [List.getD_eq_getElem?_getD, List.getElem?_eq_getElem (by omega)]; rfl
      have e2 : l[p - d + k]? = some (l.getD (p - d + k) 0) := by rw [List.getD_eq_getElem?_getD, List.getElem?_eq_getElem (by omega)]; rfl
      have E1 := Lib.hid e1
      have E2 := Lib.hid e2
      have HM := Lib.hid hm
      clear e1 e2 hm
      generalize l.getD (p + k) 0 = x at h1 E1
      generalize l.getD (p - d + k) 0 = y at h2 E2
      rw [← i5] at h2
      clear i5
      by_cases hxy : x = y
      · subst hxy
        go_wp2
        go_quiet (fail)
        go_wp2
        go_roundw
        case rel =>
          refine ⟨k + 1, by omega, fun j hj => ?_, by go_num, n + nq, rfl⟩
          by_cases hj' : j = k
          · rw [hj', E1.out, E2.out]
          · exact HS.out j (by omega)
        case measure => simp [intOf]; omega
      · have hb : ((x.toNat : Int) == (y.toNat : Int)) = false := by
          rw [beq_eq_false_iff_ne]
          exact fun h => hxy (UInt8.toNat_inj.1 (by omega))
        go_wp2
        go_quiet (fail)
        go_wp2
        go_ret
        refine ⟨?_, n + nq, by rw [World.drewN_drewN]⟩
        rw [Pk.comm_eq l (Pk.most l p) (p - d) p k hk HS.out (fun _ => by rw [E1.out, E2.out]; exact fun h => hxy (Option.some.inj h).symm)]
        rfl
    · have hmk : k = Pk.most l p := by omega
      have hfin : Hid (Pk.comm l (p - d) p (Pk.most l p) = k) := Pk.comm_eq l (Pk.most l p) (p - d) p k hk HS.out (fun h => by omega)
      by_cases h131 : k < 131
      · have i6 : (k : Int) < 131 := by omega
        have i2 : ¬ ((p : Int) + k < l.length) := by omega
        have i7 : decide ((p : Int) + k < l.length) = false := by simp; omega
        clear hm hmk
        go_wp2
        go_quiet (fail)
        go_wp2
        go_ret
        exact ⟨by rw [hfin.out]; rfl, n + nq, by rw [World.drewN_drewN]⟩
      · have i7 : decide ((k : Int) < 131) = false := by simp; omega
        clear hm hmk
        go_wp2
        go_quiet (fail)
        go_wp2
        go_ret
        exact ⟨by rw [hfin.out]; rfl, n + nq, by rw [World.drewN_drewN]⟩

set_option maxRecDepth 100000 in
set_option maxHeartbeats 1600000 in
/-- best of the reference. -/
theorem rbest_any (w : World) (tb cap : Nat) (l : List UInt8) (p : Nat)
    (ht : ∀ i, i < l.length → w.cell? ⟨tb, i, none⟩ = some (.int .u8 (l.getD i 0).toNat)) (hl : l.length ≤ 4000000) (hp : p < l.length) :
    Calls Try.prog 34 #[.slice (some ⟨tb, 0, none⟩) l.length cap, .int .i64 p] w fun e w' =>
      e = .returned (.tuple #[.int .i64 (Pk.best l p).1, .int .i64 (Pk.best l p).2]) ∧ ∃ n, w.drewN n = w' := by
  have HT := Lib.hid ht
  clear ht
  go_enter Try.func34, Try.ntmps34
  go_wp2_with fail
  go_loopw [4, 5, 6] (fun a b d wr => ∃ k : Nat, k ≤ 4096 ∧ k ≤ p ∧ a = .int .i64 (Pk.bestTo l p k).1 ∧ b = .int .i64 (Pk.bestTo l p k).2 ∧ d = .int .i64 ((k : Int) + 1) ∧ (∃ n, w.drewN n = wr)) (fun _ _ d _ => 5000 - (intOf d).toNat)
  case atStart => exact ⟨0, by omega, by omega, rfl, rfl, rfl, 0, rfl⟩
  case round =>
    obtain ⟨k, hk, hkp, rfl, rfl, rfl, n, rfl⟩ := hrel
    have hbd := Pk.bestTo_le l p k
    have hmo : Pk.most l p ≤ 131 := by unfold Pk.most; omega
    obtain ⟨hb1, hb2⟩ := hbd
    by_cases hend : k < 4096 ∧ k < p
    · obtain ⟨h1, h2⟩ := hend
      have i1 : (k : Int) + 1 ≤ 4096 := by omega
      have i2 : (k : Int) + 1 ≤ p := by omega
      have hst : Pk.bestTo l p (k + 1) = if (Pk.bestTo l p k).1 < Pk.comm l (p - (k + 1)) p (Pk.most l p) then (Pk.comm l (p - (k + 1)) p (Pk.most l p), k + 1) else Pk.bestTo l p k := rfl
      have HST := Lib.hid hst
      clear hst
      go_wp2_with fail
      have hcall := rlength_any (w.drewN n) tb cap l p (k + 1) HT.out hl hp (by omega) (by omega)
      rw [show ((k + 1 : Nat) : Int) = (k : Int) + 1 by omega] at hcall
      refine hcall.mono ?_
      clear hcall
      rintro e w2 ⟨rfl, nd, rfl⟩
      dsimp only
      have hcm := Pk.comm_le l (Pk.most l p) (p - (k + 1)) p
      generalize hcmv : Pk.comm l (p - (k + 1)) p (Pk.most l p) = cm at *
      have HCM := Lib.hid hcmv
      clear hcmv
      by_cases hgt : (Pk.bestTo l p k).1 < cm
      · have e3 : decide (((Pk.bestTo l p k).1 : Int) < (cm : Int)) = true := by simp; omega
        have hnew : Hid (Pk.bestTo l p (k + 1) = (cm, k + 1)) := by
          have := HST.out
          rw [if_pos hgt] at this
          exact this
        go_wp2_with fail
        go_roundw
        case rel => exact ⟨k + 1, by omega, by omega, by rw [hnew.out], by rw [hnew.out]; rfl, by go_num, n + nd, rfl⟩
        case measure => simp [intOf]; omega
      · have e3 : decide (((Pk.bestTo l p k).1 : Int) < (cm : Int)) = false := by simp; omega
        have hnew : Hid (Pk.bestTo l p (k + 1) = Pk.bestTo l p k) := by
          have := HST.out
          rw [if_neg hgt] at this
          exact this
        go_wp2_with fail
        go_roundw
        case rel => exact ⟨k + 1, by omega, by omega, by rw [hnew.out], by rw [hnew.out], by go_num, n + nd, rfl⟩
        case measure => simp [intOf]; omega
    · have hfin : Hid (Pk.best l p = Pk.bestTo l p k) := by
        have : k = min 4096 p := by omega
        rw [this]
        exact Lib.hid rfl
      by_cases h1 : k < 4096
      · have i1 : (k : Int) + 1 ≤ 4096 := by omega
        have i2 : decide ((k : Int) + 1 ≤ p) = false := by simp; omega
        clear hend
        go_wp2_with fail
        go_ret2
        exact ⟨by rw [hfin.out]; rfl, n, rfl⟩
      · have i1 : decide ((k : Int) + 1 ≤ 4096) = false := by simp; omega
        clear hend
        go_wp2_with fail
        go_ret2
        exact ⟨by rw [hfin.out]; rfl, n, rfl⟩
end Go.Proofs.Ytgmpdclmfcmodaa
