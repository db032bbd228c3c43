/-
  Walks: the reference's Apply.
-/
import Derived.Test.YtemcabepbncicaaDoorAccW
import Derived.Test.YtemcabepbncicaaDoorAccX
import Derived.Test.YtemcabepbncicaaDoorPlainApplies
namespace Go.Proofs.YtemcabepbncicaaDoor
open Go.RowKit
set_option linter.unusedVariables false

/-- The cells of a clause of a list. -/
theorem cells_at {W : World} {B n : Nat} {A : Option Addr} {cs : List Cl} (h : Reads W B 5 A n (allCells cs)) (i : Nat) (hi : i < cs.length) (hn : n = cs.length) :
    ∃ ad, A = some ad ∧ ad.block < B ∧ ∀ j u, (clCells cs[i])[j]? = some u → W.cell? (ad.add (i * 5 + j)) = some u := by
  obtain ⟨ad, e, hb, hc⟩ := h.2 (by omega)
  refine ⟨ad, e, hb, fun j u hu => hc _ u ?_⟩
  have hj : j < 5 := by
    rcases Nat.lt_or_ge j 5 with h | h
    · exact h
    · rw [List.getElem?_eq_none (by rw [clCells_len]; exact h)] at hu; cases hu
  rw [allCells_get cs i j hi hj, hu]

theorem foldl_one_lt : ∀ (cs : List Cl) (m : Nat), m < 2048 → cs.foldl (fun m c => oneV c m) m < 2048
  | [], _, h => h
  | c :: cs, m, h => foldl_one_lt cs _ (oneV_lt c m h)

set_option maxRecDepth 100000 in
set_option maxHeartbeats 8000000 in
theorem rapply_any (w : World) (x : Int) (s : ByteArray) (hs : s.size ≤ 1000000) :
    Calls Tryd.prog 21 #[.int .i64 x, .string s] w fun e w' => AppRet (applyV x (bl s)) e ∧ Below w.heap.size w w' := by
  have hlen := bl_length s
  have HLEN := Lib.hid hlen
  clear hlen
  by_cases hm : 0 ≤ x ∧ x ≤ 2047
  · have hmb := Lib.hid (modeB_yes hm.1 hm.2)
    obtain ⟨m, rfl⟩ : ∃ m : Nat, x = m := ⟨x.toNat, by omega⟩
    have hm2 : m < 2048 := by omega
    by_cases h100 : 100 < s.size
    · have hr : Hid (AppRet (applyV m (bl s)) (.returned (.tuple #[.int .i64 0, .int .i64 100, .int .i64 5]))) := Lib.hid (by unfold applyV; rw [if_neg (by omega), if_pos (by rw [HLEN.out]; exact h100)]; rfl)
      have e1 : decide ((100 : Int) < s.size) = true := decide_eq_true (by omega)
      clear hm
      go_enter Tryd.func21, Tryd.ntmps21
      go_wp2_with fail
      refine (valid_any _ _).mono ?_
      rintro e w' ⟨rfl, rfl⟩
      rw [hmb.out]
      dsimp only
      go_wp2_with fail
      go_ret3
      exact ⟨hr.out, Below.refl _ _⟩
    · have e1 : decide ((100 : Int) < s.size) = false := decide_eq_false (by omega)
      have hR : applyV m (bl s) = applyGo ((bl s).length + 1) 0 (bl s) m := by unfold applyV; rw [if_neg (by omega), if_neg (by rw [HLEN.out]; exact h100)]; rfl
      have hca := clauses_apply_all (bl s) m hm2
      rw [← hR] at hca
      have HCA := Lib.hid hca
      have hcl := clauses_any w s hs
      have HCL := Lib.hid hcl
      clear hm hR hca hcl
      generalize applyV m (bl s) = R at *
      generalize clausesV (bl s) = C at *
      go_enter Tryd.func21, Tryd.ntmps21
      go_wp2_with fail
      refine (valid_any _ _).mono ?_
      rintro e w' ⟨rfl, rfl⟩
      rw [hmb.out]
      dsimp only
      go_wp2_with fail
      refine HCL.out.mono ?_
      rintro e w1 ⟨⟨A, cap, rfl, hc1, hc2, hrd⟩, hbl⟩
      clear HCL
      dsimp only
      rcases HCA.out with ⟨cs, rfl, hv, hct⟩ | ⟨n, rfl, hv⟩
      · have HV := Lib.hid hv
        have HCT := Lib.hid hct
        clear HCA hv hct
        dsimp only at hc1 hrd
        dsimp only
        have hsz1 := hbl.size
        unfold maxLen at hc2
        go_wp2_with fail
        go_loopg [0, 9] cs.length (fun q mv iv wr => Below w1.heap.size w1 wr ∧ ∃ i m2 : Nat, iv = .int .i64 i ∧ mv = .int .i64 m2 ∧ q = cs.length - i ∧ i ≤ cs.length ∧ m2 = (cs.take i).foldl (fun m c => oneV c m) m)
        case atStart => exact ⟨Below.refl _ _, 0, m, rfl, rfl, rfl, Nat.zero_le _, rfl⟩
        case round =>
          obtain ⟨hb2, i, m2, rfl, rfl, rfl, hi, hmm⟩ := hrel
          have hm3 : m2 < 2048 := by rw [hmm]; exact foldl_one_lt _ _ hm2
          have HM := Lib.hid hmm
          clear hmm
          by_cases hlt : i < cs.length
          · have i1 : (i : Int) < cs.length := by omega
            have i0 : (0 : Int) ≤ (i : Int) := by omega
            obtain ⟨ad, rfl, hbk, hcell⟩ := cells_at (hrd.below hb2) i hlt rfl
            have hnx : oneV cs[i] m2 = (cs.take (i + 1)).foldl (fun m c => oneV c m) m := by
              rw [List.take_succ_eq_append_getElem hlt, List.foldl_append, ← HM.out]; rfl
            have hct : cs[i].t.length ≤ 1000000 := by have := HCT.out cs[i] (List.getElem_mem hlt); have := HLEN.out; omega
            have HNX := Lib.hid hnx
            have k0 : wr.cell? (ad.add (i * 5)) = some (.bool (clsAt cs[i].p 0)) := hcell 0 _ rfl
            have k1 : wr.cell? ⟨(ad.add (i * 5)).block, (ad.add (i * 5)).off + 1, none⟩ = some (.bool (clsAt cs[i].p 1)) := by have := hcell 1 _ rfl; rw [← add_of_add] at this; exact this
            have k2 : wr.cell? ⟨(ad.add (i * 5)).block, (ad.add (i * 5)).off + 2, none⟩ = some (.bool (clsAt cs[i].p 2)) := by have := hcell 2 _ rfl; rw [← add_of_add] at this; exact this
            have k3 : wr.cell? ⟨(ad.add (i * 5)).block, (ad.add (i * 5)).off + 3, none⟩ = some (.int .u8 cs[i].x.toNat) := by have := hcell 3 _ rfl; rw [← add_of_add] at this; exact this
            have k4 : wr.cell? ⟨(ad.add (i * 5)).block, (ad.add (i * 5)).off + 4, none⟩ = some (.string ⟨cs[i].t.toArray⟩) := by have := hcell 4 _ rfl; rw [← add_of_add] at this; exact this
            clear hcell hnx
            generalize cs[i] = c at *
            go_wp2_with fail
            with_reducible refine (one_any wr m2 c hm3 hct).mono ?_
            rintro e w3 ⟨rfl, nb⟩
            rw [HNX.out]
            have hb3 := hb2.trans (nb.mono hb2.size)
            clear nb k0 k1 k2 k3 k4
            dsimp only
            go_wp2_with fail
            go_roundg (cs.length - (i + 1))
            case measure => omega
            case rel => exact ⟨hb3, i + 1, _, by go_num, rfl, rfl, by omega, rfl⟩
          · obtain rfl : i = cs.length := by omega
            have i1 : decide ((cs.length : Int) < cs.length) = false := decide_eq_false (by omega)
            have hr : Hid (AppRet R (.returned (.tuple #[.int .i64 m2, .int .i64 0, .int .i64 0]))) := Lib.hid (by rw [HV.out, HM.out, List.take_length]; rfl)
            go_wp2_with fail
            go_ret3
            exact ⟨hr.out, hbl.trans (hb2.mono hsz1)⟩
      · have hr : Hid (AppRet R (.returned (.tuple #[.int .i64 0, .int .i64 n, .int .i64 30]))) := Lib.hid (by rw [hv]; rfl)
        clear HCA hv
        dsimp only
        have e2 : decide ((0 : Int) ≤ (n : Int)) = true := decide_eq_true (by omega)
        go_wp2_with fail
        go_ret3
        exact ⟨hr.out, hbl⟩
  · have hmb := Lib.hid (modeB_no (x := x) (by omega))
    have hr : Hid (AppRet (applyV x (bl s)) (.returned (.tuple #[.int .i64 0, .int .i64 0, .int .i64 2]))) := Lib.hid (by unfold applyV; rw [if_pos (by omega)]; rfl)
    clear hm
    go_enter Tryd.func21, Tryd.ntmps21
    go_wp2_with fail
    refine (valid_any _ _).mono ?_
    rintro e w' ⟨rfl, rfl⟩
    rw [hmb.out]
    dsimp only
    go_wp2_with fail
    go_ret3
    exact ⟨hr.out, Below.refl _ _⟩
end Go.Proofs.YtemcabepbncicaaDoor
