/-
  The law AccessTwice, walked.
-/
import Derived.Test.YtemcabepbncicaaDoorAccO
import Derived.Test.YtemcabepbncicaaDoorAccY
import Derived.Test.YtemcabepbncicaaDoorLawJoins
import Derived.Test.YtemcabepbncicaaDoorPlainTwice
namespace Go.Proofs.YtemcabepbncicaaDoor
open Go.RowKit
set_option linter.unusedVariables false

set_option maxRecDepth 100000 in
set_option maxHeartbeats 8000000 in
theorem twice_walk (w : World) (a : Int) (x0 : ByteArray) (ha : (Lit.int .u16 a).wf = true) (hx0 : x0.size ≤ maxLen) (hs : Sh w) :
    Calls Tryd.prog 6 #[.int .u16 a, .string x0] w fun e w' => e = .returned (.bool true) ∧ Below w.heap.size w w' := by
  obtain ⟨ha1, ha2⟩ := u16_int ha
  clear ha
  obtain ⟨n, rfl⟩ : ∃ n : Nat, a = n := ⟨a.toNat, by omega⟩
  obtain ⟨m, hm⟩ : ∃ m : Nat, m = n % 2048 := ⟨_, rfl⟩
  have e0 : (n : Int) % 2048 = (m : Int) := by omega
  have hm2 : m < 2048 := by omega
  unfold maxLen at hx0
  obtain ⟨p, p1, p2, p3, p4, p5⟩ := upto40 x0
  clear hm
  generalize hX : x0.extract 0 p = X at *
  have HCL := Lib.hid (clauses_any w X (by omega))
  have HTP := Lib.hid (fun c h => twice_plain (bl X) m hm2 (by rw [bl_length]; omega) c h)
  have HCA := Lib.hid (clauses_apply_all (bl X) m hm2)
  generalize clausesV (bl X) = C at *
  have E0 := Lib.hid e0
  clear e0
  go_enter Tryd.func6, Tryd.ntmps6
  go_wp2_with fail
  refine HCL.out.mono ?_
  rintro e w1 ⟨⟨A, cap, rfl, hc1, hc2, hrd⟩, b1⟩
  clear HCL
  dsimp only
  have hcase : (∃ k : Nat, C = ([], (k : Int))) ∨ (∃ cs : List Cl, C = (cs, -1) ∧ cs.length ≠ 1) ∨ ∃ c, C = ([c], -1) := by
    rcases HCA.out with ⟨cs, h, _⟩ | ⟨k, h, _⟩
    · by_cases hl : cs.length = 1
      · obtain ⟨c, rfl⟩ := List.length_eq_one_iff.1 hl
        exact .inr (.inr ⟨c, h⟩)
      · exact .inr (.inl ⟨cs, h, hl⟩)
    · exact .inl ⟨k, h⟩
  clear HCA
  rcases hcase with ⟨k, rfl⟩ | ⟨cs, rfl, hl⟩ | ⟨c, rfl⟩
  · dsimp only
    have e1 : decide ((0 : Int) ≤ (k : Int)) = true := decide_eq_true (by omega)
    go_wp2_with fail
    refine (known_any _ (hs.belowS b1)).mono ?_
    rintro e w3 ⟨rfl, nb⟩
    dsimp only
    go_wp2_with fail
    go_ret
    exact ⟨by first | rfl | simp, b1.trans (nb.mono b1.size)⟩
  · dsimp only
    have e1 : ((cs.length : Int) != 1) = true := bne_iff_ne.2 (by omega)
    have e2 : ((cs.length : Int) == 1) = false := beq_eq_false_iff_ne.2 (by omega)
    have e3 : (cs.length == 1) = false := beq_eq_false_iff_ne.2 hl
    clear hl
    go_wp2_with fail
    refine (known_any _ (hs.belowS b1)).mono ?_
    rintro e w3 ⟨rfl, nb⟩
    dsimp only
    go_wp2_with fail
    go_ret
    exact ⟨by first | rfl | simp, b1.trans (nb.mono b1.size)⟩
  · obtain ⟨t1, t2, t3⟩ := HTP.out c rfl
    have HT3 := Lib.hid t3
    have h1 := oneV_lt c m hm2
    have HA1 := Lib.hid (fun W (h : Sh W) => apply_any W (m : Int) X (by omega) h)
    have HA2 := Lib.hid (fun W (h : Sh W) => apply_any W ((oneV c m : Nat) : Int) X (by omega) h)
    rw [t1] at HA1
    rw [t2] at HA2
    clear t1 t2 t3 HTP
    generalize oneV c m = m1 at *
    unfold AppRet at HA1 HA2
    dsimp only at hrd hc1
    obtain ⟨ad, rfl, hbk, hcell⟩ := hrd.2 (by simp)
    have HCELL := Lib.hid hcell
    clear hcell hrd
    unfold maxLen at hc2
    dsimp only
    have e0 := E0.out
    have e00 : (n : Int).tmod 2048 = (m : Int) := by rw [Int.tmod_eq_emod_of_nonneg (by omega)]; exact e0
    go_wp2_with fail
    refine (HA1.out w1 (hs.belowS b1)).mono ?_
    rintro e w2 ⟨rfl, nb⟩
    have b2 := b1.trans (nb.mono b1.size)
    have nb2 := nb
    clear nb HA1 e0 e00
    dsimp only
    go_wp2_with fail
    refine (HA2.out w2 (hs.belowS b2)).mono ?_
    rintro e w3 ⟨rfl, nb⟩
    have b3 := b2.trans (nb.mono b2.size)
    have nb3 := nb2.trans (nb.mono nb2.size)
    clear nb HA2
    dsimp only
    go_wp2_with fail
    refine (known_any w3 (hs.belowS b3)).mono ?_
    rintro e w4 ⟨rfl, nb⟩
    have b4 := b3.trans (nb.mono b3.size)
    have nb4 := nb3.trans (nb.mono nb3.size)
    clear nb nb3 nb2 b3 b2
    dsimp only
    go_wp2_with fail
    go_loopg [14] 3 (fun q kv wr => wr = w4 ∧ ∃ k : Nat, kv = .int .i64 k ∧ q = 3 - k ∧ k ≤ 3)
    case atStart => exact ⟨rfl, 0, rfl, rfl, by omega⟩
    case round =>
      obtain ⟨rfl, k, rfl, rfl, hk⟩ := hrel
      by_cases hlt : k < 3
      · have i1 : (k : Int) < 3 := by omega
        have i0 : (0 : Int) ≤ (k : Int) := by omega
        have hkc : k = 0 ∨ k = 1 ∨ k = 2 := by omega
        have hcell : wr.cell? (ad.add k) = some (.bool (clsAt c.p k)) := by
          rw [nb4.cell (by rw [block_of_add]; exact hbk)]
          refine HCELL.out k _ ?_
          rcases hkc with rfl | rfl | rfl <;> rfl
        have HT := Lib.hid (HT3.out k hlt)
        have HB1 := Lib.hid (bits_any ((m1 : Nat) : Int) (k : Int) wr (hs.belowS b4))
        have HB2 := Lib.hid (rbits_any (m : Int) (k : Int) wr)
        clear hkc
        rcases Bool.eq_false_or_eq_true (clsAt c.p k) with hq | hq
        · rw [hq] at hcell
          go_wp2_with fail
          go_roundg (3 - (k + 1))
          case measure => omega
          case rel => exact ⟨rfl, k + 1, by go_num, rfl, by omega⟩
        · rw [hq] at hcell
          have ht := HT.out hq
          rw [ht] at HB1
          generalize bitsV (m : Int) (k : Int) = bb at *
          clear ht hq HT
          go_wp2_with fail
          refine HB1.out.mono ?_
          rintro e W5 ⟨rfl, rfl⟩
          dsimp only
          go_wp2_with fail
          refine HB2.out.mono ?_
          rintro e W6 ⟨rfl, rfl⟩
          dsimp only
          go_wp2_with fail
          go_roundg (3 - (k + 1))
          case measure => omega
          case rel => exact ⟨rfl, k + 1, by go_num, rfl, by omega⟩
      · obtain rfl : k = 3 := by omega
        have i1 : decide (((3 : Nat) : Int) < 3) = false := by decide
        go_wp2_with fail
        go_ret
        exact ⟨by first | rfl | simp, b4⟩
end Go.Proofs.YtemcabepbncicaaDoor
