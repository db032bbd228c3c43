/-
  The law PackRepeats, walked.
-/
import Derived.Test.YtgmpdclmfcmodaaBack
import Derived.Test.YtgmpdclmfcmodaaPure8
namespace Go.Proofs.Ytgmpdclmfcmodaa
open Go.RowKit

theorem u8_int {a : Int} (h : (Lit.int .u8 a).wf = true) : 0 ≤ a ∧ a < 256 := by
  simp [Lit.wf, IntKind.min, IntKind.max, IntKind.bits, IntKind.signed] at h
  omega

set_option maxRecDepth 100000 in
set_option maxHeartbeats 8000000 in
theorem repeats_walk (w : World) (vb : Value) (t : Int) (b : List UInt8) (hb : RdB w w.heap.size vb b) (ht : (Lit.int .u8 t).wf = true) :
    Calls Try.prog 6 #[vb, .int .u8 t] w fun e w' => e = .returned (.bool true) ∧ Below w.heap.size w w' := by
  obtain ⟨i0, hi, hz0, hz1, hz2⟩ := info_parts info5
  obtain ⟨ht1, ht2⟩ := u8_int ht
  obtain ⟨n, rfl⟩ : ∃ n : Nat, t = n := ⟨t.toNat, by omega⟩
  obtain ⟨A, cap, rfl, hcap, _, _⟩ := id hb
  obtain ⟨m, hm⟩ : ∃ m : Nat, m = min b.length 20 := ⟨_, rfl⟩
  have e1 : (if (20 : Int) < (b.length : Int) then (20 : Int) else (b.length : Int)) = (m : Int) := by split <;> omega
  have hmb : m ≤ b.length ∧ m ≤ cap ∧ m ≤ 20 := by omega
  have hb1 := hb.upto hmb.1
  have hlm : (b.take m).length = m := by rw [List.length_take]; omega
  clear hm
  generalize b.take m = b' at *
  subst hlm
  obtain ⟨r, hr⟩ : ∃ r : Nat, r = n % 201 := ⟨_, rfl⟩
  have e2 : (n : Int) % 201 = (r : Int) := by omega
  have hr2 : r ≤ 200 := by omega
  have hrl := fun k => Pk.rep_length b' k
  have HRL := Lib.hid hrl
  have hpl := Pk.pack_rep b' r (by omega)
  have HPL := Lib.hid hpl
  have hup := Pk.unpack_pack [] (Pk.rep b' r) (Pk.rep b' r).length (by simp) (by rw [hrl]; have := Nat.mul_le_mul hr2 hmb.2.2; omega)
  have HUP := Lib.hid (hup.1 (Nat.le_refl _))
  clear hpl hup hrl hb ht hr
  go_enter Try.func6, Try.ntmps6
  go_wp2_with fail
  go_loopg [5, 6] r (fun q tv iv wr => ∃ (k : Nat) (OA : Option Addr) (oc : Nat), iv = .int .i64 k ∧ q = r - k ∧ k ≤ r ∧ tv = .slice OA (Pk.rep b' k).length oc ∧ wr.ownsRow w.heap.size 5 1 (.slice OA (Pk.rep b' k).length oc) (Pk.rep b' k).length (bs (Pk.rep b' k)) ∧ Below w.heap.size w wr)
  case atStart => exact ⟨0, none, 0, rfl, rfl, by omega, rfl, World.ownsRow_nil _ _ _ _, Below.refl _ _⟩
  case round =>
    obtain ⟨k, OA, oc, rfl, rfl, hk, rfl, hown, hbl⟩ := hrel
    have hszr := hbl.size
    by_cases hlt : k < r
    · have i1 : (k : Int) < r := by omega
      have hl1 : (Pk.rep b' k).length ≤ 4000 := by rw [HRL.out]; exact Nat.le_trans (Nat.mul_le_mul (Nat.le_trans hk hr2) hmb.2.2) (by decide)
      have hnext : Pk.rep b' (k + 1) = Pk.rep b' k ++ b' := rfl
      have HN := Lib.hid hnext
      obtain ⟨A1, c1, hv, ca, cb, hrd⟩ := hb1.below hbl
      injection hv with h1 h2 h3
      subst h1 h3
      clear hnext h2
      generalize Pk.rep b' k = u at *
      go_wp2_with (at_builtin; refine wpList_append_any _ rfl (.tmp 24) (.tmp 25) _ rfl w.heap.size 5 i0 _ 1 1 Try.underlying22 hi hz0 hz1 hz2 rfl (by omega) (.slice OA u.length oc) u.length (bs u) rfl hown w.heap.size A b'.length cap (bs b') rfl hrd (bs_one b') (by unfold maxLen; omega) (by omega) hszr ?_; intro v1 w1 hown1 hgrow1 hat1; obtain ⟨A5, c5, rfl⟩ := own_form hown1)
      have hbl1 : Below w.heap.size w w1 := hbl.grown hgrow1 hszr (fun g hg => (hown.lt g hg).1)
      go_roundg (r - (k + 1))
      case measure => omega
      case rel => exact ⟨k + 1, A5, c5, by go_num, rfl, by omega, by rw [HN.out, List.length_append], by rw [HN.out, List.length_append, bs_append]; exact hown1, hbl1⟩
    · obtain rfl : k = r := by omega
      have i1 : decide ((k : Int) < k) = false := decide_eq_false (by omega)
      have hl1 : (Pk.rep b' k).length ≤ 4000 := by rw [HRL.out]; exact Nat.le_trans (Nat.mul_le_mul (Nat.le_trans hk hr2) hmb.2.2) (by decide)
      generalize Pk.rep b' k = u at *
      clear HRL
      have hru := RdB.of_own hown rfl
      go_wp2_with fail
      refine (pack_any wr _ _ u hru (Nat.le_refl _) (by omega)).mono ?_
      rintro e w1 ⟨v1, rfl, h1, nb⟩
      have bl1 := hbl.trans (nb.mono hszr)
      replace hru := (hru.below nb).more nb.size
      have hpl4 := Pk.pack_len [] u
      clear nb hown hbl
      dsimp only
      go_wp2_with fail
      refine (unpack_any w1 _ v1 _ u.length h1 (Nat.le_refl _) (by omega) (by omega) (by omega)).mono ?_
      rintro e w2 ⟨hu, nb⟩
      rw [HUP.out] at hu
      obtain ⟨v2, rfl, h2⟩ := hu
      have bl2 := bl1.trans (nb.mono bl1.size)
      replace hru := (hru.below nb).more nb.size
      replace h1 := (h1.below nb).more nb.size
      clear nb bl1 HUP
      obtain ⟨A3, c3, rfl, _, _, _⟩ := id h1
      have hfin := HPL.out
      generalize Pk.pack [] u = P at *
      have hfin2 : Hid ((P.length : Int) ≤ (b'.length : Int) + 1 + 3 * (((u.length : Int) + 130) / 131) + 4) := Lib.hid (by omega)
      clear HPL hfin
      dsimp only
      go_wp2_with fail
      refine (known_any w2).mono ?_
      rintro e w3 ⟨rfl, nb⟩
      have c1 := conv_of (hru.below nb)
      have c2 := conv_of (h2.below nb)
      have bl3 := bl2.trans (nb.mono bl2.size)
      clear nb bl2 hru h2 h1
      dsimp only
      go_wp2_with fail
      go_ret
      have hfin := hfin2.out
      exact ⟨by first | rfl | simp [hfin], bl3⟩
end Go.Proofs.Ytgmpdclmfcmodaa
