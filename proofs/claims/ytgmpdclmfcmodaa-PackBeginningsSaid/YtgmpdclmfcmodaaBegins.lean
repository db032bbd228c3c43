/-
  The law PackBeginnings, walked.
-/
import Derived.Test.YtgmpdclmfcmodaaBack
namespace Go.Proofs.Ytgmpdclmfcmodaa
open Go.RowKit

set_option maxRecDepth 100000 in
set_option maxHeartbeats 8000000 in
theorem begins_walk (w : World) (vb : Value) (b : List UInt8) (hb : RdB w w.heap.size vb b) :
    Calls Try.prog 7 #[vb] w fun e w' => e = .returned (.bool true) ∧ Below w.heap.size w w' := by
  obtain ⟨A, cap, rfl, hcap, _, _⟩ := id hb
  obtain ⟨m, hm⟩ : ∃ m : Nat, m = min b.length 300 := ⟨_, rfl⟩
  have e1 : (if (300 : Int) < (b.length : Int) then (300 : Int) else (b.length : Int)) = (m : Int) := by split <;> omega
  have hmb : m ≤ b.length ∧ m ≤ cap ∧ m ≤ 300 := by omega
  have hb1 := hb.upto hmb.1
  have hlm : (b.take m).length = m := by rw [List.length_take]; omega
  have hbeg := fun n => Pk.unpack_beginning (b.take m) n (by omega)
  have hpl := Pk.pack_len [] (b.take m)
  clear hm
  generalize hbm : b.take m = b' at *
  subst hlm
  have HB := Lib.hid hbeg
  clear hbeg hb hbm
  go_enter Try.func7, Try.ntmps7
  go_wp2_with fail
  refine (pack_any w _ _ b' hb1 (Nat.le_refl _) (by omega)).mono ?_
  rintro e w1 ⟨v3, rfl, h3, bl1⟩
  obtain ⟨A3, c3, rfl, _, _, _⟩ := id h3
  dsimp only
  go_wp2_with fail
  refine (known_any w1).mono ?_
  rintro e w2 ⟨rfl, nb⟩
  have bl2 := bl1.trans (nb.mono bl1.size)
  replace h3 := h3.below nb
  clear bl1
  generalize hB3 : w1.heap.size = B3 at *
  have hsz2 : B3 ≤ w2.heap.size := by rw [← hB3]; exact nb.size
  clear nb hB3
  dsimp only
  go_wp2_with fail
  generalize hP : Pk.pack [] b' = P at *
  have HP := Lib.hid hP
  clear hP
  go_loopg [5] (P.length + 1) (fun k iv wr => ∃ n : Nat, iv = .int .i64 n ∧ k = P.length + 1 - n ∧ n ≤ P.length + 1 ∧ Below w.heap.size w wr ∧ RdB wr B3 (.slice A3 P.length c3) P ∧ B3 ≤ wr.heap.size)
  case atStart => exact ⟨0, rfl, by omega, by omega, bl2, h3, hsz2⟩
  case round =>
    clear bl2 h3 hsz2
    obtain ⟨n, rfl, rfl, hn, bl, h3, hsz⟩ := hrel
    by_cases hlt : n ≤ P.length
    · have i1 : (n : Int) ≤ P.length := by omega
      have hnc : n ≤ c3 := by obtain ⟨_, _, hv, h1, _⟩ := h3; injection hv with _ _ e3; omega
      have hsl := h3.upto hlt
      have hbg := HB.out n
      have hlen : (P.take n).length = n := by rw [List.length_take]; omega
      generalize P.take n = pr at *
      subst hlen
      have HBG := Lib.hid hbg
      clear hbg
      go_wp2_with fail
      refine (unpack_any wr B3 _ pr b'.length hsl hsz (by omega) (by omega) (by omega)).mono ?_
      rintro e w4 ⟨hu, nb⟩
      have bl4 := bl.trans (nb.mono bl.size)
      have h34 := h3.below (nb.mono hsz)
      have hsz4 : B3 ≤ w4.heap.size := by have := nb.size; omega
      rcases HBG.out with ⟨a, ha⟩ | ⟨c, hc, hpre⟩
      · rw [ha] at hu
        simp only [UnpRet] at hu
        subst hu
        clear ha
        dsimp only
        go_wp2_with fail
        go_roundg (P.length + 1 - (pr.length + 1))
        case measure => omega
        case rel => exact ⟨pr.length + 1, by go_num, rfl, by omega, bl4, h34, hsz4⟩
      · rw [hc] at hu
        obtain ⟨u, rfl, hu⟩ := hu
        clear hc
        have hcl := hpre.length_le
        have hcb : c = b'.take c.length := List.prefix_iff_eq_take.1 hpre
        have hcap2 : c.length ≤ cap := by omega
        have cu := conv_of (w := w4.drew) (B := w4.heap.size) hu
        have cb := conv_of (w := w4.drew) (B := w.heap.size) ((hb1.below bl4).upto (k := c.length) hcl)
        rw [← hcb] at cb
        obtain ⟨U, uc, rfl, _, _, _⟩ := id hu
        clear hcb hpre
        have i2 : decide ((b'.length : Int) < c.length) = false := decide_eq_false (by omega)
        have i3 : decide (b'.length < c.length) = false := decide_eq_false (by omega)
        dsimp only
        go_wp2_with fail
        refine wp_region_mixS (fun w' => (convert 22 9 (.slice U c.length uc)).run Try.prog w' = .ok (.string ⟨c.toArray⟩) w' ∧ (convert 22 9 (.slice A c.length cap)).run Try.prog w' = .ok (.string ⟨c.toArray⟩) w')
          [0, 1, 2, 3, 4, 5, 6, 7, 8, 9, 10, 11, 12, 13, 14, 15, 16, 17, 18] [] [0, 1, 2, 3, 4, 5, 6, 7, 8, 9, 10, 11, 12, 13, 14, 15, 16, 17, 18] (by kernel_rfl) (by kernel_rfl) ⟨cu, cb⟩ ?_
        clear cu cb
        simp only [inOrder, opAt]
        repeat
          (refine wpMixS_read (v := ?_) rfl rfl (fun w' hS => ?_) ?_
           rotate_left
           · ((try replace hS := hS rfl); (try dsimp only at hS); go_simp; (try with_reducible rfl))
           try simp only [Act.put, List.setIfInBounds_toArray, List.set_cons_zero, List.set_cons_succ])
        refine wpMixS_nil ?_
        go_wp2_with fail
        go_roundg (P.length + 1 - (pr.length + 1))
        case measure => omega
        case rel => exact ⟨pr.length + 1, by go_num, rfl, by omega, bl4.trans (Fr.nil_below (Fr.drew (Fr.refl _ _)) |>.mono bl4.size), h34, hsz4⟩
    · have i1 : decide ((n : Int) ≤ P.length) = false := decide_eq_false (by omega)
      go_wp2_with fail
      go_ret
      exact ⟨rfl, bl⟩
end Go.Proofs.Ytgmpdclmfcmodaa
