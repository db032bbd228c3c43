/-
  The law PackLimits, walked.
-/
import Derived.Test.YtgmpdclmfcmodaaLists
import Derived.Test.YtgmpdclmfcmodaaLawRepeats
namespace Go.Proofs.Ytgmpdclmfcmodaa
open Go.RowKit

theorem run_make_bytes (n : Nat) (hn : n ≤ 4000000) (W : World) : (Instr.makeSlice 22 (.int .i64 (n : Int)) (.int .i64 (n : Int))).run Try.prog W = .ok (.slice (some ⟨W.heap.size, 0, none⟩) n n) (W.alloc (.cells (madeCells #[.int .u8 0] n) 5)) := by
  obtain ⟨i0, hi, hz0, hz1, hz2⟩ := info_parts info5
  have := run_make (P := Try.prog) W 22 5 i0 (.int .u8 0) Try.underlying22 hi hz0 .i64 .i64 n n (by omega) (Int.le_refl _) (by rw [hz2]; omega) (by omega)
  rw [hz1] at this
  simpa [Value.cells] using this

theorem rdb_made (w : World) (n : Nat) (hn : n ≤ maxLen) : RdB (w.alloc (.cells (madeCells #[.int .u8 0] n) 5)) (w.heap.size + 1) (.slice (some ⟨w.heap.size, 0, none⟩) n n) (List.replicate n 0) := by
  have e : bs (List.replicate n 0) = List.replicate n (.int .u8 0) := by unfold bs; rw [List.map_replicate]; rfl
  have hl : (List.replicate n (0 : UInt8)).length = n := List.length_replicate
  refine ⟨some ⟨w.heap.size, 0, none⟩, n, by rw [hl], by rw [hl]; exact Nat.le_refl _, hn, ?_⟩
  rw [hl]
  refine ⟨by rw [bs_length, hl, Nat.mul_one], fun _ => ⟨_, rfl, by simp, fun j u hu => ?_⟩⟩
  rw [add_at0, (Blk.new w 5 (madeCells #[.int .u8 0] n)).cell, ← Array.getElem?_toList, toList_madeCells_one, ← e]
  exact hu

theorem zeros_pack (n : Nat) : (Pk.pack [] (List.replicate n 0)).length ≤ 6 + 3 * ((n + 130) / 131) := by
  have := Pk.pack_period (List.replicate n 0) 1 (by omega) (fun h => by cases h) (fun j hj => by
    rw [List.length_replicate] at hj
    rw [List.getElem?_replicate, List.getElem?_replicate, if_pos (by omega), if_pos (by omega)])
  rw [List.length_replicate] at this
  omega

/-- A list of two. -/
theorem rdl_two (w : World) (fr : Nat × Nat) (B : Nat) (A : Option Addr) (n cap : Nat) (l : List UInt8) (h : RdB w B (.slice A n cap) l) (hB : B ≤ w.heap.size) :
    RdL (w.alloc (.cells #[.slice none 0 0, .slice A n cap] 22 fr)) (w.heap.size + 1) (.slice (some ⟨w.heap.size, 0, none⟩) 2 2) [[], l] := by
  refine ⟨_, 2, [.slice none 0 0, .slice A n cap], rfl, Nat.le_refl _, by simp [maxLen], ⟨rfl, fun _ => ⟨_, rfl, by simp, fun j u hu => ?_⟩⟩, fun j lv t h1 h2 => ?_⟩
  · rw [add_at0, World.cell?_alloc_mark]
    simpa using hu
  · match j with
    | 0 =>
      simp only [List.getElem?_cons_zero, Option.some.injEq] at h1 h2
      subst h1 h2
      exact RdB.nil _ _
    | 1 =>
      simp only [List.getElem?_cons_succ, List.getElem?_cons_zero, Option.some.injEq] at h1 h2
      subst h1 h2
      exact (h.below ((Below.refl _ _).alloc (by omega) _)).more (by omega)
    | j + 2 => simp at h1

set_option maxRecDepth 100000 in
set_option maxHeartbeats 8000000 in
theorem limits_walk (w : World) (t : Int) (ht : (Lit.int .u8 t).wf = true) :
    Calls Try.prog 10 #[.int .u8 t] w fun e w' => e = .returned (.bool true) ∧ Below w.heap.size w w' := by
  obtain ⟨i0, hi, hz0, hz1, hz2⟩ := info_parts info5
  obtain ⟨ht1, ht2⟩ := u8_int ht
  obtain ⟨m, rfl⟩ : ∃ m : Nat, t = m := ⟨t.toNat, by omega⟩
  obtain ⟨N, hN⟩ : ∃ N : Nat, N = 1048577 + m := ⟨_, rfl⟩
  have e1 : (1048577 : Int) + (m : Int) = (N : Int) := by omega
  have hN1 : 1048577 ≤ N ∧ N ≤ 1048832 := by omega
  have hmk := run_make_bytes N (by omega)
  have hz := rdb_made w N (by unfold maxLen; omega)
  have hzl : (List.replicate N (0 : UInt8)).length = N := List.length_replicate
  have hzt : (List.replicate N (0 : UInt8)).take 1048576 = List.replicate 1048576 0 := by rw [List.take_replicate, Nat.min_eq_left (by omega)]
  have hup := fun h => (Pk.unpack_pack [] (List.replicate 1048576 0) 1048576 (by simp) (Nat.le_refl _)).1 h
  have hul : (List.replicate 1048576 (0 : UInt8)).length = 1048576 := List.length_replicate
  have hpk := zeros_pack 1048576
  clear hN ht
  generalize List.replicate 1048576 (0 : UInt8) = u at *
  generalize List.replicate N (0 : UInt8) = z at *
  replace hup := hup (by omega)
  have hbad : Pk.unpack z [] 5 = .error (0, 5) := by unfold Pk.unpack; rw [if_neg (by omega), if_pos (by omega)]
  subst hzl
  have hsr := hz.upto (k := 1048576) (by omega)
  rw [hzt] at hsr
  have HUP := Lib.hid hup
  have HUL := Lib.hid hul
  have HPK := Lib.hid hpk
  have HBAD := Lib.hid hbad
  clear hup hul hpk hbad hzt
  go_enter Try.func10, Try.ntmps10
  go_wp2_with fail
  have hzlong : 1048576 < z.length := by omega
  refine (pack_long _ _ _ z hz hzlong).mono ?_
  rintro e w1 ⟨rfl, rfl⟩
  have bl1 : Below w.heap.size w (w.alloc (.cells (madeCells #[.int .u8 0] z.length) 5)) := (Below.refl _ _).alloc (Nat.le_refl _) _
  have hsz1 : w.heap.size + 1 ≤ (w.alloc (.cells (madeCells #[.int .u8 0] z.length) 5)).heap.size := by simp
  have hszw : w.heap.size ≤ (w.alloc (.cells (madeCells #[.int .u8 0] z.length) 5)).heap.size := by simp
  generalize hB0 : w.heap.size = B0 at *
  have HB0 := Lib.hid hB0
  clear hB0
  generalize w.alloc (.cells (madeCells #[.int .u8 0] z.length) 5) = w1 at *
  dsimp only
  go_wp2_with fail
  refine (packWith_long w1 _ _ (.slice none 0 0) z [] hz (RdB.nil _ _) (.inl hzlong)).mono ?_
  rintro e w2 ⟨rfl, rfl⟩
  dsimp only
  go_wp2_with fail
  refine (unpackWith_any w1 _ _ (.slice none 0 0) z [] 5 hz (RdB.nil _ _) hsz1 (by simp) (by omega) (by omega)).mono ?_
  rintro e w2 ⟨hu, nb⟩
  rw [HBAD.out] at hu
  simp only [UnpRet] at hu
  subst hu
  replace hz := hz.below (nb.mono hsz1)
  replace hsr := hsr.below (nb.mono hsz1)
  replace bl1 := bl1.trans (nb.mono hszw)
  replace hsz1 : B0 + 1 ≤ w2.heap.size := Nat.le_trans hsz1 nb.size
  clear nb hszw
  dsimp only
  go_wp2_with fail
  refine (packList_any _ _ _ [[], z] 1 (rdl_two w2 (0, 0) (B0 + 1) _ _ _ z hz hsz1) (by simp) (by simp) (fun j hj => by obtain rfl : j = 0 := (by omega); simp) (fun _ => by simpa using hzlong) (by simp)).mono ?_
  rintro e w3 ⟨⟨hpl, _⟩, nb⟩
  have he := hpl (by simp)
  subst he
  have nb2 : Below w2.heap.size w2 w3 := ((Below.refl _ _).alloc (Nat.le_refl _) _).trans (nb.mono (by simp))
  replace hsr := hsr.below (nb2.mono hsz1)
  replace bl1 := bl1.trans (nb2.mono (by omega))
  replace hsz1 : B0 + 1 ≤ w3.heap.size := Nat.le_trans hsz1 nb2.size
  clear nb nb2 hpl hz
  dsimp only
  go_wp2_with fail
  have hul := HUL.out
  refine (pack_any w3 _ _ u hsr hsz1 (by omega)).mono ?_
  rintro e w4 ⟨v4, rfl, h4, nb⟩
  replace bl1 := bl1.trans (nb.mono (by omega))
  replace hsz1 : B0 + 1 ≤ w4.heap.size := Nat.le_trans hsz1 nb.size
  obtain ⟨A4, c4, rfl, _, _, _⟩ := id h4
  have hpk := HPK.out
  clear nb
  dsimp only
  go_wp2_with fail
  refine (unpack_any w4 _ _ _ 1048576 h4 (Nat.le_refl _) (by omega) (by omega) (by omega)).mono ?_
  rintro e w5 ⟨hu, nb⟩
  have hup := HUP.out
  change Pk.unpack [] (Pk.pack [] u) 1048576 = _ at hup
  rw [hup] at hu
  obtain ⟨v5, rfl, h5⟩ := hu
  obtain ⟨A5, c5, rfl, _, _, _⟩ := id h5
  replace bl1 := bl1.trans (nb.mono (by omega))
  replace hsz1 : B0 + 1 ≤ w5.heap.size := Nat.le_trans hsz1 nb.size
  clear nb hup h4 h5 hsr HUP HPK
  dsimp only
  go_wp2_with fail
  refine (known_any w5).mono ?_
  rintro e w6 ⟨rfl, nb⟩
  replace bl1 := bl1.trans (nb.mono (by omega))
  have hp3 : (((Pk.pack [] u).length : Int)) < 30000 := by omega
  have hu3 : (u.length : Int) = 1048576 := by omega
  clear nb hpk
  generalize (Pk.pack [] u).length = L at *
  clear hul
  dsimp only
  go_wp2_with fail
  go_ret
  rw [HB0.out]
  exact ⟨by first | rfl | simp [hp3, hu3], bl1⟩
end Go.Proofs.Ytgmpdclmfcmodaa
