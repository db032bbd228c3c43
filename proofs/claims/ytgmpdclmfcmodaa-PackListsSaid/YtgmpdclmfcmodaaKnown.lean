/-
  Walks: the laws' own small functions: cut, known; Bound, Equal.
-/
import Derived.Test.YtgmpdclmfcmodaaRunpack
import Derived.Lib.SlBytesConst
namespace Go.Proofs.Ytgmpdclmfcmodaa
open Go.RowKit

theorem cut_any (w : World) (B : Nat) (v : Value) (b : List UInt8) (hb : RdB w B v b) :
    Calls Try.prog 13 #[v] w fun e w' => ∃ v', e = .returned v' ∧ RdB w' B v' (b.take 400) ∧ w = w' := by
  obtain ⟨i0, hi, hz0, hz1, hz2⟩ := info_parts info5
  have hb0 := hb
  obtain ⟨A, cap, rfl, h1, h2, _⟩ := hb
  by_cases hl : b.length ≤ 400
  · obtain ⟨A', c', hsl, hsr⟩ := slice_upto Try.underlying22 hi hb0 b.length (Nat.le_refl _) .i64
    have e1 : min (b.length : Int) 400 = (b.length : Int) := by omega
    have hbt : b.take 400 = b := List.take_of_length_le hl
    rw [List.take_length] at hsr
    go_enter Try.func13, Try.ntmps13
    go_wp2_with fail
    go_ret
    exact ⟨_, rfl, by rw [hbt]; exact hsr, rfl⟩
  · obtain ⟨A', c', hsl, hsr⟩ := slice_upto Try.underlying22 hi hb0 400 (by omega) .i64
    have e1 : min (b.length : Int) 400 = 400 := by omega
    go_enter Try.func13, Try.ntmps13
    go_wp2_with fail
    go_ret
    exact ⟨_, rfl, hb0.upto (by omega), rfl⟩

/-- A literal's bytes. -/
theorem rdb_const (w : World) (t : TypeId) (fr : Nat × Nat) (l : List UInt8) (hl : l.length ≤ maxLen) : RdB (w.alloc (.cells (bs l).toArray t fr)) (w.heap.size + 1) (.slice (some ⟨w.heap.size, 0, none⟩) l.length l.length) l := by
  refine ⟨_, _, rfl, Nat.le_refl _, hl, by simp [bs_length], fun _ => ⟨_, rfl, by simp, fun j u hu => ?_⟩⟩
  rw [add_at0, World.cell?_alloc_mark]
  simpa using hu

set_option maxRecDepth 100000 in
set_option maxHeartbeats 4000000 in
theorem known_any (w : World) : Calls Try.prog 16 #[] w fun e w' => e = .returned (.bool true) ∧ Below w.heap.size w w' := by
  have p1 : Pk.pack [] [97, 98, 99, 100] = [3, 97, 98, 99, 100] := by decide +kernel
  have p2 : Pk.pack [] [97, 98, 97, 98, 97, 98, 97, 98] = [1, 97, 98, 130, 0, 1] := by decide +kernel
  have p3 : Pk.unpack [] [128, 0, 0] 100 = .error (0, 2) := by rfl
  have P1 := Lib.hid p1
  have P2 := Lib.hid p2
  have P3 := Lib.hid p3
  clear p1 p2 p3
  have kc := fun (w : World) (C : Array Value) (n c : Nat) => Lib.run_convert_bytes_const (P := Try.prog) w 22 5 C n c Try.underlying22 Try.underlying5
  go_enter Try.func16, Try.ntmps16
  go_wp2_with fail
  have hr1 := rdb_const w 5 (4, 5) [97, 98, 99, 100] (by simp [maxLen])
  refine (pack_any _ _ _ _ hr1 (by simp) (by simp)).mono ?_
  rintro e w1 ⟨v1, rfl, hv1, hb1⟩
  have hb1' : Below w.heap.size w w1 := ((Below.refl _ _).alloc (Nat.le_refl _) _).trans (hb1.mono (by simp))
  rw [P1.out] at hv1
  obtain ⟨A1, c1, rfl, _, _, _⟩ := id hv1
  dsimp only
  go_wp2_with fail
  have hr2 := rdb_const w1 5 (8, 9) [97, 98, 97, 98, 97, 98, 97, 98] (by simp [maxLen])
  refine (pack_any _ _ _ _ hr2 (by simp) (by simp)).mono ?_
  rintro e w2 ⟨v2, rfl, hv2, hb2⟩
  have hb2' : Below w1.heap.size w1 w2 := ((Below.refl _ _).alloc (Nat.le_refl _) _).trans (hb2.mono (by simp))
  rw [P2.out] at hv2
  obtain ⟨A2, c2, rfl, _, _, _⟩ := id hv2
  dsimp only
  go_wp2_with fail
  have hr3 := rdb_const w2 5 (0, 0) [128, 0, 0] (by simp [maxLen])
  refine (unpack_any _ _ _ _ 100 hr3 (by simp) (by simp) (by omega) (by omega)).mono ?_
  rintro e w3 ⟨hu, hb3⟩
  rw [P3.out] at hu
  simp only [UnpRet] at hu
  subst hu
  have hb3' : Below w2.heap.size w2 w3 := ((Below.refl _ _).alloc (Nat.le_refl _) _).trans (hb3.mono (by simp))
  have kc1 : (convert 22 9 (.slice A1 5 c1)).run Try.prog w3 = .ok (.string ⟨#[3, 97, 98, 99, 100]⟩) w3 := run_convert_string (w := w3) (src := 22) (dst := 9) Try.underlying22 Try.underlying5 Try.underlying9 ((hv1.below (hb2'.mono (Nat.le_refl _))).below (hb3'.mono hb2'.size))
  have kc2 : (convert 22 9 (.slice A2 6 c2)).run Try.prog w3 = .ok (.string ⟨#[1, 97, 98, 130, 0, 1]⟩) w3 := run_convert_string (w := w3) (src := 22) (dst := 9) Try.underlying22 Try.underlying5 Try.underlying9 (hv2.below hb3')
  dsimp only
  go_wp2_with fail
  go_ret
  exact ⟨rfl, (hb1'.trans (hb2'.mono hb1'.size)).trans (hb3'.mono (by have := hb1'.size; have := hb2'.size; omega))⟩
end Go.Proofs.Ytgmpdclmfcmodaa
