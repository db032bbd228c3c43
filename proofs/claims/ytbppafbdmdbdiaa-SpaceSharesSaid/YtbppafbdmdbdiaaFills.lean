/-
  The function source: the pages of a source out of a list.
-/
import Derived.Test.YtbppafbdmdbdiaaSrc
namespace Go.Proofs.Ytbppafbdmdbdiaa
open Go.RowKit
set_option linter.unusedVariables false

abbrev Fl := UInt8 × ByteArray
/-- A slice of fills. -/
def RdF (w : World) (B : Nat) (v : Value) (l : List Fl) : Prop := ∃ A cap, v = .slice A l.length cap ∧ l.length ≤ maxLen ∧
  ∀ i (h : i < l.length), ∃ b o, A = some ⟨b, o, none⟩ ∧ b < B ∧ w.cell? ⟨b, o + i * 2, none⟩ = some (.int .u8 l[i].1.toNat) ∧ w.cell? ⟨b, o + i * 2 + 1, none⟩ = some (.string l[i].2) ∧ l[i].2.size ≤ maxLen
theorem RdF.below {w w' : World} {B : Nat} {v : Value} {l : List Fl} (h : RdF w B v l) (hb : Below B w w') : RdF w' B v l := by
  obtain ⟨A, cap, h1, h2, h3⟩ := h
  refine ⟨A, cap, h1, h2, fun i hi => ?_⟩
  obtain ⟨b, o, q1, q2, q3, q4, q5⟩ := h3 i hi
  exact ⟨b, o, q1, q2, (hb.cell (by exact q2)).trans q3, (hb.cell (by exact q2)).trans q4, q5⟩
def cutB (b : ByteArray) : ByteArray := b.extract 0 (min b.size 70)
def putF (m : List (Int × Value)) (x : Fl) : List (Int × Value) := mput ((x.1.toNat % 64 : Nat) : Int) (.string (cutB x.2)) m
def srcL (l : List Fl) : List (Int × Value) := (l.take 8).foldl putF []
theorem Strs.put {m : List (Int × Value)} (h : Strs m) (x : Fl) (hx : x.2.size ≤ maxLen) : Strs (putF m x) := fun y v hv => by
  unfold putF at hv
  rw [mget_mput] at hv
  split at hv
  · injection hv with hv
    subst hv
    refine ⟨_, rfl, ?_⟩
    unfold cutB
    rw [ByteArray.size_extract]
    omega
  · exact h y v hv
theorem strs_nil : Strs [] := fun y v hv => by rw [mget_nil] at hv; cases hv
theorem strs_srcL (l : List Fl) (hl : ∀ x ∈ l, x.2.size ≤ maxLen) : Strs (srcL l) := by
  unfold srcL
  have : ∀ (l : List Fl) (m : List (Int × Value)), (∀ x ∈ l, x.2.size ≤ maxLen) → Strs m → Strs (l.foldl putF m) := by
    intro l
    induction l with
    | nil => intro m _ h; exact h
    | cons x l ih => intro m hx h; exact ih _ (fun y hy => hx y (List.mem_cons_of_mem _ hy)) (h.put x (hx x List.mem_cons_self))
  exact this _ _ (fun x hx => hl x (List.mem_of_mem_take hx)) strs_nil
theorem srcL_step (l : List Fl) (k : Nat) (hk : k < l.length) : (l.take (k + 1)).foldl putF [] = putF ((l.take k).foldl putF []) l[k] := by
  rw [List.take_succ_eq_append_getElem hk, List.foldl_append]
  rfl

set_option maxRecDepth 100000 in
set_option maxHeartbeats 4000000 in
theorem source_any (w : World) (v : Value) (l : List Fl) (B : Nat) (hl : RdF w B v l) (hB : B ≤ w.heap.size) :
    Calls Try.prog 17 #[v] w fun e w' => e = .returned (.map (some w.heap.size)) ∧ MI w' w.heap.size (srcL l) ∧ Below w.heap.size w w' := by
  obtain ⟨A, cap, rfl, hlen, hcells⟩ := id hl
  obtain ⟨m, hm⟩ : ∃ m : Nat, m = min l.length 8 := ⟨_, rfl⟩
  have HC := Lib.hid hcells
  have HL := Lib.hid hl
  clear hcells hl
  unfold maxLen at hlen
  have hmm := @run_makeMap Try.prog
  have h0 : MI (w.alloc (.map #[] 0)) w.heap.size [] := MapIs.new w
  have hb0 : Below w.heap.size w (w.alloc (.map #[] 0)) := (Below.refl _ _).alloc (Nat.le_refl _) _
  have H0 := Lib.hid h0
  have HB0 := Lib.hid hb0
  clear h0 hb0
  go_enter Try.func17, Try.ntmps17
  go_wp2_with fail
  generalize w.alloc (.map #[] 0) = W at *
  clear hmm
  go_loopg [4] (m) (fun q iv wr => ∃ k : Nat, iv = .int .i64 k ∧ q = m - k ∧ k ≤ m ∧ MI wr w.heap.size ((l.take k).foldl putF []) ∧ Below w.heap.size w wr)
  case atStart => exact ⟨0, rfl, rfl, Nat.zero_le _, H0.out, HB0.out⟩
  case round =>
    obtain ⟨k, rfl, rfl, hk, hmi, hbl⟩ := hrel
    by_cases hlt : k < m
    · have i1 : (k : Int) < l.length := by omega
      have i2 : (k : Int) < 8 := by omega
      have hkl : k < l.length := by omega
      obtain ⟨b, o, rfl, hbB, hx1, hx2, hx3⟩ := HC.out k hkl
      have hst := srcL_step l k hkl
      generalize l[k] = x at *
      obtain ⟨x1, x2⟩ := x
      dsimp only at hx1 hx2 hx3
      have c1 : wr.cell? ⟨b, o + k * 2, none⟩ = some (.int .u8 x1.toNat) := (hbl.cell (by show b < _; omega)).trans hx1
      have c2 : wr.cell? ⟨b, o + k * 2 + 1, none⟩ = some (.string x2) := (hbl.cell (by show b < _; omega)).trans hx2
      have HST := Lib.hid hst
      have HMI := Lib.hid hmi.drew
      have HBL := Lib.hid hbl.drew
      have hwr : wr.drew.heap.size = wr.heap.size := rfl
      have c1d : wr.drew.cell? ⟨b, o + k * 2, none⟩ = some (.int .u8 x1.toNat) := c1
      have c2d : wr.drew.cell? ⟨b, o + k * 2 + 1, none⟩ = some (.string x2) := c2
      clear hst hmi hbl hx1 hx2 c1 c2
      obtain ⟨z, hz⟩ : ∃ z : Nat, z = x1.toNat % 64 := ⟨_, rfl⟩
      have hzx : x1.toNat < 256 := x1.toNat_lt
      have y1 : (x1.toNat : Int).tmod 64 = (z : Int) := by rw [Int.tmod_eq_emod_of_nonneg (by omega)]; omega
      have y2 : (x1.toNat : Int) % 64 = (z : Int) := by omega
      have hz64 : z < 64 := by omega
      obtain ⟨n, hn⟩ : ∃ n : Nat, n = min x2.size 70 := ⟨_, rfl⟩
      have y3 : (if (70 : Int) < (x2.size : Int) then (70 : Int) else (x2.size : Int)) = (n : Int) := by split <;> omega
      have y4 : (n : Int) ≤ (x2.size : Int) := by omega
      have y5 : n ≤ x2.size := by omega
      unfold maxLen at hx3
      have HZ := Lib.hid hz
      have HNN := Lib.hid hn
      clear hz hn y2
      go_wp2_with fail
      refine wp_region_mixL (fun W => W.cell? ⟨b, o + k * 2, none⟩ = some (.int .u8 x1.toNat) ∧ W.cell? ⟨b, o + k * 2 + 1, none⟩ = some (.string x2)) [0, 1, 2, 3, 4, 5, 6, 7, 8, 9, 10, 11, 12, 13, 14, 15, 16, 17, 18, 19, 20] [21] [0, 1, 2, 3, 4, 5, 6, 7, 8, 9, 10, 11, 12, 13, 14, 15, 16, 17, 18, 19, 20, 21] (by kernel_rfl) (by kernel_rfl) ⟨c1d, c2d⟩ ?_
      simp only [inOrder, opAt]
      generalize wr.drew = W0 at *
      iterate 21
        (refine wpMixS_read (v := ?_) rfl rfl (fun w' hS => ?_) ?_
         rotate_left
         · ((try (obtain ⟨s0, s1⟩ := hS rfl)); (try clear hS); go_simp; (try with_reducible rfl))
         try simp only [Act.put, List.setIfInBounds_toArray, List.set_cons_zero, List.set_cons_succ])
      have y6 : IntKind.i64.wrap (z : Int) = (z : Int) := IntWalk.i64_in _ (by omega)
      have hpg : Pg (z : Int) := by unfold Pg; omega
      obtain ⟨w3, hrun, hmi3, hfr3⟩ := run_update_map (P := Try.prog) keyI Try.underlying32 HMI.out (z : Int) hpg (.string (x2.extract 0 n))
      have hmi4 : MI w3 w.heap.size ((l.take (k + 1)).foldl putF []) := by
        rw [HST.out]
        unfold putF cutB
        rw [← HZ.out, ← HNN.out]
        exact hmi3
      have hbl4 : Below w.heap.size w w3 := HBL.out.trans (hfr3.below HBL.out.size (by simp))
      have HMI4 := Lib.hid hmi4
      have HBL4 := Lib.hid hbl4
      unfold encI at hrun
      clear hmi3 hfr3 hmi4 hbl4
      refine wpMixS_eff rfl rfl (fun K hK => ?_)
      go_simp
      refine hK.out _ _ _ (fun _ h => h) (fun h => by cases h) ?_
      clear hK K
      try simp only [Act.put, List.setIfInBounds_toArray, List.set_cons_zero, List.set_cons_succ]
      refine wpMixS_nil ?_
      go_wp2_with fail
      go_roundg (m - (k + 1))
      case measure => omega
      case rel => exact ⟨k + 1, by go_num, rfl, by omega, HMI4.out, HBL4.out⟩
    · obtain rfl : k = m := by omega
      have hfin : (l.take k).foldl putF [] = srcL l := by
        unfold srcL
        rw [hm]
        rcases Nat.le_total l.length 8 with h | h
        · rw [Nat.min_eq_left h, List.take_of_length_le (Nat.le_refl _), List.take_of_length_le h]
        · rw [Nat.min_eq_right h]
      rw [hfin] at hmi
      have HMI := Lib.hid hmi
      have HBL := Lib.hid hbl
      clear hfin hmi hbl
      by_cases h8 : k < l.length
      · have i1 : (k : Int) < l.length := by omega
        have i2 : decide ((k : Int) < 8) = false := decide_eq_false (by omega)
        go_wp2_with fail
        go_ret
        exact ⟨rfl, HMI.out, HBL.out⟩
      · have i1 : decide ((k : Int) < l.length) = false := decide_eq_false (by omega)
        go_wp2_with fail
        go_ret
        exact ⟨rfl, HMI.out, HBL.out⟩
end Go.Proofs.Ytbppafbdmdbdiaa
