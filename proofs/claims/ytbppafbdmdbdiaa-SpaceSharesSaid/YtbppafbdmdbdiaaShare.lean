/-
  Walks: Shared.
-/
import Derived.Test.YtbppafbdmdbdiaaSetup
import Derived.LaidEqlPtr
namespace Go.Proofs.Ytbppafbdmdbdiaa
open Go.RowKit
set_option linter.unusedVariables false

theorem info91 : (Try.prog.info? 91).map (·.size) = some 65 := by kernel_rfl
theorem ptr_same (W : World) (q r : Nat) {ca cb : Array Value} (ha : Blk W q 91 ca) (hb : Blk W r 91 cb) : (binOp BinOp.eql 83 (.pointer (some ⟨q, 0, none⟩)) (.pointer (some ⟨r, 0, none⟩))).run Try.prog W = .ok (.bool (decide (q = r))) W := by
  cases hi : Try.prog.info? 91 with
  | none => have := info91; rw [hi] at this; cases this
  | some j =>
    have hs : j.size = 65 := by have := info91; rw [hi] at this; simpa using this
    by_cases h : q = r
    · subst h
      rw [run_eql_ptr_same W _ Try.underlying83 hi, decide_eq_true rfl]
    · rw [run_eql_ptr_other (a := ⟨q, 0, none⟩) (b := ⟨r, 0, none⟩) W Try.underlying83 hi (by omega) (fun e => h (by injection e)) ha hb, decide_eq_false h]
/-- The pages below k that two spaces share. -/
def shP (s c : Sp) (p : Nat) : Bool := (s.pg p).isSome && decide (s.pg p = c.pg p)
def shN (s c : Sp) (k : Nat) : Nat := ((List.range k).filter (shP s c)).length
theorem shN_succ (s c : Sp) (k : Nat) : shN s c (k + 1) = shN s c k + if shP s c k = true then 1 else 0 := by
  unfold shN
  rw [List.range_succ, List.filter_append, List.length_append]
  congr 1
  by_cases h : shP s c k = true
  · rw [if_pos h]; simp [h]
  · rw [if_neg h]; simp only [Bool.not_eq_true] at h; simp [h]
theorem shN_le (s c : Sp) (k : Nat) : shN s c k ≤ k := by
  unfold shN
  exact Nat.le_trans (List.length_filter_le _ _) (by simp)

section
variable {C : Source} {B : Nat} {w w' : World} {sps : Nat → Option Sp} {hm : Pages} {g f : Nat} {s c : Sp}
set_option maxRecDepth 100000 in
set_option maxHeartbeats 8000000 in
theorem shared_all (h : All C B w sps hm) (hg : sps g = some s) (hf : sps f = some c) :
    Calls Try.prog 19 #[.pointer (some ⟨g, 0, none⟩), .pointer (some ⟨f, 0, none⟩)] w fun e w' => e = .returned (.int .i64 (shN s c 64)) ∧ w = w' := by
  have hq := ptr23_some
  have H0 := Lib.hid h
  have HG := Lib.hid hg
  have HF := Lib.hid hf
  have hrow := Lib.hid (row_range w g s (h.blk g s hg).1)
  clear h hg hf
  go_enter Try.func19, Try.ntmps19
  go_wp2_with (with_reducible refine wpList_load_mid rfl 84 (.tmp 16) rfl g 193 rfl (row ptrV s.pg) _ hrow.out Try.underlying84 rfl (by rw [row_length]; exact info84) ?_)
  have hR : ∀ k, k < 64 → (row ptrV s.pg).toArray[k]? = some (ptrV (s.pg k)) := fun k hk => by rw [List.getElem?_toArray, row_get _ _ k hk]
  generalize (row ptrV s.pg).toArray = R at *
  have HR := Lib.hid hR
  clear hR hrow
  go_loopg [5, 18] 64 (fun q nv iv wr => ∃ k : Nat, iv = .int .i64 k ∧ q = 64 - k ∧ k ≤ 64 ∧ nv = .int .i64 (shN s c k) ∧ wr = w)
  case atStart => exact ⟨0, rfl, rfl, by omega, rfl, rfl⟩
  case round =>
    obtain ⟨k, rfl, rfl, hk, rfl, rfl⟩ := hrel
    by_cases hlt : k < 64
    · have i1 : (k : Int) < 64 := by omega
      have i0 : (0 : Int) ≤ (k : Int) := by omega
      have hsu := shN_succ s c k
      have hle := shN_le s c k
      have hix := fun W => idx_row 84 83 _ R k _ W Try.underlying84 Try.underlying83 rfl info83 hlt (HR.out k hlt)
      have hbf := (H0.out.blk f c HF.out).1
      have k2 : wr.cell? ⟨f, 193 + k, none⟩ = some (ptrV (c.pg k)) := by rw [hbf.cell, sp_pg c k hlt]
      have zf := hbf.lt
      obtain ⟨N, hN⟩ : ∃ N, N = shN s c k := ⟨_, rfl⟩
      rw [← hN] at hsu hle ⊢
      have hq2 := ptr_neq2
      have hq3 := nil_neq
      have hq4 := ptr_eql2
      clear hN hbf
      cases h1 : s.pg k with
      | none =>
        have hz : shP s c k = false := by unfold shP; rw [h1]; rfl
        rw [hz] at hsu
        rw [h1] at hix
        unfold ptrV at hix
        simp only [Option.map_none] at hix
        have HSU := Lib.hid hsu
        clear hsu h1 hz
        go_wp2_with fail
        go_roundg (64 - (k + 1))
        case measure => omega
        case rel => exact ⟨k + 1, by go_num, rfl, by omega, by rw [HSU.out]; rfl, rfl⟩
      | some r1 =>
        rw [h1] at hix
        obtain ⟨⟨b1, sh1⟩, hm1⟩ := H0.out.ref g s HG.out k r1 h1
        obtain ⟨_, hb1, _⟩ := H0.out.mem r1 b1 sh1 hm1
        cases h2 : c.pg k with
        | none =>
          have hz : shP s c k = false := by unfold shP; rw [h1, h2]; rfl
          rw [hz] at hsu
          rw [h2] at k2
          unfold ptrV at hix k2
          simp only [Option.map_none, Option.map_some] at hix k2
          have HSU := Lib.hid hsu
          clear hsu h1 h2 hz hm1 hb1
          go_wp2_with fail
          go_roundg (64 - (k + 1))
          case measure => omega
          case rel => exact ⟨k + 1, by go_num, rfl, by omega, by rw [HSU.out]; rfl, rfl⟩
        | some r2 =>
          obtain ⟨⟨b2, sh2⟩, hm2⟩ := H0.out.ref f c HF.out k r2 h2
          obtain ⟨_, hb2, _⟩ := H0.out.mem r2 b2 sh2 hm2
          have hps := ptr_same wr r1 r2 hb1 hb2
          have hz : shP s c k = decide (r1 = r2) := by unfold shP; rw [h1, h2]; simp
          rw [hz] at hsu
          rw [h2] at k2
          unfold ptrV at hix k2
          simp only [Option.map_some] at hix k2
          have HSU := Lib.hid hsu
          clear hsu h1 h2 hz hm1 hb1 hm2 hb2
          cases hd : decide (r1 = r2) with
          | false =>
            rw [hd] at hps HSU
            clear hd
            go_wp2_with fail
            go_roundg (64 - (k + 1))
            case measure => omega
            case rel => exact ⟨k + 1, by go_num, rfl, by omega, by rw [HSU.out]; rfl, rfl⟩
          | true =>
            rw [hd] at hps HSU
            clear hd
            go_wp2_with fail
            go_roundg (64 - (k + 1))
            case measure => omega
            case rel => exact ⟨k + 1, by go_num, rfl, by omega, by rw [HSU.out]; go_num, rfl⟩
    · obtain rfl : k = 64 := by omega
      have i1 : decide (((64 : Nat) : Int) < 64) = false := by decide
      go_wp2_with fail
      go_ret
      exact ⟨rfl, rfl⟩
end
end Go.Proofs.Ytbppafbdmdbdiaa
