/-
  The law AccessTexts, walked.
-/
import Derived.Test.YtemcabepbncicaaDoorAccO
import Derived.Test.YtemcabepbncicaaDoorAccQ
namespace Go.Proofs.YtemcabepbncicaaDoor
open Go.RowKit

theorem parse_text : ∀ n < 2048, parseV (textN n) = (n, 0, 0) := by decide +kernel
theorem int_wf {a : Int} (h : (Lit.int .i64 a).wf = true) : -9223372036854775808 ≤ a ∧ a < 9223372036854775808 := by
  simp [Lit.wf, IntKind.min, IntKind.max, IntKind.bits, IntKind.signed] at h
  omega

theorem text_no (w : World) (x : Int) (h : x < 0 ∨ 2047 < x) : Calls Tryd.prog 27 #[.int .i64 x] w fun e w' => e = .returned (.tuple #[.string ⟨#[]⟩, .int .i64 2]) ∧ w = w' := by
  have hmb := Lib.hid (modeB_no h)
  clear h
  go_enter Tryd.func27, Tryd.ntmps27
  go_wp2_with fail
  refine (isMode_any _ _).mono ?_
  rintro e w' ⟨rfl, rfl⟩
  rw [hmb.out]
  dsimp only
  go_wp2_with fail
  go_ret2
  exact ⟨rfl, rfl⟩

theorem textN_len (n : Nat) : (textN n).length ≤ 12 := by
  unfold textN
  rw [List.length_append, List.length_append, List.length_append, textGo_length]
  have h : ∀ (p : Prop) [Decidable p] (b : UInt8), (if p then [b] else []).length ≤ 1 := fun p _ b => by split <;> simp
  have h1 := h (512 ≤ n) 43
  have h2 := h (n / 512 % 2 = 1) 115
  have h3 := h (n / 1024 % 2 = 1) 116
  omega

set_option maxHeartbeats 4000000 in
theorem texts_walk (w : World) (x : Int) (hx : (Lit.int .i64 x).wf = true) (hs : Sh w) :
    Calls Tryd.prog 10 #[.int .i64 x] w fun e w' => e = .returned (.bool true) ∧ Below w.heap.size w w' := by
  obtain ⟨hx1, hx2⟩ := int_wf hx
  clear hx
  by_cases hm : 0 ≤ x ∧ x ≤ 2047
  · obtain ⟨n, rfl⟩ : ∃ n : Nat, x = n := ⟨x.toNat, by omega⟩
    have hn : n ≤ 2047 := by omega
    have e1 : decide ((n : Int) < 0) = false := decide_eq_false (by omega)
    have e2 : decide ((2047 : Int) < n) = false := decide_eq_false (by omega)
    have hp := parse_text n (by omega)
    have hl := textN_len n
    have HT := Lib.hid (fun w => text_any w n hn)
    have HRT := Lib.hid (fun w => rtext_any w n hn)
    have HP := Lib.hid hp
    clear hp hm hx1 hx2
    generalize textN n = t at *
    go_enter Tryd.func10, Tryd.ntmps10
    go_wp2_with fail
    refine (HT.out w).mono ?_
    rintro e w1 ⟨rfl, b1⟩
    dsimp only
    go_wp2_with fail
    refine (parse_any w1 ⟨t.toArray⟩ (by show t.toArray.size ≤ _; simp; omega)).mono ?_
    rintro e w' ⟨hr, rfl⟩
    have hb : bl ⟨t.toArray⟩ = t := by simp [bl]
    rw [hb, HP.out] at hr
    unfold AppRet at hr
    subst hr
    clear hb
    dsimp only
    go_wp2_with fail
    refine (known_any w1 (hs.belowS b1)).mono ?_
    rintro e w2 ⟨rfl, nb⟩
    have b2 := b1.trans (nb.mono b1.size)
    clear nb b1
    dsimp only
    go_wp2_with fail
    refine (HRT.out w2).mono ?_
    rintro e w3 ⟨rfl, nb⟩
    have b3 := b2.trans (nb.mono b2.size)
    clear nb b2
    dsimp only
    go_wp2_with fail
    go_ret
    exact ⟨by first | rfl | simp, b3⟩
  · have hno : x < 0 ∨ 2047 < x := by omega
    have HT := Lib.hid (text_no w x hno)
    have hc : (decide (x < 0) = true) ∨ (decide (x < 0) = false ∧ decide (2047 < x) = true) := by
      rcases hno with h | h
      · exact .inl (decide_eq_true h)
      · exact .inr ⟨decide_eq_false (by omega), decide_eq_true h⟩
    clear hm hno
    rcases hc with e1 | ⟨e1, e2⟩
    all_goals
      go_enter Tryd.func10, Tryd.ntmps10
      go_wp2_with fail
      refine HT.out.mono ?_
      rintro e w' ⟨rfl, rfl⟩
      dsimp only
      go_wp2_with fail
      refine (known_any w hs).mono ?_
      rintro e w2 ⟨rfl, b2⟩
      dsimp only
      go_wp2_with fail
      go_ret
      exact ⟨by first | rfl | simp, b2⟩
end Go.Proofs.YtemcabepbncicaaDoor
