/-
  Walks: Apply.
-/
import Derived.Test.YtemcabepbncicaaDoorAccL
namespace Go.Proofs.YtemcabepbncicaaDoor
open Go.RowKit

/-- The mode behind the clause at the beginning. -/
def stepN (l : List UInt8) (m : Nat) : Nat := applyN (l.getD (lead isCls l) 0) (clCls l) (clBits l) m
/-- What Apply does from a place on: the mode, or the offset of the error and its number. -/
def applyGo : Nat → Nat → List UInt8 → Nat → Nat × Nat × Nat
  | 0, _, _, _ => (0, 0, 0)
  | f + 1, a, l, m =>
    if noClause l = true then (0, a + lead isCls l, 30)
    else if clLen l = l.length then (stepN l m, 0, 0)
    else if l.getD (clLen l) 0 = 44 then applyGo f (a + clLen l + 1) (l.drop (clLen l + 1)) (stepN l m)
    else (0, a + clLen l, 30)
def applyV (x : Int) (l : List UInt8) : Nat × Nat × Nat :=
  if x < 0 ∨ 2047 < x then (0, 0, 2) else if 100 < l.length then (0, 100, 5) else applyGo (l.length + 1) 0 l x.toNat

theorem clLen_le (l : List UInt8) (h : ¬ noClause l = true) : 1 < clLen l ∧ clLen l ≤ l.length := by
  have h1 := lead_le isCls l
  have h2 := lead_le isBit (l.drop (lead isCls l + 1))
  rw [List.length_drop] at h2
  have h3 : ¬ lead isCls l = 0 ∧ ¬ lead isCls l = l.length := by
    unfold noClause at h
    simp at h
    exact ⟨h.1.1, h.1.2⟩
  unfold clLen
  omega
theorem clBits_lt (l : List UInt8) : clBits l < 2048 := bitsAcc_lt _ _
theorem stepN_lt (l : List UInt8) (m : Nat) (hm : m < 2048) : stepN l m < 2048 := applyN_lt _ _ _ _ (clBits_lt l) hm

theorem fn_nil (W : World) : (binOp BinOp.eql 66 Value.nilFunc Value.nilFunc).run Tryd.prog W = .ok (.bool true) W := by kernel_rfl
theorem fn_some (W : World) (k : Nat) (cs : Array Value) : (binOp BinOp.eql 66 (.func (.func k) #[] cs) Value.nilFunc).run Tryd.prog W = .ok (.bool false) W := by kernel_rfl

/-- What Apply returns. -/
def AppRet (r : Nat × Nat × Nat) (e : Ending) : Prop := e = .returned (.tuple #[.int .i64 r.1, .int .i64 r.2.1, .int .i64 r.2.2])

set_option maxRecDepth 10000 in
set_option maxHeartbeats 8000000 in
theorem apply_any (w : World) (x : Int) (s : ByteArray) (hs : s.size ≤ 1000000) (hsh : Sh w) :
    Calls Tryd.prog 20 #[.int .i64 x, .string s] w fun e w' => AppRet (applyV x (bl s)) e ∧ Below w.heap.size w w' := by
  have hlen := bl_length s
  have HLEN := Lib.hid hlen
  clear hlen
  by_cases hm : 0 ≤ x ∧ x ≤ 2047
  · have hmb := Lib.hid (modeB_yes hm.1 hm.2)
    obtain ⟨m, rfl⟩ : ∃ m : Nat, x = m := ⟨x.toNat, by omega⟩
    have hm2 : m < 2048 := by omega
    by_cases h100 : 100 < s.size
    · have hr : Hid (AppRet (applyV m (bl s)) (.returned (.tuple #[.int .i64 0, .int .i64 100, .int .i64 5]))) := Lib.hid (by unfold applyV; rw [if_neg (by omega), if_pos (by rw [HLEN.out]; exact h100)]; rfl)
      have e1 : decide ((100 : Int) < s.size) = true := decide_eq_true (by omega)
      clear hm
      go_enter Tryd.func20, Tryd.ntmps20
      go_wp2_with fail
      refine (isMode_any _ _).mono ?_
      rintro e w' ⟨rfl, rfl⟩
      rw [hmb.out]
      dsimp only
      go_wp2_with fail
      go_ret3
      exact ⟨hr.out, Below.refl _ _⟩
    · have e1 : decide ((100 : Int) < s.size) = false := decide_eq_false (by omega)
      have hR : Hid (applyGo ((bl s).length + 1) 0 (bl s) m = applyV m (bl s)) := Lib.hid (by unfold applyV; rw [if_neg (by omega), if_neg (by rw [HLEN.out]; exact h100)]; rfl)
      generalize applyV m (bl s) = R at *
      clear hm
      have q1 := fn_nil
      have q2 := fn_some
      go_enter Tryd.func20, Tryd.ntmps20
      go_wp2_with fail
      refine (isMode_any _ _).mono ?_
      rintro e w' ⟨rfl, rfl⟩
      rw [hmb.out]
      dsimp only
      go_wp2_with fail
      go_loopg [0, 7] (s.size + 1) (fun q mv iv wr => ∃ (a m f : Nat), iv = .int .i64 a ∧ mv = .int .i64 m ∧ q = s.size + 1 - a ∧ a ≤ s.size ∧ m < 2048 ∧ s.size - a < f ∧ applyGo f a ((bl s).drop a) m = R ∧ Below w.heap.size w wr)
      case atStart => exact ⟨0, m, (bl s).length + 1, rfl, rfl, by omega, by omega, hm2, by rw [HLEN.out]; omega, hR.out, Below.refl _ _⟩
      case round =>
        clear hR hm2
        obtain ⟨a, m, f, rfl, rfl, rfl, ha, hm2, hf, hgo, hbl⟩ := hrel
        have hszr := hbl.size
        obtain ⟨f, rfl⟩ : ∃ g, f = g + 1 := ⟨f - 1, by omega⟩
        have hbe : bl (s.extract a s.size) = (bl s).drop a := Lib.extract_to_end s a
        have hrl : ((bl s).drop a).length = s.size - a := by rw [List.length_drop, HLEN.out]
        have hgd : ∀ j, ((bl s).drop a).getD j 0 = (bl s).getD (a + j) 0 := fun j => by rw [List.getD_eq_getElem?_getD, List.getD_eq_getElem?_getD, List.getElem?_drop]
        have hdd : ∀ j, ((bl s).drop a).drop j = (bl s).drop (a + j) := fun j => by rw [List.drop_drop]
        unfold applyGo at hgo
        have hle := clLen_le ((bl s).drop a)
        have hcb := clBits_lt ((bl s).drop a)
        have hsl := stepN_lt ((bl s).drop a) m hm2
        have hcall := clause_any wr (s.extract a s.size) (by simp; omega) (hsh.below hbl hsh.1)
        rw [hbe] at hcall
        have hstp : stepN ((bl s).drop a) m = applyN (((bl s).drop a).getD (lead isCls ((bl s).drop a)) 0) (clCls ((bl s).drop a)) (clBits ((bl s).drop a)) m := rfl
        have hld := lead_le isCls ((bl s).drop a)
        generalize (bl s).drop a = rest at *
        have HCALL := Lib.hid hcall
        have HGO := Lib.hid hgo
        have HGD := Lib.hid hgd
        have HDD := Lib.hid hdd
        have HST := Lib.hid hstp
        have HRL := Lib.hid hrl
        have HLE := Lib.hid hle
        clear hcall hgo hgd hdd hstp hbe hrl hle
        have hld2 : a + lead isCls rest ≤ s.size := by have := HRL.out; omega
        by_cases hno : noClause rest = true
        · have hr : Hid (AppRet R (.returned (.tuple #[.int .i64 0, .int .i64 ((a + lead isCls rest : Nat) : Int), .int .i64 30]))) := Lib.hid (by rw [← HGO.out, if_pos hno]; rfl)
          have HNO := Lib.hid hno
          clear hno
          generalize hn : lead isCls rest = n at *
          have HN := Lib.hid hn
          clear hn
          go_wp2_with fail
          refine HCALL.out.mono ?_
          rintro e w2 ⟨hc, nb⟩
          unfold ClauseRet at hc
          rw [if_pos HNO.out, HN.out] at hc
          subst hc
          clear HCALL HGO
          dsimp only
          go_wp2_with fail
          go_ret3
          exact ⟨hr.out, hbl.trans (nb.mono hszr)⟩
        · have hln := HLE.out hno
          have hgo2 := HGO.out
          rw [if_neg hno] at hgo2
          have HGO2 := Lib.hid hgo2
          have HNO := Lib.hid hno
          have hln2 : a + clLen rest ≤ s.size := by have := HRL.out; omega
          have hln1 : 1 < clLen rest := hln.1
          clear hgo2 hno hld2 hln HGO HLE hld
          go_wp2_with fail
          refine HCALL.out.mono ?_
          rintro e w2 ⟨hc, nb⟩
          unfold ClauseRet at hc
          rw [if_neg HNO.out] at hc
          obtain ⟨g, h, hg1, hh1, hB, hC, rfl⟩ := hc
          have hb2 := hbl.trans (nb.mono hszr)
          have hsz2 := hb2.size
          have hsh2 := hsh.below hb2 hsh.1
          clear HCALL nb
          dsimp only
          generalize clLen rest = n at *
          generalize rest.getD (lead isCls rest) 0 = x at *
          generalize clCls rest = c at *
          generalize clBits rest = b at *
          rcases Decidable.em (x = 43) with h43 | h43
          focus
            have hf : signFn x g h = .func (.func 43) #[] #[.pointer (some ⟨g, 0, none⟩)] := by unfold signFn; rw [if_pos h43]
            have HM : Hid (stepN rest m = (m ||| b)) := Lib.hid (by rw [HST.out]; unfold applyN; rw [if_pos h43])
            rw [hf]
            clear hf h43 HST
            have HF := Lib.hid (fn43_any w2 g m b hB hm2 hcb)
            go_wp2_with fail
            refine HF.out.mono ?_
            rintro e w3 ⟨rfl, nb3⟩
            have hbw := hb2.trans (nb3.mono hsz2)
            clear hb2 nb3 hB hC HF
            rw [← HM.out]
            generalize stepN rest m = m2 at *
            dsimp only
            by_cases hend : n = rest.length
            · have hr : Hid (AppRet R (.returned (.tuple #[.int .i64 m2, .int .i64 0, .int .i64 0]))) := Lib.hid (by rw [← HGO2.out, if_pos hend]; rfl)
              have e3 : (a : Int) + (n : Int) = (s.size : Int) := by have := HRL.out; omega
              clear HGO2 hend
              go_wp2_with fail
              go_ret3
              exact ⟨hr.out, hbw⟩
            have hlt3 : a + n < s.size := by have := HRL.out; omega
            have e3 : ((a : Int) + (n : Int) == (s.size : Int)) = false := beq_eq_false_iff_ne.2 (by omega)
            have hbg := bl_get s (a + n) hlt3
            rw [← HGD.out n] at hbg
            have HBG := Lib.hid hbg
            have y3 : ((a : Int) + (n : Int)).toNat = a + n := by omega
            clear hbg
            rcases Decidable.em (rest.getD n 0 = 44) with h44 | h44
            · have hgo3 : applyGo f (a + n + 1) ((bl s).drop (a + n + 1)) m2 = R := by
                have := HGO2.out
                rw [if_neg hend, if_pos h44, HDD.out] at this
                exact this
              have e4 : ((s[a + n]).toNat : Int) = 44 := by rw [← HBG.out, h44]; rfl
              have HGO3 := Lib.hid hgo3
              clear hgo3 h44 HGO2
              go_wp2_with fail
              go_roundg (s.size + 1 - (a + n + 1))
              case measure => omega
              case rel => exact ⟨a + n + 1, m2, f, by go_num, rfl, rfl, by omega, hsl, by omega, HGO3.out, hbw⟩
            · have hr : Hid (AppRet R (.returned (.tuple #[.int .i64 0, .int .i64 ((a + n : Nat) : Int), .int .i64 30]))) := Lib.hid (by rw [← HGO2.out, if_neg hend, if_neg h44]; rfl)
              have h44' : s[a + n] ≠ 44 := by rw [← HBG.out]; exact h44
              have e4 : (((s[a + n]).toNat : Int) == 44) = false := u8_ne (c := 44) (by omega) h44'
              have e5 : (((s[a + n]).toNat : Int) != 44) = true := by rw [bne, e4]; rfl
              clear h44 h44' HGO2
              go_wp2_with fail
              go_ret3
              exact ⟨hr.out, hbw⟩
          rcases Decidable.em (x = 45) with h45 | h45
          focus
            have hf : signFn x g h = .func (.func 44) #[] #[.pointer (some ⟨g, 0, none⟩)] := by unfold signFn; rw [if_neg h43, if_pos h45]
            have HM : Hid (stepN rest m = clr m b) := Lib.hid (by rw [HST.out]; unfold applyN; rw [if_neg h43, if_pos h45])
            rw [hf]
            clear hf h43 h45 HST
            have HF := Lib.hid (fn44_any w2 g m b hB hm2 hcb)
            go_wp2_with fail
            refine HF.out.mono ?_
            rintro e w3 ⟨rfl, nb3⟩
            have hbw := hb2.trans (nb3.mono hsz2)
            clear hb2 nb3 hB hC HF
            rw [← HM.out]
            generalize stepN rest m = m2 at *
            dsimp only
            by_cases hend : n = rest.length
            · have hr : Hid (AppRet R (.returned (.tuple #[.int .i64 m2, .int .i64 0, .int .i64 0]))) := Lib.hid (by rw [← HGO2.out, if_pos hend]; rfl)
              have e3 : (a : Int) + (n : Int) = (s.size : Int) := by have := HRL.out; omega
              clear HGO2 hend
              go_wp2_with fail
              go_ret3
              exact ⟨hr.out, hbw⟩
            have hlt3 : a + n < s.size := by have := HRL.out; omega
            have e3 : ((a : Int) + (n : Int) == (s.size : Int)) = false := beq_eq_false_iff_ne.2 (by omega)
            have hbg := bl_get s (a + n) hlt3
            rw [← HGD.out n] at hbg
            have HBG := Lib.hid hbg
            have y3 : ((a : Int) + (n : Int)).toNat = a + n := by omega
            clear hbg
            rcases Decidable.em (rest.getD n 0 = 44) with h44 | h44
            · have hgo3 : applyGo f (a + n + 1) ((bl s).drop (a + n + 1)) m2 = R := by
                have := HGO2.out
                rw [if_neg hend, if_pos h44, HDD.out] at this
                exact this
              have e4 : ((s[a + n]).toNat : Int) = 44 := by rw [← HBG.out, h44]; rfl
              have HGO3 := Lib.hid hgo3
              clear hgo3 h44 HGO2
              go_wp2_with fail
              go_roundg (s.size + 1 - (a + n + 1))
              case measure => omega
              case rel => exact ⟨a + n + 1, m2, f, by go_num, rfl, rfl, by omega, hsl, by omega, HGO3.out, hbw⟩
            · have hr : Hid (AppRet R (.returned (.tuple #[.int .i64 0, .int .i64 ((a + n : Nat) : Int), .int .i64 30]))) := Lib.hid (by rw [← HGO2.out, if_neg hend, if_neg h44]; rfl)
              have h44' : s[a + n] ≠ 44 := by rw [← HBG.out]; exact h44
              have e4 : (((s[a + n]).toNat : Int) == 44) = false := u8_ne (c := 44) (by omega) h44'
              have e5 : (((s[a + n]).toNat : Int) != 44) = true := by rw [bne, e4]; rfl
              clear h44 h44' HGO2
              go_wp2_with fail
              go_ret3
              exact ⟨hr.out, hbw⟩
          have hf : signFn x g h = .func (.func 45) #[] #[.pointer (some ⟨h, 0, none⟩), .pointer (some ⟨g, 0, none⟩)] := by unfold signFn; rw [if_neg h43, if_neg h45]
          have HM : Hid (stepN rest m = (clr m (allN c) ||| b)) := Lib.hid (by rw [HST.out]; unfold applyN; rw [if_neg h43, if_neg h45])
          rw [hf]
          clear hf h43 h45 HST
          have HF := Lib.hid (fn45_any w2 g h m b c hB hC hm2 hcb hsh2)
          go_wp2_with fail
          refine HF.out.mono ?_
          rintro e w3 ⟨rfl, nb3⟩
          have hbw := hb2.trans (nb3.mono hsz2)
          clear hb2 nb3 hB hC HF
          rw [← HM.out]
          generalize stepN rest m = m2 at *
          dsimp only
          by_cases hend : n = rest.length
          · have hr : Hid (AppRet R (.returned (.tuple #[.int .i64 m2, .int .i64 0, .int .i64 0]))) := Lib.hid (by rw [← HGO2.out, if_pos hend]; rfl)
            have e3 : (a : Int) + (n : Int) = (s.size : Int) := by have := HRL.out; omega
            clear HGO2 hend
            go_wp2_with fail
            go_ret3
            exact ⟨hr.out, hbw⟩
          have hlt3 : a + n < s.size := by have := HRL.out; omega
          have e3 : ((a : Int) + (n : Int) == (s.size : Int)) = false := beq_eq_false_iff_ne.2 (by omega)
          have hbg := bl_get s (a + n) hlt3
          rw [← HGD.out n] at hbg
          have HBG := Lib.hid hbg
          have y3 : ((a : Int) + (n : Int)).toNat = a + n := by omega
          clear hbg
          rcases Decidable.em (rest.getD n 0 = 44) with h44 | h44
          · have hgo3 : applyGo f (a + n + 1) ((bl s).drop (a + n + 1)) m2 = R := by
              have := HGO2.out
              rw [if_neg hend, if_pos h44, HDD.out] at this
              exact this
            have e4 : ((s[a + n]).toNat : Int) = 44 := by rw [← HBG.out, h44]; rfl
            have HGO3 := Lib.hid hgo3
            clear hgo3 h44 HGO2
            go_wp2_with fail
            go_roundg (s.size + 1 - (a + n + 1))
            case measure => omega
            case rel => exact ⟨a + n + 1, m2, f, by go_num, rfl, rfl, by omega, hsl, by omega, HGO3.out, hbw⟩
          · have hr : Hid (AppRet R (.returned (.tuple #[.int .i64 0, .int .i64 ((a + n : Nat) : Int), .int .i64 30]))) := Lib.hid (by rw [← HGO2.out, if_neg hend, if_neg h44]; rfl)
            have h44' : s[a + n] ≠ 44 := by rw [← HBG.out]; exact h44
            have e4 : (((s[a + n]).toNat : Int) == 44) = false := u8_ne (c := 44) (by omega) h44'
            have e5 : (((s[a + n]).toNat : Int) != 44) = true := by rw [bne, e4]; rfl
            clear h44 h44' HGO2
            go_wp2_with fail
            go_ret3
            exact ⟨hr.out, hbw⟩
  · have hmb := Lib.hid (modeB_no (x := x) (by omega))
    have hr : Hid (AppRet (applyV x (bl s)) (.returned (.tuple #[.int .i64 0, .int .i64 0, .int .i64 2]))) := Lib.hid (by unfold applyV; rw [if_pos (by omega)]; rfl)
    clear hm
    go_enter Tryd.func20, Tryd.ntmps20
    go_wp2_with fail
    refine (isMode_any _ _).mono ?_
    rintro e w' ⟨rfl, rfl⟩
    rw [hmb.out]
    dsimp only
    go_wp2_with fail
    go_ret3
    exact ⟨hr.out, Below.refl _ _⟩
end Go.Proofs.YtemcabepbncicaaDoor
