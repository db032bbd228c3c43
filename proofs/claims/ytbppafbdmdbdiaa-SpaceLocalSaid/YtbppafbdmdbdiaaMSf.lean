/-
  Walks: what a nil space answers.
-/
import Derived.Test.YtbppafbdmdbdiaaMSd
import Derived.Test.YtbppafbdmdbdiaaMSe
namespace Go.Proofs.Ytbppafbdmdbdiaa
open Go.RowKit
set_option linter.unusedVariables false

theorem nil23 (W : World) : (binOp BinOp.eql 23 (.pointer none) (.pointer none)).run Try.prog W = .ok (.bool true) W := by kernel_rfl
theorem nil23n (W : World) : (binOp BinOp.neq 23 (.pointer none) (.pointer none)).run Try.prog W = .ok (.bool false) W := by kernel_rfl

theorem load_nil (w : World) (x n : Int) : Calls Try.prog 15 #[.pointer none, .int .i64 x, .int .i64 n] w fun e w' => e = .returned (.tuple #[.string ⟨#[]⟩, .int .i64 1]) ∧ w = w' := by
  have hq := nil23
  go_enter Try.func15, Try.ntmps15
  go_wp2_with fail
  go_ret2
  exact ⟨rfl, rfl⟩
theorem word_nil (w : World) (x : Int) : Calls Try.prog 32 #[.pointer none, .int .i64 x] w fun e w' => e = .returned (.tuple #[.int .u32 0, .int .i64 1]) ∧ w = w' := by
  go_enter Try.func32, Try.ntmps32
  go_wp2_with fail
  refine (load_nil _ _ _).mono ?_
  rintro e w' ⟨rfl, rfl⟩
  dsimp only
  go_wp2_with fail
  go_ret2
  exact ⟨rfl, rfl⟩
theorem text_nil (w : World) (x n : Int) : Calls Try.prog 16 #[.pointer none, .int .i64 x, .int .i64 n] w fun e w' => e = .returned (.tuple #[.string ⟨#[]⟩, .int .i64 1]) ∧ w = w' := by
  have hq := nil23
  go_enter Try.func16, Try.ntmps16
  go_wp2_with fail
  go_step3
  go_wp2_with fail
  rw [Exit.noGoto_ret]
  go_ret2
  exact ⟨rfl, rfl⟩
theorem page_nil (w : World) (x : Int) : Calls Try.prog 28 #[.pointer none, .int .i64 x] w fun e w' => e = .returned (.tuple #[.string ⟨#[]⟩, .int .i64 1]) ∧ w = w' := by
  have hq := nil23
  go_enter Try.func28, Try.ntmps28
  go_wp2_with fail
  go_ret2
  exact ⟨rfl, rfl⟩
theorem store_nil (w : World) (x : Int) (t : ByteArray) : Calls Try.prog 14 #[.pointer none, .int .i64 x, .string t] w fun e w' => e = .returned (.int .i64 1) ∧ w = w' := by
  have hq := nil23
  go_enter Try.func14, Try.ntmps14
  go_wp2_with fail
  go_ret
  exact ⟨rfl, rfl⟩
theorem map_nil (w : World) (x : Int) (t : ByteArray) : Calls Try.prog 13 #[.pointer none, .int .i64 x, .string t] w fun e w' => e = .returned (.int .i64 1) ∧ w = w' := by
  have hq := nil23
  go_enter Try.func13, Try.ntmps13
  go_wp2_with fail
  go_ret
  exact ⟨rfl, rfl⟩
theorem unmap_nil (w : World) (x : Int) : Calls Try.prog 23 #[.pointer none, .int .i64 x] w fun e w' => e = .returned (.int .i64 1) ∧ w = w' := by
  have hq := nil23
  go_enter Try.func23, Try.ntmps23
  go_wp2_with fail
  go_ret
  exact ⟨rfl, rfl⟩
theorem has_nil (w : World) (x : Int) : Calls Try.prog 33 #[.pointer none, .int .i64 x] w fun e w' => e = .returned (.bool false) ∧ w = w' := by
  have hq := nil23n
  go_enter Try.func33, Try.ntmps33
  go_wp2_with fail
  go_ret
  exact ⟨rfl, rfl⟩
theorem pages_nil (w : World) : Calls Try.prog 34 #[.pointer none] w fun e w' => e = .returned (.slice none 0 0) ∧ w = w' := by
  go_enter Try.func34, Try.ntmps34
  go_wp2_with fail
  go_loopg [3, 5] 64 (fun q lv iv wr => wr = w ∧ lv = .slice none 0 0 ∧ ∃ k : Nat, iv = .int .i64 k ∧ q = 64 - k ∧ k ≤ 64)
  case atStart => exact ⟨rfl, rfl, 0, rfl, rfl, by omega⟩
  case round =>
    obtain ⟨rfl, rfl, k, rfl, rfl, hk⟩ := hrel
    by_cases hlt : k < 64
    · have i1 : (k : Int) < 64 := by omega
      go_wp2_with fail
      refine (has_nil _ _).mono ?_
      rintro e w' ⟨rfl, rfl⟩
      dsimp only
      go_wp2_with fail
      go_roundg (64 - (k + 1))
      case measure => omega
      case rel => exact ⟨rfl, rfl, k + 1, by go_num, rfl, by omega⟩
    · obtain rfl : k = 64 := by omega
      have i1 : decide (((64 : Nat) : Int) < 64) = false := by decide
      go_wp2_with fail
      go_ret
      exact ⟨rfl, rfl⟩
theorem asked_nil (w : World) : Calls Try.prog 26 #[.pointer none] w fun e w' => e = .returned (.slice none 0 0) ∧ w = w' := by
  have hq := nil23
  go_enter Try.func26, Try.ntmps26
  go_wp2_with fail
  go_ret
  exact ⟨rfl, rfl⟩
theorem changes_nil (w : World) : Calls Try.prog 24 #[.pointer none] w fun e w' => e = .returned (.slice none 0 0) ∧ w = w' := by
  have hq := nil23
  go_enter Try.func24, Try.ntmps24
  go_wp2_with fail
  go_ret
  exact ⟨rfl, rfl⟩
theorem fork_nil (w : World) : Calls Try.prog 20 #[.pointer none] w fun e w' => e = .returned (.pointer none) ∧ w = w' := by
  have hq := nil23
  go_enter Try.func20, Try.ntmps20
  go_wp2_with fail
  go_ret
  exact ⟨rfl, rfl⟩
theorem shared_nil (w : World) (v : Value) (q : Nat) (hv : v = .pointer none ∨ v = .pointer (some ⟨q, 0, none⟩)) : Calls Try.prog 19 #[.pointer none, v] w fun e w' => e = .returned (.int .i64 0) ∧ w = w' := by
  have hq := nil23
  go_enter Try.func19, Try.ntmps19
  go_wp2_with fail
  go_ret
  exact ⟨rfl, rfl⟩
theorem shared_nil2 (w : World) (q : Nat) : Calls Try.prog 19 #[.pointer (some ⟨q, 0, none⟩), .pointer none] w fun e w' => e = .returned (.int .i64 0) ∧ w = w' := by
  have hq := nil23
  have hq2 := ptr23_some
  go_enter Try.func19, Try.ntmps19
  go_wp2_with fail
  go_ret
  exact ⟨rfl, rfl⟩
theorem equal_nil (w : World) : Calls Try.prog 21 #[.pointer none, .pointer none] w fun e w' => e = .returned (.bool true) ∧ w = w' := by
  have hq := nil23
  go_enter Try.func21, Try.ntmps21
  go_wp2_with fail
  go_ret
  exact ⟨rfl, rfl⟩
theorem equal_nil1 (w : World) (q : Nat) : Calls Try.prog 21 #[.pointer none, .pointer (some ⟨q, 0, none⟩)] w fun e w' => e = .returned (.bool false) ∧ w = w' := by
  have hq := nil23
  have hq2 := ptr23_some
  go_enter Try.func21, Try.ntmps21
  go_wp2_with fail
  go_ret
  exact ⟨rfl, rfl⟩
theorem equal_nil2 (w : World) (q : Nat) : Calls Try.prog 21 #[.pointer (some ⟨q, 0, none⟩), .pointer none] w fun e w' => e = .returned (.bool false) ∧ w = w' := by
  have hq := nil23
  have hq2 := ptr23_some
  go_enter Try.func21, Try.ntmps21
  go_wp2_with fail
  go_ret
  exact ⟨rfl, rfl⟩

set_option maxRecDepth 100000 in
theorem setWord_nil (w : World) (x : Int) : Calls Try.prog 22 #[.pointer none, .int .i64 x, .int .u32 1] w fun e w' => e = .returned (.int .i64 1) ∧ Below w.heap.size w w' := by
  have hrd : RdB (w.alloc (.cells #[.int .u8 1, .int .u8 0, .int .u8 0, .int .u8 0] 5)) (w.heap.size + 1) (.slice (some ⟨w.heap.size, 0, none⟩) 4 4) [1, 0, 0, 0] := by
    refine ⟨_, 4, rfl, by simp, by simp [maxLen], by simp [bs], fun _ => ⟨_, rfl, by simp, fun j u hu => ?_⟩⟩
    rw [add_at0, World.cell?_alloc_mark]
    simpa [bs] using hu
  have hcv := run_convert_string (P := Try.prog) Try.underlying27 Try.underlying5 Try.underlying9 hrd
  go_enter Try.func22, Try.ntmps22
  go_wp2_with fail
  refine (store_nil _ _ _).mono ?_
  rintro e w' ⟨rfl, rfl⟩
  dsimp only
  go_wp2_with fail
  go_ret
  exact ⟨rfl, (Below.refl _ _).alloc (Nat.le_refl _) _⟩
end Go.Proofs.Ytbppafbdmdbdiaa

/-
  Walks: Unmap, Has, SetWord.
-/
namespace Go.Proofs.Ytbppafbdmdbdiaa
open Go.RowKit
set_option linter.unusedVariables false

/-- A page is unmapped. -/
def dropA (a : AS) (p : Nat) : AS := { a with page := upd a.page p none, changed := upd a.changed p true }
def unmapA (a : AS) (p : Int) : AS × Nat :=
  if p < 0 ∨ 64 ≤ p then (a, 2) else if ((needA a p.toNat).page p.toNat).isSome then (dropA (needA a p.toNat) p.toNat, 0) else (needA a p.toNat, 8)
def hasA (a : AS) (p : Int) : AS × Bool :=
  if p < 0 ∨ 64 ≤ p then (a, false) else (needA a p.toNat, ((needA a p.toNat).page p.toNat).isSome)
def BoolK (e : Ending) (r : Bool) : Sp → Pages → Prop := fun _ _ => e = .returned (.bool r)

section
variable {C : Source} {B : Nat} {w w' : World} {sps : Nat → Option Sp} {hm : Pages} {g : Nat} {s : Sp}

theorem All.drop (h : All C B w sps hm) (ok : SourceOk C B) (hg : sps g = some s) (p : Nat) (hp : p < 64) (hk : s.known p = true)
    (hw : w' = (w.setCell ⟨g, 193 + p, none⟩ (.pointer none)).setCell ⟨g, 129 + p, none⟩ (.bool true)) :
    ∃ s' hm', All C B w' (upd sps g (some s')) hm' ∧ view C hm' s' = dropA (view C hm s) p ∧ (∀ k y, k ≠ g → sps k = some y → view C hm' y = view C hm y) ∧ Mv B C.X w w' := by
  have hbg := (h.blk g s hg).1
  have hset := hbg.set_ (193 + p) (ptrV none)
  rw [sp_set_pg s p _ hp] at hset
  have hf1 : Fr [g] w (w.setCell ⟨g, 193 + p, none⟩ (.pointer none)) := (Fr.refl _ _).setCell (.inl (by simp)) _
  have hinv : ∀ r, s.known r = false → s.asked r = false ∧ upd s.pg p none r = none := fun r hr => by
    obtain ⟨i1, i2⟩ := h.inv g s hg r hr
    exact ⟨i1, by rw [upd_ne _ _ _ _ (fun e => by rw [e, hk] at hr; cases hr)]; exact i2⟩
  have hA1 := h.take ok.keeps hg p { s with pg := upd s.pg p none } rfl (fun _ h => h) rfl hinv hf1 hset
  have hg1 : upd sps g (some { s with pg := upd s.pg p none }) g = some { s with pg := upd s.pg p none } := upd_at _ _ _
  have hset2 := hset.set_ (129 + p) (.bool true)
  rw [sp_set_changed _ p true hp] at hset2
  have hf2 : Fr [g] (w.setCell ⟨g, 193 + p, none⟩ (.pointer none)) ((w.setCell ⟨g, 193 + p, none⟩ (.pointer none)).setCell ⟨g, 129 + p, none⟩ (.bool true)) := (Fr.refl _ _).setCell (.inl (by simp)) _
  have hA2 := hA1.flags ok.keeps hg1 { s with pg := upd s.pg p none, changed := upd s.changed p true } rfl (fun _ h => h) rfl hinv hf2 hset2
  rw [upd_upd] at hA2
  subst hw
  refine ⟨_, _, hA2, ?_, fun k y hne hy => rfl, ((h.toRep.fr_sp hg hf1).trans (hA1.toRep.fr_sp hg1 hf2)).more⟩
  unfold view dropA
  congr 1
  funext r
  show pageOf hm (upd s.pg p none r) = upd _ p none r
  by_cases e : r = p
  · subst e
    rw [upd_at, upd_at]
    rfl
  · rw [upd_ne _ _ _ _ e, upd_ne _ _ _ _ e]

set_option maxRecDepth 100000 in
set_option maxHeartbeats 8000000 in
theorem unmap_all (ok : SourceOk C B) (h : All C B w sps hm) (hg : sps g = some s) (p : Int) (hB : B ≤ w.heap.size) :
    Calls Try.prog 23 #[.pointer (some ⟨g, 0, none⟩), .int .i64 p] w fun e w' => Stp C B sps hm g (unmapA (view C hm s) p).1 w w' (ErrK e (unmapA (view C hm s) p).2) := by
  have hq := ptr23_some
  by_cases hp : 0 ≤ p ∧ p < 64
  · have hpb : Hid (pageB p = true) := Lib.hid (decide_eq_true hp)
    obtain ⟨n, rfl⟩ : ∃ n : Nat, p = n := ⟨p.toNat, by omega⟩
    have hn : n < 64 := by omega
    have hr : unmapA (view C hm s) n = if ((needA (view C hm s) n).page n).isSome then (dropA (needA (view C hm s) n) n, 0) else (needA (view C hm s) n, 8) := by unfold unmapA; rw [if_neg (by omega), Int.toNat_natCast]
    obtain ⟨R, hR⟩ : ∃ R, R = unmapA (view C hm s) n := ⟨_, rfl⟩
    rw [← hR]
    rw [hr] at hR
    have HR := Lib.hid hR
    have HN := Lib.hid (need_all ok h hg n hn hB)
    have HNK := Lib.hid (needA_known (view C hm s) n)
    have i1 : (n : Int) < 64 := by omega
    have i0 : (0 : Int) ≤ (n : Int) := by omega
    clear hr hR hp
    go_enter Try.func23, Try.ntmps23
    go_wp2_with fail
    refine (isPage_any _ _).mono ?_
    rintro e w' ⟨rfl, rfl⟩
    rw [hpb.out]
    dsimp only
    go_wp2_with fail
    refine HN.out.mono ?_
    rintro e w2 ⟨s2, hm2, hA2, hv2, ho2, hmv2, rfl⟩
    have hgr2 : upd sps g (some s2) g = some s2 := upd_at _ _ _
    have hps := page_some (C := C) hA2.toRep hgr2 n
    rw [hv2] at hps
    have HA2 := Lib.hid hA2
    have HV2 := Lib.hid hv2
    have HO2 := Lib.hid ho2
    have HMV2 := Lib.hid hmv2
    have hsz2 := hmv2.size
    have HPS := Lib.hid hps
    clear hA2 hv2 ho2 hmv2 hps HN hgr2
    unfold ptrV
    cases hpg : s2.pg n with
    | none =>
      have hr2 : R = (needA (view C hm s) n, 8) := by rw [HR.out, if_neg (by rw [HPS.out, hpg]; simp)]
      have HRF := Lib.hid hr2
      have hq2 := nil_eql
      clear hr2 hpg
      simp only [Option.map_none]
      go_wp2_with fail
      go_ret
      exact ⟨s2, hm2, HA2.out, by rw [HRF.out]; exact HV2.out, HO2.out, HMV2.out, by rw [HRF.out]; rfl⟩
    | some r =>
      have hr2 : R = (dropA (needA (view C hm s) n) n, 0) := by rw [HR.out, if_pos (by rw [HPS.out, hpg]; rfl)]
      have HRF := Lib.hid hr2
      have hq2 := ptr_eql2
      have hkn : s2.known n = true := by
        have e1 : (view C hm2 s2).known n = true := by rw [HV2.out]; exact HNK.out
        exact e1
      have hfin := HA2.out.drop ok (upd_at _ _ _) n hn hkn rfl
      have hbg3 := (HA2.out.blk g s2 (upd_at _ _ _)).1
      have c1 : w2.cell? ⟨g, 193 + n, none⟩ = some (ptrV (s2.pg n)) := by rw [hbg3.cell, sp_pg s2 n hn]
      have f1 := hbg3.frozen (193 + n)
      have c2 : w2.cell? ⟨g, 129 + n, none⟩ = some (.bool (s2.changed n)) := by rw [hbg3.cell, sp_changed s2 n hn]
      have f2 := hbg3.frozen (129 + n)
      have HFIN := Lib.hid hfin
      have zg := hbg3.lt
      have hne : 193 + n ≠ 129 + n := by omega
      clear hr2 hpg hkn hfin hbg3
      simp only [Option.map_some]
      go_wp2_with fail
      obtain ⟨s4, hm4, hA4, hv4, ho4, hmv4⟩ := HFIN.out
      rw [upd_upd] at hA4
      go_ret
      exact ⟨s4, hm4, hA4, by rw [hv4, HV2.out, HRF.out], fun k y hne hy => by rw [ho4 k y hne (by rw [upd_ne _ _ _ _ hne]; exact hy)]; exact HO2.out k y hne hy, HMV2.out.trans hmv4, by rw [HRF.out]; rfl⟩
  · have hpb : Hid (pageB p = false) := Lib.hid (decide_eq_false hp)
    have hr : unmapA (view C hm s) p = (view C hm s, 2) := by unfold unmapA; rw [if_pos (by omega)]
    rw [hr]
    have HS := Lib.hid (fun e (he : ErrK e 2 s hm) => Stp.self h hg he)
    clear hr hp
    go_enter Try.func23, Try.ntmps23
    go_wp2_with fail
    refine (isPage_any _ _).mono ?_
    rintro e w' ⟨rfl, rfl⟩
    rw [hpb.out]
    dsimp only
    go_wp2_with fail
    go_ret
    exact HS.out _ rfl

theorem ptr23_neq (W : World) (q : Nat) : (binOp BinOp.neq 23 (.pointer (some ⟨q, 0, none⟩)) (.pointer none)).run Try.prog W = .ok (.bool true) W := by kernel_rfl
set_option maxRecDepth 100000 in
set_option maxHeartbeats 8000000 in
theorem has_all (ok : SourceOk C B) (h : All C B w sps hm) (hg : sps g = some s) (p : Int) (hB : B ≤ w.heap.size) :
    Calls Try.prog 33 #[.pointer (some ⟨g, 0, none⟩), .int .i64 p] w fun e w' => Stp C B sps hm g (hasA (view C hm s) p).1 w w' (BoolK e (hasA (view C hm s) p).2) := by
  have hq := ptr23_neq
  by_cases hp : 0 ≤ p ∧ p < 64
  · have hpb : Hid (pageB p = true) := Lib.hid (decide_eq_true hp)
    obtain ⟨n, rfl⟩ : ∃ n : Nat, p = n := ⟨p.toNat, by omega⟩
    have hn : n < 64 := by omega
    have hr : hasA (view C hm s) n = (needA (view C hm s) n, ((needA (view C hm s) n).page n).isSome) := by unfold hasA; rw [if_neg (by omega), Int.toNat_natCast]
    rw [hr]
    have HN := Lib.hid (need_all ok h hg n hn hB)
    clear hr hp
    go_enter Try.func33, Try.ntmps33
    go_wp2_with fail
    refine (isPage_any _ _).mono ?_
    rintro e w' ⟨rfl, rfl⟩
    rw [hpb.out]
    dsimp only
    go_wp2_with fail
    refine HN.out.mono ?_
    rintro e w2 ⟨s2, hm2, hA2, hv2, ho2, hmv2, rfl⟩
    have hgr2 : upd sps g (some s2) g = some s2 := upd_at _ _ _
    have hps := page_some (C := C) hA2.toRep hgr2 n
    rw [hv2] at hps
    have HA2 := Lib.hid hA2
    have HV2 := Lib.hid hv2
    have HO2 := Lib.hid ho2
    have HMV2 := Lib.hid hmv2
    have HPS := Lib.hid hps
    clear hA2 hv2 ho2 hmv2 hps HN hgr2
    unfold ptrV
    cases hpg : s2.pg n with
    | none =>
      have hr2 : ((needA (view C hm s) n).page n).isSome = false := by rw [HPS.out, hpg]; rfl
      have HR2 := Lib.hid hr2
      have hq2 := nil_neq
      clear hr2 hpg
      simp only [Option.map_none]
      go_wp2_with fail
      go_ret
      exact ⟨s2, hm2, HA2.out, HV2.out, HO2.out, HMV2.out, by rw [HR2.out]; rfl⟩
    | some r =>
      have hr2 : ((needA (view C hm s) n).page n).isSome = true := by rw [HPS.out, hpg]; rfl
      have HR2 := Lib.hid hr2
      have hq2 := ptr_neq2
      clear hr2 hpg
      simp only [Option.map_some]
      go_wp2_with fail
      go_ret
      exact ⟨s2, hm2, HA2.out, HV2.out, HO2.out, HMV2.out, by rw [HR2.out]; rfl⟩
  · have hpb : Hid (pageB p = false) := Lib.hid (decide_eq_false hp)
    have hr : hasA (view C hm s) p = (view C hm s, false) := by unfold hasA; rw [if_pos (by omega)]
    rw [hr]
    have HS := Lib.hid (fun e (he : BoolK e false s hm) => Stp.self h hg he)
    clear hr hp
    go_enter Try.func33, Try.ntmps33
    go_wp2_with fail
    refine (isPage_any _ _).mono ?_
    rintro e w' ⟨rfl, rfl⟩
    rw [hpb.out]
    dsimp only
    go_wp2_with fail
    go_ret
    exact HS.out _ rfl
end
end Go.Proofs.Ytbppafbdmdbdiaa

/-
  Walks: SetWord, Word.
-/
namespace Go.Proofs.Ytbppafbdmdbdiaa
open Go.RowKit
set_option linter.unusedVariables false
def le4 (n : Nat) : List UInt8 := [UInt8.ofNat n, UInt8.ofNat (n / 256), UInt8.ofNat (n / 65536), UInt8.ofNat (n / 16777216)]
section
variable {C : Source} {B : Nat} {w w' : World} {sps : Nat → Option Sp} {hm : Pages} {g : Nat} {s : Sp}
theorem Stp.after {w1 : World} {a' : AS} {K : Sp → Pages → Prop} (h : Below w.heap.size w w1) (hs : Stp C B sps hm g a' w1 w' K) : Stp C B sps hm g a' w w' K := by
  obtain ⟨s1, hm1, q1, q2, q3, q4, q5⟩ := hs
  exact ⟨s1, hm1, q1, q2, q3, (Mv.of_below h).trans q4, q5⟩
set_option maxRecDepth 100000 in
set_option maxHeartbeats 8000000 in
theorem setWord_all (ok : SourceOk C B) (h : All C B w sps hm) (hg : sps g = some s) (at_ : Int) (n : Nat) (hn : n < 4294967296) (ha1 : -9223372036854775808 ≤ at_) (ha2 : at_ ≤ 9223372036854775807) (hB : B ≤ w.heap.size) :
    Calls Try.prog 22 #[.pointer (some ⟨g, 0, none⟩), .int .i64 at_, .int .u32 n] w fun e w' => Stp C B sps hm g (storeA (view C hm s) at_ (le4 n)).1 w w' (ErrK e (storeA (view C hm s) at_ (le4 n)).2) := by
  have hbs : (#[.int .u8 ((n : Int) % 256), .int .u8 ((n : Int) / 256 % 256), .int .u8 ((n : Int) / 65536 % 256), .int .u8 ((n : Int) / 16777216)] : Array Value) = (bs (le4 n)).toArray := by
    unfold le4 bs
    simp only [List.map_cons, List.map_nil, UInt8.toNat_ofNat']
    rw [show (n : Int) % 256 = ((n % 2 ^ 8 : Nat) : Int) by omega, show (n : Int) / 256 % 256 = ((n / 256 % 2 ^ 8 : Nat) : Int) by omega, show (n : Int) / 65536 % 256 = ((n / 65536 % 2 ^ 8 : Nat) : Int) by omega, show (n : Int) / 16777216 = ((n / 16777216 % 2 ^ 8 : Nat) : Int) by omega]
  obtain ⟨W, hW⟩ : ∃ W, W = w.alloc (.cells #[.int .u8 ((n : Int) % 256), .int .u8 ((n : Int) / 256 % 256), .int .u8 ((n : Int) / 65536 % 256), .int .u8 ((n : Int) / 16777216)] 5) := ⟨_, rfl⟩
  have hbel : Below w.heap.size w W := by rw [hW]; exact (Below.refl _ _).alloc (Nat.le_refl _) _
  have hrd : RdB W (w.heap.size + 1) (.slice (some ⟨w.heap.size, 0, none⟩) 4 4) (le4 n) := by
    refine ⟨_, 4, rfl, by simp [le4], by simp [maxLen], by simp [bs, le4], fun _ => ⟨_, rfl, by simp, fun j u hu => ?_⟩⟩
    rw [add_at0, hW, hbs, World.cell?_alloc_mark]
    simpa using hu
  have hcv := run_convert_string (P := Try.prog) Try.underlying27 Try.underlying5 Try.underlying9 hrd
  have HST := Lib.hid (store_all ok (h.below ok.keeps hbel) hg at_ ⟨(le4 n).toArray⟩ (by show (le4 n).toArray.size ≤ _; simp [le4]) ha1 ha2 (Nat.le_trans hB hbel.size))
  have HB := Lib.hid hbel
  clear hbs hrd hbel
  have HW := Lib.hid hW
  rw [hW] at hcv
  clear hW
  go_enter Try.func22, Try.ntmps22
  go_wp2_with fail
  rw [← HW.out]
  refine HST.out.mono ?_
  rintro e w1 hs
  have HS := Lib.hid (Stp.after HB.out hs)
  obtain ⟨s1, hm1, _, _, _, _, rfl⟩ := hs
  dsimp only
  go_wp2_with fail
  go_ret
  obtain ⟨s1, hm1, q1, q2, q3, q4, _⟩ := HS.out
  exact ⟨s1, hm1, q1, q2, q3, q4, rfl⟩
end
end Go.Proofs.Ytbppafbdmdbdiaa

/-
  Walks: Fork.
-/
namespace Go.Proofs.Ytbppafbdmdbdiaa
open Go.RowKit
set_option linter.unusedVariables false

def emptySp : Sp := ⟨.nilFunc, fun _ => false, fun _ => false, fun _ => false, fun _ => none⟩
theorem upd_comm {α : Type} (F : Nat → α) (f g : Nat) (x y : α) (h : g ≠ f) : upd (upd F f x) g y = upd (upd F g y) f x := by
  funext q
  unfold upd
  by_cases h1 : q = g
  · subst h1
    rw [if_pos rfl, if_neg h, if_pos rfl]
  · rw [if_neg h1]
    by_cases h2 : q = f
    · rw [if_pos h2, if_pos h2]
    · rw [if_neg h2, if_neg h2, if_neg h1]

/-- All pages below k are needed. -/
def needUp : Nat → AS → AS
  | 0, a => a
  | k + 1, a => needA (needUp k a) k
/-- The child of a fork, its pages below k done. -/
def childA (a : AS) (k : Nat) : AS := ⟨none, fun p => decide (p < k), fun _ => false, fun p => decide (p < k) && (a.page p).isSome, fun p => if p < k then a.page p else none⟩

section
variable {C : Source} {B : Nat} {w w' : World} {sps : Nat → Option Sp} {hm : Pages} {g : Nat} {s : Sp}
theorem All.fresh (h : All C B w sps hm) : sps w.heap.size = none := by
  cases hs : sps w.heap.size with
  | none => rfl
  | some s => have := (h.blk _ s hs).1.lt; omega
theorem All.newsp (h : All C B w sps hm) (hk : Keeps C B) (hB : B ≤ w.heap.size) : All C B (w.alloc (.cells (spCells emptySp) 86)) (upd sps w.heap.size (some emptySp)) hm := by
  have hb : Below w.heap.size w (w.alloc (.cells (spCells emptySp) 86)) := (Below.refl _ _).alloc (Nat.le_refl _) _
  have h1 := h.below hk hb
  refine ⟨⟨fun k x hx => ?_, h1.mem, fun k x hx p q hq => ?_, fun k x k' x' p q r b hx hx' hr hr' hh => ?_⟩, fun x hx => ?_, fun k x hx hne => ?_, fun k x hx p hp => ?_⟩
  · rcases upd_some _ _ _ _ _ hx with ⟨rfl, rfl⟩ | ⟨hne, hx⟩
    · exact ⟨Blk.new _ _ _, hB⟩
    · exact h1.blk k x hx
  · rcases upd_some _ _ _ _ _ hx with ⟨rfl, rfl⟩ | ⟨hne, hx⟩
    · cases hq
    · exact h1.ref k x hx p q hq
  · rcases upd_some _ _ _ _ _ hx with ⟨rfl, rfl⟩ | ⟨hne, hx⟩
    · cases hr
    · rcases upd_some _ _ _ _ _ hx' with ⟨rfl, rfl⟩ | ⟨hne', hx'⟩
      · cases hr'
      · exact h1.own k x k' x' p q r b hx hx' hr hr' hh
  · rcases upd_some _ _ _ _ _ hx with ⟨_, rfl⟩ | ⟨hne, hx⟩
    · exact .inl rfl
    · exact h1.env x hx
  · rcases upd_some _ _ _ _ _ hx with ⟨_, rfl⟩ | ⟨hne', hx⟩
    · rfl
    · exact h1.nosrc k x hx hne
  · rcases upd_some _ _ _ _ _ hx with ⟨_, rfl⟩ | ⟨hne', hx⟩
    · exact ⟨rfl, rfl⟩
    · exact h1.inv k x hx p hp

/-- A shared page is put into a space. -/
theorem All.share (h : All C B w sps hm) (ok : SourceOk C B) {f : Nat} {c : Sp} (hf : sps f = some c) (p : Nat) (hp : p < 64) (hk : c.known p = true) {q : Nat} {b : List UInt8} {sh : Bool} (hq : hm q = some (b, sh))
    (hw : w' = ((w.setCell ⟨q, 64, none⟩ (.bool true)).setCell ⟨f, 193 + p, none⟩ (ptrV (some q))).setCell ⟨f, 129 + p, none⟩ (.bool true)) :
    ∃ c' hm', All C B w' (upd sps f (some c')) hm' ∧ view C hm' c' = { view C hm c with page := upd (view C hm c).page p (some b), changed := upd (view C hm c).changed p true } ∧
      (∀ k y, k ≠ f → sps k = some y → view C hm' y = view C hm y) ∧ Mv B C.X w w' ∧ c'.pg = upd c.pg p (some q) ∧ hm' = upd hm q (some (b, true)) := by
  obtain ⟨hl, hbq, hBq⟩ := h.mem q b sh hq
  have hset := hbq.set_ 64 (.bool true)
  rw [held_share b sh true hl] at hset
  have hf1 : Fr [q] w (w.setCell ⟨q, 64, none⟩ (.bool true)) := (Fr.refl _ _).setCell (.inl (by simp)) _
  obtain ⟨hA1, hm1⟩ := h.write ok.keeps hq b true hl (fun h => by cases h) hf1 hset
  have hvw : ∀ o, pageOf (upd hm q (some (b, true))) o = pageOf hm o := fun o => by
    cases o with
    | none => rfl
    | some t =>
      show (upd hm q _ t).map _ = (hm t).map _
      by_cases e : t = q
      · rw [e, upd_at, hq]; rfl
      · rw [upd_ne _ _ _ _ e]
  generalize hWd : w.setCell ⟨q, 64, none⟩ (.bool true) = W1 at *
  have hbf := (hA1.blk f c hf).1
  have hs2 := hbf.set_ (193 + p) (ptrV (some q))
  rw [sp_set_pg c p _ hp] at hs2
  have hf2 : Fr [f] W1 (W1.setCell ⟨f, 193 + p, none⟩ (ptrV (some q))) := (Fr.refl _ _).setCell (.inl (by simp)) _
  have hs3 := hs2.set_ (129 + p) (.bool true)
  rw [sp_set_changed _ p true hp] at hs3
  have hf3 : Fr [f] W1 ((W1.setCell ⟨f, 193 + p, none⟩ (ptrV (some q))).setCell ⟨f, 129 + p, none⟩ (.bool true)) := hf2.setCell (.inl (by simp)) _
  subst hw
  have hmv := hA1.toRep.fr_sp hf hf3
  have hinv : ∀ r, c.known r = false → c.asked r = false ∧ upd c.pg p (some q) r = none := fun r hr => by
    obtain ⟨i1, i2⟩ := h.inv f c hf r hr
    exact ⟨i1, by rw [upd_ne _ _ _ _ (fun e => by rw [e, hk] at hr; cases hr)]; exact i2⟩
  have key : ∀ k x p1 r c', upd sps f (some { c with pg := upd c.pg p (some q), changed := upd c.changed p true }) k = some x → x.pg p1 = some r → upd hm q (some (b, true)) r = some (c', false) → ∃ y, sps k = some y ∧ y.pg p1 = some r := fun k x p1 r c' hx hr hh => by
    rcases upd_some _ _ _ _ _ hx with ⟨rfl, rfl⟩ | ⟨hne, hx⟩
    · rcases upd_some _ _ _ _ _ hr with ⟨_, e⟩ | ⟨_, hr⟩
      · subst e
        rw [upd_at] at hh
        injection hh with hh
        injection hh with _ hh
        cases hh
      · exact ⟨c, hf, hr⟩
    · exact ⟨x, hx, hr⟩
  refine ⟨{ c with pg := upd c.pg p (some q), changed := upd c.changed p true }, upd hm q (some (b, true)), ⟨⟨fun k x hx => ?_, fun k d sd hx => ?_, fun k x hx p1 r hr => ?_, fun k x k' x' p1 p2 r d hx hx' hr hr' hh => ?_⟩, fun x hx => ?_, fun k x hx hne => ?_, fun k x hx => ?_⟩, ?_, fun k y hne hy => ?_, (hm1.trans hmv).more, rfl, rfl⟩
  · rcases upd_some _ _ _ _ _ hx with ⟨rfl, rfl⟩ | ⟨hne, hx⟩
    · exact ⟨hs3, (h.blk k c hf).2⟩
    · exact ⟨(hA1.blk k x hx).1.fr hf3 (by simpa using hne), (h.blk k x hx).2⟩
  · obtain ⟨m1, m2, m3⟩ := hA1.mem k d sd hx
    exact ⟨m1, m2.fr hf3 (by simpa using hA1.toRep.page_ne hf hx), m3⟩
  · rcases upd_some _ _ _ _ _ hx with ⟨rfl, rfl⟩ | ⟨hne, hx⟩
    · rcases upd_some _ _ _ _ _ hr with ⟨_, e⟩ | ⟨_, hr⟩
      · subst e; exact ⟨_, upd_at _ _ _⟩
      · exact hA1.ref k c hf p1 r hr
    · exact hA1.ref k x hx p1 r hr
  · obtain ⟨y, hy, hr1⟩ := key k x p1 r d hx hr hh
    obtain ⟨y', hy', hr2⟩ := key k' x' p2 r d hx' hr' hh
    exact hA1.own k y k' y' p1 p2 r d hy hy' hr1 hr2 hh
  · rcases upd_some _ _ _ _ _ hx with ⟨e, rfl⟩ | ⟨hne, hx⟩
    · rw [← e] at hf
      exact (hA1.env c hf).imp id fun e => ⟨e.1, ok.keeps _ _ _ e.2 hmv.toE⟩
    · exact (hA1.env x hx).imp id fun e => ⟨e.1, ok.keeps _ _ _ e.2 hmv.toE⟩
  · rcases upd_some _ _ _ _ _ hx with ⟨rfl, rfl⟩ | ⟨hne', hx⟩
    · exact h.nosrc k c hf hne
    · exact h.nosrc k x hx hne
  · rcases upd_some _ _ _ _ _ hx with ⟨rfl, rfl⟩ | ⟨hne', hx⟩
    · exact hinv
    · exact h.inv k x hx
  · unfold view
    congr 1
    funext r
    show pageOf (upd hm q (some (b, true))) (upd c.pg p (some q) r) = upd (fun p => pageOf hm (c.pg p)) p (some b) r
    rw [hvw]
    by_cases e : r = p
    · rw [e, upd_at, upd_at]
      show (hm q).map _ = _
      rw [hq]; rfl
    · rw [upd_ne _ _ _ _ e, upd_ne _ _ _ _ e]
  · unfold view
    congr 1
    funext r
    exact hvw _
end
end Go.Proofs.Ytbppafbdmdbdiaa

/-
  Walks: Fork.
-/
namespace Go.Proofs.Ytbppafbdmdbdiaa
open Go.RowKit
set_option linter.unusedVariables false

theorem child_none (x : AS) (k : Nat) (h : (needA x k).page k = none) : childA (needA x k) (k + 1) = { childA x k with known := upd (childA x k).known k true } := by
  unfold childA
  congr 1
  · funext p
    show decide (p < k + 1) = upd (fun p => decide (p < k)) k true p
    by_cases e : p = k
    · rw [e, upd_at]; simp
    · rw [upd_ne _ _ _ _ e]; simp; omega
  · funext p
    by_cases e : p = k
    · rw [e, h]; simp
    · rw [needA_page_ne _ _ _ e, show decide (p < k + 1) = decide (p < k) by simp; omega]
  · funext p
    by_cases e : p = k
    · rw [e, h]; simp
    · rw [needA_page_ne _ _ _ e]
      show _ = if p < k then x.page p else none
      by_cases h1 : p < k
      · rw [if_pos (by omega), if_pos h1]
      · rw [if_neg (by omega), if_neg h1]
theorem child_some (x : AS) (k : Nat) (b : List UInt8) (h : (needA x k).page k = some b) : childA (needA x k) (k + 1) = { childA x k with known := upd (childA x k).known k true, page := upd (childA x k).page k (some b), changed := upd (childA x k).changed k true } := by
  unfold childA
  congr 1
  · funext p
    show decide (p < k + 1) = upd (fun p => decide (p < k)) k true p
    by_cases e : p = k
    · rw [e, upd_at]; simp
    · rw [upd_ne _ _ _ _ e]; simp; omega
  · funext p
    by_cases e : p = k
    · rw [e, upd_at, h]; simp
    · rw [upd_ne _ _ _ _ e, needA_page_ne _ _ _ e, show decide (p < k + 1) = decide (p < k) by simp; omega]
  · funext p
    by_cases e : p = k
    · rw [e, upd_at, h]; simp
    · rw [upd_ne _ _ _ _ e, needA_page_ne _ _ _ e]
      show _ = if p < k then x.page p else none
      by_cases h1 : p < k
      · rw [if_pos (by omega), if_pos h1]
      · rw [if_neg (by omega), if_neg h1]
theorem child_zero (a : AS) (hm : Pages) (C : Source) : view C hm emptySp = childA a 0 := by
  unfold view childA emptySp
  congr 1

/-- The spaces behind a fork, the pages below k done. -/
def ForkI (C : Source) (B : Nat) (sps : Nat → Option Sp) (hm : Pages) (g f : Nat) (a : AS) (k : Nat) (w w' : World) : Prop :=
  ∃ s1 c1 hm1, All C B w' (upd (upd sps g (some s1)) f (some c1)) hm1 ∧ view C hm1 s1 = needUp k a ∧ view C hm1 c1 = childA (needUp k a) k ∧
    (∀ k' x, k' ≠ g → sps k' = some x → view C hm1 x = view C hm x) ∧ Mv B C.X w w' ∧ ∀ p, p < k → c1.pg p = s1.pg p ∧ ∀ q, s1.pg p = some q → ∃ b, hm1 q = some (b, true)

section
variable {C : Source} {B : Nat} {w w' : World} {sps : Nat → Option Sp} {hm : Pages} {g : Nat} {s : Sp}
set_option maxRecDepth 100000 in
set_option maxHeartbeats 8000000 in
theorem fork_all (ok : SourceOk C B) (h : All C B w sps hm) (hg : sps g = some s) (hB : B ≤ w.heap.size) :
    Calls Try.prog 20 #[.pointer (some ⟨g, 0, none⟩)] w fun e w' => e = .returned (ptrV (some w.heap.size)) ∧ ForkI C B sps hm g w.heap.size (view C hm s) 64 w w' := by
  have hq := ptr23_some
  have hz := z86
  have hnew := h.newsp ok.keeps hB
  have hb0 : Below w.heap.size w (w.alloc (.cells (spCells emptySp) 86)) := (Below.refl _ _).alloc (Nat.le_refl _) _
  have hgf : g ≠ w.heap.size := by have := (h.blk g s hg).1.lt; omega
  have hfr := h.fresh
  have hst : ForkI C B sps hm g w.heap.size (view C hm s) 0 w (w.alloc (.cells (spCells emptySp) 86)) := by
    refine ⟨s, emptySp, hm, ?_, rfl, child_zero _ _ _, fun _ _ _ _ => rfl, Mv.of_below hb0, fun p hp => absurd hp (by omega)⟩
    rw [upd_same sps g _ hg]
    exact hnew
  have HST := Lib.hid hst
  have HFR := Lib.hid hfr
  have HSZ : Hid (w.heap.size < (w.alloc (.cells (spCells emptySp) 86)).heap.size) := Lib.hid (by simp)
  clear hnew hb0 hst hfr h
  obtain ⟨a, ha⟩ : ∃ a, a = view C hm s := ⟨_, rfl⟩
  rw [← ha] at HST ⊢
  clear ha
  unfold emptySp at *
  go_enter Try.func20, Try.ntmps20
  go_wp2_with fail
  generalize w.alloc (.cells (spCells ⟨.nilFunc, fun _ => false, fun _ => false, fun _ => false, fun _ => none⟩) 86) = W0 at *
  clear hz
  obtain ⟨f, hf⟩ : ∃ f, f = w.heap.size := ⟨_, rfl⟩
  rw [← hf] at hgf HST HFR HSZ ⊢
  have hBf : B ≤ f := by omega
  have HF := Lib.hid hf
  clear hf
  go_loopg [10] 64 (fun q iv wr => ∃ k : Nat, iv = .int .i64 k ∧ q = 64 - k ∧ k ≤ 64 ∧ ForkI C B sps hm g f a k w wr)
  case atStart => exact ⟨0, rfl, rfl, by omega, HST.out⟩
  case round =>
    obtain ⟨k, rfl, rfl, hk, s1, c1, hm1, hA1, hs1, hc1, ho1, hmv1, hsh1⟩ := hrel
    have HSH1 := Lib.hid hsh1
    clear hsh1
    have HA1 := Lib.hid hA1
    have HS1 := Lib.hid hs1
    have HC1 := Lib.hid hc1
    have HO1 := Lib.hid ho1
    have HMV1 := Lib.hid hmv1
    have hsz1 := hmv1.size
    clear hA1 hs1 hc1 ho1 hmv1
    by_cases hlt : k < 64
    · have i1 : (k : Int) < 64 := by omega
      have i0 : (0 : Int) ≤ (k : Int) := by omega
      have hbf := (HA1.out.blk f c1 (upd_at _ _ _)).1
      have k1 : wr.cell? ⟨f, 1 + k, none⟩ = some (.bool (c1.known k)) := (hbf.cell _).trans (sp_known c1 k hlt)
      have f1 := hbf.frozen (1 + k)
      have zf := hbf.lt
      have hset := hbf.set_ (1 + k) (.bool true)
      rw [sp_set_known c1 k true hlt] at hset
      have hfr1 : Fr [f] wr (wr.setCell ⟨f, 1 + k, none⟩ (.bool true)) := (Fr.refl _ _).setCell (.inl (by simp)) _
      have hA2 := HA1.out.flags ok.keeps (upd_at _ f (some c1)) { c1 with known := upd c1.known k true } rfl (fun _ h => h) rfl (fun p hp => HA1.out.inv f c1 (upd_at _ _ _) p (by
        replace hp : upd c1.known k true p = false := hp
        by_cases e : p = k
        · rw [e, upd_at] at hp; cases hp
        · rw [upd_ne _ _ _ _ e] at hp; exact hp)) hfr1 hset
      rw [upd_upd] at hA2
      have hmv2 := HMV1.out.trans (HA1.out.toRep.fr_sp (upd_at _ f (some c1)) hfr1).more
      have hg2 : upd (upd sps g (some s1)) f (some { c1 with known := upd c1.known k true }) g = some s1 := by rw [upd_ne _ _ _ _ hgf, upd_at]
      have HN := Lib.hid (need_more ok hA2 hg2 k hlt (by have := hfr1.size; omega))
      have HMV2 := Lib.hid hmv2
      clear hset hfr1 hA2 hmv2 hg2 hbf
      go_wp2_with fail
      refine HN.out.mono ?_
      rintro e w3 ⟨s3, hm3, hA3, hv3, ho3, hmv3, rfl, hk1, hk2, _⟩
      have HK1 := Lib.hid hk1
      have HK2 := Lib.hid hk2
      clear hk1 hk2
      rw [upd_comm _ _ _ _ _ hgf, upd_upd] at hA3
      have hfc : upd (upd sps g (some s3)) f (some { c1 with known := upd c1.known k true }) f = some { c1 with known := upd c1.known k true } := upd_at _ _ _
      have hgs : upd (upd sps g (some s3)) f (some { c1 with known := upd c1.known k true }) g = some s3 := by rw [upd_ne _ _ _ _ hgf, upd_at]
      have hvc : view C hm3 { c1 with known := upd c1.known k true } = { childA (needUp k a) k with known := upd (childA (needUp k a) k).known k true } := by
        rw [ho3 f _ (fun e => hgf e.symm) (upd_at _ _ _), ← HC1.out]
        rfl
      have hoth : ∀ k' x, k' ≠ g → sps k' = some x → view C hm3 x = view C hm x := fun k' x hne hx => by
        have hkf : k' ≠ f := fun e => by rw [e, HFR.out] at hx; cases hx
        rw [ho3 k' x hne (by rw [upd_ne _ _ _ _ hkf, upd_ne _ _ _ _ hne]; exact hx)]
        exact HO1.out k' x hne hx
      rw [HS1.out] at hv3
      have hps := page_some (C := C) hA3.toRep hgs k
      rw [hv3] at hps
      have HA3 := Lib.hid hA3
      have HV3 := Lib.hid hv3
      have HVC := Lib.hid hvc
      have HOTH := Lib.hid hoth
      have HPS := Lib.hid hps
      have HMV3 := Lib.hid (HMV2.out.trans hmv3)
      have HFC := Lib.hid hfc
      have HGS := Lib.hid hgs
      clear hA3 hv3 hvc hoth hps hmv3 ho3 hfc hgs HN HMV2 k1 f1
      unfold ptrV
      cases hpg : s3.pg k with
      | none =>
        have hpn : (needA (needUp k a) k).page k = none := by
          have h9 := HPS.out
          rw [hpg] at h9
          cases hpp : (needA (needUp k a) k).page k with
          | none => rfl
          | some b => rw [hpp] at h9; cases h9
        have HPN := Lib.hid hpn
        have hq2 := nil_neq
        have hsx : ∀ p, p < k + 1 → (upd c1.pg k none) p = s3.pg p ∧ ∀ q, s3.pg p = some q → ∃ b, hm3 q = some (b, true) := fun p hp => by
          by_cases e : p = k
          · subst e; rw [upd_at, hpg]; exact ⟨rfl, fun q hq => by cases hq⟩
          · rw [upd_ne _ _ _ _ e, HK1.out p e]
            obtain ⟨h1, h2⟩ := HSH1.out p (by omega)
            exact ⟨h1, fun q hq => let ⟨b, hb⟩ := h2 q hq; ⟨b, HK2.out _ _ hb⟩⟩
        have hc0 : c1.pg k = none := by
          cases hcp : c1.pg k with
          | none => rfl
          | some r =>
            have h9 := (HA1.out.inv f c1 (upd_at _ _ _) k (by
              have h8 : (view C hm1 c1).known k = false := by rw [HC1.out]; simp [childA]
              exact h8)).2
            rw [hcp] at h9; cases h9
        rw [upd_same c1.pg k none hc0] at hsx
        have HSX := Lib.hid hsx
        clear hpg hpn hsx hc0
        simp only [Option.map_none]
        go_wp2_with fail
        go_roundg (64 - (k + 1))
        case measure => omega
        case rel => exact ⟨k + 1, by go_num, rfl, by omega, s3, _, hm3, HA3.out, HV3.out, by rw [HVC.out]; exact (child_none _ _ HPN.out).symm, HOTH.out, HMV3.out, HSX.out⟩
      | some r =>
        obtain ⟨⟨b0, sh0⟩, hmr⟩ := HA3.out.ref g s3 HGS.out k r hpg
        have hpn : (needA (needUp k a) k).page k = some b0 := by
          rw [← HV3.out]
          show pageOf hm3 (s3.pg k) = _
          rw [hpg]
          show (hm3 r).map _ = _
          rw [hmr]; rfl
        have HPN := Lib.hid hpn
        obtain ⟨hl, hbr, _⟩ := HA3.out.mem r b0 sh0 hmr
        have hbf := (HA3.out.blk f _ HFC.out).1
        have hrf := HA3.out.toRep.page_ne HFC.out hmr
        have c1' : w3.cell? ⟨r, 64, none⟩ = some (.bool sh0) := by rw [hbr.cell, held_shared b0 sh0 hl]
        have f1 := hbr.frozen 64
        have c2 : w3.cell? ⟨f, 193 + k, none⟩ = some (ptrV (c1.pg k)) := by rw [hbf.cell, sp_pg _ k hlt]
        have f2 := hbf.frozen (193 + k)
        have c3 : w3.cell? ⟨f, 129 + k, none⟩ = some (.bool (c1.changed k)) := by rw [hbf.cell, sp_changed _ k hlt]
        have f3 := hbf.frozen (129 + k)
        have zr := hbr.lt
        have zf3 := hbf.lt
        have hne1 : 193 + k ≠ 129 + k := by omega
        have HSH := Lib.hid (HA3.out.share ok HFC.out k hlt (upd_at _ _ _) hmr rfl)
        have hq2 := ptr_neq2
        have HPG := Lib.hid hpg
        clear hpg hmr hpn hl hbr hbf
        unfold ptrV at HSH
        simp only [Option.map_some] at HSH ⊢
        go_wp2_with fail
        obtain ⟨c4, hm4, hA4, hv4, ho4, hmv4, hcp4, hhm4⟩ := HSH.out
        rw [upd_upd] at hA4
        go_roundg (64 - (k + 1))
        case measure => omega
        case rel =>
          refine ⟨k + 1, by go_num, rfl, by omega, s3, c4, hm4, hA4, ?_, ?_, fun k' x hne hx => ?_, HMV3.out.trans hmv4, fun p hp => ?_⟩
          · rw [ho4 g s3 hgf HGS.out]; exact HV3.out
          · rw [hv4, HVC.out]
            exact (child_some _ _ b0 HPN.out).symm
          · have hkf : k' ≠ f := fun e => by rw [e, HFR.out] at hx; cases hx
            rw [ho4 k' x hkf (by rw [upd_ne _ _ _ _ hkf, upd_ne _ _ _ _ hne]; exact hx)]
            exact HOTH.out k' x hne hx
          · have hup : ∀ q b, hm3 q = some (b, true) → ∃ b', hm4 q = some (b', true) := fun q b hq => by
              rw [hhm4]
              by_cases e : q = r
              · rw [e, upd_at]; exact ⟨_, rfl⟩
              · rw [upd_ne _ _ _ _ e]; exact ⟨b, hq⟩
            rw [hcp4]
            by_cases e : p = k
            · subst e
              rw [upd_at, HPG.out]
              refine ⟨rfl, fun q hq => ?_⟩
              injection hq with hq
              subst hq
              rw [hhm4, upd_at]
              exact ⟨_, rfl⟩
            · rw [upd_ne _ _ _ _ e, HK1.out p e]
              obtain ⟨h1, h2⟩ := HSH1.out p (by omega)
              exact ⟨h1, fun q hq => let ⟨b, hb⟩ := h2 q hq; hup q b (HK2.out _ _ hb)⟩
    · obtain rfl : k = 64 := by omega
      have i1 : decide (((64 : Nat) : Int) < 64) = false := by decide
      go_wp2_with fail
      go_ret
      have hf9 := HF.out
      subst hf9
      exact ⟨rfl, s1, c1, hm1, HA1.out, HS1.out, HC1.out, HO1.out, HMV1.out, HSH1.out⟩
end
end Go.Proofs.Ytbppafbdmdbdiaa
