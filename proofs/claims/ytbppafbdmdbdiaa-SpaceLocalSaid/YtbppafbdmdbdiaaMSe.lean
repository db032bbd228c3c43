/-
  Walks: Text.
-/
import Derived.Test.YtbppafbdmdbdiaaMSd
namespace Go.Proofs.Ytbppafbdmdbdiaa
open Go.RowKit
set_option linter.unusedVariables false

theorem own_blk {w : World} {base e size n : Nat} {v : Value} {xs : List Value} (h : w.ownsRow base e size v n xs) : ∀ g, v.ownBlock = some g → ∃ cs, Blk w g e cs := by
  rcases h.2 with ⟨rfl, _⟩ | ⟨g', cap, cur, rfl, _, hh, _⟩
  · simp [Value.ownBlock]
  · intro g hg
    have : g' = g := by simpa [Value.ownBlock] using hg
    subst this
    exact ⟨_, hh⟩
theorem own_formL {w : World} {base e size n : Nat} {v : Value} {xs : List Value} (h : w.ownsRow base e size v n xs) : ∃ A c, v = .slice A n c := by
  rcases h.2 with ⟨rfl, rfl⟩ | ⟨g, cap, cur, rfl, _⟩
  · exact ⟨_, _, rfl⟩
  · exact ⟨_, _, rfl⟩

section
variable {C : Source} {B : Nat} {w w' : World} {sps : Nat → Option Sp} {hm : Pages} {g : Nat} {s : Sp}
/-- A row of the call's own grows. -/
theorem All.rows (h : All C B w sps hm) (hk : Keeps C B) {row : Option Nat} (hg : w.grownBy w' row) (hrow : ∀ q, row = some q → ∃ cs t, Blk w q t cs ∧ (t = 5 ∨ t = 3 ∨ t = 96)) : All C B w' sps hm := by
  have hne : ∀ q t cs, Blk w q t cs → (t = 86 ∨ t = 91) → some q ≠ row := fun q t cs hb ht e => by
    obtain ⟨cs', t', hb', ht'⟩ := hrow q e.symm
    unfold Blk at hb hb'
    rw [hb] at hb'
    injection hb' with hb'
    injection hb' with _ he
    subst he
    rcases ht with ht | ht <;> rcases ht' with h' | h' | h' <;> rw [ht] at h' <;> exact absurd h' (by decide)
  refine ⟨⟨fun k x hx => ⟨(h.blk k x hx).1.grown hg (hne _ _ _ (h.blk k x hx).1 (.inl rfl)), (h.blk k x hx).2⟩, fun q b sh hq => ⟨(h.mem q b sh hq).1, (h.mem q b sh hq).2.1.grown hg (hne _ _ _ (h.mem q b sh hq).2.1 (.inr rfl)), (h.mem q b sh hq).2.2⟩, h.ref, h.own⟩,
    fun x hx => (h.env x hx).imp id fun e => ⟨e.1, hk _ _ _ e.2 ⟨hg.size, fun k hk' hc => hg.block k hk' (fun e => ?_)⟩⟩, h.nosrc, h.inv⟩
  obtain ⟨cs', t', hb', ht'⟩ := hrow k e.symm
  exact hc ⟨cs', t', (0, 0), hb', ht'.elim (fun h => .inr (.inr (.inl h))) fun h => h.elim (fun h => .inr (.inr (.inr (.inl h)))) fun h => .inr (.inr (.inr (.inr h)))⟩
end

/-- Text from a place on. -/
def textGo : Nat → AS → Int → List UInt8 → Int → AS × List UInt8 × Nat
  | 0, a, _, _, _ => (a, [], 0)
  | f + 1, a, x, acc, most =>
    if x < 0 ∨ 4096 ≤ x then (a, [], 23)
    else match (needA a (x / 64).toNat).page (x / 64).toNat with
      | none => (needA a (x / 64).toNat, [], 23)
      | some b => if b.getD (x % 64).toNat 0 = 0 then (needA a (x / 64).toNat, acc, 0) else if (acc.length : Int) = most then (needA a (x / 64).toNat, [], 5)
        else textGo f (needA a (x / 64).toNat) (x + 1) (acc ++ [b.getD (x % 64).toNat 0]) most
def textA (a : AS) (x most : Int) : AS × List UInt8 × Nat := if most < 0 then (a, [], 2) else textGo 4097 a x [] most
theorem needA_twice (a : AS) (p : Nat) : needA (needA a p) p = needA a p := by
  have h := needA_known a p
  show (if (needA a p).known p then _ else _) = _
  rw [if_pos h]

theorem own_mv {w1 w2 : World} {B base n : Nat} {X : Nat → Prop} {v : Value} {xs : List Value} (h : w1.ownsRow base 5 1 v n xs) (hm : Mv B X w1 w2) (hX : ∀ k, X k → k < base) : w2.ownsRow base 5 1 v n xs := by
  refine ⟨h.1, ?_⟩
  rcases h.2 with h2 | ⟨g, cap, cur, hv, hg, hh, r⟩
  · exact .inl h2
  · exact .inr ⟨g, cap, cur, hv, hg, hm.blk hh (by decide) (by decide) (fun hx => by have := hX _ hx; omega), r⟩
/-- .. and the call's own part may change beside it. -/
theorem Mv.of_below_row {w w1 w2 : World} {B : Nat} {X : Nat → Prop} (h : Mv B X w w1) (hb : Below w.heap.size w1 w2) : Mv B X w w2 :=
  ⟨hb.os.trans h.os, hb.tape.trans h.tape, hb.output.trans h.output, Nat.le_trans h.size hb.size, fun i hi hc => (hb.block i hi).trans (h.block i hi hc)⟩
theorem textGo_step (f : Nat) (a : AS) (z : Nat) (acc : List UInt8) (most : Int) (b : List UInt8) (hz : z < 4096) (hk : needA a (z / 64) = a) (hp : a.page (z / 64) = some b) :
    textGo (f + 1) a (z : Int) acc most = if b.getD (z % 64) 0 = 0 then (a, acc, 0) else if (acc.length : Int) = most then (a, [], 5) else textGo f a ((z : Int) + 1) (acc ++ [b.getD (z % 64) 0]) most := by
  conv => lhs; unfold textGo
  rw [if_neg (by omega), show (((z : Int) / 64).toNat) = z / 64 by omega, show (((z : Int) % 64).toNat) = z % 64 by omega, hk, hp]
theorem textGo_need (f : Nat) (a : AS) (z : Nat) (acc : List UInt8) (most : Int) (hz : z < 4096) : textGo (f + 1) (needA a (z / 64)) (z : Int) acc most = textGo (f + 1) a (z : Int) acc most := by
  conv => lhs; unfold textGo
  conv => rhs; unfold textGo
  rw [if_neg (by omega), if_neg (by omega), show (((z : Int) / 64).toNat) = z / 64 by omega, needA_twice]

section
variable {C : Source} {B : Nat} {w w' : World} {sps : Nat → Option Sp} {hm : Pages} {g : Nat} {s : Sp}
set_option maxRecDepth 100000 in
set_option maxHeartbeats 8000000 in
theorem text_all (ok : SourceOk C B) (h : All C B w sps hm) (hg : sps g = some s) (x most : Int) (hB : B ≤ w.heap.size) (ha1 : -9223372036854775808 ≤ x) (ha2 : x ≤ 9223372036854775807) (hX : ∀ k, C.X k → k < w.heap.size) :
    Calls Try.prog 16 #[.pointer (some ⟨g, 0, none⟩), .int .i64 x, .int .i64 most] w fun e w' => Stp C B sps hm g (textA (view C hm s) x most).1 w w' (LoadK e (textA (view C hm s) x most).2.1 (textA (view C hm s) x most).2.2) := by
  have hq := ptr23_some
  by_cases hneg : most < 0
  · have hr : textA (view C hm s) x most = (view C hm s, [], 2) := by unfold textA; rw [if_pos hneg]
    rw [hr]
    have HS := Lib.hid (fun e (he : LoadK e [] 2 s hm) => Stp.self h hg he)
    have e1 : decide (most < 0) = true := decide_eq_true hneg
    clear hr
    go_enter Try.func16, Try.ntmps16
    go_wp2_with fail
    go_step3
    go_wp2_with fail
    rw [Exit.noGoto_ret]
    go_ret2
    exact HS.out _ rfl
  · have e1 : decide (most < 0) = false := decide_eq_false hneg
    have hr : textA (view C hm s) x most = textGo 4097 (view C hm s) x [] most := by unfold textA; rw [if_neg hneg]
    rw [hr]
    obtain ⟨R, hR⟩ : ∃ R, R = textGo 4097 (view C hm s) x [] most := ⟨_, rfl⟩
    rw [← hR]
    have HR := Lib.hid hR
    obtain ⟨i5, hi, hz0, hz1, hz2⟩ := info_parts info5
    clear hr hR
    go_enter Try.func16, Try.ntmps16
    go_wp2_with fail
    go_step3
    go_wp2_with fail
    go_step3
    go_wp2_with fail
    have HA0 := Lib.hid h
    have HG0 := Lib.hid hg
    clear h
    go_loopg [1, 8] 4097 (fun q atv tv wr => ∃ (f : Nat) (at_ : Int) (acc : List UInt8) (s1 : Sp) (hm1 : Pages) (OA : Option Addr) (oc : Nat), atv = .int .i64 at_ ∧ tv = .slice OA acc.length oc ∧ q = f + 1 ∧ acc.length + f = 4096 ∧ (acc.length = 0 ∨ ((acc.length : Int) ≤ at_ ∧ at_ ≤ 4096)) ∧ -9223372036854775808 ≤ at_ ∧ at_ ≤ 9223372036854775807 ∧
      textGo (f + 1) (view C hm1 s1) at_ acc most = R ∧ All C B wr (upd sps g (some s1)) hm1 ∧ (∀ k x, k ≠ g → sps k = some x → view C hm1 x = view C hm x) ∧ Mv B C.X w wr ∧ wr.ownsRow w.heap.size 5 1 (.slice OA acc.length oc) acc.length (bs acc))
    case atStart =>
      have hs : upd sps g (some s) = sps := upd_same _ _ _ hg
      exact ⟨4096, x, [], s, hm, none, 0, rfl, rfl, rfl, rfl, .inl rfl, ha1, ha2, HR.out.symm, by rw [hs]; exact HA0.out, fun _ _ _ _ => rfl, Mv.refl _ _ _, ⟨rfl, .inl ⟨rfl, rfl⟩⟩⟩
    case round =>
      obtain ⟨f, at_, acc, s1, hm1, OA, oc, rfl, rfl, rfl, hlen, hal, hb1, hb2, hgo, hA1, ho1, hmv1, hown1⟩ := hrel
      clear ha1 ha2 HR
      have HGO := Lib.hid hgo
      have HA1 := Lib.hid hA1
      have HO1 := Lib.hid ho1
      have HMV1 := Lib.hid hmv1
      have HOW1 := Lib.hid hown1
      have hsz1 := hmv1.size
      clear hgo hA1 ho1 hmv1 hown1
      by_cases hout : at_ < 0 ∨ 4096 ≤ at_
      · have hr : R = (view C hm1 s1, [], 23) := by rw [← HGO.out]; unfold textGo; rw [if_pos hout]
        subst hr
        have hfin : ∀ e, LoadK e [] 23 s1 hm1 → Stp C B sps hm g (view C hm1 s1) w wr (LoadK e [] 23) := fun e he => ⟨s1, hm1, HA1.out, rfl, HO1.out, HMV1.out, he⟩
        have HF := Lib.hid hfin
        clear hfin
        rcases Int.lt_or_le at_ 0 with hx | hx
        · have d1 : decide (at_ < 0) = true := decide_eq_true hx
          go_wp2_with fail
          rw [Exit.noGoto_ret]
          go_ret2
          exact HF.out _ rfl
        · have d1 : decide (at_ < 0) = false := decide_eq_false (by omega)
          have d2 : decide (4096 ≤ at_) = true := decide_eq_true (by omega)
          go_wp2_with fail
          rw [Exit.noGoto_ret]
          go_ret2
          exact HF.out _ rfl
      · obtain ⟨y, rfl⟩ : ∃ y : Nat, at_ = y := ⟨at_.toNat, by omega⟩
        have d1 : decide ((y : Int) < 0) = false := decide_eq_false (by omega)
        have d2 : decide (4096 ≤ (y : Int)) = false := decide_eq_false (by omega)
        obtain ⟨P, hP⟩ : ∃ P : Nat, P = y / 64 := ⟨_, rfl⟩
        have d3 : (y : Int) / 64 = (P : Int) := by omega
        have hP64 : P < 64 := by omega
        have i0 : (0 : Int) ≤ (y : Int) := by omega
        have i1 : (y : Int) < 4096 := by omega
        have hall2 : (y : Int) ≤ 9223372036854775807 := by omega
        have HN := Lib.hid (need_all ok HA1.out (upd_at _ _ _) P hP64 (by omega))
        have HOUT := Lib.hid hout
        have HAL := Lib.hid hal
        have HP := Lib.hid hP
        clear hout hal hP
        go_wp2_with fail
        refine HN.out.mono ?_
        rintro e w1 ⟨s2, hm2, hA2, hv2, ho2, hmv2, rfl⟩
        rw [upd_upd] at hA2
        have hgr2 : upd sps g (some s2) g = some s2 := upd_at _ _ _
        have hps := page_some (C := C) hA2.toRep hgr2 P
        have hoth2 : ∀ k x, k ≠ g → sps k = some x → view C hm2 x = view C hm x := fun k x hne hx => (ho2 k x hne (by rw [upd_ne _ _ _ _ hne]; exact hx)).trans (HO1.out k x hne hx)
        have hmvv := HMV1.out.trans hmv2
        have HOTH2 := Lib.hid hoth2
        have HMVV := Lib.hid hmvv
        have HPS := Lib.hid hps
        have HA2 := Lib.hid hA2
        have HV2 := Lib.hid hv2
        have HO2 := Lib.hid ho2
        have HMV2 := Lib.hid hmv2
        have hsz2 := hmv2.size
        clear hA2 hv2 ho2 hmv2 HN hoth2 hmvv hps hgr2
        cases hpg : s2.pg P with
        | none =>
          have hr : R = (view C hm2 s2, [], 23) := by
            rw [← HGO.out]
            unfold textGo
            rw [if_neg HOUT.out]
            have hpn : (view C hm2 s2).page P = none := by
              show pageOf hm2 (s2.pg P) = none
              rw [hpg]; rfl
            rw [HV2.out] at hpn
            rw [show (((y : Int) / 64).toNat) = P by have := HP.out; omega, hpn, HV2.out]
          have HRF := Lib.hid hr
          have hq := nil_eql
          unfold ptrV
          simp only [Option.map_none]
          clear hr
          go_wp2_with fail
          rw [Exit.noGoto_ret]
          go_ret2
          exact ⟨s2, hm2, HA2.out, by rw [HRF.out], HOTH2.out, HMVV.out, by rw [HRF.out]; rfl⟩
        | some r =>
          obtain ⟨⟨b0, sh0⟩, hmr⟩ := HA2.out.ref g s2 (upd_at _ _ _) P r hpg
          obtain ⟨hbl0, hbr, _⟩ := HA2.out.mem r b0 sh0 hmr
          have hq := ptr_eql2
          unfold ptrV
          simp only [Option.map_some]
          go_wp2_with fail
          have hpage : (view C hm2 s2).page P = some b0 := by
            show pageOf hm2 (s2.pg P) = some b0
            rw [hpg]
            show (hm2 r).map _ = _
            rw [hmr]; rfl
          have hkn : needA (view C hm2 s2) P = view C hm2 s2 := by rw [HV2.out, needA_twice]
          have hgo2 : textGo (f + 1) (view C hm2 s2) (y : Int) acc most = R := by
            rw [HV2.out, HP.out, textGo_need _ _ _ _ _ (by omega)]; exact HGO.out
          have hown2 : w1.ownsRow w.heap.size 5 1 (.slice OA acc.length oc) acc.length (bs acc) := own_mv HOW1.out HMV2.out hX
          have HPAGE := Lib.hid hpage
          have HKN := Lib.hid hkn
          have HGO2 := Lib.hid hgo2
          have HMR := Lib.hid hmr
          clear hpage hkn hgo2 hpg hmr hbr HPS HGO HV2 HOW1
          go_loopg [1, 8] (64 - y % 64) (fun q atv tv wr => ∃ (z f2 : Nat) (acc2 : List UInt8) (OA2 : Option Addr) (oc2 : Nat), atv = .int .i64 z ∧ tv = .slice OA2 acc2.length oc2 ∧ z / 64 = P ∧ q = 64 - z % 64 ∧ acc2.length + f2 = 4096 ∧ f2 ≤ f ∧ acc2.length ≤ z ∧
            textGo (f2 + 1) (view C hm2 s2) (z : Int) acc2 most = R ∧ All C B wr (upd sps g (some s2)) hm2 ∧ Mv B C.X w wr ∧ wr.ownsRow w.heap.size 5 1 (.slice OA2 acc2.length oc2) acc2.length (bs acc2))
          case atStart => exact ⟨y, f, acc, OA, oc, rfl, rfl, HP.out.symm, rfl, hlen, Nat.le_refl _, by have := HAL.out; omega, HGO2.out, HA2.out, HMVV.out, hown2⟩
          case round =>
            clear hown2 HAL HP HA2 HMVV HGO2
            obtain ⟨z, f2, acc2, OA2, oc2, rfl, rfl, hzP, rfl, hlen2, hf2, hal2, hgo3, hA3, hmv3, hown3⟩ := hrel
            have hst := textGo_step f2 (view C hm2 s2) z acc2 most b0 (by omega) (by rw [hzP]; exact HKN.out) (by rw [hzP]; exact HPAGE.out)
            rw [hgo3] at hst
            obtain ⟨hbl3, hbr3, _⟩ := hA3.mem r b0 sh0 HMR.out
            obtain ⟨Q, hQ⟩ : ∃ Q : Nat, Q = z % 64 := ⟨_, rfl⟩
            have hQ64 : Q < 64 := by omega
            have c2 : wr.cell? ⟨r, Q, none⟩ = some (.int .u8 (b0.getD Q 0).toNat) := by
              rw [hbr3.cell, held_byte b0 sh0 Q (by omega)]
            have d4 : (z : Int) % 64 = (Q : Int) := by omega
            have i2 : (z : Int) < 4096 := by omega
            have i3 : (0 : Int) ≤ (z : Int) := by omega
            rw [← hQ] at hst
            have HST := Lib.hid hst
            have HA3 := Lib.hid hA3
            have HMV3 := Lib.hid hmv3
            have HQ := Lib.hid hQ
            have HZP := Lib.hid hzP
            clear hst hA3 hmv3 hgo3 hbr3 hbl3 hQ hzP i0 i1 d1 d2 d3
            obtain ⟨c, hc⟩ : ∃ c, c = b0.getD Q 0 := ⟨_, rfl⟩
            rw [← hc] at c2
            have HC := Lib.hid hc
            clear hc
            by_cases h0 : c = 0
            · subst h0
              have hr : R = (view C hm2 s2, acc2, 0) := by rw [HST.out, if_pos HC.out.symm]
              have HR3 := Lib.hid hr
              clear hr
              have hconv : (convert 27 9 (.slice OA2 acc2.length oc2)).run Try.prog wr = .ok (.string ⟨acc2.toArray⟩) wr := run_convert_string Try.underlying27 Try.underlying5 Try.underlying9 (RdB.of_own hown3 rfl)
              go_wp2_with fail
              rw [Exit.noGoto_ret]
              go_ret2
              exact ⟨s2, hm2, HA3.out, by rw [HR3.out], HOTH2.out, HMV3.out, by rw [HR3.out]; rfl⟩
            · have e2 : ((c.toNat : Int) == 0) = false := beq_eq_false_iff_ne.2 (fun h => h0 (UInt8.toNat_inj.1 (by simpa using h)))
              by_cases hmo : (acc2.length : Int) = most
              · have hr : R = (view C hm2 s2, [], 5) := by rw [HST.out, if_neg (fun h => h0 (HC.out.trans h)), if_pos hmo]
                have HR3 := Lib.hid hr
                have e3 : ((acc2.length : Int) == most) = true := beq_iff_eq.2 hmo
                clear hr hmo
                go_wp2_with fail
                rw [Exit.noGoto_ret]
                go_ret2
                exact ⟨s2, hm2, HA3.out, by rw [HR3.out], HOTH2.out, HMV3.out, by rw [HR3.out]; rfl⟩
              · have hr : textGo f2 (view C hm2 s2) ((z : Int) + 1) (acc2 ++ [c]) most = R := by rw [HST.out, if_neg (fun h => h0 (HC.out.trans h)), if_neg hmo, HC.out]
                have HR3 := Lib.hid hr
                have e3 : ((acc2.length : Int) == most) = false := beq_eq_false_iff_ne.2 hmo
                clear hr hmo
                have hf1 : f2 ≠ 0 := by intro h; omega
                obtain ⟨k, rfl⟩ : ∃ k, f2 = k + 1 := ⟨f2 - 1, by omega⟩
                have hszr := HMV3.out.size
                have hA4 : ∀ gg oc4 w4, World.ownsRow w4 w.heap.size 5 1 (.slice (some ⟨gg, 0, none⟩) (acc2.length + 1) oc4) (acc2.length + 1) (bs acc2 ++ [.int .u8 c.toNat]) → World.grownBy (wr.alloc (.cells #[.int .u8 c.toNat] 5)) w4 (Value.slice OA2 acc2.length oc2).ownBlock → All C B w4 (upd sps g (some s2)) hm2 ∧ Mv B C.X w w4 := by
                  intro gg oc4 w4 ho4 hg4
                  have hbel : Below wr.heap.size wr (wr.alloc (.cells #[.int .u8 c.toNat] 5)) := (Below.refl _ _).alloc (Nat.le_refl _) _
                  have hA5 := HA3.out.below ok.keeps hbel
                  have hbk := own_blk (hown3.alloc (.cells #[.int .u8 c.toNat] 5))
                  refine ⟨hA5.rows ok.keeps hg4 (fun q hq => ?_), ?_⟩
                  · obtain ⟨cs, hcs⟩ := hbk q hq
                    exact ⟨cs, 5, hcs, .inl rfl⟩
                  · have hlow := (hown3.lt)
                    have hb0 : Below w.heap.size wr w4 := ((Below.refl _ _).alloc (by omega) _).grown hg4 (by simp; omega) (fun q hq => (hown3.lt q hq).1)
                    exact Mv.of_below_row HMV3.out hb0
                have HA4 := Lib.hid hA4
                clear hA4
                have hbs : bs acc2 ++ [.int .u8 c.toNat] = bs (acc2 ++ [c]) := by rw [bs_append]; rfl
                by_cases hq6 : Q = 63
                · have e5 : ((Q : Int) == 63) = true := beq_iff_eq.2 (by omega)
                  have HQ6 := Lib.hid hq6
                  clear hq6
                  go_wp2_with (at_builtin; refine wpList_append_lies _ rfl (.tmp 44) (.tmp 46) _ rfl w.heap.size 5 i5 _ 1 1 Try.underlying27 hi hz0 hz1 hz2 rfl (by omega) (.slice OA2 acc2.length oc2) acc2.length (bs acc2) rfl (hown3.alloc _) ⟨wr.heap.size, 0, none⟩ 1 1 [.int .u8 c.toNat] rfl rfl (World.news_of_block (t := 5) (fr := (0, 0)) (heap_alloc_new wr _)) (by simp [Value.oneCell']) (by omega) (by unfold maxLen; omega) (by omega) (by simp; omega) (wr.heap.size + 1) (by simp) ?_; intro gg oc4 w4 hown4 hgrow4 hat4 hlt4)
                  have h4 := HA4.out _ _ _ hown4 hgrow4
                  rw [hbs] at hown4
                  go_roundg (k + 1)
                  case measure => omega
                  case rel => exact ⟨k, (z : Int) + 1, acc2 ++ [c], s2, hm2, _, _, by go_num, by rw [List.length_append]; rfl, rfl, by rw [List.length_append]; show acc2.length + 1 + k = 4096; omega, .inr (by rw [List.length_append]; show ((acc2.length + 1 : Nat) : Int) ≤ (z : Int) + 1 ∧ _; omega), by omega, by omega, HR3.out, h4.1, HOTH2.out, h4.2, by rw [List.length_append]; exact hown4⟩
                · have e5 : ((Q : Int) == 63) = false := beq_eq_false_iff_ne.2 (by omega)
                  go_wp2_with (at_builtin; refine wpList_append_lies _ rfl (.tmp 44) (.tmp 46) _ rfl w.heap.size 5 i5 _ 1 1 Try.underlying27 hi hz0 hz1 hz2 rfl (by omega) (.slice OA2 acc2.length oc2) acc2.length (bs acc2) rfl (hown3.alloc _) ⟨wr.heap.size, 0, none⟩ 1 1 [.int .u8 c.toNat] rfl rfl (World.news_of_block (t := 5) (fr := (0, 0)) (heap_alloc_new wr _)) (by simp [Value.oneCell']) (by omega) (by unfold maxLen; omega) (by omega) (by simp; omega) (wr.heap.size + 1) (by simp) ?_; intro gg oc4 w4 hown4 hgrow4 hat4 hlt4)
                  have h4 := HA4.out _ _ _ hown4 hgrow4
                  rw [hbs] at hown4
                  go_roundg (64 - (z + 1) % 64)
                  case measure => have := HQ.out; omega
                  case rel => exact ⟨z + 1, k, acc2 ++ [c], _, _, by go_num, by rw [List.length_append]; rfl, by have := HQ.out; have := HZP.out; omega, rfl, by rw [List.length_append]; show acc2.length + 1 + k = 4096; omega, by omega, by rw [List.length_append]; show acc2.length + 1 ≤ z + 1; omega, by rw [← HR3.out]; rfl, h4.1, h4.2, by rw [List.length_append]; exact hown4⟩
end
end Go.Proofs.Ytbppafbdmdbdiaa

/-
  Text of a space without a source.
-/
namespace Go.Proofs.Ytbppafbdmdbdiaa
open Go.RowKit
variable {B : Nat} {w w' : World} {g : Nat} {a : AS}
theorem text_on (h : On B w g a) (x most : Int) (ha1 : -9223372036854775808 ≤ x) (ha2 : x ≤ 9223372036854775807) :
    Calls Try.prog 16 #[.pointer (some ⟨g, 0, none⟩), .int .i64 x, .int .i64 most] w fun e w' => e = .returned (.tuple #[.string ⟨(textA a x most).2.1.toArray⟩, .int .i64 (textA a x most).2.2]) ∧ On B w' g (textA a x most).1 ∧ Below B w w' := by
  obtain ⟨⟨sps, hm, s, h1, h2, rfl⟩, hB⟩ := h
  refine (text_all (ok0 B) h1 h2 x most hB ha1 ha2 (fun k hk => hk.elim)).mono ?_
  intro e w' hs
  have := On.step hB hs
  obtain ⟨s', hm', _, _, _, _, hK⟩ := hs
  exact ⟨hK, this⟩
end Go.Proofs.Ytbppafbdmdbdiaa
