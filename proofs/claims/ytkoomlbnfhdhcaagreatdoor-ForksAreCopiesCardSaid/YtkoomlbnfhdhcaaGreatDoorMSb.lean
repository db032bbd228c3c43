/-
  Walks: need, with and without a source.
-/
import Derived.Test.YtkoomlbnfhdhcaaGreatDoorMSa
namespace Go.Proofs.YtkoomlbnfhdhcaaGreatDoor
open Go.RowKit
set_option linter.unusedVariables false

/-- What asking a source answers. -/
def FetchRet (C : Source) (w : World) (p : Nat) (e : Ending) (w' : World) : Prop := match C.src p with
  | none => e = .returned (ptrV none)
  | some b => ∃ h, w.heap.size ≤ h ∧ e = .returned (ptrV (some h)) ∧ Blk w' h 125 (heldCells (padL b) false)
def fetchV (box : Nat) : Value := .func (.func 36) #[] #[.pointer (some ⟨box, 0, none⟩)]
structure SourceOk (C : Source) (B : Nat) : Prop where
  keeps : Keeps C B
  low : ∀ k, C.X k → B ≤ k
  apart : ∀ w a k, C.E a w → C.X k → ¬ SpT w k
  val : ∃ box, C.val = fetchV box
  call : ∀ box, C.val = fetchV box → ∀ w a p, p < 64 → B ≤ w.heap.size → C.E a w → a p = false →
    Calls Tryz.prog 36 #[.int .i64 p, .pointer (some ⟨box, 0, none⟩)] w fun e w' => FetchRet C w p e w' ∧ C.E (upd a p true) w' ∧ Only C.X w w'

/-- A step of one space. -/
def Stp (C : Source) (B : Nat) (sps : Nat → Option Sp) (hm : Pages) (g : Nat) (a' : AS) (w w' : World) (K : Sp → Pages → Prop) : Prop :=
  ∃ s' hm', All C B w' (upd sps g (some s')) hm' ∧ view C hm' s' = a' ∧ (∀ k x, k ≠ g → sps k = some x → view C hm' x = view C hm x) ∧ Mv B C.X w w' ∧ K s' hm'

theorem need_known (w : World) (g p : Nat) (s : Sp) (hb : Blk w g 98 (spCells s)) (hp : p < 64) (hk : s.known p = true) :
    Calls Tryz.prog 41 #[.pointer (some ⟨g, 0, none⟩), .int .i64 p] w fun e w' => e = .returned (ptrV (s.pg p)) ∧ w = w' := by
  have k1 : w.cell? ⟨g, 1 + p, none⟩ = some (.bool (s.known p)) := (hb.cell _).trans (sp_known s p hp)
  have k2 : w.cell? ⟨g, 193 + p, none⟩ = some (ptrV (s.pg p)) := (hb.cell _).trans (sp_pg s p hp)
  have i1 : (p : Int) < 64 := by omega
  have i0 : (0 : Int) ≤ (p : Int) := by omega
  rw [hk] at k1
  clear hk
  go_enter Tryz.func41, Tryz.ntmps41
  go_wp2_with fail
  go_ret
  exact ⟨rfl, rfl⟩

theorem fn_some81 (W : World) (box : Nat) : (binOp BinOp.neq 93 (fetchV box) Value.nilFunc).run Tryz.prog W = .ok (.bool true) W := by kernel_rfl

set_option maxRecDepth 100000 in
set_option maxHeartbeats 4000000 in
/-- need of a page that is not known, with a source; told by blocks. -/
theorem need_src (w : World) (g p box : Nat) (s : Sp) (hb : Blk w g 98 (spCells s)) (hp : p < 64) (hk : s.known p = false) (hf : s.fetch = fetchV box)
    (F : World → Ending → World → Prop) (hcall : ∀ w1, Blk w1 g 98 (spCells { s with known := upd s.known p true, asked := upd s.asked p true }) → Fr [g] w w1 →
      Calls Tryz.prog 36 #[.int .i64 p, .pointer (some ⟨box, 0, none⟩)] w1 fun e w2 => ∃ o, e = .returned (ptrV o) ∧ Blk w2 g 98 (spCells { s with known := upd s.known p true, asked := upd s.asked p true }) ∧ F w1 (.returned (ptrV o)) w2) :
    Calls Tryz.prog 41 #[.pointer (some ⟨g, 0, none⟩), .int .i64 p] w fun e w' => ∃ w1 w2 o, e = .returned (ptrV o) ∧ Fr [g] w w1 ∧ F w1 (.returned (ptrV o)) w2 ∧ Fr [g] w2 w' ∧
      Blk w' g 98 (spCells { s with known := upd s.known p true, asked := upd s.asked p true, pg := upd s.pg p o }) := by
  have k1 : w.cell? ⟨g, 1 + p, none⟩ = some (.bool false) := by rw [hb.cell, sp_known s p hp, hk]
  have k0 : w.cell? ⟨g, 0, none⟩ = some (fetchV box) := by rw [hb.cell, sp_fetch, hf]
  have k3 : w.cell? ⟨g, 65 + p, none⟩ = some (.bool (s.asked p)) := (hb.cell _).trans (sp_asked s p hp)
  have f1 := hb.frozen (1 + p)
  have f3 := hb.frozen (65 + p)
  have i1 : (p : Int) < 64 := by omega
  have i0 : (0 : Int) ≤ (p : Int) := by omega
  have n1 : 1 + p ≠ 0 := by omega
  have n2 : 1 + p ≠ 65 + p := by omega
  have n3 : 65 + p ≠ 0 := by omega
  have hq := fn_some81
  have hb1 : Blk (w.setCell ⟨g, 1 + p, none⟩ (.bool true)) g 98 (spCells { s with known := upd s.known p true }) := by have := hb.set_ (1 + p) (.bool true); rw [sp_set_known s p true hp] at this; exact this
  have hb2 : Blk ((w.setCell ⟨g, 1 + p, none⟩ (.bool true)).setCell ⟨g, 65 + p, none⟩ (.bool true)) g 98 (spCells { s with known := upd s.known p true, asked := upd s.asked p true }) := by
    have := hb1.set_ (65 + p) (.bool true); rw [sp_set_asked _ p true hp] at this; exact this
  have hf2 : Fr [g] w ((w.setCell ⟨g, 1 + p, none⟩ (.bool true)).setCell ⟨g, 65 + p, none⟩ (.bool true)) := ((Fr.refl _ _).setCell (.inl (by simp)) _).setCell (.inl (by simp)) _
  have HB := Lib.hid hb2
  have HF := Lib.hid hf2
  have HFT := Lib.hid hf
  clear hk hf hb1 hb2 hf2
  unfold fetchV at k0
  unfold fetchV at hq
  go_enter Tryz.func41, Tryz.ntmps41
  go_upto_region 5 with (fail)
  have hb2 := HB.out.drew
  have hf2 := HF.out.drew
  clear HB HF k0 k1 k3 f1 f3 n1 n2 n3 hq
  generalize ((w.setCell ⟨g, 1 + p, none⟩ (.bool true)).setCell ⟨g, 65 + p, none⟩ (.bool true)) = W0 at *
  have c0 : W0.drew.cell? ⟨g, 0, none⟩ = some (.func (.func 36) #[] #[.pointer (some ⟨box, 0, none⟩)]) := by
    rw [hb2.cell, sp_fetch]
    exact congrArg some HFT.out
  refine wp_region_mixL (fun W => W.cell? ⟨g, 0, none⟩ = some (.func (.func 36) #[] #[.pointer (some ⟨box, 0, none⟩)])) [5] [7, 11] [0, 1, 2, 3, 4, 5, 6, 8, 9, 7, 10, 11] (by kernel_rfl) (by kernel_rfl) c0 ?_
  simp only [inOrder, opAt]
  generalize W0.drew = W1 at *
  clear c0
  iterate 9
    (refine wpMixS_read (v := ?_) rfl rfl (fun w' hS => ?_) ?_
     rotate_left
     · ((try (have s0 := hS rfl)); (try clear hS); go_simp; (try with_reducible rfl))
     try simp only [Act.put, List.setIfInBounds_toArray, List.set_cons_zero, List.set_cons_succ])
  refine wpMixS_eff rfl rfl (fun K hK => ?_)
  go_simp
  refine (hcall W1 hb2 hf2).mono ?_
  rintro e W2 ⟨o, rfl, hb3, hF⟩
  have hA : ptrV o = .pointer (o.map fun g => ⟨g, 0, none⟩) := rfl
  have hb4 := hb3.set_ (193 + p) (ptrV o)
  rw [sp_set_pg _ p o hp] at hb4
  have HB4 := Lib.hid hb4
  have HFo := Lib.hid hF
  clear hF hb4
  rw [hA] at HB4 HFo ⊢
  obtain ⟨A, hAe⟩ : ∃ A : Option Addr, A = o.map fun g => ⟨g, 0, none⟩ := ⟨_, rfl⟩
  rw [← hAe] at HB4 HFo ⊢
  have HA := Lib.hid (hAe ▸ hA : ptrV o = .pointer A)
  clear hA hAe
  dsimp only
  refine hK.out _ _ _ (fun _ h => h) (fun h => by cases h) ?_
  clear hK K
  try simp only [Act.put, List.setIfInBounds_toArray, List.set_cons_zero, List.set_cons_succ]
  iterate 1
    (refine wpMixS_read (v := ?_) rfl rfl (fun w' hS => ?_) ?_
     rotate_left
     · ((try (have s0 := hS rfl)); (try clear hS); go_simp; (try with_reducible rfl))
     try simp only [Act.put, List.setIfInBounds_toArray, List.set_cons_zero, List.set_cons_succ])
  have f1 := hb3.frozen (193 + p)
  have k1 : W2.cell? ⟨g, 193 + p, none⟩ = some (ptrV (s.pg p)) := (hb3.cell _).trans (sp_pg _ p hp)
  refine wpMixS_eff rfl rfl (fun K hK => ?_)
  go_simp
  refine hK.out _ _ _ (fun _ h => h) (fun h => by cases h) ?_
  clear hK K
  try simp only [Act.put, List.setIfInBounds_toArray, List.set_cons_zero, List.set_cons_succ]
  refine wpMixS_nil ?_
  have hz := hb3.lt
  have hb4 := HB4.out
  have k5 : (W2.setCell ⟨g, 193 + p, none⟩ (.pointer A)).cell? ⟨g, 193 + p, none⟩ = some (.pointer A) := by
    rw [hb4.cell, sp_pg _ p hp, ← HA.out]
    show some (ptrV (upd s.pg p o p)) = _
    rw [upd_at]
  have hfr : Fr [g] W2 (W2.setCell ⟨g, 193 + p, none⟩ (.pointer A)) := (Fr.refl _ _).setCell (.inl (by simp)) _
  have HFR := Lib.hid hfr
  clear hb3 f1 k1 hfr hb4
  generalize W2.setCell ⟨g, 193 + p, none⟩ (.pointer A) = W3 at *
  go_wp2_with fail
  go_ret
  exact ⟨W1, W2, o, by rw [HA.out]; rfl, hf2, by rw [HA.out]; exact HFo.out, HFR.out, HB4.out⟩
end Go.Proofs.YtkoomlbnfhdhcaaGreatDoor

/-
  need, told for all spaces.
-/
namespace Go.Proofs.YtkoomlbnfhdhcaaGreatDoor
open Go.RowKit
set_option linter.unusedVariables false

theorem upd_upd {α : Type} (f : Nat → α) (g : Nat) (a b : α) : upd (upd f g a) g b = upd f g b := by
  funext q
  unfold upd
  split <;> rfl
theorem fetch_ne (box : Nat) : fetchV box ≠ .nilFunc := by intro h; cases h
theorem srcOf_fetch (C : Source) (box : Nat) : srcOf C (fetchV box) = some C.src := rfl

section
variable {C : Source} {B : Nat} {w w' : World} {sps : Nat → Option Sp} {hm : Pages} {g : Nat} {s : Sp}

/-- A page's look is not touched by a page that nobody held. -/
theorem view_new (h : Rep B w sps hm) (q : Nat) (hnew : ∀ c, hm q ≠ some c) (v : Option (List UInt8 × Bool)) (k : Nat) (x : Sp) (hx : sps k = some x) (p : Nat) : pageOf (upd hm q v) (x.pg p) = pageOf hm (x.pg p) := by
  cases hp : x.pg p with
  | none => rfl
  | some r =>
    obtain ⟨c, hc⟩ := h.ref k x hx p r hp
    have hne : r ≠ q := fun e => hnew c (e ▸ hc)
    show (upd hm q v r).map _ = (hm r).map _
    rw [upd_ne _ _ _ _ hne]

/-- All pages are known. -/
def Kn (s : Sp) : Prop := ∀ p, p < 64 → s.known p = true
/-- What need returns, and which blocks stay. -/
def NeedK (e : Ending) (p : Nat) (s : Sp) (hm : Pages) : Sp → Pages → Prop := fun s' hm' => e = .returned (ptrV (s'.pg p)) ∧ (∀ q, q ≠ p → s'.pg q = s.pg q) ∧ (∀ r c, hm r = some c → hm' r = some c) ∧ (s.known p = true → s' = s ∧ hm' = hm)
theorem need_more (ok : SourceOk C B) (h : All C B w sps hm) (hg : sps g = some s) (p : Nat) (hp : p < 64) (hB : B ≤ w.heap.size) :
    Calls Tryz.prog 41 #[.pointer (some ⟨g, 0, none⟩), .int .i64 p] w fun e w' => Stp C B sps hm g (needA (view C hm s) p) w w' (NeedK e p s hm) := by
  obtain ⟨hblk, hBg⟩ := h.blk g s hg
  cases hk : s.known p with
  | true =>
    refine (need_known w g p s hblk hp hk).mono ?_
    rintro e w' ⟨rfl, rfl⟩
    have hs : upd sps g (some s) = sps := upd_same _ _ _ hg
    refine ⟨s, hm, by rw [hs]; exact h, ?_, fun _ _ _ _ => rfl, Mv.refl _ _ _, rfl, fun _ _ => rfl, fun _ _ h => h, fun _ => ⟨rfl, rfl⟩⟩
    unfold needA
    rw [if_pos (by exact hk)]
  | false =>
    obtain ⟨ha0, hpg0⟩ := h.inv g s hg p hk
    rcases Classical.em (s.fetch = .nilFunc) with hf | hf
    · refine (need_nil w g p s hblk hp hf).mono ?_
      rintro e w' ⟨rfl, hb', hw⟩
      refine ⟨needN s p, hm, h.flags ok.keeps hg (needN s p) rfl (fun _ h => h) rfl (fun q hq => ?_) hw hb', ?_, fun _ _ _ _ => rfl, (h.toRep.fr_sp hg hw).more, rfl, fun _ _ => rfl, fun _ _ h => h, fun h => (by rw [hk] at h; cases h)⟩
      · refine h.inv g s hg q ?_
        by_cases e : q = p
        · rw [e]; exact hk
        · have : (needN s p).known q = s.known q := upd_ne _ _ _ _ e
          rw [← this]; exact hq
      · unfold needA
        rw [if_neg (by show ¬ (s.known p = true); rw [hk]; simp)]
        show _ = match srcOf C s.fetch with | none => _ | some f => _
        rw [hf]
        show _ = { view C hm s with known := upd s.known p true }
        unfold view needN
        rw [hf]
    · have hroot : g = C.root := by
        rcases Classical.em (g = C.root) with e | e
        · exact e
        · exact absurd (h.nosrc g s hg e) hf
      obtain ⟨box, hbox⟩ := ok.val
      have henv : s.fetch = C.val ∧ C.E s.asked w := by
        rcases h.env s (hroot ▸ hg) with e | e
        · exact absurd e hf
        · exact e
      have hfv : s.fetch = fetchV box := henv.1.trans hbox
      refine (need_src w g p box s hblk hp hk hfv (fun w1 e w2 => FetchRet C w1 p e w2 ∧ C.E (upd s.asked p true) w2 ∧ Only C.X w1 w2 ∧ Blk w1 g 98 (spCells { s with known := upd s.known p true, asked := upd s.asked p true })) (fun w1 hb1 hw1 => ?_)).mono ?_
      · have hE1 : C.E s.asked w1 := ok.keeps _ _ _ henv.2 (h.toRep.fr_sp hg hw1).toE
        refine (ok.call box hbox w1 s.asked p hp (Nat.le_trans hB hw1.size) hE1 ha0).mono ?_
        rintro e w2 ⟨hr, hE2, ho⟩
        have hXg : ¬ C.X g := fun hx => ok.apart w1 _ g hE1 hx (spT_86 hb1)
        have hr' := hr
        unfold FetchRet at hr'
        cases hsrc : C.src p with
        | none =>
          rw [hsrc] at hr'
          refine ⟨none, hr', ho.blk hb1 hXg, ?_, hE2, ho, hb1⟩
          rw [← hr']; exact hr
        | some b =>
          rw [hsrc] at hr'
          obtain ⟨q, hq1, hq2, hq3⟩ := hr'
          refine ⟨some q, hq2, ho.blk hb1 hXg, ?_, hE2, ho, hb1⟩
          rw [← hq2]; exact hr
      · rintro e w3 ⟨w1, w2, o, rfl, hw1, ⟨hr, hE2, ho, hb1⟩, hw3, hb3⟩
        have hE1 : C.E s.asked w1 := ok.keeps _ _ _ henv.2 (h.toRep.fr_sp hg hw1).toE
        have hX1 : ∀ k, C.X k → ¬ SpT w1 k := fun k hx => ok.apart w1 _ k hE1 hx
        have hinv : ∀ q, upd s.known p true q = false → upd s.asked p true q = false ∧ s.pg q = none := fun q hq => by
          by_cases e : q = p
          · rw [e, upd_at] at hq; cases hq
          · rw [upd_ne _ _ _ _ e] at hq
            rw [upd_ne _ _ _ _ e]
            exact h.inv g s hg q hq
        have hinv3 : ∀ q, upd s.known p true q = false → upd s.asked p true q = false ∧ upd s.pg p o q = none := fun q hq => by
          by_cases e : q = p
          · rw [e, upd_at] at hq; cases hq
          · rw [upd_ne s.pg _ _ _ e]; exact hinv q hq
        have hA1 := h.bare_.flags (bare_keeps C B) hg { s with known := upd s.known p true, asked := upd s.asked p true } rfl (fun _ h => h) rfl hinv hw1 hb1
        have hA2 := hA1.only ho hX1
        have hg2 : upd sps g (some { s with known := upd s.known p true, asked := upd s.asked p true }) g = some { s with known := upd s.known p true, asked := upd s.asked p true } := upd_at _ _ _
        have hmv : Mv B C.X w w3 := ((h.toRep.fr_sp hg hw1).more.trans (ho.mv ok.low)).trans (hA2.toRep.fr_sp hg2 hw3).more
        have hE3 : C.E (upd s.asked p true) w3 := ok.keeps _ _ _ hE2 (hA2.toRep.fr_sp hg2 hw3).toE
        have hneed : needA (view C hm s) p = { view C hm s with known := upd s.known p true, asked := upd s.asked p true, page := upd (fun q => pageOf hm (s.pg q)) p ((C.src p).map padL) } := by
          unfold needA
          rw [if_neg (by show ¬ (s.known p = true); rw [hk]; simp)]
          show (match srcOf C s.fetch with | none => _ | some f => _) = _
          rw [hfv, srcOf_fetch]
          rfl
        unfold FetchRet at hr
        cases hsrc : C.src p with
        | none =>
          rw [hsrc] at hr
          have ho0 : o = none := by
            injection hr with hr
            cases o with
            | none => rfl
            | some q => cases hr
          subst ho0
          have hA3 := hA2.take (bare_keeps C B) hg2 p { s with known := upd s.known p true, asked := upd s.asked p true, pg := upd s.pg p none } rfl (fun _ h => h) rfl hinv3 hw3 hb3
          rw [upd_upd] at hA3
          refine ⟨_, hm, hA3.of_bare fun x hx => ?_, ?_, fun _ _ _ _ => rfl, hmv, ?_⟩
          · rw [← hroot, upd_at] at hx
            injection hx with hx
            subst hx
            exact .inr hE3
          · rw [hneed, hsrc]
            unfold view
            congr 1
            funext q
            show pageOf hm (upd s.pg p none q) = upd _ p none q
            by_cases e : q = p
            · rw [e, upd_at, upd_at]; rfl
            · rw [upd_ne _ _ _ _ e, upd_ne _ _ _ _ e]
          · refine ⟨?_, fun q hq => upd_ne _ _ _ _ hq, fun _ _ h => h, fun h => (by rw [hk] at h; cases h)⟩
            show _ = Ending.returned (ptrV (upd s.pg p none p))
            rw [upd_at]
        | some b =>
          rw [hsrc] at hr
          obtain ⟨q, hq1, hq2, hq3⟩ := hr
          have ho0 : o = some q := by
            injection hq2 with hq2
            cases o with
            | none => cases hq2
            | some r =>
              injection hq2 with hq2
              simp at hq2
              rw [hq2]
          subst ho0
          have hnew : ∀ c, hm q ≠ some c := fun c hc => by
            obtain ⟨b1, sh1⟩ := c
            have := (hA1.mem q b1 sh1 hc).2.1.lt
            omega
          have hqg : q ≠ g := by have := hb1.lt; omega
          have hA3 := hA2.put (bare_keeps C B) hg2 p { s with known := upd s.known p true, asked := upd s.asked p true, pg := upd s.pg p (some q) } q (padL b) rfl (fun _ h => h) rfl hinv3 (padL_length b) hw3 hb3 hnew (by have := hw1.size; omega) (hq3.fr hw3 (by simpa using hqg))
          rw [upd_upd] at hA3
          refine ⟨_, _, hA3.of_bare fun x hx => ?_, ?_, fun k x hne hx => ?_, hmv, ?_⟩
          · rw [← hroot, upd_at] at hx
            injection hx with hx
            subst hx
            exact .inr hE3
          · rw [hneed, hsrc]
            unfold view
            congr 1
            funext r
            show pageOf (upd hm q (some (padL b, false))) (upd s.pg p (some q) r) = upd _ p (some (padL b)) r
            by_cases e : r = p
            · rw [e, upd_at, upd_at]
              show (upd hm q _ q).map _ = _
              rw [upd_at]; rfl
            · rw [upd_ne _ _ _ _ e, upd_ne _ _ _ _ e]
              exact view_new h.toRep q hnew _ g s hg r
          · unfold view
            congr 1
            funext r
            exact view_new h.toRep q hnew _ k x hx r
          · refine ⟨?_, fun r hr => upd_ne _ _ _ _ hr, fun r c hr => ?_, fun h => (by rw [hk] at h; cases h)⟩
            · show _ = Ending.returned (ptrV (upd s.pg p (some q) p))
              rw [upd_at]
            · rw [upd_ne _ _ _ _ (fun e => hnew c (by rw [← e]; exact hr))]; exact hr
theorem Stp.weak {a' : AS} {K K' : Sp → Pages → Prop} (h : Stp C B sps hm g a' w w' K) (hk : ∀ s hm, K s hm → K' s hm) : Stp C B sps hm g a' w w' K' := by
  obtain ⟨s', hm', h1, h2, h3, h4, h5⟩ := h
  exact ⟨s', hm', h1, h2, h3, h4, hk _ _ h5⟩
theorem need_all (ok : SourceOk C B) (h : All C B w sps hm) (hg : sps g = some s) (p : Nat) (hp : p < 64) (hB : B ≤ w.heap.size) :
    Calls Tryz.prog 41 #[.pointer (some ⟨g, 0, none⟩), .int .i64 p] w fun e w' => Stp C B sps hm g (needA (view C hm s) p) w w' (fun s' _ => e = .returned (ptrV (s'.pg p))) :=
  (need_more ok h hg p hp hB).mono fun e w' h => h.weak fun _ _ h => h.1
end
end Go.Proofs.YtkoomlbnfhdhcaaGreatDoor

/-
  Walks: slices.Index and Contains of pages, access.
-/
namespace Go.Proofs.YtkoomlbnfhdhcaaGreatDoor
open Go.RowKit
set_option linter.unusedVariables false

theorem ptr_eql (W : World) (q : Nat) : (binOp BinOp.eql 95 (.pointer none) (.pointer (some ⟨q, 0, none⟩))).run Tryz.prog W = .ok (.bool false) W := by kernel_rfl
theorem ptr_eql2 (W : World) (q : Nat) : (binOp BinOp.eql 95 (.pointer (some ⟨q, 0, none⟩)) (.pointer none)).run Tryz.prog W = .ok (.bool false) W := by kernel_rfl
theorem nil_eql (W : World) : (binOp BinOp.eql 95 (.pointer none) (.pointer none)).run Tryz.prog W = .ok (.bool true) W := by kernel_rfl
theorem ptr_neq2 (W : World) (q : Nat) : (binOp BinOp.neq 95 (.pointer (some ⟨q, 0, none⟩)) (.pointer none)).run Tryz.prog W = .ok (.bool true) W := by kernel_rfl
theorem nil_neq (W : World) : (binOp BinOp.neq 95 (.pointer none) (.pointer none)).run Tryz.prog W = .ok (.bool false) W := by kernel_rfl
theorem ret_int {k : IntKind} {a b : Int} (h : a = b) : Ending.returned (.int k a) = .returned (.int k b) := by rw [h]

set_option maxRecDepth 100000 in
set_option maxHeartbeats 1000000 in
theorem index_held (w : World) (b off n cap : Nat) (hn : n ≤ 64) (h : ∀ i, i < n → ∃ q, w.cell? ⟨b, off + i, none⟩ = some (ptrV (some q))) :
    Calls Tryz.prog 189 #[.slice (some ⟨b, off, none⟩) n cap, .pointer none] w fun e w' => e = .returned (.int .i64 (-1)) ∧ w = w' := by
  have H := Lib.hid h
  clear h
  go_enter Tryz.func189, Tryz.ntmps189
  go_wp2_with fail
  go_loopg [8] n (fun q iv wr => wr = w ∧ ∃ k : Nat, iv = .int .i64 k ∧ q = n - k ∧ k ≤ n)
  case atStart => exact ⟨rfl, 0, rfl, by omega, by omega⟩
  case round =>
    obtain ⟨rfl, k, rfl, rfl, hk⟩ := hrel
    by_cases hlt : k < n
    · have i1 : (k : Int) < n := by omega
      obtain ⟨q, hc⟩ := H.out k hlt
      unfold ptrV at hc
      simp only [Option.map_some] at hc
      have hq := ptr_eql
      go_wp2_with fail
      go_roundg (n - (k + 1))
      case measure => omega
      case rel => exact ⟨rfl, k + 1, by go_num, rfl, by omega⟩
    · obtain rfl : k = n := by omega
      have i1 : decide ((k : Int) < k) = false := decide_eq_false (by omega)
      go_wp2_with fail
      go_ret
      exact ⟨rfl, rfl⟩

theorem contains_held (w : World) (b off n cap : Nat) (hn : n ≤ 64) (h : ∀ i, i < n → ∃ q, w.cell? ⟨b, off + i, none⟩ = some (ptrV (some q))) :
    Calls Tryz.prog 160 #[.slice (some ⟨b, off, none⟩) n cap, .pointer none] w fun e w' => e = .returned (.bool false) ∧ w = w' := by
  go_enter Tryz.func160, Tryz.ntmps160
  go_wp2_with fail
  refine (index_held w b off n cap hn h).mono ?_
  rintro e w' ⟨rfl, rfl⟩
  dsimp only
  go_wp2_with fail
  go_ret
  exact ⟨rfl, rfl⟩

/-- The pages from p on, c of them, are needed until one is not there. -/
def reachA : Nat → Nat → AS → AS × Bool
  | 0, _, a => (a, true)
  | c + 1, p, a => if ((needA a p).page p).isSome then reachA c (p + 1) (needA a p) else (needA a p, false)
def errOf (b : Bool) : Nat := if b then 0 else 23
/-- access: the space behind it, and the error. -/
def accessA (a : AS) (at_ n : Int) : AS × Nat :=
  if n = 0 then (a, 0) else if at_ < 0 ∨ 4096 ≤ at_ ∨ 4096 - at_ < n then (a, 23)
  else let r := reachA (((at_ + n - 1) / 64).toNat + 1 - (at_ / 64).toNat) (at_ / 64).toNat a
    (r.1, errOf r.2)

/-- What access returns, and which pages are there then. -/
def AccK (e : Ending) (r : Nat) (at_ n : Int) : Sp → Pages → Prop := fun s' _ => e = .returned (.int .i64 r) ∧ (r = 0 → ∀ i : Int, 0 ≤ i → i < n → (s'.pg ((at_ + i) / 64).toNat).isSome = true)

/-- .. and if all pages are known nothing changes. -/
def AccKM (e : Ending) (r : Nat) (at_ n : Int) (s : Sp) (hm : Pages) : Sp → Pages → Prop := fun s' hm' => AccK e r at_ n s' hm' ∧ (Kn s → s' = s ∧ hm' = hm)
theorem needA_page_ne (a : AS) (p q : Nat) (h : q ≠ p) : (needA a p).page q = a.page q := by
  unfold needA
  split
  · rfl
  · split
    · rfl
    · exact upd_ne _ _ _ _ h

section
variable {C : Source} {B : Nat} {w w' : World} {sps : Nat → Option Sp} {hm : Pages} {g : Nat} {s : Sp}
theorem page_some (h : Rep B w sps hm) (hg : sps g = some s) (p : Nat) : ((view C hm s).page p).isSome = (s.pg p).isSome := by
  show (pageOf hm (s.pg p)).isSome = _
  cases hp : s.pg p with
  | none => rfl
  | some q =>
    obtain ⟨c, hc⟩ := h.ref g s hg p q hp
    show ((hm q).map _).isSome = _
    rw [hc]; rfl

set_option maxRecDepth 100000 in
set_option maxHeartbeats 8000000 in
theorem access_more (ok : SourceOk C B) (h : All C B w sps hm) (hg : sps g = some s) (at_ n : Int) (hn0 : 0 ≤ n) (hn1 : n ≤ 140737488355328) (ha1 : -9223372036854775808 ≤ at_) (ha2 : at_ ≤ 9223372036854775807) (hB : B ≤ w.heap.size) :
    Calls Tryz.prog 134 #[.pointer (some ⟨g, 0, none⟩), .int .i64 at_, .int .i64 n] w fun e w' => Stp C B sps hm g (accessA (view C hm s) at_ n).1 w w' (AccKM e (accessA (view C hm s) at_ n).2 at_ n s hm) := by
  have hself : ∀ e, e = Ending.returned (.int .i64 (accessA (view C hm s) at_ n).2) → (accessA (view C hm s) at_ n).1 = view C hm s → ((accessA (view C hm s) at_ n).2 = 0 → n = 0) →
      Stp C B sps hm g (accessA (view C hm s) at_ n).1 w w (AccKM e (accessA (view C hm s) at_ n).2 at_ n s hm) := fun e he h1 h2 => by
    have hs : upd sps g (some s) = sps := upd_same _ _ _ hg
    exact ⟨s, hm, by rw [hs]; exact h, h1.symm, fun _ _ _ _ => rfl, Mv.refl _ _ _, ⟨he, fun h3 i i1 i2 => by have := h2 h3; omega⟩, fun _ => ⟨rfl, rfl⟩⟩
  by_cases h0 : n = 0
  · have hr : accessA (view C hm s) at_ n = (view C hm s, 0) := by unfold accessA; rw [if_pos h0]
    rw [hr] at hself ⊢
    subst h0
    go_enter Tryz.func134, Tryz.ntmps134
    go_wp2_with fail
    go_ret
    exact hself _ (by first | rfl | trivial) (by first | rfl | trivial) (fun _ => by first | rfl | trivial)
  · have e0 : (n == 0) = false := beq_eq_false_iff_ne.2 h0
    by_cases hbad : at_ < 0 ∨ 4096 ≤ at_ ∨ 4096 - at_ < n
    · have hr : accessA (view C hm s) at_ n = (view C hm s, 23) := by unfold accessA; rw [if_neg h0, if_pos hbad]
      rw [hr] at hself ⊢
      have hc : decide (at_ < 0) = true ∨ (decide (at_ < 0) = false ∧ decide (4096 ≤ at_) = true) ∨ (0 ≤ at_ ∧ at_ < 4096 ∧ decide (at_ < 0) = false ∧ decide (4096 ≤ at_) = false ∧ decide (4096 - at_ < n) = true) := by
        by_cases c1 : at_ < 0
        · exact .inl (decide_eq_true c1)
        · by_cases c2 : 4096 ≤ at_
          · exact .inr (.inl ⟨decide_eq_false c1, decide_eq_true c2⟩)
          · exact .inr (.inr ⟨by omega, by omega, decide_eq_false c1, decide_eq_false c2, decide_eq_true (by omega)⟩)
      have HS := Lib.hid hself
      clear hbad hself hr h0
      rcases hc with c1 | ⟨c1, c2⟩ | ⟨b1, b2, c1, c2, c3⟩
      all_goals
        go_enter Tryz.func134, Tryz.ntmps134
        go_wp2_with fail
        go_ret
        exact HS.out _ (by first | rfl | trivial) (by first | rfl | trivial) (fun h => by first | cases h | omega)
    · clear hself
      obtain ⟨x, rfl⟩ : ∃ x : Nat, at_ = x := ⟨at_.toNat, by omega⟩
      obtain ⟨m, rfl⟩ : ∃ m : Nat, n = m := ⟨n.toNat, by omega⟩
      have hx : x < 4096 := by omega
      have hxm : x + m ≤ 4096 := by omega
      have hm1 : 1 ≤ m := by omega
      obtain ⟨lo, hlo⟩ : ∃ lo : Nat, lo = x / 64 := ⟨_, rfl⟩
      obtain ⟨hi, hhi⟩ : ∃ hi : Nat, hi = (x + m - 1) / 64 := ⟨_, rfl⟩
      have hle : lo ≤ hi := by omega
      have hh : hi < 64 := by omega
      have hr : accessA (view C hm s) x m = ((reachA (hi + 1 - lo) lo (view C hm s)).1, errOf (reachA (hi + 1 - lo) lo (view C hm s)).2) := by
        unfold accessA
        rw [if_neg h0, if_neg hbad]
        have q1 : (((x : Int) + m - 1) / 64).toNat = hi := by omega
        have q2 : ((x : Int) / 64).toNat = lo := by omega
        rw [q1, q2]
      rw [hr]
      obtain ⟨R, hR⟩ : ∃ R, R = reachA (hi + 1 - lo) lo (view C hm s) := ⟨_, rfl⟩
      rw [← hR]
      have c1 : decide ((x : Int) < 0) = false := decide_eq_false (by omega)
      have c2 : decide ((4096 : Int) ≤ x) = false := decide_eq_false (by omega)
      have c3 : decide ((4096 : Int) - x < m) = false := decide_eq_false (by omega)
      have d1 : (x : Int) / 64 = (lo : Int) := by omega
      have d2 : ((x : Int) + m - 1) / 64 = (hi : Int) := by omega
      have HR := Lib.hid hR
      have HLO := Lib.hid hlo
      have HHI := Lib.hid hhi
      clear hbad hr hR hlo hhi
      go_enter Tryz.func134, Tryz.ntmps134
      go_wp2_with fail
      go_loopg [7] (hi + 1 - lo) (fun q pv wr => ∃ (p : Nat) (s1 : Sp) (hm1 : Pages), pv = .int .i64 p ∧ q = hi + 1 - p ∧ lo ≤ p ∧ p ≤ hi + 1 ∧ All C B wr (upd sps g (some s1)) hm1 ∧ Hid (reachA (hi + 1 - p) p (view C hm1 s1) = R) ∧ (∀ k x, k ≠ g → sps k = some x → view C hm1 x = view C hm x) ∧ Mv B C.X w wr ∧ (∀ q, lo ≤ q → q < p → (s1.pg q).isSome = true) ∧ (Kn s → s1 = s ∧ hm1 = hm))
      case atStart =>
        have hs : upd sps g (some s) = sps := upd_same _ _ _ hg
        exact ⟨lo, s, hm, rfl, rfl, Nat.le_refl _, by omega, by rw [hs]; exact h, Lib.hid HR.out.symm, fun _ _ _ _ => rfl, Mv.refl _ _ _, fun q h1 h2 => (by omega), fun _ => ⟨rfl, rfl⟩⟩
      case round =>
        obtain ⟨p, s1, hm1, rfl, rfl, hp1, hp2, hall, HRR, hoth, hmv, hsome, hkn⟩ := hrel
        have HKN := Lib.hid hkn
        clear hkn
        have hgr : upd sps g (some s1) g = some s1 := upd_at _ _ _
        have HALL := Lib.hid hall
        have HSOME := Lib.hid hsome
        have HOTH := Lib.hid hoth
        have HMV := Lib.hid hmv
        clear hsome hoth hmv hall
        by_cases hlt : p ≤ hi
        · have i1 : (p : Int) ≤ hi := by omega
          have hsz := HMV.out.size
          have hneed := need_more ok HALL.out hgr p (by omega) (Nat.le_trans hB hsz)
          have HN := Lib.hid hneed
          have hRR := HRR.out
          rw [show hi + 1 - p = (hi - p) + 1 by omega] at hRR
          unfold reachA at hRR
          have HR2 := Lib.hid hRR
          clear hneed hRR HRR HR hgr
          go_wp2_with fail
          refine HN.out.mono ?_
          rintro e w2 ⟨s2, hm2, hA2, hv2, ho2, hmv2, rfl, _, _, hkk⟩
          rw [upd_upd] at hA2
          have hkn2 : Kn s → s2 = s ∧ hm2 = hm := fun hk => by
            obtain ⟨e1, e2⟩ := HKN.out hk
            obtain ⟨e3, e4⟩ := hkk (by rw [e1]; exact hk p (by omega))
            exact ⟨e3.trans e1, e4.trans e2⟩
          have HKN2 := Lib.hid hkn2
          clear hkk hkn2 HKN
          have hgr2 : upd sps g (some s2) g = some s2 := upd_at _ _ _
          have hps := page_some (C := C) hA2.toRep hgr2 p
          rw [hv2] at hps
          have hoth2 : ∀ k x, k ≠ g → sps k = some x → view C hm2 x = view C hm x := fun k x hne hx => (ho2 k x hne (by rw [upd_ne _ _ _ _ hne]; exact hx)).trans (HOTH.out k x hne hx)
          have hmvv := HMV.out.trans hmv2
          have HOTH2 := Lib.hid hoth2
          have HMV2 := Lib.hid hmvv
          have HA2 := Lib.hid hA2
          have HV2 := Lib.hid hv2
          have HPS := Lib.hid hps
          clear hA2 hv2 ho2 hmv2 hoth2 hmvv hps HN HOTH HMV hgr2
          cases hpg : s2.pg p with
          | none =>
            have hr2 : R = (view C hm2 s2, false) := by
              rw [← HR2.out, if_neg (by rw [HPS.out, hpg]; simp), HV2.out]
            have HRF := Lib.hid hr2
            clear hr2 hpg HR2
            have hq := nil_eql
            unfold ptrV
            simp only [Option.map_none]
            go_wp2_with fail
            go_ret
            exact ⟨s2, hm2, HA2.out, by rw [HRF.out], HOTH2.out, HMV2.out, ⟨by rw [HRF.out]; rfl, by rw [HRF.out]; exact fun h => by cases h⟩, HKN2.out⟩
          | some r =>
            have hr2 : reachA (hi - p) (p + 1) (view C hm2 s2) = R := by
              rw [← HR2.out, if_pos (by rw [HPS.out, hpg]; rfl), HV2.out]
            have HRF := Lib.hid hr2
            have hkeep : ∀ q, lo ≤ q → q < p + 1 → (s2.pg q).isSome = true := fun q h1 h2 => by
              by_cases e : q = p
              · rw [e, hpg]; rfl
              · have a1 := page_some (C := C) HA2.out.toRep (upd_at sps g (some s2)) q
                have a2 := page_some (C := C) HALL.out.toRep (upd_at sps g (some s1)) q
                rw [HV2.out, needA_page_ne _ _ _ e, a2] at a1
                rw [← a1]
                exact HSOME.out q h1 (by omega)
            have HK := Lib.hid hkeep
            clear hr2 hpg HR2 hkeep HALL HSOME
            have hq := ptr_eql2
            unfold ptrV
            simp only [Option.map_some]
            go_wp2_with fail
            go_roundg (hi + 1 - (p + 1))
            case measure => omega
            case rel => exact ⟨p + 1, s2, hm2, by go_num, rfl, by omega, by omega, HA2.out, Lib.hid (by rw [show hi + 1 - (p + 1) = hi - p by omega]; exact HRF.out), HOTH2.out, HMV2.out, HK.out, HKN2.out⟩
        · obtain rfl : p = hi + 1 := by omega
          have i1 : decide ((((hi + 1 : Nat) : Int)) ≤ (hi : Int)) = false := decide_eq_false (by omega)
          have i2 : decide ((hi : Int) + 1 ≤ (hi : Int)) = false := decide_eq_false (by omega)
          have hr2 : R = (view C hm1 s1, true) := by
            rw [← HRR.out, Nat.sub_self]; rfl
          have HRF := Lib.hid hr2
          have j1 : (lo : Int) ≤ (hi : Int) + 1 := by omega
          have j2 : (hi : Int) + 1 ≤ 64 := by omega
          have hcells : ∀ i, i < hi + 1 - lo → ∃ q, wr.cell? ⟨g, 193 + lo + i, none⟩ = some (ptrV (some q)) := fun i hi2 => by
            have hb := (HALL.out.blk g s1 hgr).1
            have hso := HSOME.out (lo + i) (by omega) (by omega)
            obtain ⟨q, hq⟩ := Option.isSome_iff_exists.1 hso
            exact ⟨q, by rw [hb.cell, show 193 + lo + i = 193 + (lo + i) by omega, sp_pg s1 (lo + i) (by omega), hq]⟩
          have HCE := Lib.hid hcells
          clear hr2 HRR HR hgr hcells
          go_wp2_with fail
          refine (contains_held wr g (193 + lo) (hi + 1 - lo) (64 - lo) (by omega) HCE.out).mono ?_
          rintro e w2 ⟨rfl, rfl⟩
          dsimp only
          go_wp2_with fail
          go_ret
          refine ⟨s1, hm1, HALL.out, by rw [HRF.out], HOTH.out, HMV.out, ⟨by rw [HRF.out]; rfl, fun _ i i1 i2 => ?_⟩, HKN.out⟩
          have q1 : lo ≤ (((x : Int) + i) / 64).toNat := by have := HLO.out; omega
          have q2 : (((x : Int) + i) / 64).toNat < hi + 1 := by have := HHI.out; omega
          exact HSOME.out _ q1 q2
theorem access_all (ok : SourceOk C B) (h : All C B w sps hm) (hg : sps g = some s) (at_ n : Int) (hn0 : 0 ≤ n) (hn1 : n ≤ 140737488355328) (ha1 : -9223372036854775808 ≤ at_) (ha2 : at_ ≤ 9223372036854775807) (hB : B ≤ w.heap.size) :
    Calls Tryz.prog 134 #[.pointer (some ⟨g, 0, none⟩), .int .i64 at_, .int .i64 n] w fun e w' => Stp C B sps hm g (accessA (view C hm s) at_ n).1 w w' (AccK e (accessA (view C hm s) at_ n).2 at_ n) :=
  (access_more ok h hg at_ n hn0 hn1 ha1 ha2 hB).mono fun e w' h => h.weak fun _ _ h => h.1
end
end Go.Proofs.YtkoomlbnfhdhcaaGreatDoor
