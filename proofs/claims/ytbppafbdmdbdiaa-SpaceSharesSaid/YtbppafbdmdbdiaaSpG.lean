/-
  need, told for all spaces.
-/
import Derived.Test.YtbppafbdmdbdiaaSpF
namespace Go.Proofs.Ytbppafbdmdbdiaa
open Go.RowKit
set_option linter.unusedVariables false

theorem upd_upd {α : Type} (f : Nat → α) (g : Nat) (a b : α) : upd (upd f g a) g b = upd f g b := by
  funext q
  unfold upd
  split <;> rfl
theorem fetch_ne (box : Nat) : fetchV box ≠ .nilFunc := by intro h; cases h
theorem srcOf_fetch (C : Source) (box : Nat) : srcOf C (fetchV box) = some C.src := rfl

section
variable {C : Source} {B : Nat} {w w' : World} {sps : Nat → Option Sp} {hm : Pages} {g : Nat} {s : Sp}

/-- A page's look is not touched by a page that nobody held. -/
theorem view_new (h : Rep B w sps hm) (q : Nat) (hnew : ∀ c, hm q ≠ some c) (v : Option (List UInt8 × Bool)) (k : Nat) (x : Sp) (hx : sps k = some x) (p : Nat) : pageOf (upd hm q v) (x.pg p) = pageOf hm (x.pg p) := by
  cases hp : x.pg p with
  | none => rfl
  | some r =>
    obtain ⟨c, hc⟩ := h.ref k x hx p r hp
    have hne : r ≠ q := fun e => hnew c (e ▸ hc)
    show (upd hm q v r).map _ = (hm r).map _
    rw [upd_ne _ _ _ _ hne]

/-- All pages are known. -/
def Kn (s : Sp) : Prop := ∀ p, p < 64 → s.known p = true
/-- What need returns, and which blocks stay. -/
def NeedK (e : Ending) (p : Nat) (s : Sp) (hm : Pages) : Sp → Pages → Prop := fun s' hm' => e = .returned (ptrV (s'.pg p)) ∧ (∀ q, q ≠ p → s'.pg q = s.pg q) ∧ (∀ r c, hm r = some c → hm' r = some c) ∧ (s.known p = true → s' = s ∧ hm' = hm)
theorem need_more (ok : SourceOk C B) (h : All C B w sps hm) (hg : sps g = some s) (p : Nat) (hp : p < 64) (hB : B ≤ w.heap.size) :
    Calls Try.prog 39 #[.pointer (some ⟨g, 0, none⟩), .int .i64 p] w fun e w' => Stp C B sps hm g (needA (view C hm s) p) w w' (NeedK e p s hm) := by
  obtain ⟨hblk, hBg⟩ := h.blk g s hg
  cases hk : s.known p with
  | true =>
    refine (need_known w g p s hblk hp hk).mono ?_
    rintro e w' ⟨rfl, rfl⟩
    have hs : upd sps g (some s) = sps := upd_same _ _ _ hg
    refine ⟨s, hm, by rw [hs]; exact h, ?_, fun _ _ _ _ => rfl, Mv.refl _ _ _, rfl, fun _ _ => rfl, fun _ _ h => h, fun _ => ⟨rfl, rfl⟩⟩
    unfold needA
    rw [if_pos (by exact hk)]
  | false =>
    obtain ⟨ha0, hpg0⟩ := h.inv g s hg p hk
    rcases Classical.em (s.fetch = .nilFunc) with hf | hf
    · refine (need_nil w g p s hblk hp hf).mono ?_
      rintro e w' ⟨rfl, hb', hw⟩
      refine ⟨needN s p, hm, h.flags ok.keeps hg (needN s p) rfl (fun _ h => h) rfl (fun q hq => ?_) hw hb', ?_, fun _ _ _ _ => rfl, (h.toRep.fr_sp hg hw).more, rfl, fun _ _ => rfl, fun _ _ h => h, fun h => (by rw [hk] at h; cases h)⟩
      · refine h.inv g s hg q ?_
        by_cases e : q = p
        · rw [e]; exact hk
        · have : (needN s p).known q = s.known q := upd_ne _ _ _ _ e
          rw [← this]; exact hq
      · unfold needA
        rw [if_neg (by show ¬ (s.known p = true); rw [hk]; simp)]
        show _ = match srcOf C s.fetch with | none => _ | some f => _
        rw [hf]
        show _ = { view C hm s with known := upd s.known p true }
        unfold view needN
        rw [hf]
    · have hroot : g = C.root := by
        rcases Classical.em (g = C.root) with e | e
        · exact e
        · exact absurd (h.nosrc g s hg e) hf
      obtain ⟨box, hbox⟩ := ok.val
      have henv : s.fetch = C.val ∧ C.E s.asked w := by
        rcases h.env s (hroot ▸ hg) with e | e
        · exact absurd e hf
        · exact e
      have hfv : s.fetch = fetchV box := henv.1.trans hbox
      refine (need_src w g p box s hblk hp hk hfv (fun w1 e w2 => FetchRet C w1 p e w2 ∧ C.E (upd s.asked p true) w2 ∧ Only C.X w1 w2 ∧ Blk w1 g 86 (spCells { s with known := upd s.known p true, asked := upd s.asked p true })) (fun w1 hb1 hw1 => ?_)).mono ?_
      · have hE1 : C.E s.asked w1 := ok.keeps _ _ _ henv.2 (h.toRep.fr_sp hg hw1).toE
        refine (ok.call box hbox w1 s.asked p hp (Nat.le_trans hB hw1.size) hE1 ha0).mono ?_
        rintro e w2 ⟨hr, hE2, ho⟩
        have hXg : ¬ C.X g := fun hx => ok.apart w1 _ g hE1 hx (spT_86 hb1)
        have hr' := hr
        unfold FetchRet at hr'
        cases hsrc : C.src p with
        | none =>
          rw [hsrc] at hr'
          refine ⟨none, hr', ho.blk hb1 hXg, ?_, hE2, ho, hb1⟩
          rw [← hr']; exact hr
        | some b =>
          rw [hsrc] at hr'
          obtain ⟨q, hq1, hq2, hq3⟩ := hr'
          refine ⟨some q, hq2, ho.blk hb1 hXg, ?_, hE2, ho, hb1⟩
          rw [← hq2]; exact hr
      · rintro e w3 ⟨w1, w2, o, rfl, hw1, ⟨hr, hE2, ho, hb1⟩, hw3, hb3⟩
        have hE1 : C.E s.asked w1 := ok.keeps _ _ _ henv.2 (h.toRep.fr_sp hg hw1).toE
        have hX1 : ∀ k, C.X k → ¬ SpT w1 k := fun k hx => ok.apart w1 _ k hE1 hx
        have hinv : ∀ q, upd s.known p true q = false → upd s.asked p true q = false ∧ s.pg q = none := fun q hq => by
          by_cases e : q = p
          · rw [e, upd_at] at hq; cases hq
          · rw [upd_ne _ _ _ _ e] at hq
            rw [upd_ne _ _ _ _ e]
            exact h.inv g s hg q hq
        have hinv3 : ∀ q, upd s.known p true q = false → upd s.asked p true q = false ∧ upd s.pg p o q = none := fun q hq => by
          by_cases e : q = p
          · rw [e, upd_at] at hq; cases hq
          · rw [upd_ne s.pg _ _ _ e]; exact hinv q hq
        have hA1 := h.bare_.flags (bare_keeps C B) hg { s with known := upd s.known p true, asked := upd s.asked p true } rfl (fun _ h => h) rfl hinv hw1 hb1
        have hA2 := hA1.only ho hX1
        have hg2 : upd sps g (some { s with known := upd s.known p true, asked := upd s.asked p true }) g = some { s with known := upd s.known p true, asked := upd s.asked p true } := upd_at _ _ _
        have hmv : Mv B C.X w w3 := ((h.toRep.fr_sp hg hw1).more.trans (ho.mv ok.low)).trans (hA2.toRep.fr_sp hg2 hw3).more
        have hE3 : C.E (upd s.asked p true) w3 := ok.keeps _ _ _ hE2 (hA2.toRep.fr_sp hg2 hw3).toE
        have hneed : needA (view C hm s) p = { view C hm s with known := upd s.known p true, asked := upd s.asked p true, page := upd (fun q => pageOf hm (s.pg q)) p ((C.src p).map padL) } := by
          unfold needA
          rw [if_neg (by show ¬ (s.known p = true); rw [hk]; simp)]
          show (match srcOf C s.fetch with | none => _ | some f => _) = _
          rw [hfv, srcOf_fetch]
          rfl
        unfold FetchRet at hr
        cases hsrc : C.src p with
        | none =>
          rw [hsrc] at hr
          have ho0 : o = none := by
            injection hr with hr
            cases o with
            | none => rfl
            | some q => cases hr
          subst ho0
          have hA3 := hA2.take (bare_keeps C B) hg2 p { s with known := upd s.known p true, asked := upd s.asked p true, pg := upd s.pg p none } rfl (fun _ h => h) rfl hinv3 hw3 hb3
          rw [upd_upd] at hA3
          refine ⟨_, hm, hA3.of_bare fun x hx => ?_, ?_, fun _ _ _ _ => rfl, hmv, ?_⟩
          · rw [← hroot, upd_at] at hx
            injection hx with hx
            subst hx
            exact .inr hE3
          · rw [hneed, hsrc]
            unfold view
            congr 1
            funext q
            show pageOf hm (upd s.pg p none q) = upd _ p none q
            by_cases e : q = p
            · rw [e, upd_at, upd_at]; rfl
            · rw [upd_ne _ _ _ _ e, upd_ne _ _ _ _ e]
          · refine ⟨?_, fun q hq => upd_ne _ _ _ _ hq, fun _ _ h => h, fun h => (by rw [hk] at h; cases h)⟩
            show _ = Ending.returned (ptrV (upd s.pg p none p))
            rw [upd_at]
        | some b =>
          rw [hsrc] at hr
          obtain ⟨q, hq1, hq2, hq3⟩ := hr
          have ho0 : o = some q := by
            injection hq2 with hq2
            cases o with
            | none => cases hq2
            | some r =>
              injection hq2 with hq2
              simp at hq2
              rw [hq2]
          subst ho0
          have hnew : ∀ c, hm q ≠ some c := fun c hc => by
            obtain ⟨b1, sh1⟩ := c
            have := (hA1.mem q b1 sh1 hc).2.1.lt
            omega
          have hqg : q ≠ g := by have := hb1.lt; omega
          have hA3 := hA2.put (bare_keeps C B) hg2 p { s with known := upd s.known p true, asked := upd s.asked p true, pg := upd s.pg p (some q) } q (padL b) rfl (fun _ h => h) rfl hinv3 (padL_length b) hw3 hb3 hnew (by have := hw1.size; omega) (hq3.fr hw3 (by simpa using hqg))
          rw [upd_upd] at hA3
          refine ⟨_, _, hA3.of_bare fun x hx => ?_, ?_, fun k x hne hx => ?_, hmv, ?_⟩
          · rw [← hroot, upd_at] at hx
            injection hx with hx
            subst hx
            exact .inr hE3
          · rw [hneed, hsrc]
            unfold view
            congr 1
            funext r
            show pageOf (upd hm q (some (padL b, false))) (upd s.pg p (some q) r) = upd _ p (some (padL b)) r
            by_cases e : r = p
            · rw [e, upd_at, upd_at]
              show (upd hm q _ q).map _ = _
              rw [upd_at]; rfl
            · rw [upd_ne _ _ _ _ e, upd_ne _ _ _ _ e]
              exact view_new h.toRep q hnew _ g s hg r
          · unfold view
            congr 1
            funext r
            exact view_new h.toRep q hnew _ k x hx r
          · refine ⟨?_, fun r hr => upd_ne _ _ _ _ hr, fun r c hr => ?_, fun h => (by rw [hk] at h; cases h)⟩
            · show _ = Ending.returned (ptrV (upd s.pg p (some q) p))
              rw [upd_at]
            · rw [upd_ne _ _ _ _ (fun e => hnew c (by rw [← e]; exact hr))]; exact hr
theorem Stp.weak {a' : AS} {K K' : Sp → Pages → Prop} (h : Stp C B sps hm g a' w w' K) (hk : ∀ s hm, K s hm → K' s hm) : Stp C B sps hm g a' w w' K' := by
  obtain ⟨s', hm', h1, h2, h3, h4, h5⟩ := h
  exact ⟨s', hm', h1, h2, h3, h4, hk _ _ h5⟩
theorem need_all (ok : SourceOk C B) (h : All C B w sps hm) (hg : sps g = some s) (p : Nat) (hp : p < 64) (hB : B ≤ w.heap.size) :
    Calls Try.prog 39 #[.pointer (some ⟨g, 0, none⟩), .int .i64 p] w fun e w' => Stp C B sps hm g (needA (view C hm s) p) w w' (fun s' _ => e = .returned (ptrV (s'.pg p))) :=
  (need_more ok h hg p hp hB).mono fun e w' h => h.weak fun _ _ h => h.1
end
end Go.Proofs.Ytbppafbdmdbdiaa
