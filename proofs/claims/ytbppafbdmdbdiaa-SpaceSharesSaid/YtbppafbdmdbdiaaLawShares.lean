/-
  The law SpaceShares, walked.
-/
import Derived.Test.YtbppafbdmdbdiaaShPlain
namespace Go.Proofs.Ytbppafbdmdbdiaa
open Go.RowKit
set_option linter.unusedVariables false

/-- The cells of a slice of bytes. -/
theorem RdB.cells {w : World} {B : Nat} {v : Value} {l : List UInt8} (h : RdB w B v l) : ∃ A cap, v = .slice A l.length cap ∧ l.length ≤ maxLen ∧ ∀ i, i < l.length → ∃ b o, A = some ⟨b, o, none⟩ ∧ b < B ∧ w.cell? ⟨b, o + i, none⟩ = some (.int .u8 (l.getD i 0).toNat) := by
  have h' := h
  obtain ⟨A, cap, hv, h1, h2, hrd⟩ := h'
  obtain ⟨A2, cap2, hv2, _, _, hb⟩ := h.byte
  rw [hv] at hv2
  injection hv2 with e1 _ e3
  subst e1 e3
  refine ⟨A, cap, hv, by omega, fun i hi => ?_⟩
  obtain ⟨ad, he, hc⟩ := hb i hi
  obtain ⟨ad0, he0, hc0⟩ := hb 0 (by omega)
  obtain ⟨ad', u, he', hlt, _, _⟩ := hrd.at_ hi
  rw [he] at he0 he'
  injection he0 with he0
  injection he' with he'
  subst he0 he'
  obtain ⟨b, off, spot⟩ := ad
  have hspot : spot = none := by simpa [Addr.add] using World.cell?_spot hc0
  subst hspot
  rw [Addr.add_mid] at hc
  exact ⟨b, off, he, hlt, hc⟩
theorem run_len_MI {w : World} {r : Nat} {m : List (Int × Value)} {t k e : TypeId} (h : MI w r m) (ht : Try.prog.underlying t = some (.map k e)) (ty : TypeId) : (Builtin.len_ #[t] ty #[.map (some r)]).run Try.prog w = .ok (.int .i64 m.length) w := by
  obtain ⟨_, es, clock, h1, h2⟩ := h
  have hl : es.size = m.length := by have := congrArg List.length h2; simpa using this
  unfold Builtin.len_
  simp [run_underlying ht, run_getObj_map (P := Try.prog) w r es clock h1, hl, goInt]
theorem MapIs.mv {w w' : World} {B k : Nat} {X : Nat → Prop} {m : List (Int × Value)} (h : MI w k m) (hm : Mv B X w w') (hX : ¬ X k) : MI w' k m :=
  h.keep (hm.block k h.lt (.inr ⟨fun ⟨cs, t, fr, he, _⟩ => (by
    obtain ⟨_, es, clock, h1, _⟩ := h
    rw [h1] at he
    cases he), hX⟩))
theorem All.fr_map {C : Source} {B tm : Nat} {w w' : World} {sps : Nat → Option Sp} {hm : Pages} {tl : List (Int × Value)} (h : All C B w sps hm) (hE : ∀ s, sps C.root = some s → C.E s.asked w → C.E s.asked w') (ht : MI w tm tl) (hf : Fr [tm] w w') : All C B w' sps hm :=
  ⟨⟨fun k x hx => ⟨(h.blk k x hx).1.fr hf (by have := ht.ne_blk (h.blk k x hx).1; simpa using fun e => this e.symm), (h.blk k x hx).2⟩,
    fun q b sh hq => ⟨(h.mem q b sh hq).1, (h.mem q b sh hq).2.1.fr hf (by have := ht.ne_blk (h.mem q b sh hq).2.1; simpa using fun e => this e.symm), (h.mem q b sh hq).2.2⟩, h.ref, h.own⟩,
    fun x hx => (h.env x hx).imp id fun e => ⟨e.1, hE x hx e.2⟩, h.nosrc, h.inv⟩
theorem asked_E_fr {box a pm cm root : Nat} {M : List (Int × Value)} {asked : Nat → Bool} {w w' : World} {t : Nat} (hE : (askedSrc box a pm cm root M).E asked w) (hf : Fr [t] w w') (h1 : box < t) (h2 : a < t) (h3 : pm < t) (h4 : cm < t) : (askedSrc box a pm cm root M).E asked w' := by
  obtain ⟨e1, e2, e3, c, e4, e5⟩ := hE
  exact ⟨e1.fr hf (by simp; omega), e2.fr hf (by simp; omega), e3.fr hf (by simp; omega), c, e4.fr hf (by simp; omega), e5⟩
/-- What holds at the head of a round. -/
structure ShL (C : Source) (B g f : Nat) (sps0 : Nat → Option Sp) (a1 : AS) (M : List (Int × Value)) (tm : Nat) (w wr : World) (s c : Sp) (hm : Pages) (tl : List (Int × Value)) : Prop where
  all : All C B wr (upd (upd sps0 g (some s)) f (some c)) hm
  ks : Knows (view C hm s)
  kc : Knows (view C hm c)
  ps : ∀ p : Nat, p < 64 → (view C hm s).page p = a1.page p
  pc : ∀ p : Nat, p < 64 → (view C hm c).page p = a1.page p
  shi : ShI tl s c hm
  tm : MI wr tm tl
  src : MI wr B M
  sub : ∀ p : Nat, p < 64 → mget tl (p : Int) ≠ none → (mget M (p : Int)).isSome = true
  bel : Below w.heap.size w wr
theorem eqA_of (a b c : AS) (h1 : ∀ p : Nat, p < 64 → a.page p = c.page p) (h2 : ∀ p : Nat, p < 64 → b.page p = c.page p) : eqA a b = true := by
  unfold eqA eqUp
  rw [List.all_eq_true]
  intro p hp
  have := List.mem_range.1 hp
  rw [decide_eq_true_eq, h1 p this, h2 p this]

set_option maxRecDepth 100000 in
set_option maxHeartbeats 8000000 in
theorem shares_walk (w : World) (v vl vr : Value) (l : List Fl) (left right : List UInt8) (hl : RdF w w.heap.size v l) (hLf : RdB w w.heap.size vl left) (hRt : RdB w w.heap.size vr right) :
    Calls Try.prog 4 #[v, vl, vr] w fun e w' => e = .returned (.bool true) ∧ Below w.heap.size w w' := by
  obtain ⟨AL, capL, rfl, hLl, hLc⟩ := hLf.cells
  obtain ⟨AR, capR, rfl, hRl, hRc⟩ := hRt.cells
  unfold maxLen at hLl hRl
  by_cases hbig : 20 < left.length ∨ 20 < right.length
  · have hc : decide ((20 : Int) < left.length) = true ∨ (decide ((20 : Int) < left.length) = false ∧ decide ((20 : Int) < right.length) = true) := by
      by_cases h1 : 20 < left.length
      · exact .inl (decide_eq_true (by omega))
      · exact .inr ⟨decide_eq_false (by omega), decide_eq_true (by omega)⟩
    clear hbig hl hLf hRt hLc hRc
    rcases hc with c1 | ⟨c1, c2⟩
    all_goals
      go_enter Try.func4, Try.ntmps4
      go_wp2_with fail
      refine (known_any w).mono ?_
      rintro e w1 ⟨rfl, b1⟩
      have B1 := Lib.hid b1
      clear b1
      dsimp only
      go_wp2_with fail
      refine (known_any w1).mono ?_
      rintro e w2 ⟨rfl, b2⟩
      have B2 := Lib.hid (B1.out.trans (b2.mono B1.out.size))
      clear b2
      dsimp only
      go_wp2_with fail
      go_ret
      exact ⟨rfl, B2.out⟩
  · have hL20 : left.length ≤ 20 := by omega
    have hR20 : right.length ≤ 20 := by omega
    have c1 : decide ((20 : Int) < left.length) = false := decide_eq_false (by omega)
    have c2 : decide ((20 : Int) < right.length) = false := decide_eq_false (by omega)
    have hmm := @run_makeMap Try.prog
    have hmf : ∀ (fn : Fn) (first cap : Array Value) (w : World), (Instr.makeFunc fn first cap).run Try.prog w = .ok (.func fn first cap) w := fun _ _ _ _ => rfl
    have hfl : ∀ y ∈ l, y.2.size ≤ maxLen := fun y hy => by
      obtain ⟨i, hi, rfl⟩ := List.mem_iff_getElem.1 hy
      obtain ⟨A, cap, _, _, hc⟩ := hl
      obtain ⟨_, _, _, _, _, _, h5⟩ := hc i hi
      exact h5
    have HS := Lib.hid (strs_srcL l hfl)
    have HL := Lib.hid hl
    have HLC := Lib.hid hLc
    have HRC := Lib.hid hRc
    clear hbig hl hLf hRt hLc hRc hfl hLl hRl
    obtain ⟨M, hM⟩ : ∃ M, M = srcL l := ⟨_, rfl⟩
    rw [← hM] at HS
    have HMM := Lib.hid hM
    clear hM
    go_enter Try.func4, Try.ntmps4
    go_wp2_with fail
    refine (known_any w).mono ?_
    rintro e w1 ⟨rfl, nb⟩
    have hsz1 := nb.size
    have B1 := Lib.hid nb
    clear nb
    dsimp only
    go_wp2_with fail
    refine (source_any w1 v l w.heap.size (HL.out.below B1.out) B1.out.size).mono ?_
    rintro e w2 ⟨rfl, hmi, nb⟩
    rw [← HMM.out] at hmi
    have hsz2 := nb.size
    have B2 := Lib.hid (B1.out.trans (nb.mono (by omega)))
    have HMI := Lib.hid hmi
    clear nb hmi HL B1
    obtain ⟨B, hB⟩ : ∃ B, B = w1.heap.size := ⟨_, rfl⟩
    rw [← hB] at HMI hsz1 hsz2 ⊢
    clear hB
    have hs4 : ((w2.alloc (.map #[] 0)).alloc (.cells #[.map (some B), .map (some w2.heap.size)] 37)).heap.size = w2.heap.size + 2 := by simp
    have HN := Lib.hid (new_src ((w2.alloc (.map #[] 0)).alloc (.cells #[.map (some B), .map (some w2.heap.size)] 37)) (w2.heap.size + 1))
    rw [hs4] at HN
    unfold getV at HN
    clear hs4
    dsimp only
    go_wp2_with fail
    refine HN.out.mono ?_
    rintro e w5 ⟨rfl, n1, n2, n3⟩
    obtain ⟨hok, hall, nb⟩ := setup (Nat.le_refl B) HMI.out HS.out n1 n2 n3
    have hvw := view_new_src (w2.heap.size + 2) (w2.heap.size + 1) B w2.heap.size (w2.heap.size + 3) M
    have hXb : (askedSrc (w2.heap.size + 2) (w2.heap.size + 1) B w2.heap.size (w2.heap.size + 3) M).X = fun k => k = w2.heap.size := rfl
    have B5 := Lib.hid (B2.out.trans (nb.mono (by omega)))
    have hsz5 := nb.size
    have hB5 : w2.heap.size < w5.heap.size := by have := n2.lt; omega
    have HK := Lib.hid HMI.out.1
    have hmi5 : MI w5 B M := HMI.out.keep (nb.block B HMI.out.lt)
    have HM5 := Lib.hid hmi5
    have hB2 : B < w2.heap.size := HMI.out.lt
    clear n1 n3 nb HN HMI HS B2 hmi5
    have hEf : ∀ (t : Nat) asked W W', w2.heap.size + 3 ≤ t → (askedSrc (w2.heap.size + 2) (w2.heap.size + 1) B w2.heap.size (w2.heap.size + 3) M).E asked W → Fr [t] W W' → (askedSrc (w2.heap.size + 2) (w2.heap.size + 1) B w2.heap.size (w2.heap.size + 3) M).E asked W' := fun t asked W W' ht hE hf => asked_E_fr hE hf (by omega) (by omega) (by omega) (by omega)
    have hg3 : w2.heap.size + 3 < w5.heap.size := n2.lt
    obtain ⟨s0, hs0⟩ : ∃ s0 : Sp, s0 = ⟨fetchV (w2.heap.size + 2), fun _ => false, fun _ => false, fun _ => false, fun _ => none⟩ := ⟨_, rfl⟩
    rw [← hs0] at hall hvw
    have hsh0 : shN s0 s0 64 = 0 := by
      have : ∀ k, shN s0 s0 k = 0 := by
        intro k
        induction k with
        | zero => rfl
        | succ k ih => rw [shN_succ, ih, hs0]; rfl
      exact this 64
    clear hs0
    generalize askedSrc (w2.heap.size + 2) (w2.heap.size + 1) B w2.heap.size (w2.heap.size + 3) M = C at *
    obtain ⟨g, hg⟩ : ∃ g, g = w2.heap.size + 3 := ⟨_, rfl⟩
    rw [← hg] at hall ⊢
    clear hg
    have HOK := Lib.hid hok
    have HALL := Lib.hid hall
    have HVW := Lib.hid hvw
    have HX := Lib.hid hXb
    have HSH0 := Lib.hid hsh0
    have HEF := Lib.hid hEf
    clear hEf n2
    clear hok hall hvw hXb hsh0
    dsimp only
    unfold ptrV
    simp only [Option.map_some]
    go_wp2_with fail
    refine (shared_all HALL.out (upd_at _ _ _) (upd_at _ _ _)).mono ?_
    rintro e w' ⟨rfl, rfl⟩
    rw [HSH0.out]
    dsimp only
    go_wp2_with fail
    refine (fork_all HOK.out HALL.out (upd_at _ _ _) (by omega)).mono ?_
    rintro e w6 ⟨rfl, s1, c1', hm1, hA1, hs1, hc1, _, hmv1, hsh⟩
    rw [HVW.out] at hs1 hc1
    have hgf : g ≠ w5.heap.size := by
      have := (HALL.out.blk g s0 (upd_at _ _ _)).1.lt
      omega
    obtain ⟨f, hf⟩ : ∃ f, f = w5.heap.size := ⟨_, rfl⟩
    have hb6 := hmv1.below (by omega)
    have B6 := Lib.hid (B5.out.trans (hb6.mono (by omega)))
    have hsz6 := hb6.size
    have hm6 : MI w6 B M := HM5.out.mv hmv1 (fun hx => by rw [HX.out] at hx; have : B = w2.heap.size := hx; omega)
    rw [← hf] at hA1 hgf ⊢
    clear hf hb6 hmv1 B5
    rw [needUp_new] at hs1 hc1
    obtain ⟨a1, ha1⟩ : ∃ a1, a1 = askUp (srcM M) 64 := ⟨_, rfl⟩
    rw [← ha1] at hs1 hc1
    have hkn : Knows a1 := by rw [ha1]; intro p hp; simp [askUp, hp]
    have hpg : ∀ p : Nat, p < 64 → a1.page p = (srcM M p).map padL := fun p hp => by rw [ha1]; simp [askUp, hp]
    clear ha1
    have hSI : ShI [] s1 c1' hm1 := ⟨fun p hp _ => ⟨(hsh p hp).1.symm, (hsh p hp).2⟩, fun p hp h => absurd (mget_nil _) h⟩
    have HS1 := Lib.hid hs1
    have HC1 := Lib.hid hc1
    have HA1 := Lib.hid hA1
    have HKN := Lib.hid hkn
    have HPG := Lib.hid hpg
    have HSI := Lib.hid hSI
    have HM6 := Lib.hid hm6
    have hg1 : upd (upd (one g s0) g (some s1)) f (some c1') g = some s1 := by rw [upd_ne _ _ _ _ hgf, upd_at]
    have HG1 := Lib.hid hg1
    -- what is shared
    have hps : ∀ p : Nat, p < 64 → (s1.pg p).isSome = (mget M (p : Int)).isSome := fun p hp => by
      rw [← page_some (C := C) HA1.out.toRep HG1.out p, HS1.out, HPG.out p hp]
      unfold srcM
      simp
    have hcnt := HSI.out.count HK.out.1 HK.out.2 (fun p hp => absurd hp (by simp)) (by simp) hps (fun p hp h => absurd (mget_nil _) h)
    have hpc : ∀ p : Nat, p < 64 → (c1'.pg p).isSome = (mget M (p : Int)).isSome := fun p hp => by rw [← (HSI.out.shr p hp (mget_nil _)).1]; exact hps p hp
    have hcnt2 := HSI.out.symm.count HK.out.1 HK.out.2 (fun p hp => absurd hp (by simp)) (by simp) hpc (fun p hp h => absurd (mget_nil _) h)
    have hself : ShI [] s1 s1 hm1 := ⟨fun p hp h => ⟨rfl, (HSI.out.shr p hp h).2⟩, fun p hp h => absurd (mget_nil _) h⟩
    have hcnt3 := hself.count HK.out.1 HK.out.2 (fun p hp => absurd hp (by simp)) (by simp) hps (fun p hp h => absurd (mget_nil _) h)
    simp only [List.length_nil, Nat.add_zero] at hcnt hcnt2 hcnt3
    have HCNT := Lib.hid hcnt
    have HCNT2 := Lib.hid hcnt2
    have HCNT3 := Lib.hid hcnt3
    have hlen := run_len_MI HM6.out Try.underlying32 3
    have hqp := ptr23_some
    clear hs1 hc1 hA1 hkn hpg hSI hm6 hg1 hps hcnt hpc hcnt2 hself hcnt3 hsh HALL HVW HM5 HSH0
    dsimp only
    unfold ptrV
    simp only [Option.map_some]
    go_wp2_with fail
    refine (shared_all HA1.out HG1.out (upd_at _ _ _)).mono ?_
    rintro e w' ⟨rfl, rfl⟩
    rw [HCNT.out]
    dsimp only
    go_wp2_with fail
    refine (shared_all HA1.out (upd_at _ _ _) HG1.out).mono ?_
    rintro e w' ⟨rfl, rfl⟩
    rw [HCNT2.out]
    dsimp only
    go_wp2_with fail
    refine (shared_all HA1.out HG1.out HG1.out).mono ?_
    rintro e w' ⟨rfl, rfl⟩
    rw [HCNT3.out]
    dsimp only
    go_wp2_with fail
    have hnp : ∀ p : Nat, p < 64 → a1.page p = none → (mget M (p : Int)).isSome = false := fun p hp h => by
      rw [HPG.out p hp] at h
      unfold srcM at h
      cases hm : mget M (p : Int) with
      | none => rfl
      | some v => rw [hm] at h; cases h
    have hsp : ∀ (p : Nat) (b : List UInt8), p < 64 → a1.page p = some b → (mget M (p : Int)).isSome = true := fun p b hp h => by
      rw [HPG.out p hp] at h
      unfold srcM at h
      cases hm : mget M (p : Int) with
      | none => rw [hm] at h; cases h
      | some v => rfl
    have HNP := Lib.hid hnp
    have HSP := Lib.hid hsp
    have hL0 : ShL C B g f (one g s0) a1 M w6.heap.size w (w6.alloc (.map #[] 0)) s1 c1' hm1 [] :=
      ⟨HA1.out.below HOK.out.keeps ((Below.refl _ _).alloc (Nat.le_refl _) _), by rw [HS1.out]; exact HKN.out, by rw [HC1.out]; exact child_knows _, fun p hp => by rw [HS1.out], fun p hp => by rw [HC1.out]; simp [childA, hp], HSI.out, MapIs.new w6, HM6.out.alloc _, fun p hp h => absurd (mget_nil _) h, B6.out.alloc (by omega) _⟩
    have HL0 := Lib.hid hL0
    have hXt : ∀ k, C.X k → k < w6.heap.size ∧ k ≠ B := fun k hk => by rw [HX.out] at hk; have : k = w2.heap.size := hk; omega
    have HXT := Lib.hid hXt
    have hBt : B ≤ w6.heap.size := by omega
    have hsz7 : w6.heap.size < (w6.alloc (.map #[] 0)).heap.size := by simp
    clear hnp hsp hL0 hXt hlen
    generalize w6.alloc (.map #[] 0) = W7 at *
    obtain ⟨tm, htm⟩ : ∃ tm, tm = w6.heap.size := ⟨_, rfl⟩
    have htm3 : w2.heap.size + 3 < tm := by omega
    have htm4 : B < tm := by omega
    rw [← htm] at HL0 HXT hBt hsz7 ⊢
    clear htm
    clear hmm hmf hqp
    go_loopg [12] (left.length + right.length) (fun q iv wr => ∃ (k : Nat) (s2 c2 : Sp) (hm2 : Pages) (tl : List (Int × Value)), iv = .int .i64 k ∧ q = left.length + right.length - k ∧ k ≤ left.length + right.length ∧ ShL C B g f (one g s0) a1 M tm w wr s2 c2 hm2 tl ∧ tm < wr.heap.size)
    case atStart => exact ⟨0, s1, c1', hm1, [], rfl, rfl, by omega, HL0.out, hsz7⟩
    case round =>
      obtain ⟨k, s2, c2, hm2, tl, rfl, rfl, hk, hSL, hszr⟩ := hrel
      have HSL := Lib.hid hSL
      clear hSL
      by_cases hlt : k < left.length + right.length
      · have i1 : (k : Int) < (left.length : Int) + (right.length : Int) := by omega
        have hg2 : upd (upd (one g s0) g (some s2)) f (some c2) g = some s2 := by rw [upd_ne _ _ _ _ hgf, upd_at]
        have hf2 : upd (upd (one g s0) g (some s2)) f (some c2) f = some c2 := upd_at _ _ _
        have HG2 := Lib.hid hg2
        have HF2 := Lib.hid hf2
        clear hg2 hf2
        by_cases hleft : k < left.length
        · have i2 : (k : Int) < left.length := by omega
          obtain ⟨b, o, rfl, hbB, hcx⟩ := HLC.out k hleft
          have cx : wr.cell? ⟨b, o + k, none⟩ = some (.int .u8 (left.getD k 0).toNat) := (HSL.out.bel.cell (by exact hbB)).trans hcx
          obtain ⟨y, hy⟩ : ∃ y, y = left.getD k 0 := ⟨_, rfl⟩
          rw [← hy] at cx
          obtain ⟨P, hP⟩ : ∃ P : Nat, P = y.toNat % 64 := ⟨_, rfl⟩
          have hyl : y.toNat < 256 := y.toNat_lt
          have y2 : (y.toNat : Int) % 64 = (P : Int) := by omega
          have hP64 : P < 64 := by omega
          clear hcx hy hP
          have HLD := Lib.hid (load_more HOK.out HSL.out.all HG2.out ((P : Int) * 64) 1 (by omega) (by omega) (by omega) (by omega))
          rw [load_one _ HSL.out.ks P hP64, HSL.out.ps P hP64] at HLD
          go_wp2_with fail
          refine HLD.out.mono ?_
          rintro e w8 ⟨s3, hm3, hA3, _, _, hmv3, hle, hkk⟩
          obtain ⟨q1, q2⟩ := hkk (Kn_of_view HSL.out.ks)
          rw [q1, q2, upd_comm _ _ _ _ _ hgf, upd_upd] at hA3
          clear hkk q1 q2
          have hb8 := hmv3.below (by omega)
          have hsz8 := hmv3.size
          have hS8 : ShL C B g f (one g s0) a1 M tm w w8 s2 c2 hm2 tl := ⟨hA3, HSL.out.ks, HSL.out.kc, HSL.out.ps, HSL.out.pc, HSL.out.shi, HSL.out.tm.mv hmv3 (fun hx => by have := (HXT.out _ hx).1; omega), HSL.out.src.mv hmv3 (fun hx => (HXT.out _ hx).2 rfl), HSL.out.sub, HSL.out.bel.trans (hb8.mono (by omega))⟩
          have HS8 := Lib.hid hS8
          have HLE := Lib.hid hle
          clear hA3 hmv3 hb8 hS8 HLD hle
          cases hpb : a1.page P with
          | none =>
            have hle := HLE.out
            rw [hpb] at hle
            have hle2 : e = .returned (.tuple #[.string ⟨#[]⟩, .int .i64 23]) := hle
            subst hle2
            clear hle HLE hpb
            dsimp only
            go_wp2_with fail
            go_roundg (left.length + right.length - (k + 1))
            case measure => omega
            case rel => exact ⟨k + 1, s2, c2, hm2, tl, by go_num, rfl, by omega, HS8.out, by omega⟩
          | some bb =>
            have hle := HLE.out
            rw [hpb] at hle
            obtain ⟨z, hz⟩ : ∃ z : UInt8, z = bb.getD 0 0 := ⟨_, rfl⟩
            have hle2 : e = .returned (.tuple #[.string ⟨#[z]⟩, .int .i64 0]) := by rw [hz]; exact hle
            subst hle2
            obtain ⟨a', hst, hpa, hka⟩ := store_one _ HS8.out.ks P hP64 bb (by rw [HS8.out.ps P hP64]; exact hpb)
            rw [← hz] at hst
            have HSTO := Lib.hid (store_more HOK.out HS8.out.all HG2.out ((P : Int) * 64) ⟨#[z]⟩ (by show (1 : Nat) ≤ _; omega) (by omega) (by omega) (by omega))
            rw [show (⟨#[z]⟩ : ByteArray).data.toList = [z] from rfl, hst] at HSTO
            have HPA := Lib.hid hpa
            have HKA := Lib.hid hka
            have hmm : (mget M (P : Int)).isSome = true := HSP.out P bb hP64 hpb
            have HMM2 := Lib.hid hmm
            clear hle HLE hpb hz hst hpa hka hmm
            dsimp only
            go_wp2_with fail
            refine HSTO.out.mono ?_
            rintro e w9 ⟨s4, hm4, hA4, hv4, ho4, hmv4, rfl, hkk4⟩
            have hstm : StM s2 hm2 (P * 64) 1 s4 hm4 := by
              have := hkk4 (Kn_of_view HS8.out.ks)
              rw [if_pos rfl] at this
              have hx : ((P : Int) * 64).toNat = P * 64 := by omega
              rw [hx] at this
              exact this
            rw [upd_comm _ _ _ _ _ hgf, upd_upd] at hA4
            have hb9 := hmv4.below (by omega)
            have hsz9 := hmv4.size
            have hoc : view C hm4 c2 = view C hm2 c2 := ho4 _ _ (fun e => hgf e.symm) HF2.out
            have hpg : Pg (P : Int) := by unfold Pg; omega
            obtain ⟨w10, hrun, hmi10, hfr10⟩ := run_update_map (P := Try.prog) keyI Try.underlying41 (HS8.out.tm.mv hmv4 (fun hx => by have := (HXT.out _ hx).1; omega)) (P : Int) hpg (.bool true)
            unfold encI at hrun
            have hA10 := hA4.fr_map (fun x _ hE => HEF.out tm x.asked w9 w10 (by omega) hE hfr10) (HS8.out.tm.mv hmv4 (fun hx => by have := (HXT.out _ hx).1; omega)) hfr10
            have hbt10 : Below tm w9 w10 := hfr10.below (by omega) (by simp)
            have hbw10 : Below w.heap.size w w10 := (HS8.out.bel.trans (hb9.mono (by omega))).trans (hbt10.mono (by omega))
            have hsrc10 : MI w10 B M := (HS8.out.src.mv hmv4 (fun hx => (HXT.out _ hx).2 rfl)).fr hfr10 (by simp; omega)
            have href : ∀ p q, (c2).pg p = some q → ∃ d, hm2 q = some d := fun p q hq => HS8.out.all.ref _ _ HF2.out p q hq
            have hshi := (HS8.out.shi.step hP64 (.bool true) hstm href)
            have hsub : ∀ p : Nat, p < 64 → mget (mput (P : Int) (.bool true) tl) (p : Int) ≠ none → (mget M (p : Int)).isSome = true := fun p hp hn => by
              rw [mget_mput] at hn
              by_cases e : p = P
              · rw [e]; exact HMM2.out
              · rw [if_neg (by omega)] at hn
                exact HS8.out.sub p hp hn
            have hk4 : Knows (view C hm4 s4) := by rw [hv4]; exact HKA.out
            have hp4 : ∀ p : Nat, p < 64 → (view C hm4 s4).page p = a1.page p := fun p hp => by rw [hv4, HPA.out]; exact HS8.out.ps p hp
            have hko : Knows (view C hm4 c2) := by rw [hoc]; exact HS8.out.kc
            have hpo : ∀ p : Nat, p < 64 → (view C hm4 c2).page p = a1.page p := fun p hp => by rw [hoc]; exact HS8.out.pc p hp
            have hS10 : ShL C B g f (one g s0) a1 M tm w w10 s4 c2 hm4 (mput (P : Int) (.bool true) tl) := ⟨hA10, hk4, hko, hp4, hpo, hshi, hmi10, hsrc10, hsub, hbw10⟩
            have HS10 := Lib.hid hS10
            have hsz10 := hfr10.size
            clear hstm hA4 hv4 ho4 hmv4 hkk4 hb9 hoc hA10 hbt10 hbw10 hsrc10 href hshi hsub hk4 hp4 hko hpo hS10 hmi10 hfr10 HSTO
            dsimp only
            go_wp2_with fail
            go_roundg (left.length + right.length - (k + 1))
            case measure => omega
            case rel => exact ⟨k + 1, _, _, hm4, _, by go_num, rfl, by omega, HS10.out, by omega⟩
        · have i2 : decide ((k : Int) < left.length) = false := decide_eq_false (by omega)
          obtain ⟨j, hj⟩ : ∃ j : Nat, j = k - left.length := ⟨_, rfl⟩
          have hjr : j < right.length := by omega
          have ej : (k : Int) - (left.length : Int) = (j : Int) := by omega
          obtain ⟨b, o, rfl, hbB, hcx⟩ := HRC.out j hjr
          have cx : wr.drew.cell? ⟨b, o + j, none⟩ = some (.int .u8 (right.getD j 0).toNat) := (HSL.out.bel.cell (by exact hbB)).trans hcx
          obtain ⟨y, hy⟩ : ∃ y, y = right.getD j 0 := ⟨_, rfl⟩
          rw [← hy] at cx
          obtain ⟨P, hP⟩ : ∃ P : Nat, P = y.toNat % 64 := ⟨_, rfl⟩
          have hyl : y.toNat < 256 := y.toNat_lt
          have y1 : (y.toNat : Int).tmod 64 = (P : Int) := by rw [Int.tmod_eq_emod_of_nonneg (by omega)]; omega
          have y3 : IntKind.i64.wrap (P : Int) = (P : Int) := IntWalk.i64_in _ (by omega)
          have y4 : IntKind.i64.wrap ((k : Int) - (left.length : Int)) = (j : Int) := by rw [ej]; exact IntWalk.i64_in _ (by omega)
          have jr : (j : Int) < right.length := by omega
          have hP64 : P < 64 := by omega
          clear hcx hy hP ej hj
          have hSLd : ShL C B g f (one g s0) a1 M tm w wr.drew s2 c2 hm2 tl := ⟨HSL.out.all.below HOK.out.keeps (Below.refl wr.heap.size wr).drew, HSL.out.ks, HSL.out.kc, HSL.out.ps, HSL.out.pc, HSL.out.shi, HSL.out.tm, HSL.out.src, HSL.out.sub, HSL.out.bel.drew⟩
          have HSLD := Lib.hid hSLd
          have hszd : tm < wr.drew.heap.size := hszr
          clear hSLd HSL hszr
          go_wp2_with fail
          refine wp_region_mixL (fun W => W.cell? ⟨b, o + j, none⟩ = some (.int .u8 y.toNat)) [0, 1, 2, 3, 4, 5, 6, 7, 8, 9, 10, 11] [] [0, 1, 2, 3, 4, 5, 6, 7, 8, 9, 10, 11] (by kernel_rfl) (by kernel_rfl) cx ?_
          simp only [inOrder, opAt]
          generalize wr.drew = W8 at *
          iterate 12
            (refine wpMixS_read (v := ?_) rfl rfl (fun w' hS => ?_) ?_
             rotate_left
             · ((try (have s0 := hS rfl)); (try clear hS); go_simp; (try with_reducible rfl))
             try simp only [Act.put, List.setIfInBounds_toArray, List.set_cons_zero, List.set_cons_succ])
          refine wpMixS_nil ?_
          have HLD := Lib.hid (load_more HOK.out HSLD.out.all HF2.out ((P : Int) * 64) 1 (by omega) (by omega) (by omega) (by omega))
          rw [load_one _ HSLD.out.kc P hP64, HSLD.out.pc P hP64] at HLD
          have HSL := HSLD
          clear HSLD
          go_wp2_with fail
          refine HLD.out.mono ?_
          rintro e w8 ⟨s3, hm3, hA3, _, _, hmv3, hle, hkk⟩
          obtain ⟨q1, q2⟩ := hkk (Kn_of_view HSL.out.kc)
          rw [q1, q2, upd_upd] at hA3
          clear hkk q1 q2
          have hb8 := hmv3.below (by omega)
          have hsz8 := hmv3.size
          have hS8 : ShL C B g f (one g s0) a1 M tm w w8 s2 c2 hm2 tl := ⟨hA3, HSL.out.ks, HSL.out.kc, HSL.out.ps, HSL.out.pc, HSL.out.shi, HSL.out.tm.mv hmv3 (fun hx => by have := (HXT.out _ hx).1; omega), HSL.out.src.mv hmv3 (fun hx => (HXT.out _ hx).2 rfl), HSL.out.sub, HSL.out.bel.trans (hb8.mono (by omega))⟩
          have HS8 := Lib.hid hS8
          have HLE := Lib.hid hle
          clear hA3 hmv3 hb8 hS8 HLD hle
          cases hpb : a1.page P with
          | none =>
            have hle := HLE.out
            rw [hpb] at hle
            have hle2 : e = .returned (.tuple #[.string ⟨#[]⟩, .int .i64 23]) := hle
            subst hle2
            clear hle HLE hpb
            dsimp only
            go_wp2_with fail
            go_roundg (left.length + right.length - (k + 1))
            case measure => omega
            case rel => exact ⟨k + 1, s2, c2, hm2, tl, by go_num, rfl, by omega, HS8.out, by omega⟩
          | some bb =>
            have hle := HLE.out
            rw [hpb] at hle
            obtain ⟨z, hz⟩ : ∃ z : UInt8, z = bb.getD 0 0 := ⟨_, rfl⟩
            have hle2 : e = .returned (.tuple #[.string ⟨#[z]⟩, .int .i64 0]) := by rw [hz]; exact hle
            subst hle2
            obtain ⟨a', hst, hpa, hka⟩ := store_one _ HS8.out.kc P hP64 bb (by rw [HS8.out.pc P hP64]; exact hpb)
            rw [← hz] at hst
            have HSTO := Lib.hid (store_more HOK.out HS8.out.all HF2.out ((P : Int) * 64) ⟨#[z]⟩ (by show (1 : Nat) ≤ _; omega) (by omega) (by omega) (by omega))
            rw [show (⟨#[z]⟩ : ByteArray).data.toList = [z] from rfl, hst] at HSTO
            have HPA := Lib.hid hpa
            have HKA := Lib.hid hka
            have hmm : (mget M (P : Int)).isSome = true := HSP.out P bb hP64 hpb
            have HMM2 := Lib.hid hmm
            clear hle HLE hpb hz hst hpa hka hmm
            dsimp only
            go_wp2_with fail
            refine HSTO.out.mono ?_
            rintro e w9 ⟨s4, hm4, hA4, hv4, ho4, hmv4, rfl, hkk4⟩
            have hstm : StM c2 hm2 (P * 64) 1 s4 hm4 := by
              have := hkk4 (Kn_of_view HS8.out.kc)
              rw [if_pos rfl] at this
              have hx : ((P : Int) * 64).toNat = P * 64 := by omega
              rw [hx] at this
              exact this
            rw [upd_upd] at hA4
            have hb9 := hmv4.below (by omega)
            have hsz9 := hmv4.size
            have hoc : view C hm4 s2 = view C hm2 s2 := ho4 _ _ hgf HG2.out
            have hpg : Pg (P : Int) := by unfold Pg; omega
            obtain ⟨w10, hrun, hmi10, hfr10⟩ := run_update_map (P := Try.prog) keyI Try.underlying41 (HS8.out.tm.mv hmv4 (fun hx => by have := (HXT.out _ hx).1; omega)) (P : Int) hpg (.bool true)
            unfold encI at hrun
            have hA10 := hA4.fr_map (fun x _ hE => HEF.out tm x.asked w9 w10 (by omega) hE hfr10) (HS8.out.tm.mv hmv4 (fun hx => by have := (HXT.out _ hx).1; omega)) hfr10
            have hbt10 : Below tm w9 w10 := hfr10.below (by omega) (by simp)
            have hbw10 : Below w.heap.size w w10 := (HS8.out.bel.trans (hb9.mono (by omega))).trans (hbt10.mono (by omega))
            have hsrc10 : MI w10 B M := (HS8.out.src.mv hmv4 (fun hx => (HXT.out _ hx).2 rfl)).fr hfr10 (by simp; omega)
            have href : ∀ p q, (s2).pg p = some q → ∃ d, hm2 q = some d := fun p q hq => HS8.out.all.ref _ _ HG2.out p q hq
            have hshi := ShI.symm (HS8.out.shi.symm.step hP64 (.bool true) hstm href)
            have hsub : ∀ p : Nat, p < 64 → mget (mput (P : Int) (.bool true) tl) (p : Int) ≠ none → (mget M (p : Int)).isSome = true := fun p hp hn => by
              rw [mget_mput] at hn
              by_cases e : p = P
              · rw [e]; exact HMM2.out
              · rw [if_neg (by omega)] at hn
                exact HS8.out.sub p hp hn
            have hk4 : Knows (view C hm4 s4) := by rw [hv4]; exact HKA.out
            have hp4 : ∀ p : Nat, p < 64 → (view C hm4 s4).page p = a1.page p := fun p hp => by rw [hv4, HPA.out]; exact HS8.out.pc p hp
            have hko : Knows (view C hm4 s2) := by rw [hoc]; exact HS8.out.ks
            have hpo : ∀ p : Nat, p < 64 → (view C hm4 s2).page p = a1.page p := fun p hp => by rw [hoc]; exact HS8.out.ps p hp
            have hS10 : ShL C B g f (one g s0) a1 M tm w w10 s2 s4 hm4 (mput (P : Int) (.bool true) tl) := ⟨hA10, hko, hk4, hpo, hp4, hshi, hmi10, hsrc10, hsub, hbw10⟩
            have HS10 := Lib.hid hS10
            have hsz10 := hfr10.size
            clear hstm hA4 hv4 ho4 hmv4 hkk4 hb9 hoc hA10 hbt10 hbw10 hsrc10 href hshi hsub hk4 hp4 hko hpo hS10 hmi10 hfr10 HSTO
            dsimp only
            go_wp2_with fail
            go_roundg (left.length + right.length - (k + 1))
            case measure => omega
            case rel => exact ⟨k + 1, _, _, hm4, _, by go_num, rfl, by omega, HS10.out, by omega⟩
      · obtain rfl : k = left.length + right.length := by omega
        have i1 : decide ((((left.length + right.length : Nat) : Int)) < (left.length : Int) + (right.length : Int)) = false := decide_eq_false (by omega)
        have i2 : decide ((left.length : Int) + (right.length : Int) < (left.length : Int) + (right.length : Int)) = false := decide_eq_false (by omega)
        have hg2 : upd (upd (one g s0) g (some s2)) f (some c2) g = some s2 := by rw [upd_ne _ _ _ _ hgf, upd_at]
        have HG2 := Lib.hid hg2
        have hps2 : ∀ p : Nat, p < 64 → (s2.pg p).isSome = (mget M (p : Int)).isSome := fun p hp => by
          rw [← page_some (C := C) HSL.out.all.toRep HG2.out p, HSL.out.ps p hp, HPG.out p hp]
          unfold srcM
          simp
        have hcnt := HSL.out.shi.count HK.out.1 HK.out.2 HSL.out.tm.1.1 HSL.out.tm.1.2 hps2 HSL.out.sub
        have hlen1 := run_len_MI HSL.out.src Try.underlying32 3
        have hlen2 := run_len_MI HSL.out.tm Try.underlying41 3
        have hb64 : M.length ≤ 64 := by
          rw [← count_map M HK.out.1 HK.out.2]
          exact Nat.le_trans (List.length_filter_le _ _) (by simp)
        have ecnt : ((shN s2 c2 64 : Nat) : Int) = (M.length : Int) - (tl.length : Int) := by omega
        have hqq : (((shN s2 c2 64 : Nat) : Int) == (M.length : Int) - (tl.length : Int)) = true := beq_iff_eq.2 ecnt
        have htl : tl.length ≤ 64 := by omega
        obtain ⟨N, hN⟩ : ∃ N, N = shN s2 c2 64 := ⟨_, rfl⟩
        have HN' := Lib.hid hN
        rw [← hN] at hqq
        clear hg2 hps2 hcnt ecnt hN
        go_wp2_with fail
        refine (shared_all HSL.out.all HG2.out (upd_at _ _ _)).mono ?_
        rintro e w' ⟨rfl, rfl⟩
        rw [← HN'.out]
        dsimp only
        go_wp2_with fail
        refine (equal_all HOK.out HSL.out.all HG2.out (upd_at _ _ _) hgf (by omega) (fun k hk => by have := (HXT.out k hk).1; omega)).mono ?_
        rintro e w8 ⟨rfl, s3, c3', hm3, hA3, hv3, hcv3, _, hmv3⟩
        have heq : eqA (needUp 64 (view C hm2 s2)) (needUp 64 (view C hm2 c2)) = true := by
          rw [needUp_id _ HSL.out.ks 64 (Nat.le_refl _), needUp_id _ HSL.out.kc 64 (Nat.le_refl _)]
          exact eqA_of _ _ a1 HSL.out.ps HSL.out.pc
        rw [heq]
        have B8 := Lib.hid (HSL.out.bel.trans ((hmv3.below (by omega)).mono (by omega)))
        clear hA3 hv3 hcv3 hmv3 heq
        dsimp only
        go_wp2_with fail
        go_ret
        exact ⟨by first | rfl | simp, B8.out⟩
end Go.Proofs.Ytbppafbdmdbdiaa
