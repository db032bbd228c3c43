/-
  Plain laws for SpaceShares: which pages two spaces share.
-/
import Derived.Test.YtbppafbdmdbdiaaShare
namespace Go.Proofs.Ytbppafbdmdbdiaa
open Go.RowKit
set_option linter.unusedVariables false

theorem mget_isSome {κ : Type} [DecidableEq κ] (x : κ) : ∀ m : List (κ × Value), (mget m x).isSome = true ↔ x ∈ m.map (·.1)
  | [] => by simp [mget_nil]
  | p :: m => by
    rw [mget_cons]
    by_cases h : x = p.1
    · rw [if_pos h]; simp [h]
    · rw [if_neg h, mget_isSome x m]; simp [h]
/-- As many pages as entries. -/
theorem count_map (m : List (Int × Value)) (h1 : ∀ p ∈ m, Pg p.1) (h2 : (m.map (·.1)).Nodup) : ((List.range 64).filter fun p : Nat => (mget m (p : Int)).isSome).length = m.length := by
  have hp : (((List.range 64).filter fun p : Nat => (mget m (p : Int)).isSome).map fun p : Nat => (p : Int)).Perm (m.map (·.1)) := by
    refine (List.perm_ext_iff_of_nodup ?_ h2).2 fun x => ?_
    · refine List.Pairwise.map _ (R := fun a b : Nat => a ≠ b) (fun a b h e => h (by exact Int.ofNat.inj e)) ?_
      exact List.Pairwise.sublist List.filter_sublist List.nodup_range
    · rw [List.mem_map]
      constructor
      · rintro ⟨p, hp, rfl⟩
        rw [List.mem_filter] at hp
        exact (mget_isSome _ m).1 hp.2
      · intro hx
        obtain ⟨q, hq, rfl⟩ := List.mem_map.1 hx
        obtain ⟨h3, h4⟩ := h1 q hq
        refine ⟨q.1.toNat, ?_, by omega⟩
        rw [List.mem_filter]
        have he : ((q.1.toNat : Nat) : Int) = q.1 := by omega
        exact ⟨List.mem_range.2 (by omega), by rw [he]; exact (mget_isSome _ m).2 hx⟩
  have := hp.length_eq
  simpa using this

/-- A space whose pages below k have been asked for. -/
def askUp (f : Nat → Option (List UInt8)) (k : Nat) : AS := ⟨some f, fun p => decide (p < k), fun p => decide (p < k), fun _ => false, fun p => if p < k then (f p).map padL else none⟩
theorem needUp_new (f : Nat → Option (List UInt8)) : ∀ k, needUp k (newS f) = askUp f k
  | 0 => rfl
  | k + 1 => by
    show needA (needUp k (newS f)) k = _
    rw [needUp_new f k]
    unfold needA
    rw [if_neg (by simp [askUp])]
    show AS.mk (some f) (upd (fun p => decide (p < k)) k true) (upd (fun p => decide (p < k)) k true) (fun _ => false) (upd (fun p => if p < k then (f p).map padL else none) k ((f k).map padL)) = _
    unfold askUp
    have hu : upd (fun p => decide (p < k)) k true = fun p => decide (p < k + 1) := by
      funext p
      by_cases e : p = k
      · rw [e, upd_at]; simp
      · rw [upd_ne _ _ _ _ e]; simp; omega
    rw [hu]
    congr 1
    funext p
    by_cases e : p = k
    · rw [e, upd_at, if_pos (by omega)]
    · rw [upd_ne _ _ _ _ e]
      by_cases h : p < k
      · rw [if_pos h, if_pos (by omega)]
      · rw [if_neg h, if_neg (by omega)]

/-- What two spaces share, those pages aside that have been touched. -/
structure ShI (tl : List (Int × Value)) (s c : Sp) (hm : Pages) : Prop where
  shr : ∀ p : Nat, p < 64 → mget tl (p : Int) = none → s.pg p = c.pg p ∧ ∀ q, s.pg p = some q → ∃ b, hm q = some (b, true)
  tch : ∀ p : Nat, p < 64 → mget tl (p : Int) ≠ none → s.pg p ≠ c.pg p
theorem ShI.symm {tl : List (Int × Value)} {s c : Sp} {hm : Pages} (h : ShI tl s c hm) : ShI tl c s hm :=
  ⟨fun p hp hn => ⟨(h.shr p hp hn).1.symm, fun q hq => (h.shr p hp hn).2 q ((h.shr p hp hn).1.trans hq)⟩, fun p hp hn e => h.tch p hp hn e.symm⟩
theorem ShI.step {tl : List (Int × Value)} {s c s' : Sp} {hm hm' : Pages} (h : ShI tl s c hm) {P : Nat} (hP : P < 64) (v : Value) (hs : StM s hm (P * 64) 1 s' hm') (href : ∀ p q, c.pg p = some q → ∃ d, hm q = some d) : ShI (mput (P : Int) v tl) s' c hm' := by
  have hPP : (P * 64 + 0) / 64 = P := by omega
  have hout : ∀ p, p ≠ P → s'.pg p = s.pg p := fun p hp => hs.out p fun i hi e => hp (by rw [← e, show i = 0 by omega]; omega)
  refine ⟨fun p hp hn => ?_, fun p hp hn e => ?_⟩
  · rw [mget_mput] at hn
    have hne : p ≠ P := fun e => by rw [if_pos (by omega)] at hn; cases hn
    rw [if_neg (by omega)] at hn
    obtain ⟨h1, h2⟩ := h.shr p hp hn
    rw [hout p hne]
    exact ⟨h1, fun q hq => let ⟨b, hb⟩ := h2 q hq; ⟨b, hs.shr q b hb⟩⟩
  · rw [mget_mput] at hn
    by_cases hne : p = P
    · subst hne
      obtain ⟨q, b, h1, h2⟩ := hs.own 0 (by omega)
      rw [hPP] at h1
      have hcq : c.pg p = some q := by rw [← e, h1]
      cases hmt : mget tl (p : Int) with
      | none =>
        obtain ⟨g1, g2⟩ := h.shr p hp hmt
        obtain ⟨b', hb'⟩ := g2 q (g1.trans hcq)
        have := hs.shr q b' hb'
        rw [h2] at this
        cases this
      | some v' =>
        rcases hs.new p with g | ⟨n, g1, g2⟩
        · exact h.tch p hp (by rw [hmt]; simp) (by rw [← g]; exact e)
        · obtain ⟨d, hd⟩ := href p q hcq
          rw [h1] at g1
          injection g1 with g1
          subst g1
          rw [g2] at hd
          cases hd
    · rw [if_neg (by omega)] at hn
      rw [hout p hne] at e
      exact h.tch p hp hn e
/-- The number of shared pages. -/
theorem ShI.count {tl M : List (Int × Value)} {s c : Sp} {hm : Pages} (h : ShI tl s c hm) (hM1 : ∀ p ∈ M, Pg p.1) (hM2 : (M.map (·.1)).Nodup) (ht1 : ∀ p ∈ tl, Pg p.1) (ht2 : (tl.map (·.1)).Nodup)
    (hp : ∀ p : Nat, p < 64 → (s.pg p).isSome = (mget M (p : Int)).isSome) (hsub : ∀ p : Nat, p < 64 → mget tl (p : Int) ≠ none → (mget M (p : Int)).isSome = true) : shN s c 64 + tl.length = M.length := by
  rw [← count_map M hM1 hM2, ← count_map tl ht1 ht2]
  unfold shN
  have key : ∀ l : List Nat, (∀ p ∈ l, p < 64) → (l.filter (shP s c)).length + (l.filter fun p : Nat => (mget tl (p : Int)).isSome).length = (l.filter fun p : Nat => (mget M (p : Int)).isSome).length := by
    intro l
    induction l with
    | nil => intro _; rfl
    | cons p l ih =>
      intro hl
      have hp64 := hl p List.mem_cons_self
      have ih := ih fun q hq => hl q (List.mem_cons_of_mem _ hq)
      cases ht : mget tl (p : Int) with
      | none =>
        obtain ⟨g1, _⟩ := h.shr p hp64 ht
        have e1 : shP s c p = (mget M (p : Int)).isSome := by unfold shP; rw [hp p hp64, decide_eq_true g1]; simp
        rw [List.filter_cons_of_neg (p := fun p : Nat => (mget tl (p : Int)).isSome) (by simp [ht])]
        cases hM : (mget M (p : Int)).isSome with
        | true => rw [List.filter_cons_of_pos (by rw [e1, hM]), List.filter_cons_of_pos (by exact hM), List.length_cons, List.length_cons]; omega
        | false => rw [List.filter_cons_of_neg (by rw [e1, hM]; simp), List.filter_cons_of_neg (by rw [hM]; simp)]; exact ih
      | some v =>
        have hne : mget tl (p : Int) ≠ none := by rw [ht]; simp
        have e1 : shP s c p = false := by unfold shP; rw [decide_eq_false (h.tch p hp64 hne)]; simp
        rw [List.filter_cons_of_neg (by rw [e1]; simp), List.filter_cons_of_pos (p := fun p : Nat => (mget tl (p : Int)).isSome) (by simp [ht]), List.filter_cons_of_pos (p := fun p : Nat => (mget M (p : Int)).isSome) (hsub p hp64 hne), List.length_cons, List.length_cons]
        omega
  exact key _ fun p hp => List.mem_range.1 hp

/-! ### One byte of a page that is known -/
theorem access_one (a : AS) (h : Knows a) (P : Nat) (hP : P < 64) : accessA a ((P : Int) * 64) 1 = (a, errOf (a.page P).isSome) := by
  unfold accessA
  rw [if_neg (by omega), if_neg (by omega), show ((((P : Int) * 64) + 1 - 1) / 64).toNat = P by omega, show (((P : Int) * 64) / 64).toNat = P by omega, show P + 1 - P = 1 by omega]
  show ((reachA 1 P a).1, errOf (reachA 1 P a).2) = _
  unfold reachA
  rw [needA_id a P (h P hP)]
  cases hp : (a.page P).isSome <;> rfl
theorem load_one (a : AS) (h : Knows a) (P : Nat) (hP : P < 64) : loadA a ((P : Int) * 64) 1 = match a.page P with | none => (a, [], 23) | some b => (a, [b.getD 0 0], 0) := by
  unfold loadA
  rw [if_neg (by omega), access_one a h P hP]
  cases hp : a.page P with
  | none => rfl
  | some b =>
    show (a, (if (0 : Nat) = 0 then bytesA a ((P : Int) * 64).toNat (1 : Int).toNat else []), 0) = _
    rw [if_pos rfl, show ((P : Int) * 64).toNat = P * 64 by omega]
    show (a, [byteA a (P * 64 + 0)], 0) = _
    unfold byteA
    rw [show (P * 64 + 0) / 64 = P by omega, show (P * 64 + 0) % 64 = 0 by omega, hp]
    rfl
theorem store_one (a : AS) (h : Knows a) (P : Nat) (hP : P < 64) (b : List UInt8) (hp : a.page P = some b) : ∃ a', storeA a ((P : Int) * 64) [b.getD 0 0] = (a', 0) ∧ a'.page = a.page ∧ Knows a' := by
  refine ⟨storeStep a (P * 64) (b.getD 0 0), ?_, ?_, h⟩
  · unfold storeA
    have hl : (([b.getD 0 0] : List UInt8).length : Int) = 1 := rfl
    rw [hl, access_one a h P hP, hp]
    show ((if (0 : Nat) = 0 then storeGo a ((P : Int) * 64).toNat [b.getD 0 0] 1 else a), 0) = _
    rw [if_pos rfl, show ((P : Int) * 64).toNat = P * 64 by omega]
    rfl
  · show upd a.page (P * 64 / 64) _ = _
    rw [show P * 64 / 64 = P by omega, show P * 64 % 64 = 0 by omega, hp]
    refine upd_same _ _ _ ?_
    rw [hp]
    cases b with
    | nil => rfl
    | cons x b => rfl
theorem Kn_of_view {C : Source} {hm : Pages} {s : Sp} (h : Knows (view C hm s)) : Kn s := h
end Go.Proofs.Ytbppafbdmdbdiaa
