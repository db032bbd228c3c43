/-
  The plain laws of the packed form (chapter 15): matches, canonical tokens, their bytes, unpacking. No program in sight.
-/
namespace Go.Proofs.Ytgmpdclmfcmodaa.Pk

/-- How many elements from two places on are the same, at most m. -/
def comm (l : List UInt8) (a b : Nat) : Nat → Nat
  | 0 => 0
  | m + 1 => if l[a]? = l[b]? then comm l (a + 1) (b + 1) m + 1 else 0

theorem comm_le (l : List UInt8) : ∀ m a b, comm l a b m ≤ m
  | 0, _, _ => Nat.le_refl _
  | m + 1, a, b => by
    unfold comm
    split
    · have := comm_le l m (a + 1) (b + 1); omega
    · omega

theorem comm_spec (l : List UInt8) : ∀ m a b i, i < comm l a b m → l[a + i]? = l[b + i]?
  | 0, _, _, _, h => by simp [comm] at h
  | m + 1, a, b, i, h => by
    unfold comm at h
    split at h
    · rename_i he
      cases i with
      | zero => simpa using he
      | succ i =>
        have := comm_spec l m (a + 1) (b + 1) i (by omega)
        rw [show a + (i + 1) = a + 1 + i by omega, show b + (i + 1) = b + 1 + i by omega]
        exact this
    · omega

theorem comm_stop (l : List UInt8) : ∀ m a b, comm l a b m < m → l[a + comm l a b m]? ≠ l[b + comm l a b m]?
  | 0, _, _, h => by omega
  | m + 1, a, b, h => by
    unfold comm at h ⊢
    split at h
    · rename_i he
      rw [if_pos he]
      have := comm_stop l m (a + 1) (b + 1) (by omega)
      rw [show a + (comm l (a + 1) (b + 1) m + 1) = a + 1 + comm l (a + 1) (b + 1) m by omega,
        show b + (comm l (a + 1) (b + 1) m + 1) = b + 1 + comm l (a + 1) (b + 1) m by omega]
      exact this
    · rename_i he
      rw [if_neg he]
      simpa using he

/-- What decides a common length: it is k if the first k agree, and k is the most or the next ones differ. -/
theorem comm_eq (l : List UInt8) (m a b k : Nat) (hk : k ≤ m) (h1 : ∀ i, i < k → l[a + i]? = l[b + i]?) (h2 : k < m → l[a + k]? ≠ l[b + k]?) : comm l a b m = k := by
  rcases Nat.lt_trichotomy (comm l a b m) k with h | h | h
  · exact absurd (h1 _ h) (comm_stop l m a b (by omega))
  · exact h
  · exact absurd (comm_spec l m a b k h) (h2 (by have := comm_le l m a b; omega))

theorem comm_ge (l : List UInt8) (m a b k : Nat) (hk : k ≤ m) (h1 : ∀ i, i < k → l[a + i]? = l[b + i]?) : k ≤ comm l a b m := by
  rcases Nat.lt_or_ge (comm l a b m) k with h | h
  · exact absurd (h1 _ h) (comm_stop l m a b (by omega))
  · exact h

theorem comm_drop (l : List UInt8) (k : Nat) : ∀ m a b, comm (l.drop k) a b m = comm l (a + k) (b + k) m
  | 0, _, _ => rfl
  | m + 1, a, b => by
    unfold comm
    rw [List.getElem?_drop, List.getElem?_drop, comm_drop l k m, show k + a = a + k by omega, show k + b = b + k by omega,
      show a + 1 + k = a + k + 1 by omega, show b + 1 + k = b + k + 1 by omega]

/-- The most bytes that a match at a place may have. -/
def most (l : List UInt8) (p : Nat) : Nat := min 131 (l.length - p)

/-- The longest match at a place among the distances 1 to k, and its smallest distance. -/
def bestTo (l : List UInt8) (p : Nat) : Nat → Nat × Nat
  | 0 => (0, 0)
  | k + 1 => if (bestTo l p k).1 < comm l (p - (k + 1)) p (most l p) then (comm l (p - (k + 1)) p (most l p), k + 1) else bestTo l p k

def best (l : List UInt8) (p : Nat) : Nat × Nat := bestTo l p (min 4096 p)

theorem bestTo_le (l : List UInt8) (p : Nat) : ∀ k, (bestTo l p k).1 ≤ most l p ∧ (bestTo l p k).2 ≤ k
  | 0 => by simp [bestTo]
  | k + 1 => by
    have h := bestTo_le l p k
    unfold bestTo
    split
    · exact ⟨comm_le _ _ _ _, Nat.le_refl _⟩
    · exact ⟨h.1, by omega⟩

theorem bestTo_comm (l : List UInt8) (p : Nat) : ∀ k, 0 < (bestTo l p k).1 → 0 < (bestTo l p k).2 ∧ comm l (p - (bestTo l p k).2) p (most l p) = (bestTo l p k).1
  | 0, h => by simp [bestTo] at h
  | k + 1, h => by
    have ih := bestTo_comm l p k
    unfold bestTo at h ⊢
    split
    · exact ⟨by simp, rfl⟩
    · rename_i hn
      rw [if_neg hn] at h
      exact ih h

theorem bestTo_ge (l : List UInt8) (p : Nat) : ∀ k d, 0 < d → d ≤ k → comm l (p - d) p (most l p) ≤ (bestTo l p k).1
  | 0, d, h0, h => by omega
  | k + 1, d, h0, h => by
    unfold bestTo
    by_cases hd : d = k + 1
    · subst hd
      split
      · exact Nat.le_refl _
      · omega
    · have ih := bestTo_ge l p k d h0 (by omega)
      split
      · show _ ≤ comm l (p - (k + 1)) p (most l p)
        omega
      · exact ih

/-- .. and it is the smallest distance of that length. -/
theorem bestTo_first (l : List UInt8) (p : Nat) : ∀ k d, 0 < d → d < (bestTo l p k).2 → comm l (p - d) p (most l p) < (bestTo l p k).1
  | 0, d, h0, h => by simp [bestTo] at h
  | k + 1, d, h0, h => by
    unfold bestTo at h ⊢
    split at h
    · rename_i hn
      rw [if_pos hn]
      show _ < comm l (p - (k + 1)) p (most l p)
      have := bestTo_ge l p k d h0 (by simp at h; omega)
      omega
    · rename_i hn
      rw [if_neg hn]
      exact bestTo_first l p k d h0 h

theorem bestTo_drop (l : List UInt8) (s p : Nat) (hp : s ≤ p) : ∀ k, k ≤ p - s → bestTo (l.drop s) (p - s) k = bestTo l p k
  | 0, _ => rfl
  | k + 1, h => by
    have hm : most (l.drop s) (p - s) = most l p := by unfold most; rw [List.length_drop]; congr 1; omega
    unfold bestTo
    rw [bestTo_drop l s p hp k (by omega), hm, comm_drop, show p - s - (k + 1) + s = p - (k + 1) by omega, show p - s + s = p by omega]

/-- The match that the writer takes: one of at least four bytes, or none. -/
def long (l : List UInt8) (p : Nat) : Nat × Nat := if 4 ≤ (best l p).1 then best l p else (0, 0)
def longTo (l : List UInt8) (p k : Nat) : Nat × Nat := if 4 ≤ (bestTo l p k).1 then bestTo l p k else (0, 0)

theorem long_lt (l : List UInt8) (p : Nat) (h : (long l p).1 < 4) : long l p = (0, 0) := by
  unfold long at h ⊢
  split
  · rename_i h'; rw [if_pos h'] at h; omega
  · rfl

theorem longTo_skip (l : List UInt8) (p k : Nat) (h : comm l (p - (k + 1)) p (most l p) < 4) : longTo l p (k + 1) = longTo l p k := by
  unfold longTo
  conv => lhs; unfold bestTo
  by_cases hc : (bestTo l p k).1 < comm l (p - (k + 1)) p (most l p)
  · rw [if_pos hc]
    simp only
    rw [if_neg (by omega), if_neg (by omega)]
  · rw [if_neg hc]

theorem longTo_hit (l : List UInt8) (p k : Nat) (h : 4 ≤ comm l (p - (k + 1)) p (most l p)) :
    longTo l p (k + 1) = if (longTo l p k).1 < comm l (p - (k + 1)) p (most l p) then (comm l (p - (k + 1)) p (most l p), k + 1) else longTo l p k := by
  unfold longTo
  conv => lhs; unfold bestTo
  by_cases hc : (bestTo l p k).1 < comm l (p - (k + 1)) p (most l p)
  · rw [if_pos hc]
    simp only
    rw [if_pos h]
    by_cases h4 : 4 ≤ (bestTo l p k).1
    · rw [if_pos h4, if_pos hc]
    · rw [if_neg h4, if_pos (by simp; omega)]
  · rw [if_neg hc, if_pos (by omega), if_neg hc]

theorem longTo_most (l : List UInt8) (p k : Nat) (h : most l p ≤ (longTo l p k).1) : longTo l p (k + 1) = longTo l p k := by
  by_cases h4 : 4 ≤ comm l (p - (k + 1)) p (most l p)
  · rw [longTo_hit l p k h4, if_neg (by have := comm_le l (most l p) (p - (k + 1)) p; omega)]
  · exact longTo_skip l p k (by omega)

theorem longTo_most' (l : List UInt8) (p k : Nat) (h : most l p ≤ (longTo l p k).1) : ∀ j, longTo l p (k + j) = longTo l p k
  | 0 => rfl
  | j + 1 => by
    have ih := longTo_most' l p k h j
    rw [← ih, show k + (j + 1) = k + j + 1 by omega]
    exact longTo_most l p (k + j) (by rw [ih]; exact h)

theorem longTo_skips (l : List UInt8) (p k : Nat) : ∀ j, (∀ d, k < d → d ≤ k + j → comm l (p - d) p (most l p) < 4) → longTo l p (k + j) = longTo l p k
  | 0, _ => rfl
  | j + 1, h => by
    rw [show k + (j + 1) = k + j + 1 by omega, longTo_skip l p (k + j) (h _ (by omega) (by omega))]
    exact longTo_skips l p k j (fun d h1 h2 => h d h1 (by omega))

/-- The four bytes at a place. -/
def four (l : List UInt8) (p : Nat) : List UInt8 := (l.drop p).take 4

theorem four_get (l : List UInt8) (p i : Nat) (hi : i < 4) : (four l p)[i]? = l[p + i]? := by
  unfold four
  rw [List.getElem?_take_of_lt hi, List.getElem?_drop]

theorem four_length (l : List UInt8) (p : Nat) (h : p + 4 ≤ l.length) : (four l p).length = 4 := by
  unfold four
  simp; omega

theorem four_list (l : List UInt8) (p : Nat) (h : p + 4 ≤ l.length) : four l p = [l.getD p 0, l.getD (p + 1) 0, l.getD (p + 2) 0, l.getD (p + 3) 0] := by
  apply List.ext_getElem?
  intro i
  have e : ∀ j, j < l.length → l[j]? = some (l.getD j 0) := fun j hj => by
    rw [List.getD_eq_getElem?_getD, List.getElem?_eq_getElem hj]; rfl
  match i with
  | 0 => rw [four_get l p 0 (by omega), e _ (by omega)]; rfl
  | 1 => rw [four_get l p 1 (by omega), e _ (by omega)]; rfl
  | 2 => rw [four_get l p 2 (by omega), e _ (by omega)]; rfl
  | 3 => rw [four_get l p 3 (by omega), e _ (by omega)]; rfl
  | i + 4 => rw [List.getElem?_eq_none (by rw [four_length l p h]; omega)]; rfl

/-- Two places with the same four bytes are those with a common length of at least four. -/
theorem four_iff (l : List UInt8) (a b m : Nat) (hm : 4 ≤ m) (ha : a + 4 ≤ l.length) (hb : b + 4 ≤ l.length) : four l a = four l b ↔ 4 ≤ comm l a b m := by
  constructor
  · intro h
    refine comm_ge l m a b 4 hm fun i hi => ?_
    rw [← four_get l a i hi, ← four_get l b i hi, h]
  · intro h
    apply List.ext_getElem?
    intro i
    by_cases hi : i < 4
    · rw [four_get l a i hi, four_get l b i hi]
      exact comm_spec l m a b i (by omega)
    · rw [List.getElem?_eq_none (by rw [four_length l a ha]; omega), List.getElem?_eq_none (by rw [four_length l b hb]; omega)]

/-- The last place below k where four bytes occur. -/
def lastOf (l key : List UInt8) : Nat → Option Nat
  | 0 => none
  | k + 1 => if four l k = key then some k else lastOf l key k

theorem lastOf_some (l key : List UInt8) : ∀ k q, lastOf l key k = some q → q < k ∧ four l q = key ∧ ∀ j, q < j → j < k → four l j ≠ key
  | 0, q, h => by simp [lastOf] at h
  | k + 1, q, h => by
    unfold lastOf at h
    split at h
    · rename_i hk
      obtain rfl := Option.some.inj h
      exact ⟨by omega, hk, fun j h1 h2 => by omega⟩
    · rename_i hk
      obtain ⟨h1, h2, h3⟩ := lastOf_some l key k q h
      refine ⟨by omega, h2, fun j hj1 hj2 => ?_⟩
      by_cases e : j = k
      · subst e; exact hk
      · exact h3 j hj1 (by omega)

theorem lastOf_none (l key : List UInt8) : ∀ k, lastOf l key k = none → ∀ j, j < k → four l j ≠ key
  | 0, _, j, hj => by omega
  | k + 1, h, j, hj => by
    unfold lastOf at h
    split at h
    · cases h
    · rename_i hk
      by_cases e : j = k
      · subst e; exact hk
      · exact lastOf_none l key k h j (by omega)

/-- One step of the chain: the places between two neighbours of the chain make no difference. -/
theorem long_gap (l : List UInt8) (p k j : Nat) (hm : 4 ≤ most l p) (hk : k + j ≤ p)
    (hno : ∀ q, p - (k + j) ≤ q → q < p - k → four l q ≠ four l p) : longTo l p (k + j) = longTo l p k := by
  have hlen : p + 4 ≤ l.length := by unfold most at hm; omega
  refine longTo_skips l p k j fun d h1 h2 => ?_
  have := hno (p - d) (by omega) (by omega)
  rw [Ne, four_iff l (p - d) p (most l p) hm (by omega) hlen] at this
  omega

theorem long_exit_far (l : List UInt8) (p k pl : Nat) (hk : k ≤ 4096) (hkp : k ≤ p) (hm : 4 ≤ most l p) (hno : ∀ q, pl < q → q < p - k → four l q ≠ four l p) (hfar : 4096 < p - pl) : longTo l p k = long l p := by
  have e : min 4096 p = k + (4096 - k) := by omega
  have : long l p = longTo l p (min 4096 p) := rfl
  rw [this, e]
  exact (long_gap l p k (4096 - k) hm (by omega) fun q h1 h2 => hno q (by omega) h2).symm

theorem long_exit_none (l : List UInt8) (p k : Nat) (hk : k ≤ 4096) (hkp : k ≤ p) (hm : 4 ≤ most l p) (hno : ∀ q, q < p - k → four l q ≠ four l p) : longTo l p k = long l p := by
  have e : min 4096 p = k + (min 4096 p - k) := by omega
  have : long l p = longTo l p (min 4096 p) := rfl
  rw [this, e]
  exact (long_gap l p k (min 4096 p - k) hm (by omega) fun q h1 h2 => hno q h2).symm

theorem long_exit_most (l : List UInt8) (p k : Nat) (hk : k ≤ 4096) (hkp : k ≤ p) (hm : most l p ≤ (longTo l p k).1) : longTo l p k = long l p := by
  have e : min 4096 p = k + (min 4096 p - k) := by omega
  have : long l p = longTo l p (min 4096 p) := rfl
  rw [this, e]
  exact (longTo_most' l p k hm _).symm

theorem long_round (l : List UInt8) (p k pl : Nat) (hpl : pl + k < p) (hm : 4 ≤ most l p) (hf : four l pl = four l p) (hno : ∀ q, pl < q → q < p - k → four l q ≠ four l p) :
    longTo l p (p - pl) = if (longTo l p k).1 < comm l pl p (most l p) then (comm l pl p (most l p), p - pl) else longTo l p k := by
  have hlen : p + 4 ≤ l.length := by unfold most at hm; omega
  have e : p - pl = k + (p - pl - 1 - k) + 1 := by omega
  have e2 : p - (k + (p - pl - 1 - k) + 1) = pl := by omega
  have e3 := long_gap l p k (p - pl - 1 - k) hm (by omega) fun q h1 h2 => hno q (by omega) h2
  have h4 := (four_iff l pl p (most l p) hm (by omega) hlen).1 hf
  conv => lhs; rw [e]
  rw [longTo_hit l p _ (by rw [e2]; exact h4), e2, e3, ← e]

theorem long_eq (l : List UInt8) (p : Nat) : long l p = longTo l p (min 4096 p) := rfl

theorem long_small (l : List UInt8) (p : Nat) (h : most l p < 4) : long l p = (0, 0) := by
  unfold long best
  have := (bestTo_le l p (min 4096 p)).1
  rw [if_neg (by omega)]

/-! ### The canonical form -/
/-- Literals that wait are written as a run. -/
def flush (p q : List UInt8) : List UInt8 := if q = [] then p else p ++ (UInt8.ofNat (q.length - 1) :: q)
def matchBytes (n d : Nat) : List UInt8 := [UInt8.ofNat (128 + n - 4), UInt8.ofNat ((d - 1) / 256), UInt8.ofNat (d - 1)]

/-- What the writer writes from a place on: p is written, q waits. -/
def packGo (l : List UInt8) : Nat → Nat → List UInt8 → List UInt8 → List UInt8
  | 0, _, p, q => flush p q
  | f + 1, i, p, q =>
    if i < l.length then
      if (long l i).1 < 4 then
        if q.length + 1 = 128 then packGo l f (i + 1) (flush p (q ++ [l.getD i 0])) [] else packGo l f (i + 1) p (q ++ [l.getD i 0])
      else packGo l f (i + (long l i).1) (flush p q ++ matchBytes (long l i).1 (long l i).2) []
    else flush p q

/-- The packed form of bytes that follow a dictionary. -/
def pack (dict b : List UInt8) : List UInt8 := packGo (dict ++ b) b.length dict.length [] []

/-- More steps than bytes make no difference. -/
theorem packGo_more (l : List UInt8) : ∀ f i p q, l.length ≤ i + f → ∀ g, packGo l (f + g) i p q = packGo l f i p q
  | 0, i, p, q, h, g => by
    cases g with
    | zero => rfl
    | succ g => rw [Nat.zero_add]; unfold packGo; rw [if_neg (by omega)]
  | f + 1, i, p, q, h, g => by
    rw [show f + 1 + g = (f + g) + 1 by omega]
    unfold packGo
    by_cases hi : i < l.length
    · rw [if_pos hi, if_pos hi]
      by_cases h4 : (long l i).1 < 4
      · rw [if_pos h4, if_pos h4, packGo_more l f _ _ _ (by omega), packGo_more l f _ _ _ (by omega)]
      · rw [if_neg h4, if_neg h4, packGo_more l f _ _ _ (by omega)]
    · rw [if_neg hi, if_neg hi]

theorem long_bounds (l : List UInt8) (p : Nat) (h : 4 ≤ (long l p).1) : (long l p).1 ≤ 131 ∧ (long l p).1 + p ≤ l.length ∧ 0 < (long l p).2 ∧ (long l p).2 ≤ 4096 ∧ (long l p).2 ≤ p := by
  have e : long l p = best l p := by
    unfold long at h ⊢
    split
    · rfl
    · rename_i h'; rw [if_neg h'] at h; simp at h
  rw [e] at h ⊢
  have h1 := bestTo_le l p (min 4096 p)
  have h2 := bestTo_comm l p (min 4096 p) (by unfold best at h; omega)
  unfold best at h ⊢
  have h3 : most l p ≤ 131 ∧ (most l p ≤ l.length - p) := by unfold most; omega
  omega

/-- The match that is taken agrees. -/
theorem long_agree (l : List UInt8) (p : Nat) (h : 4 ≤ (long l p).1) (i : Nat) (hi : i < (long l p).1) : l[p - (long l p).2 + i]? = l[p + i]? := by
  have e : long l p = best l p := by
    unfold long at h ⊢
    split
    · rfl
    · rename_i h'; rw [if_neg h'] at h; simp at h
  rw [e] at h hi ⊢
  have h2 := bestTo_comm l p (min 4096 p) (by unfold best at h; omega)
  unfold best at h hi ⊢
  exact comm_spec l _ _ _ i (by rw [h2.2]; exact hi)

theorem long_drop (l : List UInt8) (s p : Nat) (hp : s ≤ p) (hs : s = 0 ∨ 4096 + s ≤ p) : long (l.drop s) (p - s) = long l p := by
  have e : min 4096 (p - s) = min 4096 p := by omega
  unfold long best
  rw [e, bestTo_drop l s p hp _ (by omega)]

theorem packGo_drop (l : List UInt8) (s : Nat) : ∀ f i p q, s ≤ i → (s = 0 ∨ 4096 + s ≤ i) → packGo (l.drop s) f (i - s) p q = packGo l f i p q
  | 0, _, _, _, _, _ => rfl
  | f + 1, i, p, q, hi, hs => by
    unfold packGo
    rw [long_drop l s i hi hs]
    have e1 : (i - s < (l.drop s).length) ↔ i < l.length := by rw [List.length_drop]; omega
    have e2 : (l.drop s).getD (i - s) 0 = l.getD i 0 := by
      rw [List.getD_eq_getElem?_getD, List.getD_eq_getElem?_getD, List.getElem?_drop, show s + (i - s) = i by omega]
    rw [e2, show i - s + 1 = i + 1 - s by omega, show i - s + (long l i).1 = i + (long l i).1 - s by omega]
    rw [packGo_drop l s f (i + 1) _ _ (by omega) (by omega), packGo_drop l s f (i + 1) _ _ (by omega) (by omega), packGo_drop l s f (i + (long l i).1) _ _ (by omega) (by omega)]
    by_cases h : i < l.length
    · rw [if_pos h, if_pos (e1.2 h)]
    · rw [if_neg h, if_neg (fun h' => h (e1.1 h'))]

/-- Only the window's part of a dictionary makes a difference. -/
theorem pack_near (dict b : List UInt8) : packGo (dict.drop (dict.length - 4096) ++ b) b.length (dict.length - (dict.length - 4096)) [] [] = pack dict b := by
  have e : dict.drop (dict.length - 4096) ++ b = (dict ++ b).drop (dict.length - 4096) := by
    rw [List.drop_append]
    rw [show dict.length - 4096 - dict.length = 0 by omega, List.drop_zero]
  rw [e, packGo_drop (dict ++ b) (dict.length - 4096) b.length dict.length [] [] (by omega) (by omega)]
  rfl

theorem packGo_end (l : List UInt8) (f i : Nat) (p q : List UInt8) (h : l.length ≤ i) : packGo l f i p q = flush p q := by
  cases f with
  | zero => rfl
  | succ f => unfold packGo; rw [if_neg (by omega)]

/-- One step of the writer's loop: a literal. -/
theorem packGo_lit (l : List UInt8) (i : Nat) (p q : List UInt8) (hi : i < l.length) (h4 : (long l i).1 < 4) :
    packGo l (l.length - i) i p q = packGo l (l.length - (i + 1)) (i + 1) (if q.length + 1 = 128 then flush p (q ++ [l.getD i 0]) else p) (if q.length + 1 = 128 then [] else q ++ [l.getD i 0]) := by
  rw [show l.length - i = (l.length - (i + 1)) + 1 by omega]
  conv => lhs; unfold packGo
  rw [if_pos hi, if_pos h4]
  split <;> rfl

/-- .. and a match. -/
theorem packGo_match (l : List UInt8) (i : Nat) (p q : List UInt8) (hi : i < l.length) (h4 : ¬ (long l i).1 < 4) :
    packGo l (l.length - i) i p q = packGo l (l.length - (i + (long l i).1)) (i + (long l i).1) (flush p q ++ matchBytes (long l i).1 (long l i).2) [] := by
  have hb := long_bounds l i (by omega)
  rw [show l.length - i = (l.length - (i + 1)) + 1 by omega]
  conv => lhs; unfold packGo
  rw [if_pos hi, if_neg h4]
  rw [show l.length - (i + 1) = (l.length - (i + (long l i).1)) + ((long l i).1 - 1) by omega]
  exact packGo_more l _ _ _ _ (by omega) _

theorem flush_length (p q : List UInt8) : (flush p q).length ≤ p.length + q.length + 1 ∧ (0 < q.length → (flush p q).length = p.length + q.length + 1) ∧ (q = [] → flush p q = p) := by
  unfold flush
  split
  · rename_i h; subst h; simp
  · rename_i h; simp [h]; omega
end Go.Proofs.Ytgmpdclmfcmodaa.Pk
