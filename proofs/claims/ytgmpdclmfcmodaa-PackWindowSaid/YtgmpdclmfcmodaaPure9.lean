/-
  The plain law: bytes that occur again behind pairs of other bytes are packed as one match.
-/
import Derived.Test.YtgmpdclmfcmodaaPure5
import Derived.Test.YtgmpdclmfcmodaaPure7
namespace Go.Proofs.Ytgmpdclmfcmodaa.Pk

/-! ### Tokens are read back -/
theorem tokGo_tokens : ∀ (ts : List Tok) (f at_ : Nat) (acc : List Tok), (∀ t ∈ ts, t.ok) → (toBytes ts).length ≤ f → tokGo f at_ (toBytes ts) acc = .ok (acc ++ ts)
  | [], f, at_, acc, _, _ => by rw [show toBytes [] = [] from rfl, tokGo_nil, List.append_nil]
  | t :: ts, f, at_, acc, hok, hl => by
    have hb : toBytes (t :: ts) = t.bytes ++ toBytes ts := by simp [toBytes]
    have hp := t.bytes_pos
    rw [hb, List.length_append] at hl
    obtain ⟨f, rfl⟩ : ∃ g, f = g + 1 := ⟨f - 1, by omega⟩
    have hne : t.bytes ++ toBytes ts ≠ [] := by
      intro h
      have := congrArg List.length h
      rw [List.length_append, List.length_nil] at this
      omega
    rw [hb]
    unfold tokGo
    rw [if_neg hne, tokenOf_bytes t (hok t List.mem_cons_self)]
    simp only
    rw [show (t.bytes ++ toBytes ts).drop t.bytes.length = toBytes ts from List.drop_left, tokGo_tokens ts f _ _ (fun u hu => hok u (List.mem_cons_of_mem _ hu)) (by omega), List.append_assoc]
    rfl

theorem tokens_pack (dict b : List UInt8) : tokens (pack dict b) = .ok (can dict b) := by
  rw [← pack_eq]
  exact tokGo_tokens _ _ _ [] (can_ok dict b) (Nat.le_refl _)

/-! ### A place that no match steps over -/
theorem canGo_to (l : List UInt8) (s : Nat) (hs : s ≤ l.length) (h : ∀ i, i < s → 4 ≤ (best l i).1 → i + (best l i).1 ≤ s) : ∀ n i out q, i ≤ s → s - i ≤ n →
    ∃ out' q', canGo l (l.length - i) i out q = canGo l (l.length - s) s out' q'
  | 0, i, out, q, hi, hn => by
    obtain rfl : i = s := by omega
    exact ⟨out, q, rfl⟩
  | n + 1, i, out, q, hi, hn => by
    by_cases his : i = s
    · subst his
      exact ⟨out, q, rfl⟩
    · by_cases h4 : 4 ≤ (best l i).1
      · rw [canGo_match l i out q (by omega) h4]
        exact canGo_to l s hs h n _ _ _ (h i (by omega) h4) (by omega)
      · rw [canGo_lit l i out q (by omega) h4]
        split
        · exact canGo_to l s hs h n (i + 1) _ _ (by omega) (by omega)
        · exact canGo_to l s hs h n (i + 1) _ _ (by omega) (by omega)

/-- .. and the bytes behind it are one match. -/
theorem can_last (l : List UInt8) (s d : Nat) (hs : s < l.length) (h : ∀ i, i < s → 4 ≤ (best l i).1 → i + (best l i).1 ≤ s) (hb : best l s = (l.length - s, d)) (h4 : 4 ≤ l.length - s) :
    ∃ out, can [] l = out ++ [⟨[], d, l.length - s⟩] := by
  obtain ⟨out, q, e⟩ := canGo_to l s (Nat.le_of_lt hs) h s 0 [] [] (Nat.zero_le _) (by omega)
  refine ⟨out ++ runTok q, ?_⟩
  have e2 := canGo_match l s out q hs (by rw [hb]; exact h4)
  unfold can
  rw [List.nil_append, show ([] : List UInt8).length = 0 from rfl]
  rw [Nat.sub_zero] at e
  rw [e, e2, hb, canGo_end _ _ _ _ _ (by simp only; omega)]
  simp [runTok]

/-! ### The text -/
def gapBytes : Nat → List UInt8
  | 0 => []
  | g + 1 => gapBytes g ++ [UInt8.ofNat g, UInt8.ofNat (g / 256 + 100)]

theorem gapBytes_length : ∀ g, (gapBytes g).length = 2 * g
  | 0 => rfl
  | g + 1 => by rw [gapBytes, List.length_append, gapBytes_length g]; simp; omega

theorem gap_get : ∀ g i, i < g → (gapBytes g)[2 * i]? = some (UInt8.ofNat i) ∧ (gapBytes g)[2 * i + 1]? = some (UInt8.ofNat (i / 256 + 100))
  | 0, i, h => by omega
  | g + 1, i, h => by
    have hl := gapBytes_length g
    rw [gapBytes]
    by_cases hi : i < g
    · rw [List.getElem?_append_left (by omega), List.getElem?_append_left (by omega)]
      exact gap_get g i hi
    · obtain rfl : i = g := by omega
      rw [List.getElem?_append_right (by omega), List.getElem?_append_right (by omega), hl, Nat.sub_self, show 2 * i + 1 - 2 * i = 1 by omega]
      exact ⟨rfl, rfl⟩

/-- The text of the law. -/
def winText (m : List UInt8) (g : Nat) : List UInt8 := m ++ gapBytes g ++ m

section
variable (m : List UInt8) (g : Nat)

/-- A byte of it as a number. -/
def at_ (l : List UInt8) (i : Nat) : Nat := (l.getD i 0).toNat

theorem win_length : (winText m g).length = 2 * m.length + 2 * g := by
  unfold winText
  rw [List.length_append, List.length_append, gapBytes_length]
  omega

theorem at_eq {l : List UInt8} {i j : Nat} (h : l[i]? = l[j]?) : at_ l i = at_ l j := by
  unfold at_
  rw [List.getD_eq_getElem?_getD, List.getD_eq_getElem?_getD, h]

theorem win_first (hm : ∀ b ∈ m, 200 ≤ b.toNat) (i : Nat) (hi : i < m.length) : 200 ≤ at_ (winText m g) i := by
  unfold at_ winText
  rw [List.getD_eq_getElem?_getD, List.getElem?_append_left (by rw [List.length_append]; omega), List.getElem?_append_left hi, List.getElem?_eq_getElem hi]
  exact hm _ (List.getElem_mem hi)

theorem win_again (i : Nat) (hi : i < m.length) : (winText m g)[m.length + 2 * g + i]? = (winText m g)[i]? := by
  unfold winText
  rw [List.getElem?_append_right (by rw [List.length_append, gapBytes_length]; omega), List.getElem?_append_left (by rw [List.length_append]; omega), List.getElem?_append_left hi, List.length_append, gapBytes_length]
  congr 1
  omega

theorem win_lo (hg : g ≤ 5000) (i : Nat) (hi : i < g) : at_ (winText m g) (m.length + 2 * i) = i % 256 := by
  unfold at_ winText
  rw [List.getD_eq_getElem?_getD, List.getElem?_append_left (by rw [List.length_append, gapBytes_length]; omega), List.getElem?_append_right (by omega), show m.length + 2 * i - m.length = 2 * i by omega, (gap_get g i hi).1]
  simp

theorem win_hi (hg : g ≤ 5000) (i : Nat) (hi : i < g) : at_ (winText m g) (m.length + 2 * i + 1) = i / 256 + 100 := by
  unfold at_ winText
  rw [List.getD_eq_getElem?_getD, List.getElem?_append_left (by rw [List.length_append, gapBytes_length]; omega), List.getElem?_append_right (by omega), show m.length + 2 * i + 1 - m.length = 2 * i + 1 by omega, (gap_get g i hi).2]
  exact toNat_ofNat _ (by omega)

theorem win_second (hm : ∀ b ∈ m, 200 ≤ b.toNat) (i : Nat) (hi : i < m.length) : 200 ≤ at_ (winText m g) (m.length + 2 * g + i) := by
  rw [at_eq (win_again m g i hi)]
  exact win_first m g hm i hi

theorem carry (n : Nat) : ((n + 1) % 256 = n % 256 + 1 ∧ (n + 1) / 256 = n / 256) ∨ (n % 256 = 255 ∧ (n + 1) % 256 = 0 ∧ (n + 1) / 256 = n / 256 + 1) := by omega
theorem carry_no (a b : Nat) (ha : a / 256 ≤ 100) (hb : b / 256 ≤ 100) (e0 : b / 256 + 100 = a % 256) (e1 : (b + 1) % 256 = a / 256 + 100) (e2 : (b + 1) / 256 + 100 = (a + 1) % 256) : False := by
  have h1 := carry a
  have h2 := carry b
  generalize a / 256 = x1 at *
  generalize b / 256 = x2 at *
  generalize (a + 1) / 256 = x3 at *
  generalize (b + 1) / 256 = x4 at *
  generalize a % 256 = y1 at *
  generalize b % 256 = y2 at *
  generalize (a + 1) % 256 = y3 at *
  generalize (b + 1) % 256 = y4 at *
  omega

/-- A common length says that the bytes agree. -/
theorem comm_at (l : List UInt8) (a b k i : Nat) (hi : i < comm l a b k) : at_ l (a + i) = at_ l (b + i) := at_eq (comm_spec l k a b i hi)

variable (hm : ∀ b ∈ m, 200 ≤ b.toNat) (hg : g ≤ 2046) (h0 : 0 < g) (h4 : 4 ≤ m.length)
include hm hg h0 h4

/-- No four bytes from a place of the gap on have stood before. -/
theorem win_gap (x j : Nat) (hx : m.length ≤ x) (hx2 : x < m.length + 2 * g) (hj : j < x) (h : ∀ i, i < 4 → at_ (winText m g) (j + i) = at_ (winText m g) (x + i)) : False := by
  have e0 := h 0 (by omega)
  have e1 := h 1 (by omega)
  have e2 := h 2 (by omega)
  clear h
  simp only [Nat.add_zero] at e0
  have lo := win_lo m g (by omega)
  have hi := win_hi m g (by omega)
  have fi := win_first m g hm
  have se := win_second m g hm
  obtain ⟨a, ha⟩ : ∃ a, x = m.length + 2 * a ∨ x = m.length + 2 * a + 1 := ⟨(x - m.length) / 2, by omega⟩
  have hag : a < g := by omega
  rcases ha with rfl | rfl
  · rw [lo a hag] at e0
    rw [hi a hag] at e1
    by_cases hj1 : j + 1 < m.length
    · have := fi (j + 1) hj1
      omega
    · by_cases hj2 : j + 1 = m.length
      · have := lo 0 (by omega)
        rw [hj2] at e1
        simp only [Nat.mul_zero, Nat.add_zero] at this
        omega
      · obtain ⟨b, hb⟩ : ∃ b, j = m.length + 2 * b ∨ j = m.length + 2 * b + 1 := ⟨(j - m.length) / 2, by omega⟩
        rcases hb with rfl | rfl
        · rw [lo b (by omega)] at e0
          rw [hi b (by omega)] at e1
          omega
        · rw [hi b (by omega)] at e0
          rw [show m.length + 2 * b + 1 + 1 = m.length + 2 * (b + 1) by omega, lo (b + 1) (by omega)] at e1
          rw [show m.length + 2 * b + 1 + 2 = m.length + 2 * (b + 1) + 1 by omega, hi (b + 1) (by omega)] at e2
          by_cases hl : a + 1 < g
          · rw [show m.length + 2 * a + 2 = m.length + 2 * (a + 1) by omega, lo (a + 1) hl] at e2
            exact carry_no a b (by omega) (by omega) e0 e1 e2
          · have := se 0 (by omega)
            rw [show m.length + 2 * a + 2 = m.length + 2 * g + 0 by omega] at e2
            omega
  · rw [hi a hag] at e0
    by_cases hj1 : j < m.length
    · have := fi j hj1
      omega
    · obtain ⟨b, hb⟩ : ∃ b, j = m.length + 2 * b ∨ j = m.length + 2 * b + 1 := ⟨(j - m.length) / 2, by omega⟩
      rcases hb with rfl | rfl
      · rw [lo b (by omega)] at e0
        rw [hi b (by omega)] at e1
        by_cases hl : a + 1 < g
        · rw [show m.length + 2 * a + 1 + 1 = m.length + 2 * (a + 1) by omega, lo (a + 1) hl] at e1
          rw [show m.length + 2 * b + 2 = m.length + 2 * (b + 1) by omega, lo (b + 1) (by omega), show m.length + 2 * a + 1 + 2 = m.length + 2 * (a + 1) + 1 by omega, hi (a + 1) hl] at e2
          exact carry_no b a (by omega) (by omega) e0.symm e1.symm e2.symm
        · have := se 0 (by omega)
          rw [show m.length + 2 * a + 1 + 1 = m.length + 2 * g + 0 by omega] at e1
          omega
      · rw [show m.length + 2 * b + 1 + 2 = m.length + 2 * (b + 1) + 1 by omega, hi (b + 1) (by omega)] at e2
        by_cases hl : a + 1 < g
        · rw [show m.length + 2 * a + 1 + 2 = m.length + 2 * (a + 1) + 1 by omega, hi (a + 1) hl] at e2
          rw [show m.length + 2 * b + 1 + 1 = m.length + 2 * (b + 1) by omega, lo (b + 1) (by omega), show m.length + 2 * a + 1 + 1 = m.length + 2 * (a + 1) by omega, lo (a + 1) hl] at e1
          omega
        · have := se 1 (by omega)
          rw [show m.length + 2 * a + 1 + 2 = m.length + 2 * g + 1 by omega] at e2
          omega

theorem win_before (i : Nat) (hi : i < m.length + 2 * g) (hb : 4 ≤ (best (winText m g) i).1) : i + (best (winText m g) i).1 ≤ m.length + 2 * g := by
  have hc := bestTo_comm (winText m g) i (min 4096 i) (by unfold best at hb; omega)
  have hle := bestTo_le (winText m g) i (min 4096 i)
  change 0 < (best _ i).2 ∧ comm _ (i - (best _ i).2) i _ = (best _ i).1 at hc
  change (best _ i).1 ≤ _ ∧ (best _ i).2 ≤ _ at hle
  generalize best (winText m g) i = r at *
  have hag : ∀ j, j < r.1 → at_ (winText m g) (i - r.2 + j) = at_ (winText m g) (i + j) := fun j hj => comm_at _ _ _ _ j (by rw [hc.2]; exact hj)
  by_cases hx : m.length ≤ i
  · exact absurd (win_gap m g hm hg h0 h4 i (i - r.2) hx hi (by omega) fun j hj => hag j (by omega)) id
  · rcases Nat.lt_or_ge (m.length) (i + r.1) with hlt | hge
    · have h1 := hag (m.length - i) (by omega)
      have h2 := win_first m g hm (i - r.2 + (m.length - i)) (by omega)
      have h3 := win_lo m g (by omega) 0 h0
      rw [show i + (m.length - i) = m.length + 2 * 0 by omega] at h1
      omega
    · omega

theorem win_best (hd : m.length + 2 * g ≤ 4096) (h30 : m.length ≤ 30) : best (winText m g) (m.length + 2 * g) = (m.length, m.length + 2 * g) := by
  have hlen := win_length m g
  have hmost : most (winText m g) (m.length + 2 * g) = m.length := by unfold most; omega
  have hk : min 4096 (m.length + 2 * g) = m.length + 2 * g := by omega
  have hfull : m.length ≤ comm (winText m g) 0 (m.length + 2 * g) m.length := comm_ge _ _ _ _ _ (Nat.le_refl _) fun j hj => by rw [Nat.zero_add]; exact (win_again m g j hj).symm
  have hle := bestTo_le (winText m g) (m.length + 2 * g) (m.length + 2 * g)
  have hge := bestTo_ge (winText m g) (m.length + 2 * g) (m.length + 2 * g) (m.length + 2 * g) (by omega) (Nat.le_refl _)
  have hc := bestTo_comm (winText m g) (m.length + 2 * g) (m.length + 2 * g)
  rw [hmost] at hle hge hc
  rw [Nat.sub_self] at hge
  unfold best
  rw [hk]
  generalize bestTo (winText m g) (m.length + 2 * g) (m.length + 2 * g) = r at *
  obtain ⟨n, d⟩ := r
  simp only at hle hge hc
  obtain rfl : n = m.length := by omega
  obtain ⟨hd0, hc⟩ := hc (by omega)
  have hag : ∀ j, j < m.length → at_ (winText m g) (m.length + 2 * g - d + j) = at_ (winText m g) (m.length + 2 * g + j) := fun j hj => comm_at _ _ _ _ j (by rw [hc]; exact hj)
  rcases Nat.lt_or_ge d (m.length + 2 * g) with hlt | hge2
  · exfalso
    have se := win_second m g hm
    by_cases hx : m.length ≤ m.length + 2 * g - d
    · obtain ⟨a, ha⟩ : ∃ a, m.length + 2 * g - d = m.length + 2 * a ∨ m.length + 2 * g - d = m.length + 2 * a + 1 := ⟨(2 * g - d) / 2, by omega⟩
      rcases ha with ha | ha
      · have h1 := hag 1 (by omega)
        rw [ha, win_hi m g (by omega) a (by omega)] at h1
        have := se 1 (by omega)
        omega
      · have h1 := hag 0 (by omega)
        rw [ha, Nat.add_zero, win_hi m g (by omega) a (by omega)] at h1
        have := se 0 (by omega)
        omega
    · have h1 := hag (m.length - (m.length + 2 * g - d)) (by omega)
      have h3 := win_lo m g (by omega) 0 h0
      have := se (m.length - (m.length + 2 * g - d)) (by omega)
      rw [show m.length + 2 * g - d + (m.length - (m.length + 2 * g - d)) = m.length + 2 * 0 by omega] at h1
      omega
  · obtain rfl : d = m.length + 2 * g := by omega
    rfl

theorem win_last (hd : m.length + 2 * g ≤ 4096) (h30 : m.length ≤ 30) : ∃ out, can [] (winText m g) = out ++ [⟨[], m.length + 2 * g, m.length⟩] := by
  have hlen := win_length m g
  have e : (winText m g).length - (m.length + 2 * g) = m.length := by omega
  have := can_last (winText m g) (m.length + 2 * g) (m.length + 2 * g) (by omega) (win_before m g hm hg h0 h4) (by rw [e]; exact win_best m g hm hg h0 h4 hd h30) (by omega)
  rw [e] at this
  exact this
end
end Go.Proofs.Ytgmpdclmfcmodaa.Pk
