/-
  The plain law: unpacking what was packed.
-/
import Derived.Test.YtgmpdclmfcmodaaPure4
namespace Go.Proofs.Ytgmpdclmfcmodaa.Pk

/-! ### Tokens, read back -/
theorem toNat_ofNat (n : Nat) (h : n < 256) : (UInt8.ofNat n).toNat = n := by
  rw [UInt8.toNat_ofNat']
  exact Nat.mod_eq_of_lt h

theorem tokenOf_bytes (t : Tok) (h : t.ok) (rest : List UInt8) : tokenOf (t.bytes ++ rest) = .ok (t, t.bytes.length) := by
  obtain ⟨lit, d, n⟩ := t
  rcases h with ⟨rfl, rfl, h1, h2⟩ | ⟨rfl, h1, h2, h3, h4⟩
  · simp only at h1 h2
    have hb : (⟨lit, 0, 0⟩ : Tok).bytes = UInt8.ofNat (lit.length - 1) :: lit := by unfold Tok.bytes; rw [if_neg (by simp)]
    rw [hb]
    have e0 : ((UInt8.ofNat (lit.length - 1) :: lit ++ rest).getD 0 0).toNat = lit.length - 1 := toNat_ofNat _ (by omega)
    unfold tokenOf
    rw [e0, if_pos (by omega), if_neg (by simp; omega)]
    have e1 : ((UInt8.ofNat (lit.length - 1) :: lit ++ rest).take (lit.length - 1 + 2)).drop 1 = lit := by
      rw [show lit.length - 1 + 2 = lit.length + 1 by omega]
      simp
    rw [e1]
    simp
    omega
  · simp only at h1 h2 h3 h4
    have hb : (⟨[], d, n⟩ : Tok).bytes = matchBytes n d := by unfold Tok.bytes; rw [if_pos (by simp; omega)]
    rw [hb]
    have e0 : ((matchBytes n d ++ rest).getD 0 0).toNat = 128 + n - 4 := toNat_ofNat _ (by omega)
    have e1 : ((matchBytes n d ++ rest).getD 1 0).toNat = (d - 1) / 256 := toNat_ofNat _ (by omega)
    have e2 : ((matchBytes n d ++ rest).getD 2 0).toNat = (d - 1) % 256 := by
      show (UInt8.ofNat (d - 1)).toNat = _
      rw [UInt8.toNat_ofNat']
    unfold tokenOf
    rw [e0, e1, e2, if_neg (by omega), if_neg (by simp [matchBytes]), if_neg (by omega)]
    simp only [Except.ok.injEq, Prod.mk.injEq, Tok.mk.injEq, true_and]
    refine ⟨⟨by omega, by omega⟩, rfl⟩

/-- A token that is cut off. -/
theorem tokenOf_cut (t : Tok) (h : t.ok) (k : Nat) (h0 : 0 < k) (hk : k < t.bytes.length) : tokenOf (t.bytes.take k) = .error 28 := by
  obtain ⟨lit, d, n⟩ := t
  rcases h with ⟨rfl, rfl, h1, h2⟩ | ⟨rfl, h1, h2, h3, h4⟩
  · simp only at h1 h2
    have hb : (⟨lit, 0, 0⟩ : Tok).bytes = UInt8.ofNat (lit.length - 1) :: lit := by unfold Tok.bytes; rw [if_neg (by simp)]
    rw [hb] at hk ⊢
    obtain ⟨k, rfl⟩ : ∃ j, k = j + 1 := ⟨k - 1, by omega⟩
    simp only [List.length_cons] at hk
    have e0 : (((UInt8.ofNat (lit.length - 1) :: lit).take (k + 1)).getD 0 0).toNat = lit.length - 1 := toNat_ofNat _ (by omega)
    unfold tokenOf
    rw [e0, if_pos (by omega), if_pos (by simp; omega)]
  · simp only at h1 h2 h3 h4
    have hb : (⟨[], d, n⟩ : Tok).bytes = matchBytes n d := by unfold Tok.bytes; rw [if_pos (by simp; omega)]
    rw [hb] at hk ⊢
    have hl : (matchBytes n d).length = 3 := rfl
    rw [hl] at hk
    obtain ⟨k, rfl⟩ : ∃ j, k = j + 1 := ⟨k - 1, by omega⟩
    have e0 : (((matchBytes n d).take (k + 1)).getD 0 0).toNat = 128 + n - 4 := toNat_ofNat _ (by omega)
    unfold tokenOf
    rw [e0, if_neg (by omega), if_pos (by rw [List.length_take, hl]; omega)]

theorem Tok.bytes_pos (t : Tok) : 0 < t.bytes.length := by
  unfold Tok.bytes; split <;> simp [matchBytes]

/-! ### What tokens stand for -/
def expand : List Tok → List UInt8 → List UInt8
  | [], text => text
  | t :: ts, text => expand ts (copyN t.dist t.len (text ++ t.lit))
def total : List Tok → Nat
  | [] => 0
  | t :: ts => t.lit.length + t.len + total ts
def fits : List Tok → Nat → Prop
  | [], _ => True
  | t :: ts, n => t.dist ≤ n ∧ fits ts (n + (t.lit.length + t.len))

theorem expand_append (a b : List Tok) : ∀ text, expand (a ++ b) text = expand b (expand a text) := by
  induction a with
  | nil => intro text; rfl
  | cons t ts ih => intro text; exact ih _
theorem total_append (a b : List Tok) : total (a ++ b) = total a + total b := by
  induction a with
  | nil => simp [total]
  | cons t ts ih => simp only [List.cons_append, total, ih]; omega
theorem fits_append (a b : List Tok) : ∀ n, fits (a ++ b) n ↔ fits a n ∧ fits b (n + total a) := by
  induction a with
  | nil => intro n; simp [fits, total]
  | cons t ts ih =>
    intro n
    simp only [List.cons_append, fits, total, ih]
    rw [show n + (t.lit.length + t.len) + total ts = n + (t.lit.length + t.len + total ts) by omega, and_assoc]
theorem expand_length (ts : List Tok) : ∀ text, (expand ts text).length = text.length + total ts := by
  induction ts with
  | nil => intro text; rfl
  | cons t ts ih =>
    intro text
    simp only [expand, total, ih, copyN_length, List.length_append]
    omega
theorem copyN_prefix (d : Nat) : ∀ n t, t <+: copyN d n t
  | 0, _ => List.prefix_refl _
  | n + 1, t => (copyN_prefix d n t).trans (List.prefix_append _ _)
theorem expand_prefix (ts : List Tok) : ∀ text, text <+: expand ts text := by
  induction ts with
  | nil => intro text; exact List.prefix_refl _
  | cons t ts ih => intro text; exact ((List.prefix_append _ _).trans (copyN_prefix _ _ _)).trans (ih _)

/-- Unpacking the bytes of tokens. -/
theorem unpackGo_tokens (bg most : Nat) : ∀ (ts : List Tok) (f at_ : Nat) (text : List UInt8), (∀ t ∈ ts, t.ok) → fits ts text.length → bg ≤ text.length → text.length ≤ bg + most → (toBytes ts).length ≤ f →
    (text.length + total ts ≤ bg + most → unpackGo bg most f at_ (toBytes ts) text = .ok ((expand ts text).drop bg)) ∧
    (bg + most < text.length + total ts → ∃ a, unpackGo bg most f at_ (toBytes ts) text = .error (a, 5))
  | [], f, at_, text, _, _, _, h2, _ => by
    refine ⟨fun _ => unpackGo_nil _ _ _ _ _, fun h => ?_⟩
    simp only [total] at h
    omega
  | t :: ts, f, at_, text, hok, hf, h1, h2, hl => by
    have hb : toBytes (t :: ts) = t.bytes ++ toBytes ts := by simp [toBytes]
    have hp := t.bytes_pos
    rw [hb, List.length_append] at hl
    obtain ⟨f, rfl⟩ : ∃ g, f = g + 1 := ⟨f - 1, by omega⟩
    obtain ⟨hd, hf'⟩ := hf
    have hne : t.bytes ++ toBytes ts ≠ [] := by
      intro h
      have := congrArg List.length h
      rw [List.length_append, List.length_nil] at this
      omega
    have hdrop : (t.bytes ++ toBytes ts).drop t.bytes.length = toBytes ts := List.drop_left
    have hlen : (copyN t.dist t.len (text ++ t.lit)).length = text.length + (t.lit.length + t.len) := by rw [copyN_length, List.length_append]; omega
    rw [hb]
    unfold unpackGo
    rw [if_neg hne, tokenOf_bytes t (hok t List.mem_cons_self)]
    simp only
    rw [if_neg (by omega), hdrop]
    by_cases hm : most < text.length - bg + t.lit.length + t.len
    · rw [if_pos hm]
      refine ⟨fun h => ?_, fun _ => ⟨_, rfl⟩⟩
      simp only [total] at h
      omega
    · rw [if_neg hm]
      have ih := unpackGo_tokens bg most ts f (at_ + t.bytes.length) (copyN t.dist t.len (text ++ t.lit)) (fun u hu => hok u (List.mem_cons_of_mem _ hu)) (by rw [hlen]; exact hf') (by omega) (by omega) (by omega)
      rw [hlen] at ih
      simp only [total]
      exact ⟨fun h => ih.1 (by omega), fun h => ih.2 (by omega)⟩

/-! ### The canonical tokens stand for the bytes -/
theorem copyN_match (l : List UInt8) (i d : Nat) (hd : d ≤ i) (hd0 : 0 < d) : ∀ n, i + n ≤ l.length → (∀ j, j < n → l[i - d + j]? = l[i + j]?) → copyN d n (l.take i) = l.take (i + n)
  | 0, _, _ => rfl
  | n + 1, hn, h => by
    have ih := copyN_match l i d hd hd0 n (by omega) (fun j hj => h j (by omega))
    unfold copyN
    rw [ih]
    have hl : (l.take (i + n)).length = i + n := by rw [List.length_take]; omega
    have hx : l[i + n]? = some (l[i + n]'(by omega)) := List.getElem?_eq_getElem (by omega)
    rw [hl, List.getD_eq_getElem?_getD, List.getElem?_take_of_lt (by omega), show i + n - d = i - d + n by omega, h n (by omega), hx]
    rw [show i + (n + 1) = i + n + 1 by omega, List.take_add_one, hx]
    rfl

theorem run_expand (q : List UInt8) (text : List UInt8) : expand (runTok q) text = text ++ q := by
  unfold runTok
  split
  · rename_i h; subst h; simp [expand]
  · simp [expand, copyN]
theorem run_fits (q : List UInt8) (n : Nat) : fits (runTok q) n := by
  unfold runTok
  split
  · trivial
  · exact ⟨Nat.zero_le _, trivial⟩

theorem take_lit (l : List UInt8) (i : Nat) (hi : i < l.length) : l.take (i + 1) = l.take i ++ [l.getD i 0] := by
  rw [List.take_add_one, List.getElem?_eq_getElem hi, List.getD_eq_getElem?_getD, List.getElem?_eq_getElem hi]
  rfl

theorem canGo_expand (l dict : List UInt8) : ∀ f i out q, l.length ≤ i + f → i ≤ l.length → expand out dict ++ q = l.take i → fits out dict.length →
    expand (canGo l f i out q) dict = l ∧ fits (canGo l f i out q) dict.length
  | 0, i, out, q, h, hi, he, hf => by
    unfold canGo
    refine ⟨?_, (fits_append _ _ _).2 ⟨hf, run_fits _ _⟩⟩
    rw [expand_append, run_expand, he]
    exact List.take_of_length_le (by omega)
  | f + 1, i, out, q, h, hi, he, hf => by
    unfold canGo
    by_cases hlt : i < l.length
    · rw [if_pos hlt]
      by_cases h4 : 4 ≤ (best l i).1
      · rw [if_pos h4]
        obtain ⟨b1, b2, b3, b4, b5⟩ := best_bounds l i h4
        have hc := bestTo_comm l i (min 4096 i) (by show 0 < (best l i).1; omega)
        have hs : ∀ j, j < (best l i).1 → l[i - (best l i).2 + j]? = l[i + j]? := fun j hj => comm_spec l _ _ _ j (by
          have := hc.2
          show j < comm l (i - (bestTo l i (min 4096 i)).2) i (most l i)
          rw [this]
          exact hj)
        have hm := copyN_match l i (best l i).2 b5 b3 (best l i).1 (by omega) hs
        have hfr : fits (out ++ runTok q) dict.length := (fits_append _ _ _).2 ⟨hf, run_fits _ _⟩
        have her : expand (out ++ runTok q) dict = l.take i := by rw [expand_append, run_expand, he]
        have hlr : dict.length + total (out ++ runTok q) = i := by
          rw [← expand_length, her, List.length_take]; omega
        refine canGo_expand l dict f _ _ _ (by omega) (by omega) ?_ ?_
        · rw [expand_append, her]
          show copyN (best l i).2 (best l i).1 (l.take i ++ []) ++ [] = _
          rw [List.append_nil, List.append_nil, hm]
        · refine (fits_append _ _ _).2 ⟨hfr, ?_⟩
          rw [hlr]
          exact ⟨b5, trivial⟩
      · rw [if_neg h4]
        have hstep : expand out dict ++ (q ++ [l.getD i 0]) = l.take (i + 1) := by rw [take_lit l i hlt, ← he, List.append_assoc]
        by_cases h8 : q.length + 1 = 128
        · rw [if_pos h8]
          refine canGo_expand l dict f _ _ _ (by omega) (by omega) ?_ ?_
          · rw [expand_append]
            show copyN 0 0 (expand out dict ++ (q ++ [l.getD i 0])) ++ [] = _
            rw [List.append_nil]
            exact hstep
          · exact (fits_append _ _ _).2 ⟨hf, Nat.zero_le _, trivial⟩
        · rw [if_neg h8]
          exact canGo_expand l dict f _ _ _ (by omega) (by omega) hstep hf
    · rw [if_neg hlt]
      refine ⟨?_, (fits_append _ _ _).2 ⟨hf, run_fits _ _⟩⟩
      rw [expand_append, run_expand, he]
      exact List.take_of_length_le (by omega)

theorem can_expand (dict b : List UInt8) : expand (can dict b) dict = dict ++ b ∧ fits (can dict b) dict.length := by
  refine canGo_expand (dict ++ b) dict _ _ _ _ (by simp) (by simp) ?_ trivial
  simp [expand]
theorem can_total (dict b : List UInt8) : total (can dict b) = b.length := by
  have h := expand_length (can dict b) dict
  rw [(can_expand dict b).1, List.length_append] at h
  omega

/-- Unpacking what was packed returns the bytes; with too small a limit, the error says so. -/
theorem unpack_pack (dict b : List UInt8) (most : Nat) (hd : dict.length ≤ 1048576) (hm : most ≤ 1048576) :
    (b.length ≤ most → unpack dict (pack dict b) most = .ok b) ∧ (most < b.length → ∃ a, unpack dict (pack dict b) most = .error (a, 5)) := by
  have h := unpackGo_tokens dict.length most (can dict b) (pack dict b).length 0 dict (can_ok dict b) (can_expand dict b).2 (Nat.le_refl _) (by omega) (by rw [pack_eq]; omega)
  rw [pack_eq, can_total, (can_expand dict b).1, List.drop_left] at h
  unfold unpack
  rw [if_neg (by omega), if_neg (by omega), Int.toNat_natCast]
  exact ⟨fun hb => h.1 (by omega), fun hb => h.2 (by omega)⟩

/-- Every beginning of the bytes of tokens ends within a token, or is the bytes of the first ones. -/
theorem unpackGo_beginning (bg most : Nat) : ∀ (ts : List Tok) (n f at_ : Nat) (text : List UInt8), (∀ t ∈ ts, t.ok) → fits ts text.length → bg ≤ text.length → text.length + total ts ≤ bg + most → n ≤ f →
    (∃ a, unpackGo bg most f at_ ((toBytes ts).take n) text = .error (a, 28)) ∨ ∃ text', unpackGo bg most f at_ ((toBytes ts).take n) text = .ok (text'.drop bg) ∧ text' <+: expand ts text ∧ bg ≤ text'.length
  | [], n, f, at_, text, _, _, h1, h2, _ => by
    refine .inr ⟨text, ?_, List.prefix_refl _, h1⟩
    simp only [toBytes, List.flatMap_nil, List.take_nil]
    exact unpackGo_nil _ _ _ _ _
  | t :: ts, n, f, at_, text, hok, hf, h1, h2, hl => by
    have hb : toBytes (t :: ts) = t.bytes ++ toBytes ts := by simp [toBytes]
    have hp := t.bytes_pos
    simp only [total] at h2
    obtain ⟨hd, hf'⟩ := hf
    have hlen : (copyN t.dist t.len (text ++ t.lit)).length = text.length + (t.lit.length + t.len) := by rw [copyN_length, List.length_append]; omega
    rw [hb]
    rcases Nat.eq_zero_or_pos n with h0 | h0
    · subst h0
      refine .inr ⟨text, ?_, expand_prefix (t :: ts) text, h1⟩
      rw [List.take_zero]
      exact unpackGo_nil _ _ _ _ _
    · obtain ⟨f, rfl⟩ : ∃ g, f = g + 1 := ⟨f - 1, by omega⟩
      rcases Nat.lt_or_ge n t.bytes.length with hn | hn
      · refine .inl ⟨at_, ?_⟩
        rw [List.take_append_of_le_length (by omega)]
        have hne : t.bytes.take n ≠ [] := by
          intro h
          have := congrArg List.length h
          rw [List.length_take, List.length_nil] at this
          omega
        unfold unpackGo
        rw [if_neg hne, tokenOf_cut t (hok t List.mem_cons_self) n h0 hn]
      · have htk : (t.bytes ++ toBytes ts).take n = t.bytes ++ (toBytes ts).take (n - t.bytes.length) := by
          rw [List.take_append, List.take_of_length_le hn]
        rw [htk]
        have hne : t.bytes ++ (toBytes ts).take (n - t.bytes.length) ≠ [] := by
          intro h
          have := congrArg List.length h
          rw [List.length_append, List.length_nil] at this
          omega
        unfold unpackGo
        rw [if_neg hne, tokenOf_bytes t (hok t List.mem_cons_self)]
        simp only
        rw [if_neg (by omega), List.drop_left, if_neg (by omega)]
        exact unpackGo_beginning bg most ts (n - t.bytes.length) f _ _ (fun u hu => hok u (List.mem_cons_of_mem _ hu)) (by rw [hlen]; exact hf') (by omega) (by omega) (by omega)

theorem unpack_beginning (b : List UInt8) (n : Nat) (hb : b.length ≤ 1048576) :
    (∃ a, unpack [] ((pack [] b).take n) b.length = .error (a, 28)) ∨ ∃ c, unpack [] ((pack [] b).take n) b.length = .ok c ∧ c <+: b := by
  have h := unpackGo_beginning 0 b.length (can [] b) n (((pack [] b).take n).length + n) 0 [] (can_ok [] b) (can_expand [] b).2 (Nat.le_refl _) (by rw [can_total]; simp) (by omega)
  rw [pack_eq, (can_expand [] b).1, List.nil_append, unpackGo_more _ _ _ _ _ _ _ (Nat.le_refl _)] at h
  unfold unpack
  rw [if_neg (by omega), if_neg (by simp), Int.toNat_natCast, List.length_nil]
  rcases h with h | ⟨t, h1, h2, _⟩
  · exact .inl h
  · exact .inr ⟨t, by simpa using h1, h2⟩
end Go.Proofs.Ytgmpdclmfcmodaa.Pk
