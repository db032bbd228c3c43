/-
  The plain laws of tokens: the canonical tokens, their bytes, reading them back, unpacking.
-/
import Derived.Test.YtgmpdclmfcmodaaPure
namespace Go.Proofs.Ytgmpdclmfcmodaa.Pk

/-- A token: literals, or (len > 0) a match. -/
structure Tok where
  lit : List UInt8
  dist : Nat
  len : Nat

/-- What tokens of the canonical form look like. -/
def Tok.ok (t : Tok) : Prop := (t.len = 0 ∧ t.dist = 0 ∧ 0 < t.lit.length ∧ t.lit.length ≤ 128) ∨ (t.lit = [] ∧ 4 ≤ t.len ∧ t.len ≤ 131 ∧ 0 < t.dist ∧ t.dist ≤ 4096)

def Tok.bytes (t : Tok) : List UInt8 := if 0 < t.len then matchBytes t.len t.dist else UInt8.ofNat (t.lit.length - 1) :: t.lit
def toBytes (l : List Tok) : List UInt8 := l.flatMap Tok.bytes

theorem toBytes_append (l m : List Tok) : toBytes (l ++ m) = toBytes l ++ toBytes m := by simp [toBytes]

def runTok (q : List UInt8) : List Tok := if q = [] then [] else [⟨q, 0, 0⟩]
theorem toBytes_run (out : List Tok) (q : List UInt8) : toBytes (out ++ runTok q) = flush (toBytes out) q := by
  rw [toBytes_append]
  unfold runTok flush
  split
  · simp [toBytes]
  · simp [toBytes, Tok.bytes]

/-- The canonical tokens from a place on: out is written, q waits. -/
def canGo (l : List UInt8) : Nat → Nat → List Tok → List UInt8 → List Tok
  | 0, _, out, q => out ++ runTok q
  | f + 1, i, out, q =>
    if i < l.length then
      if 4 ≤ (best l i).1 then canGo l f (i + (best l i).1) (out ++ runTok q ++ [⟨[], (best l i).2, (best l i).1⟩]) []
      else if q.length + 1 = 128 then canGo l f (i + 1) (out ++ [⟨q ++ [l.getD i 0], 0, 0⟩]) [] else canGo l f (i + 1) out (q ++ [l.getD i 0])
    else out ++ runTok q

/-- The canonical tokens of bytes that follow a dictionary. -/
def can (dict b : List UInt8) : List Tok := canGo (dict ++ b) b.length dict.length [] []

theorem long_of_best (l : List UInt8) (i : Nat) : (4 ≤ (best l i).1 → long l i = best l i) ∧ (¬ 4 ≤ (best l i).1 → (long l i).1 < 4) := by
  unfold long
  constructor
  · intro h; rw [if_pos h]
  · intro h; rw [if_neg h]; simp

/-- Their bytes are what the writer writes. -/
theorem can_bytes (l : List UInt8) : ∀ f i out q, toBytes (canGo l f i out q) = packGo l f i (toBytes out) q
  | 0, i, out, q => toBytes_run out q
  | f + 1, i, out, q => by
    unfold canGo packGo
    by_cases hi : i < l.length
    · rw [if_pos hi, if_pos hi]
      by_cases h4 : 4 ≤ (best l i).1
      · have e := (long_of_best l i).1 h4
        rw [if_pos h4, can_bytes, e, if_neg (by omega), toBytes_append, toBytes_run]
        congr 1
        simp [toBytes, Tok.bytes, show 0 < (best l i).1 by omega]
      · have e := (long_of_best l i).2 h4
        rw [if_neg h4, if_pos e]
        by_cases hq : q.length + 1 = 128
        · rw [if_pos hq, if_pos hq, can_bytes]
          congr 1
          have := toBytes_run out (q ++ [l.getD i 0])
          unfold runTok at this
          rw [if_neg (by simp)] at this
          exact this
        · rw [if_neg hq, if_neg hq, can_bytes]
    · rw [if_neg hi, if_neg hi]
      exact toBytes_run out q

theorem pack_eq (dict b : List UInt8) : toBytes (can dict b) = pack dict b := can_bytes _ _ _ _ _

theorem canGo_more (l : List UInt8) : ∀ f i out q, l.length ≤ i + f → ∀ g, canGo l (f + g) i out q = canGo l f i out q
  | 0, i, out, q, h, g => by
    cases g with
    | zero => rfl
    | succ g => rw [Nat.zero_add]; unfold canGo; rw [if_neg (by omega)]
  | f + 1, i, out, q, h, g => by
    rw [show f + 1 + g = (f + g) + 1 by omega]
    unfold canGo
    by_cases hi : i < l.length
    · rw [if_pos hi, if_pos hi]
      by_cases h4 : 4 ≤ (best l i).1
      · rw [if_pos h4, if_pos h4, canGo_more l f _ _ _ (by omega)]
      · rw [if_neg h4, if_neg h4, canGo_more l f _ _ _ (by omega), canGo_more l f _ _ _ (by omega)]
    · rw [if_neg hi, if_neg hi]

theorem best_bounds (l : List UInt8) (i : Nat) (h : 4 ≤ (best l i).1) : (best l i).1 ≤ 131 ∧ (best l i).1 + i ≤ l.length ∧ 0 < (best l i).2 ∧ (best l i).2 ≤ 4096 ∧ (best l i).2 ≤ i := by
  have e := (long_of_best l i).1 h
  have := long_bounds l i (by rw [e]; exact h)
  rw [e] at this
  exact this

theorem canGo_end (l : List UInt8) (f i : Nat) (out : List Tok) (q : List UInt8) (h : l.length ≤ i) : canGo l f i out q = out ++ runTok q := by
  cases f with
  | zero => rfl
  | succ f => unfold canGo; rw [if_neg (by omega)]

theorem canGo_match (l : List UInt8) (i : Nat) (out : List Tok) (q : List UInt8) (hi : i < l.length) (h4 : 4 ≤ (best l i).1) :
    canGo l (l.length - i) i out q = canGo l (l.length - (i + (best l i).1)) (i + (best l i).1) (out ++ runTok q ++ [⟨[], (best l i).2, (best l i).1⟩]) [] := by
  have hb := best_bounds l i h4
  rw [show l.length - i = (l.length - (i + 1)) + 1 by omega]
  conv => lhs; unfold canGo
  rw [if_pos hi, if_pos h4, show l.length - (i + 1) = (l.length - (i + (best l i).1)) + ((best l i).1 - 1) by omega]
  exact canGo_more l _ _ _ _ (by omega) _

theorem canGo_lit (l : List UInt8) (i : Nat) (out : List Tok) (q : List UInt8) (hi : i < l.length) (h4 : ¬ 4 ≤ (best l i).1) :
    canGo l (l.length - i) i out q = if q.length + 1 = 128 then canGo l (l.length - (i + 1)) (i + 1) (out ++ [⟨q ++ [l.getD i 0], 0, 0⟩]) [] else canGo l (l.length - (i + 1)) (i + 1) out (q ++ [l.getD i 0]) := by
  rw [show l.length - i = (l.length - (i + 1)) + 1 by omega]
  conv => lhs; unfold canGo
  rw [if_pos hi, if_neg h4]

theorem canGo_ok (l : List UInt8) : ∀ f i out q, (∀ t ∈ out, t.ok) → q.length < 128 → ∀ t ∈ canGo l f i out q, t.ok := by
  have hrun : ∀ q : List UInt8, q.length ≤ 128 → ∀ t ∈ runTok q, t.ok := by
    intro q hq t ht
    unfold runTok at ht
    split at ht
    · cases ht
    · rename_i hne
      simp only [List.mem_singleton] at ht
      subst ht
      exact .inl ⟨rfl, rfl, List.length_pos_iff.2 hne, hq⟩
  intro f
  induction f with
  | zero =>
    intro i out q ho hq t ht
    rcases List.mem_append.1 ht with h | h
    · exact ho t h
    · exact hrun q (by omega) t h
  | succ f ih =>
    intro i out q ho hq
    unfold canGo
    by_cases hi : i < l.length
    · rw [if_pos hi]
      by_cases h4 : 4 ≤ (best l i).1
      · rw [if_pos h4]
        have hb := best_bounds l i h4
        refine ih _ _ _ (fun t ht => ?_) (by simp)
        rcases List.mem_append.1 ht with h | h
        · rcases List.mem_append.1 h with h | h
          · exact ho t h
          · exact hrun q (by omega) t h
        · simp only [List.mem_singleton] at h
          subst h
          exact .inr ⟨rfl, h4, hb.1, hb.2.2.1, hb.2.2.2.1⟩
      · rw [if_neg h4]
        by_cases hq1 : q.length + 1 = 128
        · rw [if_pos hq1]
          refine ih _ _ _ (fun t ht => ?_) (by simp)
          rcases List.mem_append.1 ht with h | h
          · exact ho t h
          · simp only [List.mem_singleton] at h
            subst h
            exact .inl ⟨rfl, rfl, by simp, by simp; omega⟩
        · rw [if_neg hq1]
          exact ih _ _ _ ho (by simp; omega)
    · rw [if_neg hi]
      intro t ht
      rcases List.mem_append.1 ht with h | h
      · exact ho t h
      · exact hrun q (by omega) t h

theorem can_ok (dict b : List UInt8) : ∀ t ∈ can dict b, t.ok := canGo_ok _ _ _ _ _ (by simp) (by simp)
end Go.Proofs.Ytgmpdclmfcmodaa.Pk
