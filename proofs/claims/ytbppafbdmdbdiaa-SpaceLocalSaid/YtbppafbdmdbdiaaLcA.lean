/-
  Plain laws for SpaceLocal: two abstract spaces that differ in their sources answer alike as long as the sources agree on the pages that have been asked for.
-/
import Derived.Test.YtbppafbdmdbdiaaPlB
namespace Go.Proofs.Ytbppafbdmdbdiaa
open Go.RowKit
set_option linter.unusedVariables false
set_option linter.unusedSectionVars false

def reSrc (g : Nat → Option (List UInt8)) (a : AS) : AS := { a with src := some g }
def Bad (D : Nat → Bool) (a : AS) : Prop := ∃ p, a.asked p = true ∧ D p = false
theorem Bad.need {D : Nat → Bool} (a : AS) (p : Nat) (h : Bad D a) : Bad D (needA a p) := by
  obtain ⟨q, h1, h2⟩ := h
  refine ⟨q, ?_, h2⟩
  unfold needA
  split
  · exact h1
  · split
    · exact h1
    · show upd a.asked p true q = true
      by_cases e : q = p
      · rw [e, upd_at]
      · rw [upd_ne _ _ _ _ e]; exact h1
theorem Bad.put {D : Nat → Bool} (a : AS) (pg : Nat → Option (List UInt8)) (ch : Nat → Bool) (h : Bad D a) : Bad D { a with page := pg, changed := ch } := h
section
variable {D : Nat → Bool} {f g : Nat → Option (List UInt8)} (hD : ∀ p, D p = true → f p = g p)
include hD
theorem need_re (a : AS) (p : Nat) (ha : a.src = some f) : needA (reSrc g a) p = reSrc g (needA a p) ∨ Bad D (needA a p) := by
  unfold needA
  by_cases hk : a.known p = true
  · rw [if_pos hk, if_pos (show (reSrc g a).known p = true from hk)]
    exact .inl rfl
  · rw [if_neg hk, if_neg (show ¬ (reSrc g a).known p = true from hk), ha]
    by_cases hd : D p = true
    · refine .inl ?_
      show ({ reSrc g a with known := _, asked := _, page := upd a.page p ((g p).map padL) } : AS) = _
      rw [← hD p hd]
      rfl
    · exact .inr ⟨p, upd_at _ _ _, by simpa using hd⟩
theorem reach_re : ∀ (c p : Nat) (a : AS), a.src = some f → reachA c p (reSrc g a) = (reSrc g (reachA c p a).1, (reachA c p a).2) ∨ Bad D (reachA c p a).1
  | 0, _, _, _ => .inl rfl
  | c + 1, p, a, ha => by
    have hn := need_re hD a p ha
    have hs : (needA a p).src = some f := (needA_src a p).trans ha
    unfold reachA
    by_cases hp : ((needA a p).page p).isSome = true
    · rw [if_pos hp]
      rcases hn with h | h
      · rw [h, if_pos (show ((reSrc g (needA a p)).page p).isSome = true from hp)]
        exact reach_re c (p + 1) _ hs
      · exact .inr (reachA_clo (Bad D) Bad.need c _ _ h)
    · rw [if_neg hp]
      rcases hn with h | h
      · rw [h, if_neg (show ¬ ((reSrc g (needA a p)).page p).isSome = true from hp)]
        exact .inl rfl
      · exact .inr h
theorem access_re (a : AS) (x n : Int) (ha : a.src = some f) : accessA (reSrc g a) x n = (reSrc g (accessA a x n).1, (accessA a x n).2) ∨ Bad D (accessA a x n).1 := by
  unfold accessA
  by_cases h0 : n = 0
  · rw [if_pos h0, if_pos h0]; exact .inl rfl
  · rw [if_neg h0, if_neg h0]
    by_cases h1 : x < 0 ∨ 4096 ≤ x ∨ 4096 - x < n
    · rw [if_pos h1, if_pos h1]; exact .inl rfl
    · rw [if_neg h1, if_neg h1]
      refine (reach_re hD (((x + n - 1) / 64).toNat + 1 - (x / 64).toNat) (x / 64).toNat a ha).imp (fun h => ?_) id
      show ((reachA _ _ (reSrc g a)).1, errOf (reachA _ _ (reSrc g a)).2) = _
      rw [h]
theorem load_re (a : AS) (x n : Int) (ha : a.src = some f) : loadA (reSrc g a) x n = (reSrc g (loadA a x n).1, (loadA a x n).2) ∨ Bad D (loadA a x n).1 := by
  unfold loadA
  by_cases h0 : n < 0
  · rw [if_pos h0, if_pos h0]; exact .inl rfl
  · rw [if_neg h0, if_neg h0]
    refine (access_re hD a x n ha).imp (fun h => ?_) id
    rw [h]
    rfl
omit hD in
theorem storeGo_re (a : AS) (x : Nat) (l : List UInt8) : ∀ k, storeGo (reSrc g a) x l k = reSrc g (storeGo a x l k)
  | 0 => rfl
  | k + 1 => by
    show storeStep (storeGo (reSrc g a) x l k) _ _ = _
    rw [storeGo_re a x l k]
    rfl
theorem store_re (a : AS) (x : Int) (l : List UInt8) (ha : a.src = some f) : storeA (reSrc g a) x l = (reSrc g (storeA a x l).1, (storeA a x l).2) ∨ Bad D (storeA a x l).1 := by
  unfold storeA
  rcases access_re hD a x l.length ha with h | h
  · refine .inl ?_
    rw [h]
    show ((if (accessA a x l.length).2 = 0 then storeGo (reSrc g _) _ _ _ else reSrc g _), (accessA a x l.length).2) = (reSrc g (if (accessA a x l.length).2 = 0 then _ else _), (accessA a x l.length).2)
    by_cases h0 : (accessA a x l.length).2 = 0
    · rw [if_pos h0, if_pos h0, storeGo_re]
    · rw [if_neg h0, if_neg h0]
  · refine .inr ?_
    show Bad D (if _ then _ else _)
    split
    · exact storeGo_clo (Bad D) Bad.need Bad.put _ _ _ h _
    · exact h
theorem textGo_re : ∀ (n : Nat) (a : AS) (x : Int) (acc : List UInt8) (most : Int), a.src = some f → textGo n (reSrc g a) x acc most = (reSrc g (textGo n a x acc most).1, (textGo n a x acc most).2) ∨ Bad D (textGo n a x acc most).1
  | 0, _, _, _, _, _ => .inl rfl
  | n + 1, a, x, acc, most, ha => by
    have hn := need_re hD a (x / 64).toNat ha
    have hs : (needA a (x / 64).toNat).src = some f := (needA_src a _).trans ha
    unfold textGo
    by_cases h1 : x < 0 ∨ 4096 ≤ x
    · rw [if_pos h1, if_pos h1]; exact .inl rfl
    · rw [if_neg h1, if_neg h1]
      generalize needA a (x / 64).toNat = A at hn hs ⊢
      rcases hn with h | h
      · rw [h]
        show (match A.page (x / 64).toNat with | none => _ | some b => _) = _ ∨ _
        cases hb : A.page (x / 64).toNat with
        | none => exact .inl rfl
        | some b =>
          show (if _ then _ else if _ then _ else _) = _ ∨ Bad D (if _ then _ else if _ then _ else _ : AS × List UInt8 × Nat).1
          by_cases h2 : b.getD (x % 64).toNat 0 = 0
          · simp only [if_pos h2]; exact .inl trivial
          · by_cases h3 : (acc.length : Int) = most
            · simp only [if_neg h2, if_pos h3]; exact .inl trivial
            · simp only [if_neg h2, if_neg h3]; exact textGo_re n A _ _ _ hs
      · refine .inr ?_
        cases hb : A.page (x / 64).toNat with
        | none => exact h
        | some b =>
          show Bad D (if _ then _ else if _ then _ else _ : AS × List UInt8 × Nat).1
          by_cases h2 : b.getD (x % 64).toNat 0 = 0
          · rw [if_pos h2]; exact h
          · by_cases h3 : (acc.length : Int) = most
            · rw [if_neg h2, if_pos h3]; exact h
            · rw [if_neg h2, if_neg h3]; exact textGo_clo (Bad D) Bad.need _ _ _ _ _ h
theorem text_re (a : AS) (x most : Int) (ha : a.src = some f) : textA (reSrc g a) x most = (reSrc g (textA a x most).1, (textA a x most).2) ∨ Bad D (textA a x most).1 := by
  unfold textA
  by_cases h : most < 0
  · rw [if_pos h, if_pos h]; exact .inl rfl
  · rw [if_neg h, if_neg h]; exact textGo_re hD 4097 a x [] most ha
theorem map_re (a : AS) (x : Int) (l : List UInt8) (ha : a.src = some f) : mapA (reSrc g a) x l = (reSrc g (mapA a x l).1, (mapA a x l).2) ∨ Bad D (mapA a x l).1 := by
  have hn := need_re hD a x.toNat ha
  unfold mapA
  generalize needA a x.toNat = A at hn ⊢
  by_cases h1 : x < 0 ∨ 64 ≤ x
  · rw [if_pos h1, if_pos h1]; exact .inl rfl
  · rw [if_neg h1, if_neg h1]
    by_cases h2 : 64 < l.length
    · rw [if_pos h2, if_pos h2]; exact .inl rfl
    · rw [if_neg h2, if_neg h2]
      by_cases h3 : (A.page x.toNat).isSome = true
      · rw [if_pos h3]
        rcases hn with h | h
        · rw [h, if_pos (show ((reSrc g A).page x.toNat).isSome = true from h3)]; exact .inl rfl
        · exact .inr h
      · rw [if_neg h3]
        rcases hn with h | h
        · rw [h, if_neg (show ¬ ((reSrc g A).page x.toNat).isSome = true from h3)]; exact .inl rfl
        · exact .inr h
theorem unmap_re (a : AS) (x : Int) (ha : a.src = some f) : unmapA (reSrc g a) x = (reSrc g (unmapA a x).1, (unmapA a x).2) ∨ Bad D (unmapA a x).1 := by
  have hn := need_re hD a x.toNat ha
  unfold unmapA
  generalize needA a x.toNat = A at hn ⊢
  by_cases h1 : x < 0 ∨ 64 ≤ x
  · rw [if_pos h1, if_pos h1]; exact .inl rfl
  · rw [if_neg h1, if_neg h1]
    by_cases h3 : (A.page x.toNat).isSome = true
    · rw [if_pos h3]
      rcases hn with h | h
      · rw [h, if_pos (show ((reSrc g A).page x.toNat).isSome = true from h3)]; exact .inl rfl
      · exact .inr h
    · rw [if_neg h3]
      rcases hn with h | h
      · rw [h, if_neg (show ¬ ((reSrc g A).page x.toNat).isSome = true from h3)]; exact .inl rfl
      · exact .inr h
theorem has_re (a : AS) (x : Int) (ha : a.src = some f) : hasA (reSrc g a) x = (reSrc g (hasA a x).1, (hasA a x).2) ∨ Bad D (hasA a x).1 := by
  have hn := need_re hD a x.toNat ha
  unfold hasA
  generalize needA a x.toNat = A at hn ⊢
  by_cases h1 : x < 0 ∨ 64 ≤ x
  · rw [if_pos h1, if_pos h1]; exact .inl rfl
  · rw [if_neg h1, if_neg h1]
    rcases hn with h | h
    · rw [h]; exact .inl rfl
    · exact .inr h
theorem page_re (a : AS) (x : Int) (ha : a.src = some f) : pageA (reSrc g a) x = (reSrc g (pageA a x).1, (pageA a x).2) ∨ Bad D (pageA a x).1 := by
  have hn := need_re hD a x.toNat ha
  unfold pageA
  generalize needA a x.toNat = A at hn ⊢
  by_cases h1 : x < 0 ∨ 64 ≤ x
  · rw [if_pos h1, if_pos h1]; exact .inl rfl
  · rw [if_neg h1, if_neg h1]
    rcases hn with h | h
    · rw [h]
      show (match A.page x.toNat with | none => _ | some b => _) = _ ∨ _
      cases hb : A.page x.toNat with
      | none => exact .inl rfl
      | some b => exact .inl rfl
    · cases hb : A.page x.toNat with
      | none => exact .inr h
      | some b => exact .inr h
attribute [local irreducible] textA textGo storeA loadA mapA unmapA hasA pageA needUp theres le4
theorem doA_re (k : Nat) (hk : k < 9) (x n : Int) (t : ByteArray) (a : AS) (ha : a.src = some f) : doA k x n t (reSrc g a) = (reSrc g (doA k x n t a).1, (doA k x n t a).2) ∨ Bad D (doA k x n t a).1 := by
  match k, hk with
  | 0, _ => exact (load_re hD a x (cutN n) ha).imp (fun h => by show ((loadA (reSrc g a) _ _).1, (loadA (reSrc g a) _ _).2.1, (loadA (reSrc g a) _ _).2.2, []) = _; rw [h]; rfl) id
  | 1, _ => exact (store_re hD a x (cutT t).data.toList ha).imp (fun h => by show ((storeA (reSrc g a) _ _).1, [], (storeA (reSrc g a) _ _).2, []) = _; rw [h]; rfl) id
  | 2, _ => exact (load_re hD a x 4 ha).imp (fun h => by show ((loadA (reSrc g a) _ _).1, (loadA (reSrc g a) _ _).2.1, (loadA (reSrc g a) _ _).2.2, []) = _; rw [h]; rfl) id
  | 3, _ => exact (store_re hD a x (le4 (n % 4294967296).toNat) ha).imp (fun h => by show ((storeA (reSrc g a) _ _).1, [], (storeA (reSrc g a) _ _).2, []) = _; rw [h]; rfl) id
  | 4, _ => exact (text_re hD a x (cutM n) ha).imp (fun h => by show ((textA (reSrc g a) _ _).1, (textA (reSrc g a) _ _).2.1, (textA (reSrc g a) _ _).2.2, []) = _; rw [h]; rfl) id
  | 5, _ => exact (map_re hD a x (cutT t).data.toList ha).imp (fun h => by show ((mapA (reSrc g a) _ _).1, [], (mapA (reSrc g a) _ _).2, []) = _; rw [h]; rfl) id
  | 6, _ => exact (unmap_re hD a x ha).imp (fun h => by show ((unmapA (reSrc g a) _).1, [], (unmapA (reSrc g a) _).2, []) = _; rw [h]; rfl) id
  | 7, _ => exact (has_re hD a x ha).imp (fun h => by show ((hasA (reSrc g a) _).1, [], (if (hasA (reSrc g a) _).2 then 1 else 0), []) = _; rw [h]; rfl) id
  | 8, _ => exact (page_re hD a x ha).imp (fun h => by show ((pageA (reSrc g a) _).1, (pageA (reSrc g a) _).2.1, (pageA (reSrc g a) _).2.2, []) = _; rw [h]; rfl) id
end
/-! ### A run of operations -/
def stepA (a : AS) (o : OpV) : AS := if 9 ≤ o.k then a else (doA o.k o.x o.n o.t a).1
def runA (ops : List OpV) (a : AS) (i : Nat) : AS := (ops.take i).foldl stepA a
theorem runA_zero (ops : List OpV) (a : AS) : runA ops a 0 = a := rfl
theorem runA_succ (ops : List OpV) (a : AS) (i : Nat) (hi : i < ops.length) : runA ops a (i + 1) = stepA (runA ops a i) ops[i] := by
  unfold runA
  rw [List.take_succ_eq_append_getElem hi, List.foldl_append]
  rfl
theorem stepA_skip (a : AS) (o : OpV) (h : 9 ≤ o.k) : stepA a o = a := if_pos h
theorem stepA_do (a : AS) (o : OpV) (h : ¬ 9 ≤ o.k) : stepA a o = (doA o.k o.x o.n o.t a).1 := if_neg h
theorem stepA_src (a : AS) (o : OpV) : (stepA a o).src = a.src := by
  by_cases h : 9 ≤ o.k
  · rw [stepA_skip _ _ h]
  · rw [stepA_do _ _ h, doA_src]
theorem runA_src (ops : List OpV) (a : AS) : ∀ i, i ≤ ops.length → (runA ops a i).src = a.src
  | 0, _ => rfl
  | i + 1, h => by rw [runA_succ ops a i h, stepA_src]; exact runA_src ops a i (by omega)
theorem Bad.step {D : Nat → Bool} {a : AS} (h : Bad D a) (o : OpV) : Bad D (stepA a o) := by
  by_cases hk : 9 ≤ o.k
  · rw [stepA_skip _ _ hk]; exact h
  · rw [stepA_do _ _ hk]; exact doA_clo (Bad D) Bad.need Bad.put _ _ _ _ _ h
theorem Bad.run {D : Nat → Bool} {ops : List OpV} {a : AS} {i : Nat} (h : Bad D (runA ops a i)) : ∀ j, i + j ≤ ops.length → Bad D (runA ops a (i + j))
  | 0, _ => h
  | j + 1, hj => by
    rw [show i + (j + 1) = (i + j) + 1 by omega, runA_succ ops a (i + j) (by omega)]
    exact (Bad.run h j (by omega)).step _
/-- An operation of the second run. -/
theorem run_re {f g : Nat → Option (List UInt8)} {ops : List OpV} {a : AS} (ha : a.src = some f) (hD : ∀ p, (runA ops a ops.length).asked p = true → f p = g p) {i : Nat} (hi : i < ops.length) (hk : ¬ 9 ≤ ops[i].k) :
    doA ops[i].k ops[i].x ops[i].n ops[i].t (reSrc g (runA ops a i)) = (reSrc g (runA ops a (i + 1)), (doA ops[i].k ops[i].x ops[i].n ops[i].t (runA ops a i)).2) := by
  have hs : (runA ops a i).src = some f := (runA_src ops a i (by omega)).trans ha
  have he : runA ops a (i + 1) = (doA ops[i].k ops[i].x ops[i].n ops[i].t (runA ops a i)).1 := by rw [runA_succ ops a i hi, stepA_do _ _ hk]
  rcases doA_re (D := (runA ops a ops.length).asked) hD ops[i].k (by omega) ops[i].x ops[i].n ops[i].t (runA ops a i) hs with h | h
  · rw [he]; exact h
  · rw [← he] at h
    have hb := h.run (ops.length - (i + 1)) (by omega)
    rw [show i + 1 + (ops.length - (i + 1)) = ops.length by omega] at hb
    obtain ⟨p, h1, h2⟩ := hb
    rw [h1] at h2
    cases h2
end Go.Proofs.Ytbppafbdmdbdiaa
