/-
  Words for slices of tokens.
-/
import Derived.Test.YtgmpdclmfcmodaaRef
namespace Go.Proofs.Ytgmpdclmfcmodaa
open Go.RowKit

/-- The cells of tokens. -/
def tcells : List Value → List Pk.Tok → List Value
  | lv :: lvs, t :: ts => lv :: .int .i64 t.dist :: .int .i64 t.len :: tcells lvs ts
  | _, _ => []
theorem tcells_snoc : ∀ (lvs : List Value) (ts : List Pk.Tok), lvs.length = ts.length → ∀ lv t, tcells (lvs ++ [lv]) (ts ++ [t]) = tcells lvs ts ++ [lv, .int .i64 t.dist, .int .i64 t.len]
  | [], [], _, _, _ => rfl
  | a :: lvs, u :: ts, h, lv, t => by
    have := tcells_snoc lvs ts (by simpa using h) lv t
    simp only [List.cons_append, tcells, this]
  | [], _ :: _, h, _, _ => by simp at h
  | _ :: _, [], h, _, _ => by simp at h

/-- The state of the reference's Canonical: tokens ts are written to ov, the literals q wait in rv. -/
structure CanSt (w : World) (base : Nat) (ov rv : Value) (lvs : List Value) (ts : List Pk.Tok) (q : List UInt8) : Prop where
  len : lvs.length = ts.length
  out : w.ownsRow base 57 3 ov ts.length (tcells lvs ts)
  lits : ∀ (j : Nat) lv t, lvs[j]? = some lv → ts[j]? = some t → w.ownsRow base 5 1 lv t.lit.length (bs t.lit)
  run : w.ownsRow base 5 1 rv q.length (bs q)
  sep : ∀ lv ∈ lvs, ∀ b, lv.ownBlock = some b → rv.ownBlock ≠ some b

/-- Rows of different elements lie apart. -/
theorem own_own_ne {w : World} {base base' e e' size size' n n' : Nat} {v v' : Value} {xs xs' : List Value} (h : w.ownsRow base e size v n xs) (h' : w.ownsRow base' e' size' v' n' xs') (hne : e ≠ e') :
    v.ownBlock = none ∨ v.ownBlock ≠ v'.ownBlock := by
  rcases h.2 with ⟨rfl, _⟩ | ⟨g, cap, cur, rfl, _, hh, _⟩
  · exact .inl rfl
  · right
    intro e1
    exact own_blk_ne h' (t := e) (g := g) hh (Ne.symm hne) e1.symm

theorem CanSt.nil_ (w : World) (base : Nat) : CanSt w base (.slice none 0 0) (.slice none 0 0) [] [] [] :=
  ⟨rfl, World.ownsRow_nil _ _ _ _, by simp, World.ownsRow_nil _ _ _ _, by simp⟩

theorem CanSt.drewN {w : World} {base : Nat} {ov rv : Value} {lvs : List Value} {ts : List Pk.Tok} {q : List UInt8} (h : CanSt w base ov rv lvs ts q) (n : Nat) : CanSt (w.drewN n) base ov rv lvs ts q :=
  ⟨h.len, h.out, h.lits, h.run, h.sep⟩

/-- A token has been appended; what waits is dropped or kept. -/
theorem CanSt.push {w w1 : World} {base : Nat} {ov rv ov' lv rv' : Value} {lvs : List Value} {ts : List Pk.Tok} {q q' : List UInt8} {t : Pk.Tok} {o : Obj} (h : CanSt w base ov rv lvs ts q)
    (hgrow : (w.alloc o).grownBy w1 ov.ownBlock) (hown : w1.ownsRow base 57 3 ov' (ts.length + 1) (tcells lvs ts ++ [lv, .int .i64 t.dist, .int .i64 t.len]))
    (hlv : w.ownsRow base 5 1 lv t.lit.length (bs t.lit)) (hrv : w.ownsRow base 5 1 rv' q'.length (bs q'))
    (hs1 : ∀ b, lv.ownBlock = some b → rv'.ownBlock ≠ some b) (hs2 : ∀ u ∈ lvs, ∀ b, u.ownBlock = some b → rv'.ownBlock ≠ some b) : CanSt w1 base ov' rv' (lvs ++ [lv]) (ts ++ [t]) q' := by
  have keep : ∀ {v n xs}, w.ownsRow base 5 1 v n xs → w1.ownsRow base 5 1 v n xs := fun hv => (hv.alloc o).kept hgrow (own_own_ne hv h.out (by decide))
  refine ⟨by simp [h.len], ?_, ?_, keep hrv, ?_⟩
  · rw [tcells_snoc _ _ h.len, List.length_append]
    exact hown
  · intro j u s hu hs
    rcases Nat.lt_or_ge j lvs.length with hj | hj
    · rw [List.getElem?_append_left hj] at hu
      rw [List.getElem?_append_left (by rw [← h.len]; exact hj)] at hs
      exact keep (h.lits j u s hu hs)
    · rw [List.getElem?_append_right hj] at hu
      rw [List.getElem?_append_right (by rw [← h.len]; exact hj)] at hs
      have hj0 : j - lvs.length = 0 := by
        rcases Nat.eq_zero_or_pos (j - lvs.length) with h0 | h0
        · exact h0
        · rw [List.getElem?_eq_none (by simp; omega)] at hu; cases hu
      rw [hj0] at hu
      rw [← h.len, hj0] at hs
      simp only [List.getElem?_cons_zero, Option.some.injEq] at hu hs
      subst hu hs
      exact keep hlv
  · intro u hu b hb
    rcases List.mem_append.1 hu with hu | hu
    · exact hs2 u hu b hb
    · simp only [List.mem_singleton] at hu
      subst hu
      exact hs1 b hb

/-- A literal has been added to what waits. -/
theorem CanSt.lit {w w1 : World} {base : Nat} {ov rv rv' : Value} {lvs : List Value} {ts : List Pk.Tok} {q : List UInt8} {x : UInt8} {o : Obj} (h : CanSt w base ov rv lvs ts q)
    (hgrow : (w.alloc o).grownBy w1 rv.ownBlock) (hown : w1.ownsRow base 5 1 rv' (q.length + 1) (bs q ++ [.int .u8 x.toNat])) (hat : rv.ownBlock = rv'.ownBlock ∨ ∃ g, rv'.ownBlock = some g ∧ w.heap.size ≤ g) :
    CanSt w1 base ov rv' lvs ts (q ++ [x]) := by
  refine ⟨h.len, (h.out.alloc o).kept hgrow (own_own_ne h.out h.run (by decide)), fun j lv t hj ht => ?_, by simpa [bs] using hown, fun lv hlv b hb e => ?_⟩
  · refine ((h.lits j lv t hj ht).alloc o).kept hgrow ?_
    cases hlb : lv.ownBlock with
    | none => exact .inl rfl
    | some b => exact .inr (fun e => h.sep lv (List.mem_of_getElem? hj) b hlb e.symm)
  · rcases hat with hat | ⟨g, hg, hge⟩
    · exact h.sep lv hlv b hb (by rw [hat]; exact e)
    · obtain ⟨j, hj⟩ := List.mem_iff_getElem?.1 hlv
      have hjt : j < ts.length := by rw [← h.len]; exact (List.getElem?_eq_some_iff.1 hj).1
      have := ((h.lits j lv _ hj (List.getElem?_eq_getElem hjt)).lt b hb).2
      rw [hg] at e
      obtain rfl := Option.some.inj e
      omega

theorem tcells_get : ∀ (lvs : List Value) (ts : List Pk.Tok) (i : Nat), lvs.length = ts.length → ∀ lv t, lvs[i]? = some lv → ts[i]? = some t →
    (tcells lvs ts)[i * 3]? = some lv ∧ (tcells lvs ts)[i * 3 + 1]? = some (.int .i64 t.dist) ∧ (tcells lvs ts)[i * 3 + 2]? = some (.int .i64 t.len)
  | [], _, _, _, _, _, h, _ => by simp at h
  | _ :: _, [], _, h, _, _, _, _ => by simp at h
  | a :: lvs, u :: ts, 0, _, lv, t, h1, h2 => by
    simp only [List.getElem?_cons_zero, Option.some.injEq] at h1 h2
    subst h1 h2
    simp [tcells]
  | a :: lvs, u :: ts, i + 1, h, lv, t, h1, h2 => by
    have := tcells_get lvs ts i (by simpa using h) lv t (by simpa using h1) (by simpa using h2)
    rw [show (i + 1) * 3 = i * 3 + 1 + 1 + 1 by omega]
    simp only [tcells, List.getElem?_cons_succ]
    exact this

/-- A slice value that reads as these tokens. -/
def RdT (w : World) (B : Nat) (v : Value) (ts : List Pk.Tok) : Prop :=
  ∃ A cap lvs g, v = .slice A ts.length cap ∧ ts.length ≤ cap ∧ lvs.length = ts.length ∧ (0 < ts.length → A = some ⟨g, 0, none⟩ ∧ g < B ∧ ∀ j u, (tcells lvs ts)[j]? = some u → w.cell? ⟨g, j, none⟩ = some u) ∧
    ∀ (j : Nat) lv t, lvs[j]? = some lv → ts[j]? = some t → RdB w B lv t.lit

theorem CanSt.reads {w : World} {base : Nat} {ov rv : Value} {lvs : List Value} {ts : List Pk.Tok} {q : List UInt8} (h : CanSt w base ov rv lvs ts q) : RdT w w.heap.size ov ts := by
  have hl : ∀ (j : Nat) lv t, lvs[j]? = some lv → ts[j]? = some t → RdB w w.heap.size lv t.lit := fun j lv t h1 h2 => RdB.of_own (h.lits j lv t h1 h2) rfl
  rcases h.out.2 with ⟨rfl, h0⟩ | ⟨g, cap, cur, rfl, _, _, h1, _⟩
  · exact ⟨none, 0, lvs, 0, by rw [h0], by omega, h.len, fun h => by omega, hl⟩
  · refine ⟨_, cap, lvs, g, rfl, h1, h.len, fun _ => ⟨rfl, (h.out.lt g rfl).2, fun j u hu => ?_⟩, hl⟩
    have hj : j < ts.length * 3 := by
      have := (List.getElem?_eq_some_iff.1 hu).1
      rw [h.out.1] at this
      exact this
    rw [h.out.cellAt j hj]
    exact hu

theorem RdT.below {w w' : World} {B : Nat} {v : Value} {ts : List Pk.Tok} (h : RdT w B v ts) (hb : Below B w w') : RdT w' B v ts :=
  let ⟨A, cap, lvs, g, h1, h2, h3, h4, h5⟩ := h
  ⟨A, cap, lvs, g, h1, h2, h3, fun h0 => let ⟨a1, a2, a3⟩ := h4 h0; ⟨a1, a2, fun j u hu => (hb.cell (p := ⟨g, j, none⟩) a2).trans (a3 j u hu)⟩, fun j lv t a b => (h5 j lv t a b).below hb⟩
theorem RdT.more {w : World} {B B' : Nat} {v : Value} {ts : List Pk.Tok} (h : RdT w B v ts) (hb : B ≤ B') : RdT w B' v ts :=
  let ⟨A, cap, lvs, g, h1, h2, h3, h4, h5⟩ := h
  ⟨A, cap, lvs, g, h1, h2, h3, fun h0 => let ⟨a1, a2, a3⟩ := h4 h0; ⟨a1, by omega, a3⟩, fun j lv t a b => (h5 j lv t a b).more hb⟩

/-- A token of it: its three cells, and its literals. -/
theorem RdT.at_ {w : World} {B : Nat} {v : Value} {ts : List Pk.Tok} (h : RdT w B v ts) : ∃ A cap, v = .slice A ts.length cap ∧ ts.length ≤ cap ∧ ∀ (i : Nat) t, ts[i]? = some t →
    ∃ g lv, A = some ⟨g, 0, none⟩ ∧ g < B ∧ w.cell? ⟨g, i * 3, none⟩ = some lv ∧ w.cell? ⟨g, i * 3 + 1, none⟩ = some (.int .i64 t.dist) ∧ w.cell? ⟨g, i * 3 + 2, none⟩ = some (.int .i64 t.len) ∧ RdB w B lv t.lit := by
  obtain ⟨A, cap, lvs, g, h1, h2, h3, h4, h5⟩ := h
  refine ⟨A, cap, h1, h2, fun i t ht => ?_⟩
  have hi := (List.getElem?_eq_some_iff.1 ht).1
  obtain ⟨a1, a2, a3⟩ := h4 (by omega)
  have hlv : lvs[i]? = some (lvs[i]'(by omega)) := List.getElem?_eq_getElem (by omega)
  obtain ⟨c0, c1, c2⟩ := tcells_get lvs ts i h3 _ t hlv ht
  exact ⟨g, _, a1, a2, a3 _ _ c0, a3 _ _ c1, a3 _ _ c2, h5 i _ t hlv ht⟩
end Go.Proofs.Ytgmpdclmfcmodaa
