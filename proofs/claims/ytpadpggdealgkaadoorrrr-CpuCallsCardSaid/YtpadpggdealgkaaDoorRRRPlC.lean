/-
  Plain: a program of checked instructions stands in its memory; a subroutine that calculates.
-/
import Derived.Test.YtpadpggdealgkaaDoorRRRPlT
namespace Go.Proofs.YtpadpggdealgkaaDoorRRR
open Go.RowKit
set_option linter.unusedVariables false

/-! ### What was encoded is decoded -/
theorem nat8 (x : Int) (h0 : 0 ≤ x) (h1 : x < 256) : (UInt8.ofNat x.toNat).toNat = x.toNat := by rw [UInt8.toNat_ofNat']; omega
theorem checkI_cof {op a b c : Int} (h : checkI op a b c = 0) : cOf op.toNat ((uC c % 256).toNat + 256 * (uC c / 256).toNat : Nat) = c := by
  obtain ⟨z0, z1⟩ := checkI_c h
  have e : (((uC c % 256).toNat + 256 * (uC c / 256).toNat : Nat) : Int) = uC c := by omega
  rw [e]
  obtain ⟨g1, g2, _⟩ := checkI_zero h
  unfold checkI at h
  rw [if_neg (by omega)] at h
  unfold chkF at h
  split at h
  · cases h
  · rename_i h1
    split at h
    · cases h
    · split at h
      · cases h
      · rename_i h3
        obtain ⟨k, rfl⟩ : ∃ k : Nat, op = k := ⟨op.toNat, by omega⟩
        rw [Int.toNat_natCast] at h1 h3 ⊢
        have hk : k < 27 := by omega
        have hT : ∀ k, k < 27 → -32768 ≤ (opT k).2.1 ∧ (opT k).2.2 ≤ 65535 ∧ ((opT k).2.1 < 0 → (opT k).2.2 ≤ 32767) ∧ (fN (opT k).1 = false → (opT k).2.1 = 0) := by decide
        obtain ⟨t1, t2, t3, t4⟩ := hT k hk
        unfold cOf uC at *
        generalize opT k = T at *
        obtain ⟨f, lo, hi⟩ := T
        dsimp only at h1 h3 t1 t2 t3 t4 ⊢
        by_cases hf : f = 3
        · have hc : isR c = true := by
            cases hc : isR c with
            | true => rfl
            | false => exact absurd (.inl ⟨hf, hc⟩) h3
          have := (isR_iff c).1 hc
          have := t4 (by rw [hf]; rfl)
          rw [if_neg (by omega), if_neg (by omega)]
        · by_cases hn : fN f = true
          · have : ¬ (c < lo ∨ hi < c) := fun h => h3 (.inr ⟨hn, h⟩)
            by_cases hc : c < 0
            · rw [if_pos hc, if_pos ⟨by omega, by omega⟩]; omega
            · rw [if_neg hc, if_neg (by rintro ⟨q1, q2⟩; have := t3 q1; omega)]
          · have : c = 0 := by
              refine Decidable.byContradiction fun hc => h1 (.inr (.inr ⟨fun h => h.elim hf hn, hc⟩))
            subst this
            have := t4 (by simpa using hn)
            rw [if_neg (by omega), if_neg (by omega)]
theorem dec_enc {op a b c : Int} (h : checkI op a b c = 0) : decL (encL op a b c) = some ⟨op.toNat, a.toNat, b.toNat, c⟩ := by
  obtain ⟨g1, g2, g3, g4, _⟩ := checkI_zero h
  obtain ⟨z0, z1⟩ := checkI_c h
  have hc : cOf op.toNat (((uC c % 256).toNat : Int) + 256 * ((uC c / 256).toNat : Int)) = c := by
    have hc := checkI_cof h
    rw [Int.natCast_add, Int.natCast_mul] at hc
    exact hc
  unfold encL
  rw [if_pos h]
  unfold decL
  dsimp only
  rw [nat8 op g1 (by omega), nat8 (16 * a + b) (by omega) (by omega), nat8 (uC c % 256) (by omega) (by omega), nat8 (uC c / 256) (by omega) (by omega)]
  unfold decI
  rw [if_neg (by omega), hc]
  have e1 : (((16 * a + b).toNat : Nat) : Int) / 16 = a := by omega
  have e2 : (((16 * a + b).toNat : Nat) : Int) % 16 = b := by omega
  have e3 : (16 * a + b).toNat / 16 = a.toNat := by omega
  have e4 : (16 * a + b).toNat % 16 = b.toNat := by omega
  have e5 : ((op.toNat : Nat) : Int) = op := by omega
  rw [e1, e2, e3, e4, e5, if_pos h]

/-! ### What stands in a memory -/
def RI.enc (x : RI) : List UInt8 := encL x.op x.a x.b x.c
def RI.Ok (x : RI) : Prop := checkI x.op x.a x.b x.c = 0
theorem mmI_b (m : Mm) (i : Nat) (e : List UInt8) (n : Nat) : ∀ k, (mmI m i e k).b n = if 4 * i ≤ n ∧ n < 4 * i + k then e.getD (n - 4 * i) 0 else m.b n
  | 0 => by rw [if_neg (by omega)]; rfl
  | k + 1 => by
    show upd (mmI m i e k).b (4 * i + k) (e.getD k 0) n = _
    by_cases h : n = 4 * i + k
    · rw [h, upd_at, if_pos (by omega), show 4 * i + k - 4 * i = k by omega]
    · rw [upd_ne _ _ _ _ h, mmI_b m i e n k]
      by_cases h2 : 4 * i ≤ n ∧ n < 4 * i + k
      · rw [if_pos h2, if_pos (by omega)]
      · rw [if_neg h2, if_neg (by omega)]
theorem mmI_t (m : Mm) (i : Nat) (e : List UInt8) (q : Nat) : ∀ k, m.th q = true → (mmI m i e k).th q = true
  | 0, h => h
  | k + 1, h => by
    show upd (mmI m i e k).th ((4 * i + k) / 64) true q = true
    by_cases hq : q = (4 * i + k) / 64
    · rw [hq, upd_at]
    · rw [upd_ne _ _ _ _ hq]; exact mmI_t m i e q k h
theorem mmI_t2 (m : Mm) (i : Nat) (e : List UInt8) : (mmI m i e 4).th (4 * i / 64) = true := by
  show upd (upd _ _ _) _ _ _ = true
  rw [show (4 * i + 3) / 64 = 4 * i / 64 by omega, upd_at]
theorem mmLs_in (m : Mm) (l : List RI) : ∀ (n i : Nat) (x : RI), i < n → l[i]? = some x → (mmLs m l n).th (4 * i / 64) = true ∧ ∀ k, k < 4 → (mmLs m l n).b (4 * i + k) = x.enc.getD k 0
  | 0, i, x, h, _ => absurd h (by omega)
  | n + 1, i, x, h, hx => by
    unfold mmLs
    by_cases hi : i = n
    · subst hi
      rw [hx]
      dsimp only
      refine ⟨mmI_t2 _ _ _, fun k hk => ?_⟩
      rw [mmI_b, if_pos (by omega), show 4 * i + k - 4 * i = k by omega]
      rfl
    · obtain ⟨i1, i2⟩ := mmLs_in m l n i x (by omega) hx
      cases hn : l[n]? with
      | none => exact ⟨i1, i2⟩
      | some y =>
        dsimp only
        refine ⟨mmI_t _ _ _ _ _ i1, fun k hk => ?_⟩
        rw [mmI_b, if_neg (by omega)]
        exact i2 k hk
/-- The law's program: instructions alone. -/
def lP (l : List RI) : Pg19 := ⟨l, 0, ⟨#[]⟩, 0, false⟩
theorem lP_mem (l : List RI) : memA (lP l) = mmLs (mmLast (mmA 0 8) false) l (min l.length 100) := rfl
theorem word_at (l : List RI) (i : Nat) (x : RI) (hi : i < 100) (hx : l[i]? = some x) (at_ : Int) (ha : at_ = 4 * (i : Int)) : loadE (effP (ownA (memA (lP l)) 64)) at_ 4 = (x.enc, 0) := by
  subst ha
  have hl := (List.getElem?_eq_some_iff.1 hx).1
  obtain ⟨h1, h2⟩ := mmLs_in (mmLast (mmA 0 8) false) l (min l.length 100) i x (by omega) hx
  rw [← lP_mem] at h1 h2
  generalize memA (lP l) = M at *
  have hP : effP (ownA M 64) (4 * i / 64) = some (pgL M (4 * i / 64)) := by rw [effP_own]; unfold srcMm; rw [if_pos ⟨by omega, h1⟩]
  have hA : accessE (effP (ownA M 64)) (4 * (i : Int)) 4 = 0 := by
    unfold accessE
    rw [if_neg (by decide), if_neg (by omega)]
    have e1 : ((4 * (i : Int) + 4 - 1) / 64).toNat + 1 - ((4 * (i : Int)) / 64).toNat = 1 := by omega
    have e2 : ((4 * (i : Int)) / 64).toNat = 4 * i / 64 := by omega
    rw [e1, e2]
    unfold reachB
    rw [hP]
    rfl
  unfold loadE
  rw [if_neg (by decide), hA, if_pos rfl]
  refine Prod.ext ?_ rfl
  show bytesE _ (4 * (i : Int)).toNat 4 = x.enc
  have e2 : (4 * (i : Int)).toNat = 4 * i := by omega
  rw [e2]
  have hb : ∀ k, k < 4 → byteE (effP (ownA M 64)) (4 * i + k) = x.enc.getD k 0 := fun k hk => by
    unfold byteE
    rw [show (4 * i + k) / 64 = 4 * i / 64 by omega, hP]
    show (pgL M (4 * i / 64)).getD ((4 * i + k) % 64) 0 = _
    rw [← h2 k hk]
    unfold pgL
    rw [List.getD_eq_getElem?_getD, List.getElem?_map, List.getElem?_range (by omega)]
    show M.b (64 * (4 * i / 64) + (4 * i + k) % 64) = _
    congr 1
    omega
  show [byteE _ (4 * i + 0), byteE _ (4 * i + 1), byteE _ (4 * i + 2), byteE _ (4 * i + 3)] = _
  rw [hb 0 (by omega), hb 1 (by omega), hb 2 (by omega), hb 3 (by omega)]
  unfold RI.enc
  obtain ⟨e0, e1, e2, e3, he⟩ := encL_4 x.op x.a x.b x.c
  rw [he]
  rfl
theorem step_at (l : List RI) (i : Nat) (x : RI) (hi : i < 100) (hx : l[i]? = some x) (hok : x.Ok) (g : Rg) (hg : g.pc = 4 * (i : Int)) :
    stepM g (effP (ownA (memA (lP l)) 64)) = ⟨(effM ⟨x.op.toNat, x.a.toNat, x.b.toNat, x.c⟩ g (effP (ownA (memA (lP l)) 64))).1, (effM ⟨x.op.toNat, x.a.toNat, x.b.toNat, x.c⟩ g (effP (ownA (memA (lP l)) 64))).2.1, (effM ⟨x.op.toNat, x.a.toNat, x.b.toNat, x.c⟩ g (effP (ownA (memA (lP l)) 64))).2.2⟩ := by
  unfold stepM
  rw [word_at l i x hi hx g.pc hg, if_pos rfl]
  unfold RI.enc
  rw [dec_enc hok]

/-! ### A subroutine -/
def keepB (a : Int) (x : RI) : Bool := decide ((4 ≤ x.op ∧ x.op ≤ 15 ∧ x.op ≠ 7 ∧ x.op ≠ 8) ∧ x.a ≠ a ∧ checkI x.op x.a x.b x.c = 0)
theorem keepB_iff (a : Int) (x : RI) : keepB a x = true ↔ (4 ≤ x.op ∧ x.op ≤ 15 ∧ x.op ≠ 7 ∧ x.op ≠ 8) ∧ x.a ≠ a ∧ checkI x.op x.a x.b x.c = 0 := by unfold keepB; exact decide_eq_true_iff
/-- What of the body is taken, of its first n. -/
def bodyL (a : Int) (l : List RI) (n : Nat) : List RI := (l.take n).filter (keepB a)
def wantR (x : RI) (r : Nat → Int) : Nat → Int := upd r x.a.toNat (calcV x.op.toNat (r x.b.toNat) (r x.c.toNat))
def wantL (l : List RI) (r : Nat → Int) : Nat → Int := l.foldl (fun r x => wantR x r) r
def callL (a : Int) (l : List RI) : List RI := [⟨24, a, 0, 12⟩, ⟨26, 0, 0, 9⟩, ⟨0, 0, 0, 0⟩] ++ l
def calls (a : Int) (l : List RI) : List RI := callL a l ++ [⟨25, a, 0, 0⟩]
theorem effM_calc (x : RI) (a : Int) (hx : keepB a x = true) (g : Rg) (P : Mem) : effM ⟨x.op.toNat, x.a.toNat, x.b.toNat, x.c⟩ g P = (⟨wantR x g.r, (g.pc + 4) % 4294967296⟩, P, goOn) := by
  obtain ⟨⟨h4, h15, h7, h8⟩, _, _⟩ := (keepB_iff a x).1 hx
  obtain ⟨op, xa, xb, xc⟩ := x
  dsimp only at h4 h15 h7 h8 ⊢
  obtain ⟨k, rfl⟩ : ∃ k : Nat, op = k := ⟨op.toNat, by omega⟩
  have e : ∀ k : Nat, 4 ≤ k → k ≤ 15 → effM ⟨k, xa.toNat, xb.toNat, xc⟩ g P = ((calcG g k xa.toNat xb.toNat xc.toNat).1, P, (calcG g k xa.toNat xb.toNat xc.toNat).2) := fun k h4 h15 => by
    match k, h4, h15 with
    | 4, _, _ | 5, _, _ | 6, _, _ | 7, _, _ | 8, _, _ | 9, _, _ | 10, _, _ | 11, _, _ | 12, _, _ | 13, _, _ | 14, _, _ | 15, _, _ => rfl
  rw [Int.toNat_natCast, e k (by omega) (by omega)]
  unfold calcG calcR
  rw [if_neg (show ¬ ((k = 7 ∨ k = 8) ∧ g.r xc.toNat = 0) by omega)]
  rw [if_pos rfl]
  rfl
theorem body_run (a : Int) (L : List RI) (P : Mem) (hP : P = effP (ownA (memA (lP L)) 64)) : ∀ (l : List RI) (i f n : Nat) (g : Rg), (∀ x ∈ l, keepB a x = true) → (∀ j (h : j < l.length), L[i + j]? = some l[j]) → i + l.length < 100 → g.pc = 4 * (i : Int) →
    loopM (f + l.length) n g P = loopM f (n + l.length) ⟨wantL l g.r, 4 * ((i + l.length : Nat) : Int)⟩ P
  | [], i, f, n, g, _, _, _, hg => by
    obtain ⟨r, pc⟩ := g
    dsimp only at hg
    subst hg
    rfl
  | x :: l, i, f, n, g, hk, hL, hi, hg => by
    rw [List.length_cons] at hi
    have hx := hk x (List.mem_cons_self ..)
    have hst := step_at L i x (by omega) (hL 0 (by simp)) ((keepB_iff a x).1 hx).2.2 g hg
    rw [← hP, effM_calc x a hx g P] at hst
    rw [List.length_cons, show f + (l.length + 1) = f + l.length + 1 by omega, loopM_s, hst]
    dsimp only
    rw [if_pos (show goOn.why = 0 from rfl)]
    rw [body_run a L P hP l (i + 1) f (n + 1) ⟨wantR x g.r, (g.pc + 4) % 4294967296⟩ (fun y hy => hk y (List.mem_cons_of_mem _ hy)) (fun j h => by rw [show i + 1 + j = i + (j + 1) by omega, hL (j + 1) (by simp; omega)]; rfl) (by omega) (by show (g.pc + 4) % 4294967296 = _; rw [hg]; omega)]
    rw [show n + 1 + l.length = n + (l.length + 1) by omega, show i + 1 + l.length = i + (l.length + 1) by omega]
    rfl
theorem wantL_ne (a : Int) (k : Nat) : ∀ (l : List RI) (r : Nat → Int), (∀ x ∈ l, keepB a x = true) → k = a.toNat → 0 ≤ a → wantL l r k = r k
  | [], _, _, _, _ => rfl
  | x :: l, r, h, hk, ha => by
    have hx := (keepB_iff a x).1 (h x (List.mem_cons_self ..))
    have hc := checkI_zero hx.2.2
    show wantL l (wantR x r) k = r k
    rw [wantL_ne a k l _ (fun y hy => h y (List.mem_cons_of_mem _ hy)) hk ha]
    unfold wantR
    exact upd_ne _ _ _ _ (by have := hx.2.1; omega)
theorem call_ok (a : Nat) (h : a < 8) : (⟨24, a, 0, 12⟩ : RI).Ok ∧ (⟨25, a, 0, 0⟩ : RI).Ok := by
  match a, h with
  | 0, _ | 1, _ | 2, _ | 3, _ | 4, _ | 5, _ | 6, _ | 7, _ => exact ⟨rfl, rfl⟩
theorem calls_run (a : Nat) (ha : a < 8) (l : List RI) (hl : ∀ x ∈ l, keepB a x = true) (hn : l.length ≤ 20) (r : Nat → Int) :
    loopM 100 0 ⟨r, 0⟩ (effP (ownA (memA (lP (calls a l))) 64)) = ⟨⟨wantL l (upd r a 4), 4⟩, effP (ownA (memA (lP (calls a l))) 64), ⟨2, 9, 0⟩, l.length + 2⟩ := by
  obtain ⟨P, hP⟩ : ∃ P, P = effP (ownA (memA (lP (calls a l))) 64) := ⟨_, rfl⟩
  have s0 := step_at (calls a l) 0 ⟨24, a, 0, 12⟩ (by omega) rfl (call_ok a ha).1 ⟨r, 0⟩ rfl
  have s1 := fun g hg => step_at (calls a l) 1 ⟨26, 0, 0, 9⟩ (by omega) rfl rfl g hg
  have s2 := fun g hg => step_at (calls a l) (3 + l.length) ⟨25, a, 0, 0⟩ (by omega) (by
    unfold calls callL
    rw [List.getElem?_append_right (by simp; omega)]
    rw [show 3 + l.length - ([(⟨24, a, 0, 12⟩ : RI), ⟨26, 0, 0, 9⟩, ⟨0, 0, 0, 0⟩] ++ l).length = 0 by simp; omega]
    rfl) (call_ok a ha).2 g hg
  rw [← hP] at s0 s1 s2 ⊢
  have e0 : effM ⟨(24 : Int).toNat, (a : Int).toNat, (0 : Int).toNat, 12⟩ ⟨r, 0⟩ P = (⟨upd r a 4, 12⟩, P, goOn) := rfl
  have e1 : ∀ g, effM ⟨(26 : Int).toNat, (0 : Int).toNat, (0 : Int).toNat, 9⟩ g P = (g, P, ⟨2, 9, 0⟩) := fun g => rfl
  have e2 : ∀ g : Rg, effM ⟨(25 : Int).toNat, (a : Int).toNat, (0 : Int).toNat, 0⟩ g P = (⟨g.r, g.r a⟩, P, goOn) := fun g => rfl
  rw [show 100 = (99 - l.length) + l.length + 1 by omega, loopM_s]
  dsimp only at s0
  rw [s0, e0]
  dsimp only
  rw [if_pos (show goOn.why = 0 from rfl), show 0 + 1 = 1 by rfl]
  rw [body_run a (calls a l) P hP l 3 (99 - l.length) 1 ⟨upd r a 4, 12⟩ hl (fun j h => by
    unfold calls callL
    rw [List.getElem?_append_left (by simp; omega), List.getElem?_append_right (by simp)]
    simp [h]) (by omega) rfl]
  rw [show 99 - l.length = (97 - l.length) + 1 + 1 by omega, loopM_s]
  rw [s2 _ rfl]
  dsimp only
  rw [e2]
  dsimp only
  rw [if_pos (show goOn.why = 0 from rfl), loopM_s, s1 _ (by show wantL l (upd r a 4) a = 4 * ((1 : Nat) : Int); rw [wantL_ne a a l _ hl (by omega) (by omega), upd_at]; rfl)]
  dsimp only
  rw [e1]
  dsimp only
  rw [if_neg (by decide), wantL_ne a a l _ hl (by omega) (by omega), upd_at, show 1 + l.length + 1 = l.length + 2 by omega]
end Go.Proofs.YtpadpggdealgkaaDoorRRR
