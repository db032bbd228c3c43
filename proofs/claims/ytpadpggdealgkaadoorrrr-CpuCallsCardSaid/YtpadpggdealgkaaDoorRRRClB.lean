/-
  Words: a row of instructions that a law has made.
-/
import Derived.Test.YtpadpggdealgkaaDoorRRRClA
import Derived.Test.YtpadpggdealgkaaDoorRRRTwA
namespace Go.Proofs.YtpadpggdealgkaaDoorRRR
open Go.RowKit
set_option linter.unusedVariables false
set_option linter.unusedSectionVars false
set_option linter.unusedSimpArgs false

def riV (l : List RI) : List Value := l.flatMap RI.cells
theorem riV_length (l : List RI) : (riV l).length = l.length * 4 := by
  induction l with
  | nil => rfl
  | cons x l ih =>
    show (x.cells ++ riV l).length = _
    rw [List.length_append, ih, List.length_cons]
    show 4 + _ = _
    omega
theorem riV_append (l m : List RI) : riV (l ++ m) = riV l ++ riV m := by simp [riV]
theorem riV_get : ∀ (l : List RI) (i t : Nat) (h : i < l.length), t < 4 → (riV l)[i * 4 + t]? = l[i].cells[t]?
  | x :: l, 0, t, _, ht => by
    show (x.cells ++ riV l)[0 * 4 + t]? = _
    rw [Nat.zero_mul, Nat.zero_add, List.getElem?_append_left (by show t < 4; exact ht)]
    rfl
  | x :: l, i + 1, t, h, ht => by
    show (x.cells ++ riV l)[(i + 1) * 4 + t]? = _
    rw [List.getElem?_append_right (by show 4 ≤ _; omega)]
    show (riV l)[(i + 1) * 4 + t - 4]? = _
    rw [show (i + 1) * 4 + t - 4 = i * 4 + t by omega, riV_get l i t (by simpa using h) ht]
    rfl
theorem rdI_of_own {w : World} {base n c : Nat} {A : Option Addr} {l : List RI} (h : w.ownsRow base 28 4 (.slice A n c) n (riV l)) (hn : n = l.length) (hm : n ≤ 1000) : RdI w (.slice A n c) l := by
  subst hn
  refine ⟨A, c, rfl, by unfold maxLen; omega, fun i hi => ?_⟩
  obtain ⟨g, cap, hv, _, hlt⟩ := h.form (by omega)
  have hA : A = some ⟨g, 0, none⟩ := by injection hv
  subst hA
  refine ⟨g, 0, rfl, hlt, fun j u hu => ?_⟩
  have hj : j < 4 := (List.getElem?_eq_some_iff.1 hu).1
  have := h.cells (g := g) rfl (i * 4 + j) u (by rw [riV_get l i j hi hj]; exact hu)
  rw [add_at] at this
  rw [← this]
  congr 2
  omega
theorem callL_length (a : Int) (l : List RI) : (callL a l).length = 3 + l.length := by unfold callL; simp; omega
theorem callL_snoc (a : Int) (l : List RI) (x : RI) : callL a (l ++ [x]) = callL a l ++ [x] := by unfold callL; simp
theorem bodyL_no (a : Int) (l : List RI) (i : Nat) (h : i < l.length) (hk : keepB a l[i] = false) : bodyL a l (i + 1) = bodyL a l i := by
  unfold bodyL
  rw [List.take_succ_eq_append_getElem h, List.filter_append, List.filter_cons_of_neg (by rw [hk]; exact Bool.false_ne_true)]
  simp
theorem bodyL_yes (a : Int) (l : List RI) (i : Nat) (h : i < l.length) (hk : keepB a l[i] = true) : bodyL a l (i + 1) = bodyL a l i ++ [l[i]] := by
  unfold bodyL
  rw [List.take_succ_eq_append_getElem h, List.filter_append, List.filter_cons_of_pos hk]
  simp
theorem bodyL_le (a : Int) (l : List RI) (i : Nat) : (bodyL a l i).length ≤ i := by
  unfold bodyL
  exact Nat.le_trans (List.length_filter_le _ _) (List.length_take_le _ _)
theorem bodyL_keep (a : Int) (l : List RI) (i : Nat) : ∀ x ∈ bodyL a l i, keepB a x = true := fun x hx => by
  unfold bodyL at hx
  exact (List.mem_filter.1 hx).2
theorem wantL_snoc (l : List RI) (x : RI) (r : Nat → Int) : wantL (l ++ [x]) r = wantR x (wantL l r) := by
  unfold wantL
  rw [List.foldl_append]
  rfl
/-- Registers, of which one is written. -/
theorem vals_set (r : Nat → Int) (pc v : Int) (k : Nat) (hk : k < 8) : (Rg.vals ⟨r, pc⟩).toArray.setIfInBounds k (.int .u32 v) = (Rg.vals ⟨upd r k v, pc⟩).toArray := by
  match k, hk with
  | 0, _ | 1, _ | 2, _ | 3, _ | 4, _ | 5, _ | 6, _ | 7, _ => rfl
theorem vals_at (r : Nat → Int) (pc : Int) (k : Nat) (hk : k < 8) : (Rg.vals ⟨r, pc⟩).toArray[k]? = some (.int .u32 (r k)) := by
  match k, hk with
  | 0, _ | 1, _ | 2, _ | 3, _ | 4, _ | 5, _ | 6, _ | 7, _ => rfl
theorem wantR_ok {x : RI} {r : Nat → Int} (h : ∀ k, 0 ≤ r k ∧ r k < 4294967296) : ∀ k, 0 ≤ wantR x r k ∧ wantR x r k < 4294967296 := by
  unfold wantR
  exact upd_range h (calcV_range _ _ _ (h _).1 (h _).2)
theorem wantL_ok : ∀ (l : List RI) {r : Nat → Int}, (∀ k, 0 ≤ r k ∧ r k < 4294967296) → ∀ k, 0 ≤ wantL l r k ∧ wantL l r k < 4294967296
  | [], _, h => h
  | x :: l, _, h => wantL_ok l (wantR_ok h)
/-- What the run of a subroutine is. -/
theorem calls_end (a : Nat) (ha : a < 8) (l : List RI) (hl : ∀ x ∈ l, keepB a x = true) (hn : l.length ≤ 20) (r : Nat → Int) :
    (runA 100 ⟨r, 0⟩ (ownA (memA (lP (calls a l))) 64)).g = ⟨wantL l (upd r a 4), 4⟩ ∧ (runA 100 ⟨r, 0⟩ (ownA (memA (lP (calls a l))) 64)).e = ⟨2, 9, 0⟩ ∧ (runA 100 ⟨r, 0⟩ (ownA (memA (lP (calls a l))) 64)).n = l.length + 2 := by
  obtain ⟨x1, _, x3, x4, _⟩ := loopA_M 100 0 ⟨r, 0⟩ (ownA_unk (memA (lP (calls a l))) 64)
  rw [calls_run a ha l hl hn r] at x1 x3 x4
  exact ⟨x1, x3, x4⟩
end Go.Proofs.YtpadpggdealgkaaDoorRRR
