/-
  More words for memory: append within the capacity, slice expressions.
-/
import Derived.Test.YtkoomlbnfhdhcaaGreatDoorMem
import Derived.Test.YtkoomlbnfhdhcaaGreatDoorMix
namespace Go.Proofs.YtkoomlbnfhdhcaaGreatDoor
open Go.RowKit

section
variable {P : Program} (w : World)

/-- append within the capacity, the source nil, empty or not: the value is known. -/
theorem run_append_room_any (base : Nat) (t ty e : TypeId) (i : TypeInfo) (size : Nat) (ht : P.underlying t = some (.slice e)) (hi : P.info? e = some i) (hsize : i.size = size)
    (g n cap : Nat) (xs : List Value) (hown : w.ownsRow base e size (.slice (some ⟨g, 0, none⟩) n cap) n xs)
    (B : Nat) (A : Option Addr) (m c : Nat) (news : List Value) (hr : Reads w B size A m news) (h1 : ∀ u ∈ news, u.oneCell' = true) (hroom : n + m ≤ cap) :
    ∃ w', (Builtin.append_ #[t, t] ty #[.slice (some ⟨g, 0, none⟩) n cap, .slice A m c]).run P w = .ok (.slice (some ⟨g, 0, none⟩) (n + m) cap) w' ∧
      w'.ownsRow base e size (.slice (some ⟨g, 0, none⟩) (n + m) cap) (n + m) (xs ++ news) ∧ w.grownBy w' (some g) := by
  rcases A with _ | ad
  · have hm : m = 0 := by
      rcases Nat.eq_zero_or_pos m with h0 | h0
      · exact h0
      · obtain ⟨ad, h, _⟩ := hr.2 h0
        cases h
    subst hm
    have hn : news = [] := List.eq_nil_of_length_eq_zero (by simpa using hr.1)
    subst hn
    exact ⟨w, run_append_of_nil w base t ty e i size ht hi _ n xs hown c, by simpa using hown, World.grownBy.refl w _⟩
  · have hcells : ∀ j u, news[j]? = some u → w.cell? (ad.add j) = some u := by
      intro j u hu
      rcases Nat.eq_zero_or_pos m with h0 | h0
      · subst h0
        have hn : news = [] := List.eq_nil_of_length_eq_zero (by simpa using hr.1)
        subst hn
        simp at hu
      · obtain ⟨ad', h, _, hc⟩ := hr.2 h0
        injection h with h
        subst h
        exact hc j u hu
    exact run_append_fits w base t ty e i size ht hi hsize g n cap xs hown ad m c news hr.1 hcells h1 hroom

theorem wpList_append_room_any {ops : Array Oper} {rest : List Oper} {o : Oper} {a : Act} {Q : Exit → Act → World → Prop} (hgd : o.guard = none) (s x : Operand) (t : TypeId)
    (ho : o.op = .call { callee := .builtin .append, args := #[s, x], argTypes := #[t, t] })
    (base : Nat) (e : TypeId) (i : TypeInfo) (size : Nat) (ht : P.underlying t = some (.slice e)) (hi : P.info? e = some i) (hsize : i.size = size)
    (g n cap : Nat) (xs : List Value) (hs : a.eval s = .slice (some ⟨g, 0, none⟩) n cap) (hown : w.ownsRow base e size (.slice (some ⟨g, 0, none⟩) n cap) n xs)
    (B : Nat) (A : Option Addr) (m c : Nat) (news : List Value) (hx : a.eval x = .slice A m c) (hr : Reads w B size A m news) (h1 : ∀ u ∈ news, u.oneCell' = true) (hroom : n + m ≤ cap)
    (h : ∀ w', w'.ownsRow base e size (.slice (some ⟨g, 0, none⟩) (n + m) cap) (n + m) (xs ++ news) → w.grownBy w' (some g) → wpList P ops Q rest (a.put o.dst (.slice (some ⟨g, 0, none⟩) (n + m) cap)) w') : wpList P ops Q (o :: rest) a w :=
  wpList_plain hgd fun _ hK => by
    obtain ⟨w', hrun, h2, h3⟩ := run_append_room_any (P := P) w base t o.type e i size ht hi hsize g n cap xs hown B A m c news hr h1 hroom
    unfold Oper.wp execOp
    simp only [ho, resolve, invoke, builtin, Sem.run_bind, Sem.run_pure, Result.andThen_ok, List.map_toArray, List.map_cons, List.map_nil, hs, hx, hrun]
    exact hK _ _ (h w' h2 h3)

variable {w} {B : Nat} {l : List UInt8} {t e n cap : Nat} {A : Option Addr} {i : TypeInfo}

/-- s[k:] -/
theorem slice_from (ht : P.underlying t = some (.slice e)) (hi : P.info? e = some i) (hsize : i.size = 1) (h : RdB w B (.slice A n cap) l) (k : Nat) (hk : k ≤ n) (kd : IntKind) :
    ∃ A' c', (∀ W, (Instr.slice t (.slice A n cap) (some (.int kd k)) none none).run P W = .ok (.slice A' (n - k) c') W) ∧ RdB w B (.slice A' (n - k) c') (l.drop k) := by
  have hn : n ≤ cap := by
    obtain ⟨A', c', hv, h1, _, _⟩ := h
    injection hv with _ e2 e3
    omega
  refine ⟨_, _, fun W => ?_, h.cut hk⟩
  have h2 : ¬ (n < k) := by omega
  simp [Instr.slice, run_underlying ht, Instr.sliceBounds, Instr.sliceBound, asIntOf, sizeOf, typeInfo, hi, hsize, hk]

/-- s[:k] -/
theorem slice_upto (ht : P.underlying t = some (.slice e)) (hi : P.info? e = some i) (h : RdB w B (.slice A n cap) l) (k : Nat) (hk : k ≤ n) (kd : IntKind) :
    ∃ A' c', (∀ W, (Instr.slice t (.slice A n cap) none (some (.int kd k)) none).run P W = .ok (.slice A' k c') W) ∧ RdB w B (.slice A' k c') (l.take k) := by
  have hn : n ≤ cap := by
    obtain ⟨A', c', hv, h1, _, _⟩ := h
    injection hv with _ e2 e3
    omega
  have hkc : k ≤ cap := by omega
  refine ⟨_, _, fun W => ?_, h.upto hk⟩
  simp [Instr.slice, run_underlying ht, Instr.sliceBounds, Instr.sliceBound, asIntOf, sizeOf, typeInfo, hi, hkc, Addr.add]

/-- s[k:m] -/
theorem slice_mid (ht : P.underlying t = some (.slice e)) (hi : P.info? e = some i) (hsize : i.size = 1) (h : RdB w B (.slice A n cap) l) (k m : Nat) (hk : k ≤ m) (hm : m ≤ n) (kd km : IntKind) :
    ∃ A' c', (∀ W, (Instr.slice t (.slice A n cap) (some (.int kd k)) (some (.int km m)) none).run P W = .ok (.slice A' (m - k) c') W) ∧ RdB w B (.slice A' (m - k) c') ((l.take m).drop k) := by
  have hn : n ≤ cap := by
    obtain ⟨A', c', hv, h1, _, _⟩ := h
    injection hv with _ e2 e3
    omega
  have hmc : m ≤ cap := by omega
  refine ⟨_, _, fun W => ?_, (h.upto hm).cut hk⟩
  simp [Instr.slice, run_underlying ht, Instr.sliceBounds, Instr.sliceBound, asIntOf, sizeOf, typeInfo, hi, hsize, hmc, hk]
end
end Go.Proofs.YtkoomlbnfhdhcaaGreatDoor
