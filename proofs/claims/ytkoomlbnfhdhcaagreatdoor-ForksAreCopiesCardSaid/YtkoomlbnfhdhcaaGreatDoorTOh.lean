/-
  Words: two memories of a law beside a view. Plain: what holds in every turn.
-/
import Derived.Test.YtkoomlbnfhdhcaaGreatDoorTOf
import Derived.Test.YtkoomlbnfhdhcaaGreatDoorTOg
import Derived.Laws.StructEq
import Derived.Test.YtkoomlbnfhdhcaaGreatDoorRow
import Derived.ChangeKeysEq
namespace Go.Proofs.YtkoomlbnfhdhcaaGreatDoor
open Go.RowKit
set_option linter.unusedVariables false
set_option linter.unusedSectionVars false
set_option linter.unusedSimpArgs false

section
variable {B : Nat} {w w' w'' : World} {v n : Nat} {V : Val}
theorem Env.mv {B1 : Nat} (h : Env w B v V n) (hm : Mv B1 NoX w w') : Env w' B v V n :=
  h.keep (fun k hk hkm => hm.block k hk (.inr ⟨fun ⟨cs, t, fr, he, ht⟩ => by
    rcases hkm cs t fr he with h | h | h | h | h | h | h <;> subst h <;> revert ht <;> decide, fun h => h⟩)) hm.size
end
/-- Two spaces. -/
def F2 (B : Nat) (w : World) (f : Nat → Nat) (a : Nat → AS) : Prop :=
  B ≤ w.heap.size ∧ f 0 ≠ f 1 ∧ ∃ sps hm, All C0 B w sps hm ∧ ∀ k, k < 2 → ∃ s, sps (f k) = some s ∧ view C0 hm s = a k
theorem two_ne {f : Nat → Nat} (h : f 0 ≠ f 1) {j k : Nat} (hj : j < 2) (hk : k < 2) (hn : j ≠ k) : f j ≠ f k := by
  rcases (show (j = 0 ∧ k = 1) ∨ (j = 1 ∧ k = 0) by omega) with ⟨rfl, rfl⟩ | ⟨rfl, rfl⟩
  · exact h
  · exact h.symm
section
variable {B B' : Nat} {w w' : World} {f : Nat → Nat} {a : Nat → AS}
theorem F2.below (h : F2 B w f a) (hb : Below w.heap.size w w') : F2 B w' f a := by
  obtain ⟨hB, hn, sps, hm, h1, h2⟩ := h
  exact ⟨Nat.le_trans hB hb.size, hn, sps, hm, h1.below (ok0 B).keeps hb, h2⟩
theorem F2.vf (h : F2 B w f a) (hf : VF B' w w') : F2 B w' f a := by
  obtain ⟨hB, hn, sps, hm, h1, h2⟩ := h
  exact ⟨Nat.le_trans hB hf.size, hn, sps, hm, h1.vf hf, h2⟩
theorem F2.ty (h : F2 B w f a) {t b : Nat} {cs : Array Value} (h1 : t ≠ 98) (h2 : t ≠ 125) (hb : Blk w b t cs) (hf : Fr [b] w w') : F2 B w' f a := by
  obtain ⟨hB, hn, sps, hm, h3, h4⟩ := h
  exact ⟨Nat.le_trans hB hf.size, hn, sps, hm, h3.ty (ty0 t) h1 h2 hb hf, h4⟩
theorem F2.put {sps : Nat → Option Sp} {hm hm1 : Pages} {k : Nat} {s1 : Sp} {a' : AS} (hB : B ≤ w'.heap.size) (hn : f 0 ≠ f 1) (hk : k < 2) (hA : All C0 B w' (upd sps (f k) (some s1)) hm1) (hv : view C0 hm1 s1 = a')
    (ho : ∀ j x, j ≠ f k → sps j = some x → view C0 hm1 x = view C0 hm x) (h2 : ∀ k, k < 2 → ∃ s, sps (f k) = some s ∧ view C0 hm s = a k) : F2 B w' f (upd a k a') := by
  refine ⟨hB, hn, _, hm1, hA, fun j hj => ?_⟩
  by_cases e : j = k
  · subst e
    exact ⟨s1, upd_at _ _ _, by rw [upd_at]; exact hv⟩
  · obtain ⟨s, hs, hvs⟩ := h2 j hj
    have hne := two_ne hn hj hk e
    exact ⟨s, by rw [upd_ne _ _ _ _ hne]; exact hs, by rw [upd_ne _ _ _ _ e, ho _ _ hne hs]; exact hvs⟩
theorem F2.map (h : F2 B w f a) {k : Nat} (hk : k < 2) (q : Nat) (x : List UInt8) (hx : x.length ≤ 64) :
    Calls Tryz.prog 14 #[.pointer (some ⟨f k, 0, none⟩), .int .i64 (q : Int), .string (strL x)] w fun e w' => e = .returned (.int .i64 (mapA (a k) (q : Int) x).2) ∧ F2 B w' f (upd a k (mapA (a k) (q : Int) x).1) ∧ Mv B NoX w w' := by
  obtain ⟨hB, hn, sps, hm, h1, h2⟩ := h
  obtain ⟨s, hs, hvs⟩ := h2 k hk
  have hr := map_all (ok0 B) h1 hs (q : Int) (strL x) (by rw [strL_size]; omega) hB
  rw [hvs, show (strL x).data.toList = x from by simp [strL]] at hr
  refine hr.mono ?_
  rintro e w' ⟨s1, hm1, hA, hv, ho, hmv, he⟩
  exact ⟨he, F2.put (Nat.le_trans hB hmv.size) hn hk hA hv ho h2, hmv⟩
theorem F2.run (h : F2 B w f a) {k : Nat} (hk : k < 2) {g : Rg} (hg : g.Ok) (ho : Ops w) (h0 : 0 < B) (m : Nat) (hm1 : m ≤ 100000) :
    Calls Tryz.prog 15 #[.agg g.vals.toArray, .pointer (some ⟨f k, 0, none⟩), .int .i64 (m : Int)] w fun e w' => e = .returned (.tuple #[resV (runA m g (a k)), .int .i64 0]) ∧ F2 B w' f (upd a k (runA m g (a k)).a) ∧ Mv B NoX w w' := by
  obtain ⟨hB, hn, sps, hm, h1, h2⟩ := h
  obtain ⟨s, hs, hvs⟩ := h2 k hk
  have hr := run_any (ok0 B) mach0 (ty0 57) h1 hs hg hB (fun _ h => h.elim) ho h0 m hm1
  rw [hvs] at hr
  refine hr.mono ?_
  rintro e w' ⟨he, s1, hm1, hA, hv, ho, hmv, _⟩
  exact ⟨he, F2.put (Nat.le_trans hB hmv.size) hn hk hA hv ho h2, hmv⟩
end
theorem SJ.needUp {f : Nat → Option (List UInt8)} {a : AS} (h : SJ f a) : ∀ k, SJ f (needUp k a)
  | 0 => h
  | k + 1 => (SJ.needUp h k).need k
theorem F2.equal {B Bv v n : Nat} {W w : World} {f : Nat → Nat} {a : Nat → AS} {V : Val} {box ob vb pb root : Nat} {p : Pr} {gv : Value} (h : F2 B W f a) (hf : VF Bv W w) {k : Nat} (hk : k < 2) (hroot : W.heap.size ≤ root) (hb : Blk w root 98 (spCells (spNew box)))
    (hE : (vSrc Bv v n V box ob vb pb root p gv).E (fun _ => false) w) (ok : SourceOk (vSrc Bv v n V box ob vb pb root p gv) B) :
    Calls Tryz.prog 18 #[.pointer (some ⟨root, 0, none⟩), .pointer (some ⟨f k, 0, none⟩)] w fun e w' => e = .returned (.bool (eqA (needUp 64 (newSA (memS V p))) (needUp 64 (a k)))) ∧ F2 B w' f (upd a k (needUp 64 (a k))) ∧ Env w' Bv v V n ∧ Mv B NoX w w' := by
  obtain ⟨hB, hn, sps, hm, h1, h2⟩ := h
  obtain ⟨s, hs, hvs⟩ := h2 k hk
  have hnone := h1.lt hroot
  have hroots : ∀ j x, sps j = some x → j ≠ root := fun j x hj e => by rw [e, hnone] at hj; cases hj
  have hne : root ≠ f k := (hroots _ _ hs).symm
  have h1w := h1.vf hf
  have hA := h1w.addroot (C := vSrc Bv v n V box ob vb pb root p gv) hnone (Nat.le_trans hB hroot) hb rfl rfl hE
  have hs' : upd sps root (some (spNew box)) (f k) = some s := by rw [upd_ne _ _ _ _ hne.symm]; exact hs
  have hvn : ∀ x hm', x.fetch = .nilFunc → view (vSrc Bv v n V box ob vb pb root p gv) hm' x = view C0 hm' x := fun x hm' hx => by unfold view; rw [hx]; rfl
  have hr := equal_all ok hA (upd_at _ _ _) hs' hne (Nat.le_trans hB hf.size) (fun _ h => h.elim)
  rw [hvn s hm (h1.nil0 hs), hvs, show view (vSrc Bv v n V box ob vb pb root p gv) hm (spNew box) = newSA (memS V p) from rfl] at hr
  refine hr.mono ?_
  rintro e w' ⟨he, s1, c1, hm1, hA1, hv1, hc1, ho, hmv⟩
  have hB' : B ≤ w'.heap.size := Nat.le_trans (Nat.le_trans hB hf.size) hmv.size
  have hsj := (newSA_sj (memS V p)).needUp 64
  have hE1 : Env w' Bv v V n := by
    rcases hA1.env s1 (by show upd (upd _ root _) (f k) _ root = _; rw [upd_ne _ _ _ _ hne, upd_at]) with e1 | e1
    · exfalso
      have := hsj.src
      rw [← hv1] at this
      unfold view at this
      rw [e1] at this
      cases this
    · exact e1.2.2.env
  have hD := hA1.droproot (root := root) rfl
  have hc0 : c1.fetch = .nilFunc := hA1.nosrc (f k) c1 (upd_at _ _ _) hne.symm
  have hview : view C0 hm1 c1 = needUp 64 (a k) := by rw [← hvn c1 hm1 hc0]; exact hc1
  refine ⟨he, ⟨hB', hn, _, hm1, hD, fun j hj => ?_⟩, hE1, hmv⟩
  by_cases e : j = k
  · subst e
    exact ⟨c1, by rw [upd_ne _ _ _ _ hne.symm, upd_at], by rw [upd_at]; exact hview⟩
  · obtain ⟨sj, hsj1, hvj⟩ := h2 j hj
    have hjk := two_ne hn hj hk e
    have hjr := hroots _ _ hsj1
    have hnil := h1.nil0 hsj1
    refine ⟨sj, by rw [upd_ne _ _ _ _ hjr, upd_ne _ _ _ _ hjk, upd_ne _ _ _ _ hjr, upd_ne _ _ _ _ hjr]; exact hsj1, ?_⟩
    rw [upd_ne _ _ _ _ e, ← hvj, ← hvn sj hm1 hnil, ← hvn sj hm hnil]
    exact ho _ _ hjr hjk (by rw [upd_ne _ _ _ _ hjr]; exact hsj1)
end Go.Proofs.YtkoomlbnfhdhcaaGreatDoor

/-
  Plain: what holds in every turn of the law.
-/
namespace Go.Proofs.YtkoomlbnfhdhcaaGreatDoor
open Go.RowKit
set_option linter.unusedVariables false
set_option linter.unusedSectionVars false
set_option linter.unusedSimpArgs false

theorem flds51 : ∃ a b : Field, Tryz.prog.fieldsOf 51 = #[a, b] ∧ (a.name, a.type, a.offset) = ("R", 49, 0) ∧ (b.name, b.type, b.offset) = ("PC", 48, 8) := by
  refine ⟨(Tryz.prog.fieldsOf 51)[0]!, (Tryz.prog.fieldsOf 51)[1]!, ?_, ?_, ?_⟩ <;> kernel_rfl
theorem info48' : ∃ i, Tryz.prog.info? 48 = some i ∧ i.size = 1 := ⟨(Tryz.prog.info? 48).get (by kernel_rfl), by kernel_rfl, by kernel_rfl⟩
section
variable (a b c d e f g h p : Int) (W : World)
theorem eqin49 (n : Nat) : (Op.equalIn (n + 2) 49 (.agg #[.int .u32 a, .int .u32 b, .int .u32 c, .int .u32 d, .int .u32 e, .int .u32 f, .int .u32 g, .int .u32 h]) (.agg #[.int .u32 a, .int .u32 b, .int .u32 c, .int .u32 d, .int .u32 e, .int .u32 f, .int .u32 g, .int .u32 h])).run Tryz.prog W = .ok true W := by
  obtain ⟨i, hi, hs⟩ := info48'
  rw [run_equalIn_array W (n + 1) _ _ Tryz.underlying49 hi, (show Tryz.prog.cellsOf 48 = 1 by kernel_rfl)]
  have k0 : (part 48 #[.int .u32 a, .int .u32 b, .int .u32 c, .int .u32 d, .int .u32 e, .int .u32 f, .int .u32 g, .int .u32 h] (0 * 1)).run Tryz.prog W = .ok (.int .u32 a) W := by kernel_rfl
  have k1 : (part 48 #[.int .u32 a, .int .u32 b, .int .u32 c, .int .u32 d, .int .u32 e, .int .u32 f, .int .u32 g, .int .u32 h] (1 * 1)).run Tryz.prog W = .ok (.int .u32 b) W := by kernel_rfl
  have k2 : (part 48 #[.int .u32 a, .int .u32 b, .int .u32 c, .int .u32 d, .int .u32 e, .int .u32 f, .int .u32 g, .int .u32 h] (2 * 1)).run Tryz.prog W = .ok (.int .u32 c) W := by kernel_rfl
  have k3 : (part 48 #[.int .u32 a, .int .u32 b, .int .u32 c, .int .u32 d, .int .u32 e, .int .u32 f, .int .u32 g, .int .u32 h] (3 * 1)).run Tryz.prog W = .ok (.int .u32 d) W := by kernel_rfl
  have k4 : (part 48 #[.int .u32 a, .int .u32 b, .int .u32 c, .int .u32 d, .int .u32 e, .int .u32 f, .int .u32 g, .int .u32 h] (4 * 1)).run Tryz.prog W = .ok (.int .u32 e) W := by kernel_rfl
  have k5 : (part 48 #[.int .u32 a, .int .u32 b, .int .u32 c, .int .u32 d, .int .u32 e, .int .u32 f, .int .u32 g, .int .u32 h] (5 * 1)).run Tryz.prog W = .ok (.int .u32 f) W := by kernel_rfl
  have k6 : (part 48 #[.int .u32 a, .int .u32 b, .int .u32 c, .int .u32 d, .int .u32 e, .int .u32 f, .int .u32 g, .int .u32 h] (6 * 1)).run Tryz.prog W = .ok (.int .u32 g) W := by kernel_rfl
  have k7 : (part 48 #[.int .u32 a, .int .u32 b, .int .u32 c, .int .u32 d, .int .u32 e, .int .u32 f, .int .u32 g, .int .u32 h] (7 * 1)).run Tryz.prog W = .ok (.int .u32 h) W := by kernel_rfl
  show (Op.eqItems (n + 1) 48 1 _ _ [0, 1, 2, 3, 4, 5, 6, 7]).run Tryz.prog W = _
  simp only [Op.eqItems, Sem.run_bind, Sem.run_ite, k0, k1, k2, k3, k4, k5, k6, k7, Result.andThen_ok, run_equalIn_int _ _ _ _ _ _ _ Tryz.underlying48, beq_self_eq_true, Bool.not_true, Bool.false_eq_true, if_false, Sem.run_pure]
theorem eqin51 (n : Nat) : (Op.equalIn (n + 3) 51 (.agg #[.int .u32 a, .int .u32 b, .int .u32 c, .int .u32 d, .int .u32 e, .int .u32 f, .int .u32 g, .int .u32 h, .int .u32 p]) (.agg #[.int .u32 a, .int .u32 b, .int .u32 c, .int .u32 d, .int .u32 e, .int .u32 f, .int .u32 g, .int .u32 h, .int .u32 p])).run Tryz.prog W = .ok true W := by
  rw [run_equalIn_agg _ _ _ _ _ (by kernel_rfl) (by kernel_rfl)]
  have h0 : (part 49 #[.int .u32 a, .int .u32 b, .int .u32 c, .int .u32 d, .int .u32 e, .int .u32 f, .int .u32 g, .int .u32 h, .int .u32 p] 0).run Tryz.prog W = .ok (.agg #[.int .u32 a, .int .u32 b, .int .u32 c, .int .u32 d, .int .u32 e, .int .u32 f, .int .u32 g, .int .u32 h]) W := by kernel_rfl
  have h1 : (part 48 #[.int .u32 a, .int .u32 b, .int .u32 c, .int .u32 d, .int .u32 e, .int .u32 f, .int .u32 g, .int .u32 h, .int .u32 p] 8).run Tryz.prog W = .ok (.int .u32 p) W := by kernel_rfl
  obtain ⟨fa, fb, hf, ha, hb⟩ := flds51
  simp only [Prod.mk.injEq] at ha hb
  rw [hf]
  simp only [Op.eqFields, ha, hb, Sem.run_bind, Sem.run_ite, h0, h1, Result.andThen_ok, eqin49, run_equalIn_int _ _ _ _ _ _ _ Tryz.underlying48, beq_self_eq_true]
  simp
theorem neq51_refl : (binOp .neq 51 (.agg #[.int .u32 a, .int .u32 b, .int .u32 c, .int .u32 d, .int .u32 e, .int .u32 f, .int .u32 g, .int .u32 h, .int .u32 p]) (.agg #[.int .u32 a, .int .u32 b, .int .u32 c, .int .u32 d, .int .u32 e, .int .u32 f, .int .u32 g, .int .u32 h, .int .u32 p])).run Tryz.prog W = .ok (.bool false) W := by
  have h2 := eqin51 a b c d e f g h p W 9997
  simp only [Nat.reduceAdd] at h2
  rw [run_neq_struct, h2]
  rfl
end
theorem neq51_vals (W : World) (g : Rg) : (binOp .neq 51 (.agg g.vals.toArray) (.agg g.vals.toArray)).run Tryz.prog W = .ok (.bool false) W := neq51_refl _ _ _ _ _ _ _ _ _ W
/-! ### A space into which pages were mapped -/
def emA : AS := ⟨none, fun _ => false, fun _ => false, fun _ => false, fun _ => none⟩
def mpA (l : List (List UInt8)) : Nat → AS
  | 0 => emA
  | n + 1 => (mapA (mpA l n) (n : Int) (l.getD n [])).1
structure MpA (l : List (List UInt8)) (n : Nat) (a : AS) : Prop where
  src : a.src = none
  kn : ∀ p, a.known p = decide (p < n)
  pg : ∀ p, a.page p = if p < n then some (padL (l.getD p [])) else none
theorem mpA_step {l : List (List UInt8)} {n : Nat} {a : AS} (h : MpA l n a) (hn : n < 64) (hl : (l.getD n []).length ≤ 64) : MpA l (n + 1) (mapA a (n : Int) (l.getD n [])).1 ∧ (mapA a (n : Int) (l.getD n [])).2 = 0 := by
  have hk : a.known n = false := by rw [h.kn]; exact decide_eq_false (by omega)
  have hneed : needA a n = { a with known := upd a.known n true } := by
    unfold needA
    rw [if_neg (by rw [hk]; decide), h.src]
  have hmap : mapA a (n : Int) (l.getD n []) = (putA (needA a n) n (l.getD n []), 0) := by
    unfold mapA
    rw [if_neg (by omega), if_neg (by omega), Int.toNat_natCast, if_neg]
    rw [hneed]
    show ¬ (a.page n).isSome = true
    rw [h.pg, if_neg (by omega)]
    decide
  rw [hmap]
  refine ⟨⟨?_, fun p => ?_, fun p => ?_⟩, rfl⟩
  · rw [hneed]; exact h.src
  · rw [hneed]
    show upd a.known n true p = _
    by_cases e : p = n
    · rw [e, upd_at]; exact (decide_eq_true (by omega)).symm
    · rw [upd_ne _ _ _ _ e, h.kn]
      exact decide_eq_decide.2 (by omega)
  · rw [hneed]
    show upd a.page n _ p = _
    by_cases e : p = n
    · rw [e, upd_at, if_pos (by omega)]
    · rw [upd_ne _ _ _ _ e, h.pg]
      exact ite_congr (propext (by omega)) (fun _ => rfl) (fun _ => rfl)
theorem mpA_ok (l : List (List UInt8)) (hl : ∀ x ∈ l, x.length ≤ 64) : ∀ n, n ≤ 64 → MpA l n (mpA l n)
  | 0, _ => ⟨rfl, fun p => (decide_eq_false (by omega)).symm, fun p => (if_neg (by omega)).symm⟩
  | n + 1, h => (mpA_step (mpA_ok l hl n (by omega)) (by omega) (getD_le l hl n)).1
where
  getD_le (l : List (List UInt8)) (hl : ∀ x ∈ l, x.length ≤ 64) (n : Nat) : (l.getD n []).length ≤ 64 := by
    rw [List.getD_eq_getElem?_getD]
    cases h : l[n]? with
    | none => exact Nat.zero_le _
    | some x => exact hl x (List.mem_of_getElem? h)
theorem mpA_err (l : List (List UInt8)) (hl : ∀ x ∈ l, x.length ≤ 64) (n : Nat) (h : n < 64) : (mapA (mpA l n) (n : Int) (l.getD n [])).2 = 0 :=
  (mpA_step (mpA_ok l hl n (by omega)) h (mpA_ok.getD_le l hl n)).2
theorem MpA.unk {l : List (List UInt8)} {n : Nat} {a : AS} (h : MpA l n a) : Unk a := fun p hp => by
  rw [h.kn] at hp
  rw [h.pg, if_neg (of_decide_eq_false hp)]
theorem MpA.eff {l : List (List UInt8)} {n : Nat} {a : AS} (h : MpA l n a) : effP a = fun p => if p < n then some (padL (l.getD p [])) else none := by
  funext p
  unfold effP
  rw [h.src, h.kn, h.pg]
  by_cases e : p < n
  · rw [if_pos (decide_eq_true e), if_pos e]
  · rw [if_neg (by rw [decide_eq_false e]; decide), if_neg e]
/-! ### The views of the law -/
def pZ : Pr := ⟨1, 0, 0, [], n1, 0, 0⟩
theorem pZ_ok : PrOk pZ := ⟨⟨by decide, by decide⟩, by decide, fun _ => rfl, by decide, .inl rfl, by decide, by decide⟩
def pL (i : Img) : Pr := { pZ with sp := n1, pages := npOf i }
theorem pL_ok {i : Img} (hi : ImgOk i) : PrOk (pL i) := ⟨⟨by show 1 ≤ 1; decide, by show 1 ≤ 3; decide⟩, by show 0 < 128; decide, fun _ => rfl, by show 0 < 128; decide, .inl rfl, hi.np_le, by show 0 ≤ 99; decide⟩
def imgV0 : Val := vupd vnone (oP n1) (prEnc pZ)
def imgV1 (i : Img) : Val := loadV imgV0 n1 pZ i
theorem has0 : Has imgV0 n1 pZ := ⟨vupd_at _ _ _, rfl, .inl rfl, pZ_ok, .inl rfl⟩
theorem bdd0 : Bdd imgV0 := Bdd.upd (fun _ _ h => by cases h) _ (by have := prEnc_length pZ pZ_ok (.inl rfl); omega)
theorem img1_other (i : Img) (y : Ob) (h1 : ¬ (y.k = 3 ∧ y.o = n1)) (h2 : y ≠ oR n1) (h3 : y ≠ oP n1) : imgV1 i y = imgV0 y := by
  unfold imgV1 loadV
  rw [vupd_ne _ _ _ _ h2, vpg_other _ _ _ _ ((Decidable.em (y.k = 3)).elim (fun e => .inr (fun e2 => h1 ⟨e, e2⟩)) .inl), vupd_ne _ _ _ _ h3]
theorem img1_rg (i : Img) : imgV1 i (oR n1) = some (encT (rgE i.e) 9) := by unfold imgV1 loadV; exact vupd_at _ _ _
theorem img1_page (i : Img) (k : Nat) (hk : k < npOf i) : imgV1 i (oG n1 k) = some ((pagesL i).getD k []) := by
  unfold imgV1 loadV
  rw [vupd_ne _ _ _ _ (fun e => by injection e with e; cases e), vpg_page, if_pos hk]
theorem pages_le {i : Img} (hi : ImgOk i) (k : Nat) : ((pagesL i).getD k []).length ≤ 64 := mpA_ok.getD_le _ (pages_len hi) k
theorem pst1 {i : Img} (hi : ImgOk i) (he : (rgE i.e).Ok) : Pst (imgV1 i) n1 (pL i) (rgE i.e) := by
  refine ⟨⟨?_, ?_, .inl rfl, pL_ok hi, .inl rfl⟩, rfl, rfl, fun k hk => ⟨_, img1_page i k hk, pages_le hi k⟩, img1_rg i, he⟩
  · unfold imgV1 loadV
    rw [vupd_ne _ _ _ _ (fun e => by injection e with e; cases e), vpg_other _ _ _ _ (.inl (show ¬ (1 = 3) by decide)), vupd_at]
    rfl
  · rw [img1_other i _ (fun h => absurd h.1 (show ¬ (20 = 3) by decide)) (fun e => by injection e with e; cases e) (fun e => by injection e with e; cases e)]
    exact has0.e
theorem mem1 {i : Img} (hi : ImgOk i) : memM (imgV1 i) (pL i) = fun k => if k < npOf i then some (padL ((pagesL i).getD k [])) else none := by
  funext k
  unfold memM memS
  show Option.map padL (if k < npOf i then imgV1 i (oG n1 k) else none) = _
  by_cases h : k < npOf i
  · rw [if_pos h, if_pos h, img1_page i k h]; rfl
  · rw [if_neg h, if_neg h]; rfl
theorem bdd1 {i : Img} (hi : ImgOk i) : Bdd (imgV1 i) := fun y b hb => by
  by_cases h2 : y = oR n1
  · subst h2
    rw [img1_rg] at hb
    injection hb with hb
    rw [← hb, encT_len]; decide
  · by_cases h3 : y = oP n1
    · subst h3
      have hp : imgV1 i (oP n1) = some (prEnc (pL i)) := by
        unfold imgV1 loadV
        rw [vupd_ne _ _ _ _ (fun e => by injection e with e; cases e), vpg_other _ _ _ _ (.inl (show ¬ (1 = 3) by decide)), vupd_at]
        rfl
      rw [hp] at hb
      injection hb with hb
      have := prEnc_length (pL i) (pL_ok hi) (.inl rfl)
      rw [← hb]; omega
    · by_cases h1 : y.k = 3 ∧ y.o = n1
      · obtain ⟨yk, yo, yi⟩ := y
        obtain ⟨e1, e2⟩ := h1
        dsimp only at e1 e2
        subst e1 e2
        by_cases h : yi < npOf i
        · rw [img1_page i yi h] at hb
          injection hb with hb
          have := pages_le hi yi
          rw [← hb]; omega
        · unfold imgV1 loadV at hb
          rw [vupd_ne _ _ _ _ h2, vpg_page, if_neg h, vupd_ne _ _ _ _ h3] at hb
          exact bdd0 _ _ hb
      · rw [img1_other i y h1 h2 h3] at hb
        exact bdd0 _ _ hb
theorem Bdd.turn {V : Val} {who : List UInt8} {p : Pr} {g : Rg} (h : Bdd V) (m : Nat) : Bdd (turnV V who p g m) := by
  refine Bdd.upd (fun y b hb => ?_) _ (by rw [encT_len]; decide)
  unfold stW at hb
  split at hb
  · rename_i hc
    obtain ⟨_, _, b', h1, h2⟩ := (turn_sj V p g m).chg _ hc.2.2.2.2
    rw [h1] at hb
    injection hb with hb
    rw [← hb]; omega
  · exact h _ _ hb
/-! ### What holds in every turn -/
def whoK (k : Nat) : List UInt8 := if k = 0 then n1 else n11
def prK (p : Pr) (k : Nat) : Pr := if k = 0 then p else forkQ p 0
structure Inv (V : Val) (p : Pr) (γ : Nat → Rg) (a : Nat → AS) : Prop where
  ps : ∀ k, k < 2 → Pst V (whoK k) (prK p k) (γ k)
  un : ∀ k, k < 2 → Unk (a k)
  eff : ∀ k, k < 2 → effP (a k) = memM V (prK p k)
theorem whoK_ne {j k : Nat} (hj : j < 2) (hk : k < 2) (h : j ≠ k) : whoK j ≠ whoK k := by
  rcases (show (j = 0 ∧ k = 1) ∨ (j = 1 ∧ k = 0) by omega) with ⟨rfl, rfl⟩ | ⟨rfl, rfl⟩ <;> decide
theorem Inv.turn {V : Val} {p : Pr} {γ : Nat → Rg} {a : Nat → AS} (h : Inv V p γ a) {k : Nat} (hk : k < 2) (m : Nat) :
    Inv (turnV V (whoK k) (prK p k) (γ k) m) p (upd γ k (runA m (γ k) (a k)).g) (upd a k (runA m (γ k) (a k)).a) := by
  have hp := h.ps k hk
  obtain ⟨l1, l2, _, _, l5⟩ := loopA_M m 0 (γ k) (h.un k hk)
  rw [h.eff k hk] at l1 l2
  have hoth : ∀ j, j < 2 → j ≠ k → ∀ y : Ob, (y.o = whoK j ∨ y = oE) → turnV V (whoK k) (prK p k) (γ k) m y = V y := fun j hj hn y hy => by
    have hne := whoK_ne hj hk hn
    rcases hy with hy | hy
    · exact turn_other _ _ _ _ _ _ (fun hh => hne (hy.symm.trans hh.2)) (fun e => hne (hy.symm.trans (by rw [e])))
    · subst hy
      exact turn_other _ _ _ _ _ _ (fun hh => absurd hh.1 (show ¬ (20 = 3) by decide)) (fun e => by injection e with e; cases e)
  refine ⟨fun j hj => ?_, fun j hj => ?_, fun j hj => ?_⟩
  · by_cases e : j = k
    · subst e
      rw [upd_at]
      have := turn_pst hp m
      rw [turn_g, ← l1] at this
      exact this
    · rw [upd_ne _ _ _ _ e]
      exact (h.ps j hj).other (hoth j hj e)
  · by_cases e : j = k
    · subst e
      rw [upd_at]
      exact l5
    · rw [upd_ne _ _ _ _ e]; exact h.un j hj
  · by_cases e : j = k
    · subst e
      rw [upd_at, turn_mem hp m]
      exact l2
    · rw [upd_ne _ _ _ _ e, h.eff j hj]
      refine (memM_other fun y hy => hoth j hj e y (.inl ?_)).symm
      rw [hy]; exact (h.ps j hj).sp
theorem Inv.upd_same {V : Val} {p : Pr} {γ : Nat → Rg} {a : Nat → AS} (h : Inv V p γ a) {k : Nat} (hk : k < 2) {b : AS} (hu : Unk b) (he : effP b = effP (a k)) : Inv V p γ (upd a k b) := by
  refine ⟨h.ps, fun j hj => ?_, fun j hj => ?_⟩
  · by_cases e : j = k
    · subst e; rw [upd_at]; exact hu
    · rw [upd_ne _ _ _ _ e]; exact h.un j hj
  · by_cases e : j = k
    · subst e; rw [upd_at, he]; exact h.eff j hj
    · rw [upd_ne _ _ _ _ e]; exact h.eff j hj
theorem Inv.asked {V : Val} {p : Pr} {γ : Nat → Rg} {a : Nat → AS} (h : Inv V p γ a) {k : Nat} (hk : k < 2) : Inv V p γ (upd a k (needUp 64 (a k))) :=
  h.upd_same hk (needUp_unk (h.un k hk) 64) (needUp_eff (h.un k hk) 64)
theorem Inv.same {V : Val} {p : Pr} {γ : Nat → Rg} {a : Nat → AS} (h : Inv V p γ a) {k : Nat} (hk : k < 2) : eqA (needUp 64 (newSA (memS V (prK p k)))) (needUp 64 (a k)) = true :=
  eqA_eff (newSA_unk _) (h.un k hk) (by rw [newSA_mem, h.eff k hk])
/-! ### Behind the fork -/
section
variable {V : Val} {p : Pr} {g : Rg}
theorem Pst.fork0 (h : Pst V n1 p g) : Pst (forkV V p 0) n1 p g := by
  have hV : ∀ y : Ob, y.o = n1 → y.k ≠ 5 → forkV V p 0 y = V y := fun y h1 h2 => fork_other V p 0 y (fun e => h2 (by rw [e])) (fun e => chN_ne 0 (h1.symm.trans e))
  refine ⟨⟨(hV _ rfl (show (1 : Nat) ≠ 5 by decide)).trans h.has.v, (fork_oE V p 0).trans h.has.e, h.has.w, h.has.ok, h.has.gs⟩, h.st, h.sp, fun k hk => ?_, (hV _ rfl (show (2 : Nat) ≠ 5 by decide)).trans h.rg, h.ok⟩
  obtain ⟨b, hb, hl⟩ := h.pg k hk
  exact ⟨b, (hV _ h.sp (show (3 : Nat) ≠ 5 by decide)).trans hb, hl⟩
theorem Pst.fork1 (h : Pst V n1 p g) : Pst (forkV V p 0) n11 (forkQ p 0) g := by
  refine ⟨h.has.forked 0 (by decide), h.st, rfl, fun k hk => ?_, fork_rg V p 0 _ h.rg, h.ok⟩
  obtain ⟨b, hb, hl⟩ := h.pg k hk
  rw [h.sp] at hb
  exact ⟨b, fork_pg V p 0 k b hk hb, hl⟩
theorem mem_fork0 (h : Pst V n1 p g) : memM (forkV V p 0) p = memM V p :=
  memM_eq fun k => fork_other V p 0 _ (fun e => by injection e with e; cases e) (fun e => chN_ne 0 (h.sp.symm.trans e))
where
  memM_eq {V V' : Val} {p : Pr} (h : ∀ k, V' (oG p.sp k) = V (oG p.sp k)) : memM V' p = memM V p := by
    funext k
    unfold memM memS
    rw [h k]
theorem mem_fork1 (h : Pst V n1 p g) : memM (forkV V p 0) (forkQ p 0) = memM V p := by
  funext k
  unfold memM memS
  show Option.map padL (if k < p.pages then forkV V p 0 (oG (chN 0) k) else none) = Option.map padL (if k < p.pages then V (oG p.sp k) else none)
  by_cases hk : k < p.pages
  · rw [if_pos hk, if_pos hk]
    obtain ⟨b, hb, hl⟩ := h.pg k hk
    rw [hb]
    rw [h.sp] at hb
    rw [fork_pg V p 0 k b hk hb]
  · rw [if_neg hk, if_neg hk]
theorem Inv.fork (h : Pst V n1 p g) {γ : Nat → Rg} {a : Nat → AS} (hg : ∀ k, k < 2 → γ k = g) (hu : ∀ k, k < 2 → Unk (a k)) (he : ∀ k, k < 2 → effP (a k) = memM V p) : Inv (forkV V p 0) p γ a := by
  refine ⟨fun k hk => ?_, hu, fun k hk => ?_⟩
  · rw [hg k hk]
    rcases (show k = 0 ∨ k = 1 by omega) with rfl | rfl
    · exact h.fork0
    · exact h.fork1
  · rw [he k hk]
    rcases (show k = 0 ∨ k = 1 by omega) with rfl | rfl
    · exact (mem_fork0 h).symm
    · exact (mem_fork1 h).symm
end
/-- The run before the fork, by a view and by mapped pages. -/
theorem before_run {i : Img} (hi : ImgOk i) (m : Nat) : (runA m (rgE i.e) (mpA (pagesL i) (npOf i))).g = turnG (imgV1 i) (pL i) (rgE i.e) m ∧ Unk (runA m (rgE i.e) (mpA (pagesL i) (npOf i))).a ∧
    effP (runA m (rgE i.e) (mpA (pagesL i) (npOf i))).a = (loopM m 0 (rgE i.e) (memM (imgV1 i) (pL i))).m := by
  have hmp := mpA_ok (pagesL i) (pages_len hi) (npOf i) hi.np_le
  obtain ⟨l1, l2, _, _, l5⟩ := loopA_M m 0 (rgE i.e) hmp.unk
  rw [hmp.eff, ← mem1 hi] at l1 l2
  exact ⟨l1.trans (turn_g _ _ _ _).symm, l5, l2⟩
end Go.Proofs.YtkoomlbnfhdhcaaGreatDoor

/-
  Words: what stands in memory while the law runs.
-/
namespace Go.Proofs.YtkoomlbnfhdhcaaGreatDoor
open Go.RowKit
set_option linter.unusedVariables false
set_option linter.unusedSectionVars false
set_option linter.unusedSimpArgs false

theorem setCells_mid {b : Nat} {t : TypeId} : ∀ (vs : List Value) (o : Nat) (w : World) (cs : Array Value), Blk w b t cs → o + vs.length ≤ cs.size → ∃ cs', Blk (w.setCells b o vs) b t cs' ∧ Fr [b] w (w.setCells b o vs) ∧ cs'.toList = cs.toList.take o ++ vs ++ cs.toList.drop (o + vs.length)
  | [], o, w, cs, h, _ => ⟨cs, h, Fr.refl _ _, by simp⟩
  | v :: vs, o, w, cs, h, hl => by
    rw [List.length_cons] at hl
    have h2 := h.set_ o v
    obtain ⟨cs', g1, g2, g3⟩ := setCells_mid vs (o + 1) (w.setCell ⟨b, o, none⟩ v) (cs.setIfInBounds o v) h2 (by rw [Array.size_setIfInBounds]; omega)
    refine ⟨cs', g1, ((Fr.refl [b] w).setCell (p := ⟨b, o, none⟩) (.inl (by simp)) v).trans g2 (by simp), ?_⟩
    have hsz : cs.toList.length = cs.size := Array.length_toList
    rw [g3, Array.toList_setIfInBounds, List.length_cons]
    have e1 : (cs.toList.set o v).take (o + 1) = cs.toList.take o ++ [v] := by
      rw [List.take_succ_eq_append_getElem (by rw [List.length_set]; omega), List.take_set_of_le (Nat.le_refl _)]
      simp
    have e2 : (cs.toList.set o v).drop (o + 1 + vs.length) = cs.toList.drop (o + (vs.length + 1)) := by
      rw [List.drop_set_of_lt (by omega)]
      congr 1
      omega
    rw [e1, e2]
    simp
/-- The two registers of the law. -/
def rgs (γ : Nat → Rg) : Array Value := ((γ 0).vals ++ (γ 1).vals).toArray
theorem info51 : (Tryz.prog.info? 51).map (·.size) = some 9 := by kernel_rfl
theorem rgs_range {w : World} {R : Nat} {γ : Nat → Rg} (h : Blk w R 52 (rgs γ)) {k : Nat} (hk : k < 2) : w.rangeAt R (9 * k) (γ k).vals := fun j v hv => by
  have hj : j < 9 := (List.getElem?_eq_some_iff.1 hv).1
  rw [h.cell]
  unfold rgs
  rw [List.getElem?_toArray]
  rcases (show k = 0 ∨ k = 1 by omega) with rfl | rfl
  · rw [Nat.mul_zero, Nat.zero_add, List.getElem?_append_left (by exact hj)]; exact hv
  · rw [List.getElem?_append_right (by show 9 ≤ _; omega), show 9 * 1 + j - (γ 0).vals.length = j from by show 9 * 1 + j - 9 = j; omega]; exact hv
section
variable {P : Program} {ops : Array Oper} {rest : List Oper} {op : Oper} {a : Act} {Q : Exit → Act → World → Prop} {w : World} {R : Nat} {γ : Nat → Rg}
theorem wpList_store_R (hgd : op.guard = none) (x y : Operand) (ho : op.op = .store 51 x y) (k : Nat) (hk : k < 2) (o : Nat) (hx : a.eval x = .pointer (some ⟨R, o, none⟩)) (hoff : o = 9 * k) (g : Rg) (hy : a.eval y = .agg g.vals.toArray) (h : Blk w R 52 (rgs γ))
    (hK : ∀ w', Blk w' R 52 (rgs (upd γ k g)) → Fr [R] w w' → wpList Tryz.prog ops Q rest (a.put op.dst undef) w') : wpList Tryz.prog ops Q (op :: rest) a w := by
  subst hoff
  have hsz : (rgs γ).size = 18 := rfl
  refine wpList_store_mid hgd 51 x y ho R (9 * k) g.vals.toArray hx hy (fun j hj => ?_) info51 (by rw [← Array.all_toList]; exact vals_one g) ?_
  · have hj : j < 9 := hj
    refine ⟨?_, h.frozen _⟩
    rw [h.cell, Array.getElem?_eq_getElem (by rw [hsz]; omega)]
    rfl
  · obtain ⟨cs', g1, g2, g3⟩ := setCells_mid g.vals (9 * k) w (rgs γ) h (by rw [hsz]; show 9 * k + 9 ≤ 18; omega)
    have e : cs' = rgs (upd γ k g) := by
      refine Array.ext' ?_
      rw [g3]
      rcases (show k = 0 ∨ k = 1 by omega) with rfl | rfl
      · rfl
      · rfl
    rw [e] at g1
    exact hK _ g1 g2
end
/-- Blocks of these kinds stay. -/
def KT (t : TypeId) : Prop := t = 23 ∨ t = 47 ∨ t = 9 ∨ t = 33
def KBl (w w' : World) : Prop := ∀ g t cs, Blk w g t cs → KT t → Blk w' g t cs
section
variable {w w' w'' : World}
theorem KBl.refl (w : World) : KBl w w := fun _ _ _ h _ => h
theorem KBl.trans (h : KBl w w') (k : KBl w' w'') : KBl w w'' := fun g t cs hb ht => k g t cs (h g t cs hb ht) ht
theorem KBl.below (hb : Below w.heap.size w w') : KBl w w' := fun g t cs h _ => h.below hb h.lt
theorem KBl.vf {B : Nat} (hf : VF B w w') : KBl w w' := fun g t cs h ht => hf.blk h (by rcases ht with rfl | rfl | rfl | rfl <;> decide) (by rcases ht with rfl | rfl | rfl | rfl <;> decide)
theorem KBl.mv {B : Nat} (hm : Mv B NoX w w') : KBl w w' := fun g t cs h ht => hm.blk h (by rcases ht with rfl | rfl | rfl | rfl <;> decide) (by rcases ht with rfl | rfl | rfl | rfl <;> decide) (fun h => h)
theorem KBl.fr {q t0 : Nat} {cs0 : Array Value} (hf : Fr [q] w w') (hq : Blk w q t0 cs0) (h0 : ¬ KT t0) : KBl w w' := fun g t cs h ht =>
  h.fr hf (by simp; exact h.ne_ hq (fun e => h0 (by rw [← e]; exact ht)))
end
/-- While the law runs. -/
structure Gs (wb : World) (N B B2 v R : Nat) (f : Nat → Nat) (w : World) (V : Val) (n : Nat) (γ : Nat → Rg) (a : Nat → AS) : Prop where
  env : Env w B v V n
  f2 : F2 B2 w f a
  rg : Blk w R 52 (rgs γ)
  bl : Below N wb w
  kb : KBl wb w
  hR : B ≤ R ∧ N ≤ R
  hB : N ≤ B ∧ N ≤ B2
section
variable {wb w w' : World} {N B B2 v R n n' : Nat} {f : Nat → Nat} {V V' : Val} {γ γ' : Nat → Rg} {a a' : Nat → AS}
theorem Gs.leN (h : Gs wb N B B2 v R f w V n γ a) : N ≤ w.heap.size := Nat.le_trans h.hB.1 h.env.leB
theorem Gs.below (h : Gs wb N B B2 v R f w V n γ a) (hb : Below w.heap.size w w') : Gs wb N B B2 v R f w' V n γ a :=
  ⟨h.env.below hb, h.f2.below hb, h.rg.below hb h.rg.lt, h.bl.trans (hb.mono h.leN), h.kb.trans (KBl.below hb), h.hR, h.hB⟩
theorem Gs.vf (h : Gs wb N B B2 v R f w V n γ a) (hf : VF B w w') (he : Env w' B v V' n') : Gs wb N B B2 v R f w' V' n' γ a :=
  ⟨he, h.f2.vf hf, hf.blk h.rg (by decide) (by decide), h.bl.trans ((hf.below h.env.leB).mono h.hB.1), h.kb.trans (KBl.vf hf), h.hR, h.hB⟩
theorem Gs.mv (h : Gs wb N B B2 v R f w V n γ a) (hm : Mv B2 NoX w w') (hf : F2 B2 w' f a') : Gs wb N B B2 v R f w' V n γ a' :=
  ⟨h.env.mv hm, hf, hm.blk h.rg (by decide) (by decide) (fun h => h), h.bl.trans ((hm.below h.f2.1).mono h.hB.2), h.kb.trans (KBl.mv hm), h.hR, h.hB⟩
theorem Gs.reg (h : Gs wb N B B2 v R f w V n γ a) (hr : Blk w' R 52 (rgs γ')) (hf : Fr [R] w w') : Gs wb N B B2 v R f w' V n γ' a :=
  ⟨h.env.fr1 hf h.rg (by decide) (by decide) (by decide) h.hR.1, h.f2.ty (by decide) (by decide) h.rg hf, hr, h.bl.trans (hf.below h.leN (fun g hg => by rw [List.mem_singleton.1 hg]; exact h.hR.2)), h.kb.trans (KBl.fr hf h.rg (by unfold KT; decide)), h.hR, h.hB⟩
theorem Gs.drew (h : Gs wb N B B2 v R f w V n γ a) : Gs wb N B B2 v R f w.drew V n γ a := h.below (Below.refl _ _).drew
theorem Gs.more (h : Gs wb N B B2 v R f w V n γ a) {m : Nat} (hm : n ≤ m) : Gs wb N B B2 v R f w V m γ a := ⟨h.env.more hm, h.f2, h.rg, h.bl, h.kb, h.hR, h.hB⟩
theorem Gs.run (h : Gs wb N B B2 v R f w V n γ a) {k : Nat} (hk : k < 2) {g : Rg} (hg : g.Ok) (ho : Ops w) (h0 : 0 < N) (m : Nat) (hm : m ≤ 100000) {Z : RunR} (hZ : Z = runA m g (a k)) :
    Calls Tryz.prog 15 #[.agg g.vals.toArray, .pointer (some ⟨f k, 0, none⟩), .int .i64 (m : Int)] w fun e w' => e = .returned (.tuple #[resV Z, .int .i64 0]) ∧ Gs wb N B B2 v R f w' V n γ (upd a k Z.a) ∧ ∀ g t cs, Blk w g t cs → t ≠ 98 → t ≠ 125 → Blk w' g t cs := by
  have h0' := h.hB.2
  refine (h.f2.run hk hg ho (by omega) m hm).mono ?_
  rintro e w' ⟨h1, h2, h3⟩
  rw [hZ]
  exact ⟨h1, h.mv h3 h2, fun g t cs hb q1 q2 => h3.blk hb q1 q2 (fun h => h)⟩
end
/-- Two new spaces. -/
theorem All.addsp {B g : Nat} {w w' : World} {sps : Nat → Option Sp} {hm : Pages} (h : All C0 B w sps hm) (hB : B ≤ w.heap.size) (hb : Below w.heap.size w w') (hg : w.heap.size ≤ g) (hbl : Blk w' g 98 (spCells emptySp)) : All C0 B w' (upd sps g (some emptySp)) hm := by
  have h1 := h.below (ok0 B).keeps hb
  refine ⟨⟨fun k x hx => ?_, h1.mem, fun k x hx p q hq => ?_, fun k x k' x' p q r b hx hx' hr hr' hh => ?_⟩, fun x hx => ?_, fun k x hx hne => ?_, fun k x hx p hp => ?_⟩
  · rcases upd_some _ _ _ _ _ hx with ⟨rfl, rfl⟩ | ⟨hne, hx⟩
    · exact ⟨hbl, by omega⟩
    · exact h1.blk k x hx
  · rcases upd_some _ _ _ _ _ hx with ⟨rfl, rfl⟩ | ⟨hne, hx⟩
    · cases hq
    · exact h1.ref k x hx p q hq
  · rcases upd_some _ _ _ _ _ hx with ⟨rfl, rfl⟩ | ⟨hne, hx⟩
    · cases hr
    · rcases upd_some _ _ _ _ _ hx' with ⟨rfl, rfl⟩ | ⟨hne', hx'⟩
      · cases hr'
      · exact h1.own k x k' x' p q r b hx hx' hr hr' hh
  · rcases upd_some _ _ _ _ _ hx with ⟨_, rfl⟩ | ⟨hne, hx⟩
    · exact .inl rfl
    · exact h1.env x hx
  · rcases upd_some _ _ _ _ _ hx with ⟨_, rfl⟩ | ⟨hne', hx⟩
    · rfl
    · exact h1.nosrc k x hx hne
  · rcases upd_some _ _ _ _ _ hx with ⟨_, rfl⟩ | ⟨hne', hx⟩
    · exact ⟨rfl, rfl⟩
    · exact h1.inv k x hx p hp
theorem F2.new {w w1 w2 : World} {f : Nat → Nat} (h1 : Blk w1 (f 0) 98 (spCells emptySp)) (hb1 : Below w.heap.size w w1) (hg1 : w.heap.size ≤ f 0) (h2 : Blk w2 (f 1) 98 (spCells emptySp)) (hb2 : Below w1.heap.size w1 w2) (hg2 : w1.heap.size ≤ f 1) : F2 w.heap.size w2 f (fun _ => emA) := by
  have hA1 := (all_none C0 w.heap.size w).addsp (Nat.le_refl _) hb1 hg1 h1
  have hA2 := hA1.addsp hb1.size hb2 hg2 h2
  have hne : f 0 ≠ f 1 := by have := h1.lt; omega
  refine ⟨Nat.le_trans hb1.size hb2.size, hne, _, _, hA2, fun k hk => ?_⟩
  rcases (show k = 0 ∨ k = 1 by omega) with rfl | rfl
  · exact ⟨emptySp, by rw [upd_ne _ _ _ _ hne, upd_at], rfl⟩
  · exact ⟨emptySp, upd_at _ _ _, rfl⟩
def zRg : Rg := ⟨fun _ => 0, 0⟩
end Go.Proofs.YtkoomlbnfhdhcaaGreatDoor

/-
  Walks: ForksAreCopies where the image is none.
-/
namespace Go.Proofs.YtkoomlbnfhdhcaaGreatDoor
open Go.RowKit
set_option linter.unusedVariables false
set_option linter.unusedSectionVars false
set_option linter.unusedSimpArgs false

section
variable (w : World) (i : Img) (bf : Nat) (tv : Value)
set_option maxRecDepth 100000 in
set_option maxHeartbeats 4000000 in
theorem forks_c (hu : Usg w) (h1 : 1 < w.heap.size) (hg : ∃ cs fr, w.heap[1]? = some (.cells cs 210 fr)) (hc : 200 < i.c.length) :
    Calls Tryz.prog 3 #[.agg (imgCells i), .int .u8 (bf : Int), tv] w fun e w' => e = .returned (.bool true) ∧ Below w.heap.size w w' := by
  have HB0 := Lib.hid ((Below.refl w.heap.size w).alloc (Nat.le_refl _) (.cells (imgCells i) 23))
  have hkn := knownE_any (w.alloc (.cells (imgCells i) 23)) (hu.belowS HB0.out) (by simp; omega) (by rw [HB0.out.block 1 h1]; exact hg)
  have HI := Lib.hid (Blk.new w 23 (imgCells i))
  have hsz := strL_size i.c
  have e1 : (i.c.length : Int) > 200 := by omega
  have e2 : decide ((i.c.length : Int) > 200) = true := decide_eq_true e1
  have e3 : (200 : Int) < i.c.length := by omega
  unfold imgCells at *
  clear hu hg
  go_enter Tryz.func3, Tryz.ntmps3
  go_wp2_with fail
  refine hkn.mono ?_
  rintro e w1 ⟨rfl, nb⟩
  have c0 := (HI.out.below nb HI.out.lt).cell 0
  simp at c0
  have HB1 := Lib.hid (HB0.out.trans (nb.mono HB0.out.size))
  clear nb HI HB0 hkn
  go_wp2_with fail
  go_ret
  exact ⟨rfl, HB1.out⟩
set_option maxRecDepth 100000 in
set_option maxHeartbeats 4000000 in
theorem forks_d (hu : Usg w) (h1 : 1 < w.heap.size) (hg : ∃ cs fr, w.heap[1]? = some (.cells cs 210 fr)) (hc : i.c.length ≤ 200) (hd : 200 < i.d.length) :
    Calls Tryz.prog 3 #[.agg (imgCells i), .int .u8 (bf : Int), tv] w fun e w' => e = .returned (.bool true) ∧ Below w.heap.size w w' := by
  have HB0 := Lib.hid ((Below.refl w.heap.size w).alloc (Nat.le_refl _) (.cells (imgCells i) 23))
  have hkn := knownE_any (w.alloc (.cells (imgCells i) 23)) (hu.belowS HB0.out) (by simp; omega) (by rw [HB0.out.block 1 h1]; exact hg)
  have HI := Lib.hid (Blk.new w 23 (imgCells i))
  have hsz := strL_size i.c
  have hszd := strL_size i.d
  have e1 : ¬ ((200 : Int) < i.c.length) := by omega
  have e2 : decide ((i.c.length : Int) > 200) = false := decide_eq_false (by omega)
  have e3 : (200 : Int) < i.d.length := by omega
  have e4 : decide ((i.d.length : Int) > 200) = true := decide_eq_true (by omega)
  unfold imgCells at *
  clear hu hg
  go_enter Tryz.func3, Tryz.ntmps3
  go_wp2_with fail
  refine hkn.mono ?_
  rintro e w1 ⟨rfl, nb⟩
  have c0 := (HI.out.below nb HI.out.lt).cell 0
  have c1 := (HI.out.below nb HI.out.lt).cell 1
  simp at c0 c1
  have HB1 := Lib.hid (HB0.out.trans (nb.mono HB0.out.size))
  clear nb HI HB0 hkn
  go_wp2_with fail
  go_ret
  exact ⟨rfl, HB1.out⟩
set_option maxRecDepth 100000 in
set_option maxHeartbeats 4000000 in
theorem forks_n (hu : Usg w) (h1 : 1 < w.heap.size) (hg : ∃ cs fr, w.heap[1]? = some (.cells cs 210 fr)) (hc : i.c.length ≤ 200) (hd : i.d.length ≤ 200) (hn : imgChk i ≠ 0) :
    Calls Tryz.prog 3 #[.agg (imgCells i), .int .u8 (bf : Int), tv] w fun e w' => e = .returned (.bool true) ∧ Below w.heap.size w w' := by
  have HB0 := Lib.hid ((Below.refl w.heap.size w).alloc (Nat.le_refl _) (.cells (imgCells i) 23))
  have hkn := knownE_any (w.alloc (.cells (imgCells i) 23)) (hu.belowS HB0.out) (by simp; omega) (by rw [HB0.out.block 1 h1]; exact hg)
  have HI := Lib.hid (Blk.new w 23 (imgCells i))
  have hck := fun W => imgCheck_any W i hc hd
  have hsz := strL_size i.c
  have hszd := strL_size i.d
  have e1 : ¬ ((200 : Int) < i.c.length) := by omega
  have e2 : decide ((i.c.length : Int) > 200) = false := decide_eq_false (by omega)
  have e3 : ¬ ((200 : Int) < i.d.length) := by omega
  have e4 : decide ((i.d.length : Int) > 200) = false := decide_eq_false (by omega)
  obtain ⟨z, hz⟩ : ∃ z, z = imgChk i := ⟨_, rfl⟩
  rw [← hz] at hck hn
  have e5 : (z != 0) = true := bne_iff_ne.2 hn
  unfold imgCells at *
  clear hu hg hz
  go_enter Tryz.func3, Tryz.ntmps3
  go_wp2_with fail
  refine hkn.mono ?_
  rintro e w1 ⟨rfl, nb⟩
  have c0 := (HI.out.below nb HI.out.lt).cell 0
  have c1 := (HI.out.below nb HI.out.lt).cell 1
  have c2 := (HI.out.below nb HI.out.lt).cell 2
  have c3 := (HI.out.below nb HI.out.lt).cell 3
  simp at c0 c1 c2 c3
  have HB1 := Lib.hid (HB0.out.trans (nb.mono HB0.out.size))
  clear nb HI HB0 hkn
  go_wp2_with fail
  refine (hck _).mono ?_
  rintro e w2 ⟨rfl, nb⟩
  go_wp2_with fail
  go_ret
  exact ⟨rfl, HB1.out.trans (nb.mono HB1.out.size)⟩
end
end Go.Proofs.YtkoomlbnfhdhcaaGreatDoor
