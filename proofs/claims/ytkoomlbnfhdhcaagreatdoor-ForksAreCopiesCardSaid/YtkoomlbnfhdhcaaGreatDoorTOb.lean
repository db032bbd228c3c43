/-
  Words: views in memory, what may have moved behind a change of a view.
-/
import Derived.Test.YtkoomlbnfhdhcaaGreatDoorTOa
import Derived.Test.YtkoomlbnfhdhcaaGreatDoorMapsR
import Derived.DeepKeys4
namespace Go.Proofs.YtkoomlbnfhdhcaaGreatDoor
open Go.RowKit
set_option linter.unusedVariables false

/-- A name whose numbers and texts are small. -/
def ObS (x : Ob) : Prop := x.k ≤ 1000 ∧ x.o.length ≤ 1000 ∧ x.i ≤ 1000
theorem flds81 : ∃ a b c d e : Field, Tryz.prog.fieldsOf 81 = #[a, b, c, d, e] ∧ (a.name, a.type, a.offset) = ("Kind", 3, 0) ∧ (b.name, b.type, b.offset) = ("Owner", 33, 1) ∧ (c.name, c.type, c.offset) = ("Number", 3, 2) ∧ (d.name, d.type, d.offset) = ("Index", 3, 3) ∧ (e.name, e.type, e.offset) = ("Text", 9, 4) := by
  refine ⟨(Tryz.prog.fieldsOf 81)[0]!, (Tryz.prog.fieldsOf 81)[1]!, (Tryz.prog.fieldsOf 81)[2]!, (Tryz.prog.fieldsOf 81)[3]!, (Tryz.prog.fieldsOf 81)[4]!, ?_, ?_, ?_, ?_, ?_, ?_⟩ <;> kernel_rfl
theorem und81 : Tryz.prog.underlying 81 = some (.struct (Tryz.prog.fieldsOf 81)) := by
  unfold Program.fieldsOf
  rw [Tryz.underlying81]
theorem lits81 (x : Ob) (h : ObS x) (n : Nat) : Tryz.prog.keyLits (n + 2) 81 (obCells x).toList = some [.int .i64 (x.k : Int), .string x.o, .int .i64 0, .int .i64 (x.i : Int), .string []] := by
  obtain ⟨h1, h2, h3⟩ := h
  obtain ⟨a, b, c, d, e, hf, ha, hb, hc, hd, he⟩ := flds81
  simp only [Prod.mk.injEq] at ha hb hc hd he
  have w1 : (Lit.int .i64 (x.k : Int)).wf = true := by
    simp only [Lit.wf]
    rw [show IntKind.i64.min = -9223372036854775808 by decide, show IntKind.i64.max = 9223372036854775807 by decide]
    simp; omega
  have w2 : (Lit.int .i64 (x.i : Int)).wf = true := by
    simp only [Lit.wf]
    rw [show IntKind.i64.min = -9223372036854775808 by decide, show IntKind.i64.max = 9223372036854775807 by decide]
    simp; omega
  have w3 : (Lit.int .i64 0).wf = true := by decide
  have s1 : (strL x.o).size ≤ maxLen := by unfold maxLen; show x.o.length ≤ _; omega
  have c3 : Tryz.prog.cellsOf 3 = 1 := by kernel_rfl
  have c33 : Tryz.prog.cellsOf 33 = 1 := by kernel_rfl
  have c9 : Tryz.prog.cellsOf 9 = 1 := by kernel_rfl
  have c81 : Tryz.prog.cellsOf 81 = 5 := by kernel_rfl
  have l3 : ∀ v : Int, (Lit.int .i64 v).wf = true → Tryz.prog.keyLits (n + 1) 3 [.int .i64 v] = some [.int .i64 v] := fun v hv => by
    unfold Program.keyLits
    simp [Tryz.underlying3, hv]
  have l33 : Tryz.prog.keyLits (n + 1) 33 [.string (strL x.o)] = some [.string x.o] := by
    unfold Program.keyLits
    simp [Tryz.underlying33, s1]
    simp [strL]
  have l9 : Tryz.prog.keyLits (n + 1) 9 [.string ⟨#[]⟩] = some [.string []] := by
    unfold Program.keyLits
    simp [Tryz.underlying9]
    decide
  unfold Program.keyLits
  simp only [und81]
  rw [if_pos]
  · rw [hf]
    simp [ha, hb, hc, hd, he, obCells, c3, c33, c9, l3 _ w1, l3 _ w2, l3 _ w3, l33, l9]
  · refine ⟨by rw [c81]; rfl, by kernel_rfl⟩
theorem keyOf_ob (x : Ob) (h : ObS x) : keyOf Tryz.prog 81 (obV x) = some (.string (keyBytes [.int .i64 (x.k : Int), .string x.o, .int .i64 0, .int .i64 (x.i : Int), .string []])) := by
  obtain ⟨n, hn⟩ : ∃ n, Tryz.prog.types.size + 1 = n + 2 := ⟨Tryz.prog.types.size - 1, by kernel_rfl⟩
  have hk : Tryz.prog.keyType 81 = true := by kernel_rfl
  have hf : (obV x).formed Tryz.prog 81 = true := by
    unfold obV Value.formed
    rw [und81]
    simp [show Tryz.prog.cellsOf 81 = 5 by kernel_rfl, obCells]
  unfold keyOf
  rw [und81]
  simp only [hk, hf, Bool.and_self, if_true, hn]
  rw [show (obV x).cells.toList = (obCells x).toList from rfl, lits81 x h n]
  rfl
theorem strL_inj {a b : List UInt8} (h : strL a = strL b) : a = b := by
  unfold strL at h
  injection h with h
  injection h
theorem obV_inj (x y : Ob) (h : obV x = obV y) : x = y := by
  obtain ⟨a, b, c⟩ := x
  obtain ⟨d, e, f⟩ := y
  simp [obV, obCells] at h
  obtain ⟨h1, h2, h3⟩ := h
  simp only [Ob.mk.injEq]
  exact ⟨by omega, strL_inj h2, by omega⟩
theorem laidOut : laidOutB Tryz.prog = true := by kernel_rfl
theorem law81 : WideMaps.KeyLaw Tryz.prog 81 := deep_law_laid laidOut (m := 3) (by omega) (of_decide_eq_true (by kernel_rfl)) (by kernel_rfl) (by rw [und81])
theorem ok81 : KeyOk Tryz.prog 81 obV ObS := keyOk_of_keyed (Maps.Keyed.of_law law81) (fun x h => ⟨_, keyOf_ob x h⟩) fun x y _ _ h => obV_inj x y h
theorem ObOk.s {x : Ob} (h : ObOk x) : ObS x := by
  rcases h with ⟨hw, ⟨hk, hi⟩ | ⟨hk, hi⟩⟩ | ⟨hk, hl, hi⟩
  · refine ⟨by omega, ?_, by omega⟩
    rcases hw with e | e | e <;> rw [e] <;> decide
  · refine ⟨by omega, ?_, by omega⟩
    rcases hw with e | e | e <;> rw [e] <;> decide
  · exact ⟨by omega, by rw [hl]; decide, by omega⟩

/-! ### What may have moved behind a change of a view: maps, views, rows of calls; nothing below B -/
def VT (w : World) (k : Nat) : Prop := (∃ es c, w.heap[k]? = some (.map es c)) ∨ ∃ cs t fr, w.heap[k]? = some (.cells cs t fr) ∧ (t = 72 ∨ t = 144)
structure VF (B : Nat) (w w' : World) : Prop where
  os : w'.os = w.os
  tape : w'.tape = w.tape
  output : w'.output = w.output
  size : w.heap.size ≤ w'.heap.size
  block : ∀ k, k < w.heap.size → (k < B ∨ ¬ VT w k) → w'.heap[k]? = w.heap[k]?
section
variable {B : Nat} {w w' w'' : World}
theorem VT_of_eq {k : Nat} (h : w'.heap[k]? = w.heap[k]?) : VT w' k ↔ VT w k := by unfold VT; rw [h]
theorem VF.refl (B : Nat) (w : World) : VF B w w := ⟨rfl, rfl, rfl, Nat.le_refl _, fun _ _ _ => rfl⟩
theorem VF.trans (h : VF B w w') (k : VF B w' w'') : VF B w w'' :=
  ⟨k.os.trans h.os, k.tape.trans h.tape, k.output.trans h.output, Nat.le_trans h.size k.size, fun i hi hc => by
    have h1 := h.block i hi hc
    exact (k.block i (Nat.lt_of_lt_of_le hi h.size) (hc.imp id fun hc hs => hc ((VT_of_eq h1).1 hs))).trans h1⟩
theorem VF.of_below (h : Below w.heap.size w w') : VF B w w' := ⟨h.os, h.tape, h.output, h.size, fun k hk _ => h.block k hk⟩
theorem VF.fr {L : List Nat} (h : Fr L w w') (hL : ∀ g ∈ L, B ≤ g ∧ VT w g) : VF B w w' :=
  ⟨h.os, h.tape, h.output, h.size, fun k hk hc => h.block k hk (fun hm => by
    obtain ⟨h1, h2⟩ := hL k hm
    rcases hc with hc | hc
    · omega
    · exact hc h2)⟩
theorem VF.below (h : VF B w w') (hB : B ≤ w.heap.size) : Below B w w' := ⟨h.os, h.tape, h.output, h.size, fun k hk => h.block k (by omega) (.inl hk)⟩
theorem VF.blk {g : Nat} {t : TypeId} {cs : Array Value} (h : VF B w w') (hb : Blk w g t cs) (h1 : t ≠ 72) (h2 : t ≠ 144) : Blk w' g t cs :=
  (h.block g hb.lt (.inr (by
    unfold Blk at hb
    rintro (⟨es, c, he⟩ | ⟨cs', t', fr, he, ht⟩)
    · rw [hb] at he; cases he
    · rw [hb] at he
      injection he with he
      injection he with _ he
      subst he
      exact ht.elim h1 h2))).trans hb
theorem vt_blk {g : Nat} {t : TypeId} {cs : Array Value} (hb : Blk w g t cs) (ht : t = 72 ∨ t = 144) : VT w g := .inr ⟨cs, t, (0, 0), hb, ht⟩
theorem vt_map {κ : Type} {enc : κ → Value} {C : κ → Prop} {r : Nat} {m : List (κ × Value)} (h : MapIs enc C w r m) : VT w r := let ⟨_, es, c, h, _⟩ := h; .inl ⟨es, c, h⟩
theorem VF.gr {gv : Value} {gs : List Nat} (h : VF B w w') (hg : GrOk w B gv gs) (hB : B ≤ w.heap.size) : GrOk w' B gv gs := hg.below (h.below hB)
end

/-! ### A view -/
abbrev Val := Ob → Option (List UInt8)
def vupd (V : Val) (x : Ob) (b : List UInt8) : Val := fun y => if y = x then some b else V y
def vnone : Val := fun _ => none
theorem vupd_at (V : Val) (x : Ob) (b : List UInt8) : vupd V x b x = some b := if_pos rfl
theorem vupd_ne (V : Val) (x y : Ob) (b : List UInt8) (h : y ≠ x) : vupd V x b y = V y := if_neg h
def chgL (c : Ob × List UInt8) : List Value := [.int .i64 (c.1.k : Int), .string (strL c.1.o), .int .i64 0, .int .i64 (c.1.i : Int), .string ⟨#[]⟩, .string (strL c.2), .bool false]
def chgs (cs : List (Ob × List UInt8)) : List Value := cs.flatMap chgL
/-- What the last call of a name tells. -/
def Told (V : Val) (ml : List (Ob × Value)) (cs : List (Ob × List UInt8)) : Prop := ∀ x, match V x with
  | none => mget ml x = none
  | some b => ∃ i : Nat, mget ml x = some (.int .i64 (i : Int)) ∧ cs[i]? = some (x, b)
theorem chgs_at : ∀ (cs : List (Ob × List UInt8)) (i : Nat) (c : Ob × List UInt8), cs[i]? = some c → ∀ j, j < 7 → (chgs cs)[i * 7 + j]? = (chgL c)[j]?
  | [], i, c, h, _, _ => by simp at h
  | d :: cs, 0, c, h, j, hj => by
    simp at h
    subst h
    show (chgL d ++ chgs cs)[0 * 7 + j]? = _
    rw [Nat.zero_mul, Nat.zero_add, List.getElem?_append_left (by exact hj)]
  | d :: cs, i + 1, c, h, j, hj => by
    rw [List.getElem?_cons_succ] at h
    show (chgL d ++ chgs cs)[(i + 1) * 7 + j]? = _
    rw [List.getElem?_append_right (by show 7 ≤ _; omega), show (i + 1) * 7 + j - (chgL d).length = i * 7 + j from by show (i + 1) * 7 + j - 7 = _; omega]
    exact chgs_at cs i c h j hj
theorem chgs_length : ∀ (cs : List (Ob × List UInt8)), (chgs cs).length = cs.length * 7
  | [] => rfl
  | d :: cs => by
    show (chgL d ++ chgs cs).length = _
    rw [List.length_append, chgs_length cs, List.length_cons]
    show 7 + _ = _
    omega
theorem chgs_snoc (cs : List (Ob × List UInt8)) (c : Ob × List UInt8) : chgs (cs ++ [c]) = chgs cs ++ chgL c := by simp [chgs]
theorem Told.put {V : Val} {ml : List (Ob × Value)} {cs : List (Ob × List UInt8)} (h : Told V ml cs) (x : Ob) (b : List UInt8) : Told (vupd V x b) (mput x (.int .i64 (cs.length : Int)) ml) (cs ++ [(x, b)]) := by
  intro y
  by_cases e : y = x
  · subst e
    rw [vupd_at]
    exact ⟨cs.length, by rw [mget_mput, if_pos rfl], by simp⟩
  · rw [vupd_ne _ _ _ _ e, mget_mput, if_neg e]
    have := h y
    cases hV : V y with
    | none => rw [hV] at this; exact this
    | some c =>
      rw [hV] at this
      obtain ⟨i, h1, h2⟩ := this
      exact ⟨i, h1, by rw [List.getElem?_append_left (List.getElem?_eq_some_iff.1 h2).1]; exact h2⟩
/-- A view in memory: it shows V; at most n calls. -/
structure VwX (w : World) (B v bs rd la : Nat) (row : Value) (cs : List (Ob × List UInt8)) (mr ml : List (Ob × Value)) : Prop where
  hv : Blk w v 72 #[.pointer (some ⟨bs, 0, none⟩), .map (some rd), row, .map (some la)]
  hs : Blk w bs 75 #[.pointer none]
  hr : MapIs obV ObS w rd mr
  hl : MapIs obV ObS w la ml
  ne : rd ≠ la
  own : w.ownsRow B 144 7 row cs.length (chgs cs)
  lv : B ≤ v
  ls : B ≤ bs
  lr : B ≤ rd
  ll : B ≤ la
structure Vw (w : World) (B v : Nat) (V : Val) (n : Nat) : Prop where
  ex : ∃ bs rd la row cs mr ml, VwX w B v bs rd la row cs mr ml ∧ Told V ml cs ∧ cs.length ≤ n
section
variable {w w' : World} {B v bs rd la : Nat} {row : Value} {cs : List (Ob × List UInt8)} {mr ml : List (Ob × Value)} {V : Val} {n : Nat}
/-- A view's blocks are of these kinds. -/
def VK (w : World) (k : Nat) : Prop := ∀ cs t fr, w.heap[k]? = some (.cells cs t fr) → t = 72 ∨ t = 75 ∨ t = 144
theorem vk_blk {g : Nat} {t : TypeId} {cs : Array Value} (hb : Blk w g t cs) (ht : t = 72 ∨ t = 75 ∨ t = 144) : VK w g := fun cs' t' fr he => by
  unfold Blk at hb
  rw [hb] at he
  injection he with he
  injection he with _ he
  rw [← he]
  exact ht
theorem vk_map {κ : Type} {enc : κ → Value} {C : κ → Prop} {r : Nat} {m : List (κ × Value)} (h : MapIs enc C w r m) : VK w r := fun cs' t' fr he => by
  obtain ⟨_, es, c, h, _⟩ := h
  rw [h] at he
  cases he
theorem VwX.keep (h : VwX w B v bs rd la row cs mr ml) (hk : ∀ k, k < w.heap.size → B ≤ k → VK w k → w'.heap[k]? = w.heap[k]?) : VwX w' B v bs rd la row cs mr ml := by
  refine ⟨(hk v h.hv.lt h.lv (vk_blk h.hv (by decide))).trans h.hv, (hk bs h.hs.lt h.ls (vk_blk h.hs (by decide))).trans h.hs, h.hr.keep (hk rd h.hr.lt h.lr (vk_map h.hr)), h.hl.keep (hk la h.hl.lt h.ll (vk_map h.hl)), h.ne, ⟨h.own.1, ?_⟩, h.lv, h.ls, h.lr, h.ll⟩
  rcases h.own.2 with h2 | ⟨g, cap, cur, hv, hg, hh, r⟩
  · exact .inl h2
  · exact .inr ⟨g, cap, cur, hv, hg, (hk g (Blk.lt (t := 144) hh) hg (vk_blk (t := 144) hh (by decide))).trans hh, r⟩
theorem VwX.below (h : VwX w B v bs rd la row cs mr ml) (hb : Below w.heap.size w w') : VwX w' B v bs rd la row cs mr ml := h.keep fun k hk _ _ => hb.block k hk
theorem Vw.keep (h : Vw w B v V n) (hk : ∀ k, k < w.heap.size → B ≤ k → VK w k → w'.heap[k]? = w.heap[k]?) : Vw w' B v V n :=
  let ⟨bs, rd, la, row, cs, mr, ml, h1, h2⟩ := h.ex; ⟨⟨bs, rd, la, row, cs, mr, ml, h1.keep hk, h2⟩⟩
theorem Vw.below (h : Vw w B v V n) (hb : Below w.heap.size w w') : Vw w' B v V n := h.keep fun k hk _ _ => hb.block k hk
theorem Vw.more (h : Vw w B v V n) {m : Nat} (hm : n ≤ m) : Vw w B v V m :=
  let ⟨bs, rd, la, row, cs, mr, ml, h1, h2, h3⟩ := h.ex; ⟨⟨bs, rd, la, row, cs, mr, ml, h1, h2, Nat.le_trans h3 hm⟩⟩
theorem Vw.lt (h : Vw w B v V n) : v < w.heap.size := let ⟨_, _, _, _, _, _, _, h1, _⟩ := h.ex; h1.hv.lt
theorem Vw.le (h : Vw w B v V n) : B ≤ v := let ⟨_, _, _, _, _, _, _, h1, _⟩ := h.ex; h1.lv
theorem Vw.leB (h : Vw w B v V n) : B ≤ w.heap.size := Nat.le_trans h.le (Nat.le_of_lt h.lt)
end
end Go.Proofs.YtkoomlbnfhdhcaaGreatDoor

/-
  Walks: views: Get.
-/
namespace Go.Proofs.YtkoomlbnfhdhcaaGreatDoor
open Go.RowKit
set_option linter.unusedVariables false

theorem zero3 (w : World) : (zeroValue 3).run Tryz.prog w = .ok (.int .i64 0) w := by kernel_rfl
theorem info144 : (Tryz.prog.info? 144).map (·.size) = some 7 := by kernel_rfl
theorem map69 : Tryz.prog.underlying 69 = some (.map 81 3) := by kernel_rfl
theorem map68 : Tryz.prog.underlying 68 = some (.map 81 144) := by kernel_rfl
/-- The cells of a call. -/
theorem VwX.call {w : World} {B v bs rd la : Nat} {row : Value} {cs : List (Ob × List UInt8)} {mr ml : List (Ob × Value)} (h : VwX w B v bs rd la row cs mr ml) {i : Nat} {x : Ob} {b : List UInt8} (hi : cs[i]? = some (x, b)) :
    ∃ g c, row = .slice (some ⟨g, 0, none⟩) cs.length c ∧ i < cs.length ∧ g < w.heap.size ∧ w.cell? ⟨g, i * 7 + 5, none⟩ = some (.string (strL b)) ∧ w.cell? ⟨g, i * 7 + 6, none⟩ = some (.bool false) := by
  have hlt : i < cs.length := (List.getElem?_eq_some_iff.1 hi).1
  obtain ⟨g, cap, hv, _, hgl⟩ := h.own.form (by omega)
  have hc := h.own.cells (g := g) (by rw [hv]; rfl)
  have e5 := chgs_at cs i (x, b) hi 5 (by omega)
  have e6 := chgs_at cs i (x, b) hi 6 (by omega)
  refine ⟨g, cap, hv, hlt, hgl, ?_, ?_⟩
  · have := hc _ _ (e5.trans rfl)
    rw [add_at0] at this
    exact this
  · have := hc _ _ (e6.trans rfl)
    rw [add_at0] at this
    exact this
set_option maxRecDepth 100000 in
set_option maxHeartbeats 4000000 in
theorem get_hit (w : World) (B v n : Nat) (V : Val) (x : Ob) (b : List UInt8) (hv : Vw w B v V n) (hx : ObOk x) (hb : V x = some b) (hu : Usg w) (hn : n ≤ 1000000) :
    Calls Tryz.prog 45 #[.pointer (some ⟨v, 0, none⟩), obV x] w fun e w' => e = .returned (.tuple #[.string (strL b), .bool true]) ∧ Below w.heap.size w w' := by
  obtain ⟨bs, rd, la, row, cs, mr, ml, hX, hT, hcs⟩ := hv.ex
  have hT := hT x
  rw [hb] at hT
  obtain ⟨i, hm, hi⟩ := hT
  have hck := fun W (h : Usg W) => obCheck_any W x hx h
  have hxs := hx.s
  obtain ⟨k, l, j⟩ := x
  unfold obV obCells at *
  dsimp only at hck ⊢
  obtain ⟨nc, hnc⟩ : ∃ nc, nc = (#[.int .i64 (k : Int), .string (strL l), .int .i64 0, .int .i64 (j : Int), .string ⟨#[]⟩] : Array Value) := ⟨_, rfl⟩
  have HN := Lib.hid (Blk.new w 81 nc)
  have HB0 := Lib.hid ((Below.refl w.heap.size w).alloc (Nat.le_refl _) (.cells nc 81))
  have HX := Lib.hid (hX.below HB0.out)
  have HU := Lib.hid (hu.belowS HB0.out)
  rw [hnc] at HN HB0 HX HU
  clear hnc hX hT hu hv hb
  go_enter Tryz.func45, Tryz.ntmps45
  go_wp2_with fail
  refine (hck _ HU.out).mono ?_
  rintro e w1 ⟨rfl, nb⟩
  have HX1 := Lib.hid (HX.out.below nb)
  have HN1 := Lib.hid (HN.out.below nb HN.out.lt)
  have HB1 := Lib.hid (HB0.out.trans (nb.mono HB0.out.size))
  clear nb HX HN HB0 HU hck
  obtain ⟨g, cap, rfl, hlt, hgl, hc5, hc6⟩ := HX1.out.call hi
  have hlk := run_lookup_map ok81 map69 (z := .int .i64 0) zero3 (HX1.out.hl.drew) ⟨k, l, j⟩ hxs true
  rw [hm] at hlk
  unfold obV obCells at hlk
  simp only [Option.getD_some, Option.isSome_some, if_true] at hlk
  have hil : (i : Int) < (cs.length : Int) := by omega
  have hi0 : (0 : Int) ≤ (i : Int) := by omega
  have v2 := HX1.out.hv.cell 2
  have v3 := HX1.out.hv.cell 3
  have u0 := HN1.out.cell 0
  have u1 := HN1.out.cell 1
  have u2 := HN1.out.cell 2
  have u3 := HN1.out.cell 3
  have u4 := HN1.out.cell 4
  simp at v2 v3 u0 u1 u2 u3 u4
  clear hm hi HX1 HN1 hcs
  go_upto_region 3 with (fail)
  refine wp_region_mixL (fun W => W = w1.drew) [3, 4, 5] [] [0, 1, 2, 3, 4, 5, 6, 7, 8, 9, 10] (by kernel_rfl) (by kernel_rfl) rfl ?_
  simp only [inOrder, opAt]
  iterate 11
    (refine wpMixS_read (v := ?_) rfl rfl (fun w' hS => ?_) ?_
     rotate_left
     · ((try (have t := hS rfl; subst t)); go_simp; (try with_reducible rfl))
     try simp only [Act.put, List.setIfInBounds_toArray, List.set_cons_zero, List.set_cons_succ])
  refine wpMixS_nil ?_
  clear hlk u0 u1 u2 u3 u4 v3
  have v2' : w1.drew.cell? ⟨v, 2, none⟩ = some (.slice (some ⟨g, 0, none⟩) cs.length cap) := v2
  clear v2
  go_upto_region 5 with (fail)
  refine wp_region_mixL (fun W => W = w1.drew.drew) [3, 7, 11, 15] [] [0, 1, 2, 3, 4, 5, 6, 7, 8, 9, 10, 11, 12, 13, 14, 15, 16, 17, 18] (by kernel_rfl) (by kernel_rfl) rfl ?_
  simp only [inOrder, opAt]
  have v2 : w1.drew.drew.cell? ⟨v, 2, none⟩ = some (.slice (some ⟨g, 0, none⟩) cs.length cap) := v2'
  have c5 : w1.drew.drew.cell? ⟨g, i * 7 + 5, none⟩ = some (.string (strL b)) := hc5
  have c6 : w1.drew.drew.cell? ⟨g, i * 7 + 6, none⟩ = some (.bool false) := hc6
  clear hc5 hc6 v2'
  iterate 19
    (refine wpMixS_read (v := ?_) rfl rfl (fun w' hS => ?_) ?_
     rotate_left
     · ((try (have t := hS rfl; subst t)); go_simp; (try with_reducible rfl))
     try simp only [Act.put, List.setIfInBounds_toArray, List.set_cons_zero, List.set_cons_succ])
  refine wpMixS_nil ?_
  go_wp2_with fail
  refine bodyPost_ret (results_tmp2 rfl _ _ _) rfl ?_
  exact ⟨rfl, HB1.out.drew.drew⟩
theorem find_any (w : World) (x : Ob) : Calls Tryz.prog 139 #[.pointer none, obV x] w fun e w' => e = .returned (.pointer none) ∧ Below w.heap.size w w' := by
  obtain ⟨k, l, j⟩ := x
  unfold obV obCells
  dsimp only
  go_enter Tryz.func139, Tryz.ntmps139
  go_wp2_with fail
  go_loopg [0] 0 (fun q tv wr => q = 0 ∧ tv = .pointer none ∧ wr = w.alloc (.cells #[.int .i64 (k : Int), .string (strL l), .int .i64 0, .int .i64 (j : Int), .string ⟨#[]⟩] 81))
  case atStart => exact ⟨rfl, rfl, rfl⟩
  case round =>
    obtain ⟨rfl, rfl, rfl⟩ := hrel
    go_wp2_with fail
    go_ret
    exact ⟨rfl, (Below.refl _ _).alloc (Nat.le_refl _) _⟩
set_option maxRecDepth 100000 in
set_option maxHeartbeats 4000000 in
theorem stateGet_any (w : World) (bs : Nat) (x : Ob) (h : Blk w bs 75 #[.pointer none]) : Calls Tryz.prog 97 #[.pointer (some ⟨bs, 0, none⟩), obV x] w fun e w' => e = .returned (.tuple #[.string (strL []), .bool false]) ∧ Below w.heap.size w w' := by
  obtain ⟨k, l, j⟩ := x
  have hf := fun W => find_any W ⟨k, l, j⟩
  unfold obV obCells at *
  dsimp only at hf ⊢
  obtain ⟨nc, hnc⟩ : ∃ nc, nc = (#[.int .i64 (k : Int), .string (strL l), .int .i64 0, .int .i64 (j : Int), .string ⟨#[]⟩] : Array Value) := ⟨_, rfl⟩
  have HN := Lib.hid (Blk.new w 81 nc)
  have HB0 := Lib.hid ((Below.refl w.heap.size w).alloc (Nat.le_refl _) (.cells nc 81))
  have HX := Lib.hid (h.below HB0.out h.lt)
  obtain ⟨w1, hw1⟩ : ∃ w1, w1 = w.alloc (.cells nc 81) := ⟨_, rfl⟩
  rw [← hw1] at HN HB0 HX
  have v0 := HX.out.cell 0
  have u0 := HN.out.cell 0
  have u1 := HN.out.cell 1
  have u2 := HN.out.cell 2
  have u3 := HN.out.cell 3
  have u4 := HN.out.cell 4
  rw [hnc] at u0 u1 u2 u3 u4
  simp at v0 u0 u1 u2 u3 u4
  rw [hnc] at hw1
  clear hnc HX HN h
  go_enter Tryz.func97, Tryz.ntmps97
  go_wp2_with fail
  rw [← hw1]
  clear hw1
  refine wp_region_mixL (fun W => W = w1.drew) [3, 4] [5] [0, 1, 2, 3, 4, 5, 6] (by kernel_rfl) (by kernel_rfl) rfl ?_
  simp only [inOrder, opAt]
  have v0' : w1.drew.cell? ⟨bs, 0, none⟩ = some (.pointer none) := v0
  have u0' : w1.drew.cell? ⟨w.heap.size, 0, none⟩ = _ := u0
  have u1' : w1.drew.cell? ⟨w.heap.size, 1, none⟩ = _ := u1
  have u2' : w1.drew.cell? ⟨w.heap.size, 2, none⟩ = _ := u2
  have u3' : w1.drew.cell? ⟨w.heap.size, 3, none⟩ = _ := u3
  have u4' : w1.drew.cell? ⟨w.heap.size, 4, none⟩ = _ := u4
  clear v0 u0 u1 u2 u3 u4
  iterate 5
    (refine wpMixS_read (v := ?_) rfl rfl (fun w' hS => ?_) ?_
     rotate_left
     · ((try (have t := hS rfl; subst t)); go_simp; (try with_reducible rfl))
     try simp only [Act.put, List.setIfInBounds_toArray, List.set_cons_zero, List.set_cons_succ])
  refine wpMixS_eff rfl rfl (fun K hK => ?_)
  go_simp
  refine (hf _).mono ?_
  rintro e w2 ⟨rfl, nb⟩
  refine hK.out _ _ _ (fun _ h => h) (fun h => by cases h) ?_
  clear hK K
  try simp only [Act.put, List.setIfInBounds_toArray, List.set_cons_zero, List.set_cons_succ]
  iterate 1
    (refine wpMixS_read (v := ?_) rfl rfl (fun w' hS => ?_) ?_
     rotate_left
     · (go_simp; (try with_reducible rfl))
     try simp only [Act.put, List.setIfInBounds_toArray, List.set_cons_zero, List.set_cons_succ])
  refine wpMixS_nil ?_
  go_wp2_with fail
  refine bodyPost_ret (results_tmp2 rfl _ _ _) rfl ?_
  exact ⟨rfl, HB0.out.drew.trans (nb.mono HB0.out.size)⟩
theorem VF.undrew {B : Nat} {w w' : World} (h : VF B w.drew w') : VF B w w' := ⟨h.os, h.tape, h.output, h.size, h.block⟩
theorem fr1_vf {B r : Nat} {w w' : World} (h : Fr [r] w w') (hB : B ≤ r) (ht : VT w r) : VF B w w' := VF.fr h fun g hg => by rw [List.mem_singleton.1 hg]; exact ⟨hB, ht⟩
theorem mapnil68 (W : World) (r : Nat) : (binOp .eql 68 (.map (some r)) (.map none)).run Tryz.prog W = .ok (.bool false) W := by kernel_rfl
theorem mapnil69 (W : World) (r : Nat) : (binOp .eql 69 (.map (some r)) (.map none)).run Tryz.prog W = .ok (.bool false) W := by kernel_rfl
set_option maxRecDepth 100000 in
set_option maxHeartbeats 4000000 in
theorem read_any (w : World) (B v n : Nat) (V : Val) (x : Ob) (s : ByteArray) (ab : Bool) (hv : Vw w B v V n) (hx : ObOk x) :
    Calls Tryz.prog 98 #[.pointer (some ⟨v, 0, none⟩), .agg #[.int .i64 (x.k : Int), .string (strL x.o), .int .i64 0, .int .i64 (x.i : Int), .string ⟨#[]⟩, .string s, .bool ab]] w fun e w' => e = .returned (.tuple #[]) ∧ Vw w' B v V n ∧ VF B w w' := by
  obtain ⟨bs, rd, la, row, cs, mr, ml, hX, hT, hcs⟩ := hv.ex
  have HT := Lib.hid (And.intro hT hcs)
  have hxs := hx.s
  obtain ⟨k, l, j⟩ := x
  dsimp only
  obtain ⟨nc, hnc⟩ : ∃ nc, nc = (#[.int .i64 (k : Int), .string (strL l), .int .i64 0, .int .i64 (j : Int), .string ⟨#[]⟩, .string s, .bool ab] : Array Value) := ⟨_, rfl⟩
  have HN := Lib.hid (Blk.new w 144 nc)
  have HB0 := Lib.hid ((Below.refl w.heap.size w).alloc (Nat.le_refl _) (.cells nc 144))
  have HX := Lib.hid (hX.below HB0.out)
  obtain ⟨w1, hw1⟩ : ∃ w1, w1 = w.alloc (.cells nc 144) := ⟨_, rfl⟩
  rw [← hw1] at HN HB0 HX
  have v1 := HX.out.hv.cell 1
  have u0 := HN.out.cell 0
  have u1 := HN.out.cell 1
  have u2 := HN.out.cell 2
  have u3 := HN.out.cell 3
  have u4 := HN.out.cell 4
  have u5 := HN.out.cell 5
  have u6 := HN.out.cell 6
  obtain ⟨w2, hrun, hm2, hf2⟩ := run_update_map ok81 map68 HX.out.hr.drew ⟨k, l, j⟩ hxs (.agg nc)
  rw [hnc] at u0 u1 u2 u3 u4 u5 u6 hrun
  unfold obV obCells at hrun
  simp at v1 u0 u1 u2 u3 u4 u5 u6
  have HX2 : Hid (VwX w2 B v bs rd la row cs _ ml) := Lib.hid ⟨HX.out.hv.drew.fr hf2 (by have := HX.out.hr.ne_blk HX.out.hv; simp; omega), HX.out.hs.drew.fr hf2 (by have := HX.out.hr.ne_blk HX.out.hs; simp; omega), hm2, HX.out.hl.drew.fr hf2 (by have := HX.out.ne; simp; omega), HX.out.ne, own_fr (w := w1.drew) HX.out.own hf2 (fun g hg => by
    have hno : g ≠ rd := by
      rintro rfl
      rcases HX.out.own.2 with ⟨h2, _⟩ | ⟨g', cap, cur, h2, _, hh, _⟩
      · rw [h2] at hg; cases hg
      · rw [h2] at hg
        have : g' = g := by simpa [Value.ownBlock] using hg
        subst this
        exact HX.out.hr.ne_blk (t := 144) hh rfl
    simpa using hno), HX.out.lv, HX.out.ls, HX.out.lr, HX.out.ll⟩
  have HF2 : Hid (VF B w w2) := Lib.hid ((VF.of_below HB0.out).trans (fr1_vf (w := w1.drew) hf2 HX.out.lr (vt_map HX.out.hr.drew)).undrew)
  rw [hnc] at hw1
  clear hnc HX HN hX hv hf2 hm2 hT
  have hq := mapnil68
  go_enter Tryz.func98, Tryz.ntmps98
  go_upto_region 1 with (fail)
  rw [← hw1]
  clear hw1
  go_wp2_with fail
  refine wp_region_mixL (fun W => W = w1.drew) [3, 5, 6] [7] [0, 1, 2, 3, 4, 5, 6, 7] (by kernel_rfl) (by kernel_rfl) rfl ?_
  simp only [inOrder, opAt]
  have v1' : w1.drew.cell? ⟨v, 1, none⟩ = _ := v1
  have u0' : w1.drew.cell? ⟨w.heap.size, 0, none⟩ = _ := u0
  have u1' : w1.drew.cell? ⟨w.heap.size, 1, none⟩ = _ := u1
  have u2' : w1.drew.cell? ⟨w.heap.size, 2, none⟩ = _ := u2
  have u3' : w1.drew.cell? ⟨w.heap.size, 3, none⟩ = _ := u3
  have u4' : w1.drew.cell? ⟨w.heap.size, 4, none⟩ = _ := u4
  have u5' : w1.drew.cell? ⟨w.heap.size, 5, none⟩ = _ := u5
  have u6' : w1.drew.cell? ⟨w.heap.size, 6, none⟩ = _ := u6
  clear v1 u0 u1 u2 u3 u4 u5 u6
  iterate 7
    (refine wpMixS_read (v := ?_) rfl rfl (fun w' hS => ?_) ?_
     rotate_left
     · ((try (have t := hS rfl; subst t)); go_simp; (try with_reducible rfl))
     try simp only [Act.put, List.setIfInBounds_toArray, List.set_cons_zero, List.set_cons_succ])
  refine wpMixS_eff rfl rfl (fun K hK => ?_)
  go_simp
  refine hK.out _ _ _ (fun _ h => h) (fun h => by cases h) ?_
  clear hK K
  try simp only [Act.put, List.setIfInBounds_toArray, List.set_cons_zero, List.set_cons_succ]
  refine wpMixS_nil ?_
  go_end0
  exact ⟨rfl, ⟨⟨bs, rd, la, row, cs, _, ml, HX2.out, HT.out⟩⟩, HF2.out⟩
end Go.Proofs.YtkoomlbnfhdhcaaGreatDoor

/-
  Walks: views: Get of what is not there, Set.
-/
namespace Go.Proofs.YtkoomlbnfhdhcaaGreatDoor
open Go.RowKit
set_option linter.unusedVariables false

theorem reads_blk {n : Nat} (w : World) (cs : List Value) (t : TypeId) (h : cs.length = 1 * n) : Reads (w.alloc (.cells cs.toArray t)) (w.heap.size + 1) n (some ⟨w.heap.size, 0, none⟩) 1 cs :=
  ⟨h, fun _ => ⟨_, rfl, Nat.lt_succ_self _, fun j u hu => by
    rw [add_at0, (Blk.new w t cs.toArray).cell, List.getElem?_toArray]
    exact hu⟩⟩
theorem info144z : (Tryz.prog.info? 144).map (fun i => (i.zero, i.size, i.bytes)) = some (some (.agg #[.int .i64 0, .string ⟨#[]⟩, .int .i64 0, .int .i64 0, .string ⟨#[]⟩, .string ⟨#[]⟩, .bool false]), 7, 80) := by kernel_rfl
theorem VwX.own_ne {w : World} {B v bs rd la : Nat} {row : Value} {cs : List (Ob × List UInt8)} {mr ml : List (Ob × Value)} (h : VwX w B v bs rd la row cs mr ml) {κ : Type} {enc : κ → Value} {C : κ → Prop} {r : Nat} {m : List (κ × Value)} (hm : MapIs enc C w r m) : ∀ g, row.ownBlock = some g → g ≠ r := by
  rintro g hg rfl
  rcases h.own.2 with ⟨h2, _⟩ | ⟨g', cap, cur, h2, _, hh, _⟩
  · rw [h2] at hg; cases hg
  · rw [h2] at hg
    have : g' = g := by simpa [Value.ownBlock] using hg
    subst this
    exact hm.ne_blk (t := 144) hh rfl
theorem VwX.own_vt {w : World} {B v bs rd la : Nat} {row : Value} {cs : List (Ob × List UInt8)} {mr ml : List (Ob × Value)} (h : VwX w B v bs rd la row cs mr ml) : ∀ g, row.ownBlock = some g → B ≤ g ∧ VT w g := by
  intro g hg
  rcases h.own.2 with ⟨h2, _⟩ | ⟨g', cap, cur, h2, hB, hh, _⟩
  · rw [h2] at hg; cases hg
  · rw [h2] at hg
    have : g' = g := by simpa [Value.ownBlock] using hg
    subst this
    exact ⟨hB, .inr ⟨cur, 144, (0, 0), hh, .inr rfl⟩⟩
set_option maxRecDepth 100000 in
set_option maxHeartbeats 4000000 in
theorem vcall_any (w : World) (B v n : Nat) (V : Val) (x : Ob) (b : List UInt8) (hv : Vw w B v V n) (hx : ObOk x) (hn : n ≤ 100000) :
    Calls Tryz.prog 115 #[.pointer (some ⟨v, 0, none⟩), .agg #[.int .i64 (x.k : Int), .string (strL x.o), .int .i64 0, .int .i64 (x.i : Int), .string ⟨#[]⟩, .string (strL b), .bool false]] w fun e w' => e = .returned (.tuple #[]) ∧ Vw w' B v (vupd V x b) (n + 1) ∧ VF B w w' := by
  obtain ⟨bs, rd, la, row, cs, mr, ml, hX, hT, hcs⟩ := hv.ex
  have hT := hT.put x b
  have hxs := hx.s
  obtain ⟨i144, hi144, hz0, hz1, hz2⟩ := info_parts info144z
  have hchg : chgL (x, b) = [.int .i64 (x.k : Int), .string (strL x.o), .int .i64 0, .int .i64 (x.i : Int), .string ⟨#[]⟩, .string (strL b), .bool false] := rfl
  have hsn := chgs_snoc cs (x, b)
  rw [hchg] at hsn
  have HS := Lib.hid hsn
  clear hsn hchg
  obtain ⟨V', hV'⟩ : ∃ V', V' = vupd V x b := ⟨_, rfl⟩
  obtain ⟨cs', hcs'⟩ : ∃ cs', cs' = cs ++ [(x, b)] := ⟨_, rfl⟩
  obtain ⟨ml', hml'⟩ : ∃ ml', ml' = mput x (.int .i64 (cs.length : Int)) ml := ⟨_, rfl⟩
  have hlen : cs'.length = cs.length + 1 := by rw [hcs']; simp
  rw [← hV', ← hcs', ← hml'] at hT
  rw [← hV']
  rw [← hcs'] at HS
  clear hcs' hV'
  have HT := Lib.hid hT
  obtain ⟨k, l, j⟩ := x
  dsimp only at HS ⊢
  obtain ⟨nc, hnc⟩ : ∃ nc, nc = (#[.int .i64 (k : Int), .string (strL l), .int .i64 0, .int .i64 (j : Int), .string ⟨#[]⟩, .string (strL b), .bool false] : Array Value) := ⟨_, rfl⟩
  have HN := Lib.hid (Blk.new w 144 nc)
  have HB0 := Lib.hid ((Below.refl w.heap.size w).alloc (Nat.le_refl _) (.cells nc 144))
  have HX := Lib.hid (hX.below HB0.out)
  have HRL := Lib.hid (fun g hg => (hX.own.lt g hg).2)
  have hzB : B ≤ w.heap.size := Nat.le_trans hX.lv (Nat.le_of_lt hX.hv.lt)
  obtain ⟨w1, hw1⟩ : ∃ w1, w1 = w.alloc (.cells nc 144) := ⟨_, rfl⟩
  rw [← hw1] at HN HB0 HX
  have v3 := HX.out.hv.cell 3
  have v2 := HX.out.hv.cell 2
  have u0 := HN.out.cell 0
  have u1 := HN.out.cell 1
  have u2 := HN.out.cell 2
  have u3 := HN.out.cell 3
  have u4 := HN.out.cell 4
  have u5 := HN.out.cell 5
  have u6 := HN.out.cell 6
  obtain ⟨OA, oc, rfl⟩ := own_slice HX.out.own
  obtain ⟨w2, hrun, hm2, hf2⟩ := run_update_map ok81 map69 HX.out.hl.drew ⟨k, l, j⟩ hxs (.int .i64 (cs.length : Int))
  rw [← hml'] at hm2
  unfold obV obCells at hrun
  simp at hrun
  rw [hnc] at u0 u1 u2 u3 u4 u5 u6
  simp at v2 v3 u0 u1 u2 u3 u4 u5 u6
  have HX2 : Hid (VwX w2 B v bs rd la (.slice OA cs.length oc) cs mr ml') := Lib.hid ⟨HX.out.hv.drew.fr hf2 (by have := HX.out.hl.ne_blk HX.out.hv; simp; omega), HX.out.hs.drew.fr hf2 (by have := HX.out.hl.ne_blk HX.out.hs; simp; omega), HX.out.hr.drew.fr hf2 (by have := HX.out.ne; simp; omega), hm2, HX.out.ne, own_fr (w := w1.drew) HX.out.own hf2 (fun g hg => by have := HX.out.own_ne HX.out.hl g hg; simpa using this), HX.out.lv, HX.out.ls, HX.out.lr, HX.out.ll⟩
  have HF2 : Hid (VF B w w2) := Lib.hid ((VF.of_below HB0.out).trans (fr1_vf (w := w1.drew) hf2 HX.out.ll (vt_map HX.out.hl.drew)).undrew)
  have HN2 : Hid (Blk w2 w.heap.size 144 nc) := Lib.hid (HN.out.drew.fr hf2 (by have := HX.out.hl.ne_blk HN.out; simp; omega))
  have HZ2 : Hid (w.heap.size < w2.heap.size) := Lib.hid HN2.out.lt
  rw [hnc] at hw1 HN2
  clear hnc HX HN hX hv hf2 hm2 hT hml'
  have hq := mapnil69
  go_enter Tryz.func115, Tryz.ntmps115
  go_upto_region 1 with (fail)
  rw [← hw1]
  clear hw1
  go_wp2_with fail
  refine wp_region_mixL (fun W => W = w1.drew) [3, 5, 9, 10] [11] [0, 1, 2, 3, 4, 5, 6, 7, 8, 9, 10, 11] (by kernel_rfl) (by kernel_rfl) rfl ?_
  simp only [inOrder, opAt]
  have v3' : w1.drew.cell? ⟨v, 3, none⟩ = _ := v3
  have v2' : w1.drew.cell? ⟨v, 2, none⟩ = _ := v2
  have u0' : w1.drew.cell? ⟨w.heap.size, 0, none⟩ = _ := u0
  have u1' : w1.drew.cell? ⟨w.heap.size, 1, none⟩ = _ := u1
  have u2' : w1.drew.cell? ⟨w.heap.size, 2, none⟩ = _ := u2
  have u3' : w1.drew.cell? ⟨w.heap.size, 3, none⟩ = _ := u3
  have u4' : w1.drew.cell? ⟨w.heap.size, 4, none⟩ = _ := u4
  have u5' : w1.drew.cell? ⟨w.heap.size, 5, none⟩ = _ := u5
  have u6' : w1.drew.cell? ⟨w.heap.size, 6, none⟩ = _ := u6
  clear v2 v3 u0 u1 u2 u3 u4 u5 u6
  iterate 11
    (refine wpMixS_read (v := ?_) rfl rfl (fun w' hS => ?_) ?_
     rotate_left
     · ((try (have t := hS rfl; subst t)); go_simp; (try with_reducible rfl))
     try simp only [Act.put, List.setIfInBounds_toArray, List.set_cons_zero, List.set_cons_succ])
  refine wpMixS_eff rfl rfl (fun K hK => ?_)
  go_simp
  refine hK.out _ _ _ (fun _ h => h) (fun h => by cases h) ?_
  clear hK K v2' v3' u0' u1' u2' u3' u4' u5' u6' hrun hq
  try simp only [Act.put, List.setIfInBounds_toArray, List.set_cons_zero, List.set_cons_succ]
  refine wpMixS_nil ?_
  go_upto_region 4 with (fail)
  refine wp_region_mixL (fun W => W.cell? ⟨v, 2, none⟩ = some (.slice OA cs.length oc) ∧ Blk W w.heap.size 144 #[.int .i64 (k : Int), .string (strL l), .int .i64 0, .int .i64 (j : Int), .string ⟨#[]⟩, .string (strL b), .bool false]) [4, 5, 6, 7] [6, 7, 10] [0, 1, 2, 3, 4, 5, 6, 7, 8, 9, 10] (by kernel_rfl) (by kernel_rfl) ⟨by have := HX2.out.hv.cell 2; simpa using this, HN2.out.drew⟩ ?_
  simp only [inOrder, opAt]
  iterate 6
    (refine wpMixS_read (v := ?_) rfl rfl (fun w' hS => ?_) ?_
     rotate_left
     · ((try (obtain ⟨t2, tb⟩ := hS rfl; have u0 := tb.cell 0; have u1 := tb.cell 1; have u2 := tb.cell 2; have u3 := tb.cell 3; have u4 := tb.cell 4; have u5 := tb.cell 5; have u6 := tb.cell 6; simp at u0 u1 u2 u3 u4 u5 u6; clear tb)); go_simp; (try with_reducible rfl))
     try simp only [Act.put, List.setIfInBounds_toArray, List.set_cons_zero, List.set_cons_succ])
  refine wpMixS_eff rfl rfl (fun K hK => ?_)
  go_simp
  refine hK.out _ _ _ (fun _ h => h) (fun _ => ⟨((HX2.out.hv.drew.alloc _).cell 2).trans rfl, HN2.out.drew.alloc _⟩) ?_
  clear hK K
  try simp only [Act.put, List.setIfInBounds_toArray, List.set_cons_zero, List.set_cons_succ]
  refine wpMixS_eff rfl rfl (fun K hK => ?_)
  refine wp_append_any _ _ _ 70 rfl B 144 i144 _ 7 80 Tryz.underlying70 hi144 hz0 hz1 hz2 rfl (by omega) (.slice OA cs.length oc) cs.length _ rfl ((show w2.drew.ownsRow _ _ _ _ _ _ from HX2.out.own).alloc _) (w2.heap.size + 1) (some ⟨w2.heap.size, 0, none⟩) 1 1 [.int .i64 (k : Int), .string (strL l), .int .i64 0, .int .i64 (j : Int), .string ⟨#[]⟩, .string (strL b), .bool false] rfl (reads_blk w2.drew _ 144 rfl) (by simp [Value.oneCell']) (by unfold maxLen; omega) (by omega) (by have := HZ2.out; simp; omega) ?_
  intro v4 w4 hown4 hgrow4 _
  obtain ⟨OA4, oc4, rfl⟩ := own_slice hown4
  rw [← HS.out] at hown4
  have hv4 : Blk w4 v 72 _ := (HX2.out.hv.drew.alloc _).grown hgrow4 (fun e => own_blk_ne HX2.out.own HX2.out.hv (by decide) e.symm)
  have hs4 : Blk w4 bs 75 _ := (HX2.out.hs.drew.alloc _).grown hgrow4 (fun e => own_blk_ne HX2.out.own HX2.out.hs (by decide) e.symm)
  have hr4 := (HX2.out.hr.drew.alloc (.cells #[.int .i64 (k : Int), .string (strL l), .int .i64 0, .int .i64 (j : Int), .string ⟨#[]⟩, .string (strL b), .bool false] 144)).keep (hgrow4.block rd (by have := HX2.out.hr.lt; simp; omega) (fun e => HX2.out.own_ne HX2.out.hr rd e.symm rfl))
  have hl4 := (HX2.out.hl.drew.alloc (.cells #[.int .i64 (k : Int), .string (strL l), .int .i64 0, .int .i64 (j : Int), .string ⟨#[]⟩, .string (strL b), .bool false] 144)).keep (hgrow4.block la (by have := HX2.out.hl.lt; simp; omega) (fun e => HX2.out.own_ne HX2.out.hl la e.symm rfl))
  have hn4 : Blk w4 w.heap.size 144 _ := (HN2.out.drew.alloc _).grown hgrow4 (fun e => by have := HRL.out _ e.symm; omega)
  have HF4 : Hid (VF B w w4) := Lib.hid (HF2.out.trans (VF.undrew (VF.fr (((Fr.refl ((Value.slice OA cs.length oc).ownBlock.toList) w2.drew).alloc _).grown hgrow4 (fun g hg => .inl (by rw [hg]; simp))) (fun g hg => HX2.out.own_vt g (by simpa using hg)))))
  have HX4 := Lib.hid (And.intro hv4 (And.intro hs4 (And.intro hr4 (And.intro hl4 hown4))))
  have HX4' := Lib.hid (And.intro HX2.out.ne (And.intro HX2.out.lv (And.intro HX2.out.ls (And.intro HX2.out.lr HX2.out.ll))))
  refine hK.out _ _ _ (fun _ h => h) (fun _ => ⟨(hv4.cell 2).trans rfl, hn4⟩) ?_
  have v2 := hv4.cell 2
  have f2 := hv4.frozen 2
  simp at v2
  clear hK K hv4 hs4 hr4 hl4 hown4 hn4 hgrow4 HX2 HF2 HN2 HZ2 HRL HS hz0 hz1 hz2 hi144
  try simp only [Act.put, List.setIfInBounds_toArray, List.set_cons_zero, List.set_cons_succ]
  iterate 2
    (refine wpMixS_read (v := ?_) rfl rfl (fun w' hS => ?_) ?_
     rotate_left
     · ((try clear hS); go_simp; (try with_reducible rfl))
     try simp only [Act.put, List.setIfInBounds_toArray, List.set_cons_zero, List.set_cons_succ])
  refine wpMixS_eff rfl rfl (fun K hK => ?_)
  go_simp
  refine hK.out _ _ _ (fun _ h => h) (fun h => by cases h) ?_
  clear hK K
  try simp only [Act.put, List.setIfInBounds_toArray, List.set_cons_zero, List.set_cons_succ]
  refine wpMixS_nil ?_
  go_end0
  obtain ⟨hv4, hs4, hr4, hl4, hown4⟩ := HX4.out
  obtain ⟨hne, e1, e2, e3, e4⟩ := HX4'.out
  have hX5 : VwX (w4.setCell ⟨v, 2, none⟩ (.slice OA4 (cs.length + 1) oc4)) B v bs rd la (.slice OA4 (cs.length + 1) oc4) cs' mr ml' := by
    refine ⟨by have := hv4.set_ 2 (.slice OA4 (cs.length + 1) oc4); simpa using this, hs4.far (p := ⟨v, 2, none⟩) (hs4.ne_ hv4 (by decide)) _, hr4.setCell (p := ⟨v, 2, none⟩) (hr4.ne_blk hv4) _, hl4.setCell (p := ⟨v, 2, none⟩) (hl4.ne_blk hv4) _, hne, ?_, e1, e2, e3, e4⟩
    rw [hlen]
    exact own_fr hown4 ((Fr.refl [v] w4).setCell (p := ⟨v, 2, none⟩) (.inl (by simp)) _) (fun g hg => by
      have := own_blk_ne hown4 hv4 (by decide)
      rw [hg] at this
      simpa using this)
  exact ⟨rfl, ⟨⟨bs, rd, la, _, cs', mr, ml', hX5, HT.out, by rw [hlen]; omega⟩⟩, HF4.out.trans (VF.fr ((Fr.refl [v] w4).setCell (p := ⟨v, 2, none⟩) (.inl (by simp)) _) (fun g hg => by rw [List.mem_singleton.1 hg]; exact ⟨e1, vt_blk hv4 (.inl rfl)⟩))⟩
set_option maxRecDepth 100000 in
set_option maxHeartbeats 4000000 in
theorem vset_any (w : World) (B v n : Nat) (V : Val) (x : Ob) (b : List UInt8) (hv : Vw w B v V n) (hx : ObOk x) (hu : Usg w) (hn : n ≤ 100000) (hb : b.length ≤ 65536) :
    Calls Tryz.prog 65 #[.pointer (some ⟨v, 0, none⟩), obV x, .string (strL b)] w fun e w' => e = .returned (.int .i64 0) ∧ Vw w' B v (vupd V x b) (n + 1) ∧ VF B w w' := by
  have hck := fun W (h : Usg W) => obCheck_any W x hx h
  have hcall := fun W (h : Vw W B v V n) => vcall_any W B v n V x b h hx hn
  have hb1 : ¬ ((65536 : Int) < (b.length : Int)) := by omega
  have hb2 : decide ((65536 : Int) < (b.length : Int)) = false := decide_eq_false hb1
  have hsz := strL_size b
  obtain ⟨V', hV'⟩ : ∃ V', V' = vupd V x b := ⟨_, rfl⟩
  rw [← hV'] at hcall ⊢
  clear hV'
  obtain ⟨k, l, j⟩ := x
  unfold obV obCells at *
  dsimp only at hck hcall ⊢
  obtain ⟨nc, hnc⟩ : ∃ nc, nc = (#[.int .i64 (k : Int), .string (strL l), .int .i64 0, .int .i64 (j : Int), .string ⟨#[]⟩] : Array Value) := ⟨_, rfl⟩
  have HN := Lib.hid (Blk.new w 81 nc)
  have HB0 := Lib.hid ((Below.refl w.heap.size w).alloc (Nat.le_refl _) (.cells nc 81))
  have HX := Lib.hid (hv.below HB0.out)
  have HU := Lib.hid (hu.belowS HB0.out)
  rw [hnc] at HN HB0 HX HU
  clear hnc hu hv
  go_enter Tryz.func65, Tryz.ntmps65
  go_wp2_with fail
  refine (hck _ HU.out).mono ?_
  rintro e w1 ⟨rfl, nb⟩
  have HX1 := Lib.hid (HX.out.below nb)
  have HN1 := Lib.hid (HN.out.below nb HN.out.lt)
  have HB1 := Lib.hid (HB0.out.trans (nb.mono HB0.out.size))
  have u0 := HN1.out.cell 0
  have u1 := HN1.out.cell 1
  have u2 := HN1.out.cell 2
  have u3 := HN1.out.cell 3
  have u4 := HN1.out.cell 4
  simp at u0 u1 u2 u3 u4
  clear nb HX HN HB0 HU hck
  go_wp2_with fail
  refine (hcall _ HX1.out).mono ?_
  rintro e w2 ⟨rfl, h2, f2⟩
  go_wp2_with fail
  go_ret
  exact ⟨rfl, h2, (VF.of_below HB1.out).trans f2⟩
set_option maxRecDepth 100000 in
set_option maxHeartbeats 4000000 in
theorem get_miss (w : World) (B v n : Nat) (V : Val) (x : Ob) (hv : Vw w B v V n) (hx : ObOk x) (hb : V x = none) (hu : Usg w) :
    Calls Tryz.prog 45 #[.pointer (some ⟨v, 0, none⟩), obV x] w fun e w' => e = .returned (.tuple #[.string (strL []), .bool false]) ∧ Vw w' B v V n ∧ VF B w w' := by
  have hrd := fun W (h : Vw W B v V n) => read_any W B v n V x (strL []) true h hx
  obtain ⟨bs, rd, la, row, cs, mr, ml, hX, hT, hcs⟩ := hv.ex
  have HT := Lib.hid (And.intro hT hcs)
  have hT := hT x
  rw [hb] at hT
  have hm : mget ml x = none := hT
  have hck := fun W (h : Usg W) => obCheck_any W x hx h
  have hsg := fun W (h : Blk W bs 75 #[.pointer none]) => stateGet_any W bs x h
  have hxs := hx.s
  obtain ⟨k, l, j⟩ := x
  unfold obV obCells at *
  dsimp only at hck hrd hsg ⊢
  obtain ⟨nc, hnc⟩ : ∃ nc, nc = (#[.int .i64 (k : Int), .string (strL l), .int .i64 0, .int .i64 (j : Int), .string ⟨#[]⟩] : Array Value) := ⟨_, rfl⟩
  have HN := Lib.hid (Blk.new w 81 nc)
  have HB0 := Lib.hid ((Below.refl w.heap.size w).alloc (Nat.le_refl _) (.cells nc 81))
  have HX := Lib.hid (hX.below HB0.out)
  have HU := Lib.hid (hu.belowS HB0.out)
  rw [hnc] at HN HB0 HX HU
  clear hnc hX hT hu hv hb
  go_enter Tryz.func45, Tryz.ntmps45
  go_wp2_with fail
  refine (hck _ HU.out).mono ?_
  rintro e w1 ⟨rfl, nb⟩
  have HX1 := Lib.hid (HX.out.below nb)
  have HN1 := Lib.hid (HN.out.below nb HN.out.lt)
  have HB1 := Lib.hid (HB0.out.trans (nb.mono HB0.out.size))
  clear nb HX HN HB0 HU hck
  have hlk := run_lookup_map ok81 map69 (z := .int .i64 0) zero3 (HX1.out.hl.drew) ⟨k, l, j⟩ hxs true
  rw [hm] at hlk
  unfold obV obCells at hlk
  simp only [Option.getD_none, Option.isSome_none, if_true] at hlk
  have v0 := HX1.out.hv.cell 0
  have v3 := HX1.out.hv.cell 3
  have u0 := HN1.out.cell 0
  have u1 := HN1.out.cell 1
  have u2 := HN1.out.cell 2
  have u3 := HN1.out.cell 3
  have u4 := HN1.out.cell 4
  simp at v0 v3 u0 u1 u2 u3 u4
  clear hm hcs
  go_upto_region 3 with (fail)
  refine wp_region_mixL (fun W => W = w1.drew) [3, 4, 5] [] [0, 1, 2, 3, 4, 5, 6, 7, 8, 9, 10] (by kernel_rfl) (by kernel_rfl) rfl ?_
  simp only [inOrder, opAt]
  iterate 11
    (refine wpMixS_read (v := ?_) rfl rfl (fun w' hS => ?_) ?_
     rotate_left
     · ((try (have t := hS rfl; subst t)); go_simp; (try with_reducible rfl))
     try simp only [Act.put, List.setIfInBounds_toArray, List.set_cons_zero, List.set_cons_succ])
  refine wpMixS_nil ?_
  clear hlk
  go_upto_region 6 with (fail)
  refine wp_region_mixL (fun W => W = w1.drew.drew) [3, 4] [5] [0, 1, 2, 3, 4, 5, 6, 7, 8, 9, 10] (by kernel_rfl) (by kernel_rfl) rfl ?_
  simp only [inOrder, opAt]
  have v0' : w1.drew.drew.cell? ⟨v, 0, none⟩ = _ := v0
  have u0' : w1.drew.drew.cell? ⟨w.heap.size, 0, none⟩ = _ := u0
  have u1' : w1.drew.drew.cell? ⟨w.heap.size, 1, none⟩ = _ := u1
  have u2' : w1.drew.drew.cell? ⟨w.heap.size, 2, none⟩ = _ := u2
  have u3' : w1.drew.drew.cell? ⟨w.heap.size, 3, none⟩ = _ := u3
  have u4' : w1.drew.drew.cell? ⟨w.heap.size, 4, none⟩ = _ := u4
  clear v0 v3 u0 u1 u2 u3 u4
  iterate 5
    (refine wpMixS_read (v := ?_) rfl rfl (fun w' hS => ?_) ?_
     rotate_left
     · ((try (have t := hS rfl; subst t)); go_simp; (try with_reducible rfl))
     try simp only [Act.put, List.setIfInBounds_toArray, List.set_cons_zero, List.set_cons_succ])
  refine wpMixS_eff rfl rfl (fun K hK => ?_)
  go_simp
  refine (hsg w1.drew.drew HX1.out.hs.drew.drew).mono ?_
  rintro e w2 ⟨rfl, nb⟩
  have HX2 : Hid (Vw w2 B v V n) := Lib.hid ⟨⟨bs, rd, la, row, cs, mr, ml, HX1.out.keep fun k hk _ _ => nb.block k hk, HT.out⟩⟩
  have HN2 := Lib.hid (HN1.out.drew.drew.below nb HN1.out.lt)
  have HB2 := Lib.hid (HB1.out.drew.drew.trans (nb.mono HB1.out.size))
  refine hK.out _ _ _ (fun _ h => h) (fun h => by cases h) ?_
  clear hK K nb HX1 HN1 HB1 hsg HT v0' u0' u1' u2' u3' u4'
  try simp only [Act.put, List.setIfInBounds_toArray, List.set_cons_zero, List.set_cons_succ]
  iterate 5
    (refine wpMixS_read (v := ?_) rfl rfl (fun w' hS => ?_) ?_
     rotate_left
     · ((try clear hS); go_simp; (try with_reducible rfl))
     try simp only [Act.put, List.setIfInBounds_toArray, List.set_cons_zero, List.set_cons_succ])
  refine wpMixS_nil ?_
  have u0 := HN2.out.cell 0
  have u1 := HN2.out.cell 1
  have u2 := HN2.out.cell 2
  have u3 := HN2.out.cell 3
  have u4 := HN2.out.cell 4
  simp at u0 u1 u2 u3 u4
  go_wp2_with fail
  refine (hrd _ HX2.out).mono ?_
  rintro e w3 ⟨rfl, h3, f3⟩
  go_wp2_with fail
  refine bodyPost_ret (results_tmp2 rfl _ _ _) rfl ?_
  exact ⟨rfl, h3, (VF.of_below HB2.out).trans f3⟩
end Go.Proofs.YtkoomlbnfhdhcaaGreatDoor

/-
  Walks: views: Has, Mark, New.
-/
namespace Go.Proofs.YtkoomlbnfhdhcaaGreatDoor
open Go.RowKit
set_option linter.unusedVariables false

theorem get_any (w : World) (B v n : Nat) (V : Val) (x : Ob) (hv : Vw w B v V n) (hx : ObOk x) (hu : Usg w) (hn : n ≤ 100000) :
    Calls Tryz.prog 45 #[.pointer (some ⟨v, 0, none⟩), obV x] w fun e w' => e = .returned (.tuple #[.string (strL ((V x).getD [])), .bool (V x).isSome]) ∧ Vw w' B v V n ∧ VF B w w' := by
  cases hV : V x with
  | none => exact get_miss w B v n V x hv hx hV hu
  | some b =>
    refine (get_hit w B v n V x b hv hx hV hu (by omega)).mono ?_
    rintro e w' ⟨rfl, nb⟩
    exact ⟨rfl, hv.below nb, VF.of_below nb⟩
theorem has_any (w : World) (B v n : Nat) (V : Val) (x : Ob) (hv : Vw w B v V n) (hx : ObOk x) (hu : Usg w) (hn : n ≤ 100000) :
    Calls Tryz.prog 24 #[.pointer (some ⟨v, 0, none⟩), obV x] w fun e w' => e = .returned (.bool (V x).isSome) ∧ Vw w' B v V n ∧ VF B w w' := by
  have hg := fun W (h1 : Vw W B v V n) (h2 : Usg W) => get_any W B v n V x h1 hx h2 hn
  obtain ⟨b, hb⟩ : ∃ b, b = (V x).isSome := ⟨_, rfl⟩
  obtain ⟨s, hs⟩ : ∃ s, s = strL ((V x).getD []) := ⟨_, rfl⟩
  rw [← hb, ← hs] at hg
  rw [← hb]
  clear hb hs
  obtain ⟨k, l, j⟩ := x
  unfold obV obCells at *
  dsimp only at hg ⊢
  have HB0 := Lib.hid ((Below.refl w.heap.size w).alloc (Nat.le_refl _) (.cells #[.int .i64 (k : Int), .string (strL l), .int .i64 0, .int .i64 (j : Int), .string ⟨#[]⟩] 81))
  have HX := Lib.hid (hv.below HB0.out)
  have HU := Lib.hid (hu.belowS HB0.out)
  clear hv hu
  go_enter Tryz.func24, Tryz.ntmps24
  go_wp2_with fail
  refine (hg _ HX.out HU.out).mono ?_
  rintro e w1 ⟨rfl, h1, f1⟩
  go_wp2_with fail
  go_ret
  exact ⟨rfl, h1, (VF.of_below HB0.out).trans f1⟩
theorem mark_any (w : World) (B v n : Nat) (V : Val) (hv : Vw w B v V n) : Calls Tryz.prog 27 #[.pointer (some ⟨v, 0, none⟩)] w fun e w' => ∃ k : Nat, e = .returned (.int .i64 (k : Int)) ∧ w = w' := by
  obtain ⟨bs, rd, la, row, cs, mr, ml, hX, hT, hcs⟩ := hv.ex
  have v2 := hX.hv.cell 2
  simp at v2
  obtain ⟨OA, oc, rfl⟩ := own_slice hX.own
  clear hX hT hcs hv
  go_enter Tryz.func27, Tryz.ntmps27
  go_wp2_with fail
  go_ret
  exact ⟨_, rfl, rfl⟩
theorem z75 (w : World) : (zeroValue 75).run Tryz.prog w = .ok (.agg #[.pointer none]) w := by kernel_rfl
theorem z72 (w : World) : (zeroValue 72).run Tryz.prog w = .ok (.agg #[.pointer none, .map none, .slice none 0 0, .map none]) w := by kernel_rfl
theorem stateNew_any (w : World) : Calls Tryz.prog 7 #[] w fun e w' => e = .returned (.pointer (some ⟨w.heap.size, 0, none⟩)) ∧ Blk w' w.heap.size 75 #[.pointer none] ∧ Below w.heap.size w w' := by
  have hz := z75
  go_enter Tryz.func7, Tryz.ntmps7
  go_wp2_with fail
  go_ret
  exact ⟨rfl, Blk.new _ _ _, (Below.refl _ _).alloc (Nat.le_refl _) _⟩
theorem viewNew_any (w : World) (B bs : Nat) (hs : Blk w bs 75 #[.pointer none]) (hB : B ≤ bs) : Calls Tryz.prog 6 #[.pointer (some ⟨bs, 0, none⟩)] w fun e w' => ∃ v, e = .returned (.pointer (some ⟨v, 0, none⟩)) ∧ w.heap.size ≤ v ∧ Vw w' B v vnone 0 ∧ Below w.heap.size w w' := by
  have hb := hs.lt
  have hz := z72
  have hmm := @run_makeMap Tryz.prog
  go_enter Tryz.func6, Tryz.ntmps6
  go_wp2_with fail
  go_ret
  refine ⟨_, rfl, by omega, ⟨⟨bs, w.heap.size, w.heap.size + 1, _, [], [], [], ⟨Blk.new_ _ _ _ (by simp), ?_, ?_, ?_, by omega, World.ownsRow_nil _ _ _ _, by omega, hB, by omega, by omega⟩, fun _ => rfl, Nat.le_refl _⟩⟩, ?_⟩
  · exact (((hs.alloc _).alloc _).alloc _)
  · exact ((MapIs.new w).alloc _).alloc _
  · have := (MapIs.new (enc := obV) (C := ObS) (w.alloc (.map #[] 0))).alloc (.cells #[.pointer (some ⟨bs, 0, none⟩), .map (some w.heap.size), .slice none 0 0, .map (some (w.heap.size + 1))] 72)
    simpa using this
  · exact (((Below.refl _ _).alloc (Nat.le_refl _) _).alloc (by simp) _).alloc (by simp; omega) _
end Go.Proofs.YtkoomlbnfhdhcaaGreatDoor

/-
  Walks: processes in a view: Epoch, put, Get, running.
-/
namespace Go.Proofs.YtkoomlbnfhdhcaaGreatDoor
open Go.RowKit
set_option linter.unusedVariables false

/-- A view, and the table of usages. -/
structure Env (w : World) (B v : Nat) (V : Val) (n : Nat) : Prop where
  vw : Vw w B v V n
  us : Usg w
  b1 : 1 < B
  g1 : ∃ cs fr, w.heap[1]? = some (.cells cs 210 fr)
section
variable {w w' : World} {B v n : Nat} {V V' : Val}
theorem Env.below (h : Env w B v V n) (hb : Below w.heap.size w w') : Env w' B v V n := ⟨h.vw.below hb, h.us.belowS hb, h.b1, by rw [hb.block 1 h.us.1]; exact h.g1⟩
theorem Env.vf {m : Nat} (h : Env w B v V n) (hf : VF B w w') (hv : Vw w' B v V' m) : Env w' B v V' m := ⟨hv, h.us.below (hf.below h.vw.leB) h.b1, h.b1, by rw [(hf.below h.vw.leB).block 1 h.b1]; exact h.g1⟩
theorem Env.more (h : Env w B v V n) {m : Nat} (hm : n ≤ m) : Env w B v V m := ⟨h.vw.more hm, h.us, h.b1, h.g1⟩
theorem Env.leB (h : Env w B v V n) : B ≤ w.heap.size := h.vw.leB
theorem Env.get (h : Env w B v V n) {x : Ob} (hx : ObOk x) (hn : n ≤ 100000) :
    Calls Tryz.prog 45 #[.pointer (some ⟨v, 0, none⟩), obV x] w fun e w' => e = .returned (.tuple #[.string (strL ((V x).getD [])), .bool (V x).isSome]) ∧ Env w' B v V n ∧ VF B w w' :=
  (get_any w B v n V x h.vw hx h.us hn).mono fun _ _ ⟨h1, h2, h3⟩ => ⟨h1, h.vf h3 h2, h3⟩
theorem Env.hit (h : Env w B v V n) {x : Ob} {b : List UInt8} (hx : ObOk x) (hb : V x = some b) (hn : n ≤ 100000) :
    Calls Tryz.prog 45 #[.pointer (some ⟨v, 0, none⟩), obV x] w fun e w' => e = .returned (.tuple #[.string (strL b), .bool true]) ∧ Below w.heap.size w w' :=
  get_hit w B v n V x b h.vw hx hb h.us (by omega)
theorem Env.miss (h : Env w B v V n) {x : Ob} (hx : ObOk x) (hb : V x = none) :
    Calls Tryz.prog 45 #[.pointer (some ⟨v, 0, none⟩), obV x] w fun e w' => e = .returned (.tuple #[.string (strL []), .bool false]) ∧ Env w' B v V n ∧ VF B w w' :=
  (get_miss w B v n V x h.vw hx hb h.us).mono fun _ _ ⟨h1, h2, h3⟩ => ⟨h1, h.vf h3 h2, h3⟩
theorem Env.has (h : Env w B v V n) {x : Ob} (hx : ObOk x) (hn : n ≤ 100000) :
    Calls Tryz.prog 24 #[.pointer (some ⟨v, 0, none⟩), obV x] w fun e w' => e = .returned (.bool (V x).isSome) ∧ Env w' B v V n ∧ VF B w w' :=
  (has_any w B v n V x h.vw hx h.us hn).mono fun _ _ ⟨h1, h2, h3⟩ => ⟨h1, h.vf h3 h2, h3⟩
theorem Env.set (h : Env w B v V n) {x : Ob} {b : List UInt8} (hx : ObOk x) (hn : n ≤ 100000) (hb : b.length ≤ 65536) :
    Calls Tryz.prog 65 #[.pointer (some ⟨v, 0, none⟩), obV x, .string (strL b)] w fun e w' => e = .returned (.int .i64 0) ∧ Env w' B v (vupd V x b) (n + 1) ∧ VF B w w' :=
  (vset_any w B v n V x b h.vw hx h.us hn hb).mono fun _ _ ⟨h1, h2, h3⟩ => ⟨h1, h.vf h3 h2, h3⟩
end
/-- A block of the call's own is written. -/
theorem Env.fr1 {w w' : World} {B v n q : Nat} {t : TypeId} {cs : Array Value} {V : Val} (h : Env w B v V n) (hf : Fr [q] w w') (hq : Blk w q t cs) (h1 : t ≠ 72) (h2 : t ≠ 75) (h3 : t ≠ 144) (hB : B ≤ q) : Env w' B v V n :=
  ⟨h.vw.keep fun k hk _ hv => hf.block k hk (fun hm => by
    rw [List.mem_singleton.1 hm] at hv
    exact (hv cs t (0, 0) hq).elim h1 (fun h => h.elim h2 h3)), h.us.below (hf.below h.leB (fun g hg => by rw [List.mem_singleton.1 hg]; exact hB)) h.b1, h.b1, by rw [(hf.below h.leB (fun g hg => by rw [List.mem_singleton.1 hg]; exact hB)).block 1 h.b1]; exact h.g1⟩
/-- .. as if it were new. -/
theorem VF.own {w w' w'' : World} {B q : Nat} (h : VF B w w') (hf : Fr [q] w' w'') (hq : w.heap.size ≤ q) : VF B w w'' :=
  ⟨hf.os.trans h.os, hf.tape.trans h.tape, hf.output.trans h.output, Nat.le_trans h.size hf.size, fun k hk hc => (hf.block k (Nat.lt_of_lt_of_le hk h.size) (fun hm => by have := List.mem_singleton.1 hm; omega)).trans (h.block k hk hc)⟩
abbrev oP (l : List UInt8) : Ob := ⟨1, l, 0⟩
abbrev oR (l : List UInt8) : Ob := ⟨2, l, 0⟩
abbrev oG (l : List UInt8) (i : Nat) : Ob := ⟨3, l, i⟩
abbrev oC (l : List UInt8) : Ob := ⟨5, l, 0⟩
abbrev oE : Ob := ⟨20, [], 0⟩
theorem okP {l : List UInt8} (h : Who l) : ObOk (oP l) := .inl ⟨h, .inl ⟨.inl rfl, rfl⟩⟩
theorem okR {l : List UInt8} (h : Who l) : ObOk (oR l) := .inl ⟨h, .inl ⟨.inr (.inl rfl), rfl⟩⟩
theorem okC {l : List UInt8} (h : Who l) : ObOk (oC l) := .inl ⟨h, .inl ⟨.inr (.inr rfl), rfl⟩⟩
theorem okG {l : List UInt8} (h : Who l) {i : Nat} (hi : i < 64) : ObOk (oG l i) := .inl ⟨h, .inr ⟨rfl, hi⟩⟩
theorem okE : ObOk oE := .inr ⟨rfl, rfl, rfl⟩
theorem epoch_any (w : World) (B v n : Nat) (V : Val) (h : Env w B v V n) (hE : V oE = none) :
    Calls Tryz.prog 23 #[.pointer (some ⟨v, 0, none⟩)] w fun e w' => e = .returned (.tuple #[.int .i64 0, .int .i64 0]) ∧ Env w' B v V n ∧ VF B w w' := by
  have hoe := fun W => ofEpoch_any W
  have hg := fun W (h : Env W B v V n) => h.miss okE hE
  unfold oE at hg
  obtain ⟨x, hx⟩ : ∃ x, x = obV ⟨20, [], 0⟩ := ⟨_, rfl⟩
  rw [← hx] at hg hoe
  clear hx
  have HE := Lib.hid h
  clear h
  go_enter Tryz.func23, Tryz.ntmps23
  go_wp2_with fail
  refine (hoe _).mono ?_
  rintro e w1 ⟨rfl, nb⟩
  have HE1 := Lib.hid (HE.out.below nb)
  go_wp2_with fail
  refine (hg _ HE1.out).mono ?_
  rintro e w2 ⟨rfl, h2, f2⟩
  go_wp2_with fail
  refine bodyPost_ret (results_tmp2 rfl _ _ _) rfl ?_
  exact ⟨rfl, h2, (VF.of_below nb).trans f2⟩
theorem GrOk.vfr {w w' : World} {B C : Nat} {gv : Value} {gs : List Nat} (h : GrOk w C gv gs) (hf : VF B w w') : GrOk w' C gv gs := h.keep fun _ _ h1 _ => hf.blk h1 (by decide) (by decide)
theorem prDecode_any (w : World) (p : Pr) (h : PrOk p) (hg : p.gs = [] ∨ p.gs = [1, 5]) :
    Calls Tryz.prog 147 #[.string (strL (prEnc p))] w fun e w' => ∃ gv, e = .returned (.tuple #[prV p gv, .int .i64 0]) ∧ GrOk w' w'.heap.size gv p.gs ∧ Below w.heap.size w w' := by
  obtain ⟨st, code, user, gs, sp, pages, term⟩ := p
  rcases hg with hg | hg
  · dsimp only at hg
    subst hg
    exact prDecode0 w st code user pages term sp h
  · dsimp only at hg
    subst hg
    exact prDecode2 w st code user pages term sp h
theorem pr_size (p : Pr) (gv : Value) : (prCells p gv).size = 11 := rfl
theorem pr_one (p : Pr) (w : World) (B : Nat) (gv : Value) (h : GrOk w B gv p.gs) : (prCells p gv).toList.all (·.oneCell') = true := by
  rcases h.old with ⟨_, rfl⟩ | ⟨_, b, c, rfl, _⟩ <;> rfl
theorem prEnc_length (p : Pr) (h : PrOk p) (hg : p.gs = [] ∨ p.gs = [1, 5]) : (prEnc p).length ≤ 100 := by
  have hspl : p.sp.length < 4 := by
    rcases h.sp with e | e | e <;> rw [show p.sp = _ from e] <;> decide
  unfold prEnc
  rcases hg with e | e <;> rw [e] <;> simp <;> omega
set_option maxRecDepth 100000 in
set_option maxHeartbeats 4000000 in
theorem put_any (w : World) (B C v n : Nat) (V : Val) (who : List UInt8) (p : Pr) (gv : Value) (h : Env w B v V n) (hw : Who who) (hp : PrOk p) (hg : GrOk w C gv p.gs) (hC : C ≤ w.heap.size) (hgs : p.gs = [] ∨ p.gs = [1, 5]) (hn : n ≤ 100000) :
    Calls Tryz.prog 26 #[.pointer (some ⟨v, 0, none⟩), .string (strL who), prV p gv] w fun e w' => e = .returned (.int .i64 0) ∧ Env w' B v (vupd V (oP who) (prEnc p)) (n + 1) ∧ VF B w w' := by
  have hl := prEnc_length p hp hgs
  have hof := fun W => ofProcess_any W who
  have hset := fun W (h : Env W B v V n) => h.set (b := prEnc p) (okP hw) hn (by omega)
  unfold oP at *
  obtain ⟨x, hx⟩ : ∃ x, x = obV ⟨1, who, 0⟩ := ⟨_, rfl⟩
  rw [← hx] at hset hof
  clear hx
  obtain ⟨V', hV'⟩ : ∃ V', V' = vupd V ⟨1, who, 0⟩ (prEnc p) := ⟨_, rfl⟩
  rw [← hV'] at hset ⊢
  clear hV'
  have hone := pr_one p w C gv hg
  have HB0 := Lib.hid ((Below.refl w.heap.size w).alloc (Nat.le_refl _) (.cells (prCells p gv) 40))
  have hen := prEncode_any (w.alloc (.cells (prCells p gv) 40)) C p gv hp (hg.below (HB0.out.mono hC)) (Nat.le_trans hC HB0.out.size)
  have HN := Lib.hid (Blk.new w 40 (prCells p gv))
  have HE := Lib.hid (h.below HB0.out)
  unfold prV at *
  have hsz := pr_size p gv
  obtain ⟨P, hP⟩ : ∃ P, P = prCells p gv := ⟨_, rfl⟩
  rw [← hP] at hen HN HE HB0 hsz hone ⊢
  have hi40 : (Tryz.prog.info? 40).map (·.size) = some P.size := by rw [hsz]; exact info40
  clear hP h hg
  go_enter Tryz.func26, Tryz.ntmps26
  go_wp2_with (refine wpList_load_blk rfl 40 (.tmp 5) rfl w.heap.size rfl HN.out _ Tryz.underlying40 rfl hi40 ?_)
  refine hen.mono ?_
  rintro e w1 ⟨rfl, nb⟩
  have HE1 := Lib.hid (HE.out.below nb)
  have HB1 := Lib.hid (HB0.out.trans (nb.mono HB0.out.size))
  clear nb hen HN HE HB0
  go_wp2_with fail
  refine (hof _).mono ?_
  rintro e w2 ⟨rfl, nb⟩
  have HE2 := Lib.hid (HE1.out.below nb)
  have HB2 := Lib.hid (HB1.out.trans (nb.mono HB1.out.size))
  clear nb HE1 HB1
  go_wp2_with fail
  refine (hset _ HE2.out).mono ?_
  rintro e w3 ⟨rfl, h3, f3⟩
  go_wp2_with fail
  go_ret
  exact ⟨rfl, h3, (VF.of_below HB2.out).trans f3⟩
def zPr : Array Value := #[.int .i64 0, .int .i64 0, .int .i64 0, .int .i64 0, .int .i64 0, .slice none 0 0, .string ⟨#[]⟩, .int .i64 0, .string ⟨#[]⟩, .int .i64 0, .int .i64 0]
/-- What holds of the processes of a view. -/
structure Has (V : Val) (who : List UInt8) (p : Pr) : Prop where
  v : V (oP who) = some (prEnc p)
  e : V oE = none
  w : Who who
  ok : PrOk p
  gs : p.gs = [] ∨ p.gs = [1, 5]
set_option maxRecDepth 100000 in
set_option maxHeartbeats 4000000 in
theorem ofAny_any (w : World) (B v n : Nat) (V : Val) (who : List UInt8) (p : Pr) (h : Env w B v V n) (hp : Has V who p) (hn : n ≤ 100000) :
    Calls Tryz.prog 122 #[.pointer (some ⟨v, 0, none⟩), .string (strL who)] w fun e w' => ∃ gv, e = .returned (.tuple #[prV p gv, .int .i64 0]) ∧ GrOk w' w'.heap.size gv p.gs ∧ Below w.heap.size w w' := by
  have hof := fun W => ofProcess_any W who
  have hg := fun W (h : Env W B v V n) => h.hit (okP hp.w) hp.v hn
  have hd := fun W => prDecode_any W p hp.ok hp.gs
  unfold oP at *
  obtain ⟨x, hx⟩ : ∃ x, x = obV ⟨1, who, 0⟩ := ⟨_, rfl⟩
  rw [← hx] at hg hof
  clear hx
  obtain ⟨zc, hzc⟩ : ∃ zc, zc = zPr := ⟨_, rfl⟩
  have HN := Lib.hid (Blk.new w 40 zc)
  have HB0 := Lib.hid ((Below.refl w.heap.size w).alloc (Nat.le_refl _) (.cells zc 40))
  have HE := Lib.hid (h.below HB0.out)
  rw [hzc] at HN HE HB0
  unfold zPr at HN HE HB0
  clear hzc h
  go_enter Tryz.func122, Tryz.ntmps122
  go_wp2_with fail
  refine (hof _).mono ?_
  rintro e w1 ⟨rfl, nb⟩
  have HE1 := Lib.hid (HE.out.below nb)
  have HN1 := Lib.hid (HN.out.below nb HN.out.lt)
  have HB1 := Lib.hid (HB0.out.trans (nb.mono HB0.out.size))
  clear nb HE HN HB0
  go_wp2_with fail
  refine (hg _ HE1.out).mono ?_
  rintro e w2 ⟨rfl, nb⟩
  have HN2 := Lib.hid (HN1.out.below nb HN1.out.lt)
  have HB2 := Lib.hid (HB1.out.trans (nb.mono HB1.out.size))
  clear nb HE1 HN1 HB1
  go_wp2_with fail
  refine (hd _).mono ?_
  rintro e w3 ⟨gv, rfl, hgr, nb⟩
  have HN3 := Lib.hid (HN2.out.below nb HN2.out.lt)
  have HB3 := Lib.hid (HB2.out.trans (nb.mono HB2.out.size))
  have hone := pr_one p w3 _ gv hgr
  have hsz := pr_size p gv
  have HG := Lib.hid hgr
  unfold prV at *
  obtain ⟨P, hP⟩ : ∃ P, P = prCells p gv := ⟨_, rfl⟩
  rw [← hP] at hsz hone ⊢
  have hi40 : (Tryz.prog.info? 40).map (·.size) = some P.size := by rw [hsz]; exact info40
  have HP := Lib.hid hP
  clear nb HN2 HB2 hgr hP
  go_wp2_with (refine wpList_store_blk rfl 40 (.tmp 4) (.tmp 20) rfl w.heap.size rfl _ rfl HN3.out hsz hi40 hone ?_; intro w4 hk4 hf4)
  exact end_cell_tmp rfl rfl hk4 Tryz.underlying40 rfl hi40 ⟨gv, by rw [HP.out]; rfl, (HG.out.fr hf4 HN3.out (by decide)).more hf4.size, belowFr1 HB3.out hf4 (Nat.le_refl _) (Nat.le_refl _)⟩
set_option maxRecDepth 100000 in
set_option maxHeartbeats 4000000 in
theorem prGet_any (w : World) (B v n : Nat) (V : Val) (who : List UInt8) (p : Pr) (h : Env w B v V n) (hp : Has V who p) (hn : n ≤ 100000) :
    Calls Tryz.prog 100 #[.pointer (some ⟨v, 0, none⟩), .string (strL who)] w fun e w' => ∃ gv, e = .returned (.tuple #[prV p gv, .int .i64 0]) ∧ GrOk w' w'.heap.size gv p.gs ∧ Env w' B v V n ∧ VF B w w' := by
  have hv := fun W => validW who hp.w W
  have ho := fun W (h : Env W B v V n) => ofAny_any W B v n V who p h hp hn
  have he := fun W (h : Env W B v V n) => epoch_any W B v n V h hp.e
  obtain ⟨zc, hzc⟩ : ∃ zc, zc = zPr := ⟨_, rfl⟩
  have HN := Lib.hid (Blk.new w 40 zc)
  have HB0 := Lib.hid ((Below.refl w.heap.size w).alloc (Nat.le_refl _) (.cells zc 40))
  have HE := Lib.hid (h.below HB0.out)
  have HBw := Lib.hid h.leB
  rw [hzc] at HN HE HB0
  unfold zPr at HN HE HB0
  clear hzc h
  go_enter Tryz.func100, Tryz.ntmps100
  go_wp2_with fail
  refine (hv _).mono ?_
  rintro e w1 ⟨rfl, nb⟩
  have HE1 := Lib.hid (HE.out.below nb)
  have HN1 := Lib.hid (HN.out.below nb HN.out.lt)
  have HB1 := Lib.hid (HB0.out.trans (nb.mono HB0.out.size))
  clear nb HE HN HB0
  go_wp2_with fail
  refine (ho _ HE1.out).mono ?_
  rintro e w2 ⟨gv, rfl, hgr, nb⟩
  have HN2 := Lib.hid (HN1.out.below nb HN1.out.lt)
  have HE2 := Lib.hid (HE1.out.below nb)
  have HB2 := Lib.hid (HB1.out.trans (nb.mono HB1.out.size))
  have hone := pr_one p w2 _ gv hgr
  have hsz := pr_size p gv
  have hc3 : (prCells p gv)[3]? = some (.int .i64 0) := rfl
  have HG := Lib.hid hgr
  clear nb HE1 HN1 HB1 hgr
  unfold prV at *
  obtain ⟨P, hP⟩ : ∃ P, P = prCells p gv := ⟨_, rfl⟩
  rw [← hP] at hsz hone hc3 ⊢
  have hi40 : (Tryz.prog.info? 40).map (·.size) = some P.size := by rw [hsz]; exact info40
  have HP := Lib.hid hP
  have HQ0 := Lib.hid (Blk.new w2 40 zPr)
  unfold zPr at HQ0
  clear hP
  go_wp2_with (refine wpList_store_blk rfl 40 (.tmp 6) (.tmp 20) rfl w2.heap.size rfl _ rfl HQ0.out hsz hi40 hone ?_; intro w3 hk3 hf3)
  have HQ3 := Lib.hid hk3
  have hb3 : Below w2.heap.size w2 w3 := by
    have := hf3
    exact belowFr1 ((Below.refl _ _).alloc (Nat.le_refl _) _) hf3 (Nat.le_refl _) (Nat.le_refl _)
  have HE3 := Lib.hid (HE2.out.below hb3)
  have HN3 := Lib.hid (HN2.out.below hb3 HN2.out.lt)
  have HG3 := Lib.hid (HG.out.below hb3)
  have HB3 := Lib.hid (HB2.out.trans (hb3.mono HB2.out.size))
  clear hk3 hf3 hb3 HE2 HN2 HG HB2 HQ0
  go_wp2_with fail
  refine (he _ HE3.out).mono ?_
  rintro e w4 ⟨rfl, h4, f4⟩
  have HE4 := Lib.hid h4
  have HN4 := Lib.hid (f4.blk HN3.out (by decide) (by decide))
  have HQ4 := Lib.hid (f4.blk HQ3.out (by decide) (by decide))
  have HG4 := Lib.hid (HG3.out.vfr f4)
  have HF4 := Lib.hid ((VF.of_below HB3.out).trans f4)
  have HS4 := Lib.hid (Nat.le_trans (Nat.le_of_lt HQ3.out.lt) f4.size)
  have c3 := HQ4.out.cell 3
  rw [hc3] at c3
  clear h4 f4 HE3 HN3 HQ3 HG3 HB3
  go_wp2_with (first | refine wpList_load_blk rfl 40 (.tmp 6) rfl w2.heap.size rfl HQ4.out _ Tryz.underlying40 rfl hi40 ?_ | (refine wpList_store_blk rfl 40 (.tmp 4) (.tmp 40) rfl w.heap.size rfl _ rfl HN4.out hsz hi40 hone ?_; intro w5 hk5 hf5))
  exact end_cell_tmp rfl rfl hk5 Tryz.underlying40 rfl hi40 ⟨gv, by rw [HP.out]; rfl, ((HG4.out.fr hf5 HN4.out (by decide)).more (Nat.le_trans HS4.out hf5.size)), HE4.out.fr1 hf5 HN4.out (by decide) (by decide) (by decide) HBw.out, HF4.out.own hf5 (Nat.le_refl _)⟩
set_option maxRecDepth 100000 in
set_option maxHeartbeats 4000000 in
theorem running_any (w : World) (B v n : Nat) (V : Val) (who : List UInt8) (p : Pr) (h : Env w B v V n) (hp : Has V who p) (hr : p.st = 1) (hn : n ≤ 100000) :
    Calls Tryz.prog 66 #[.pointer (some ⟨v, 0, none⟩), .string (strL who)] w fun e w' => ∃ gv, e = .returned (.tuple #[prV p gv, .int .i64 0]) ∧ GrOk w' w'.heap.size gv p.gs ∧ Env w' B v V n ∧ VF B w w' := by
  have ho := fun W (h : Env W B v V n) => prGet_any W B v n V who p h hp hn
  have HBw := Lib.hid h.leB
  have HN := Lib.hid (Blk.new w 40 zPr)
  have HB0 := Lib.hid ((Below.refl w.heap.size w).alloc (Nat.le_refl _) (.cells zPr 40))
  have HE := Lib.hid (h.below HB0.out)
  unfold zPr at HN HE HB0
  clear h
  go_enter Tryz.func66, Tryz.ntmps66
  go_wp2_with fail
  refine (ho _ HE.out).mono ?_
  rintro e w2 ⟨gv, rfl, hgr, h2, f2⟩
  have HN2 := Lib.hid (f2.blk HN.out (by decide) (by decide))
  have HF2 := Lib.hid ((VF.of_below HB0.out).trans f2)
  have hone := pr_one p w2 _ gv hgr
  have hsz := pr_size p gv
  have hc1 : (prCells p gv)[1]? = some (.int .i64 1) := by
    have : (prCells p gv)[1]? = some (.int .i64 (p.st : Int)) := rfl
    rw [this, hr]
    rfl
  have HG := Lib.hid hgr
  have HE2 := Lib.hid h2
  clear HE HN h2 f2 HB0 hgr
  unfold prV at *
  obtain ⟨P, hP⟩ : ∃ P, P = prCells p gv := ⟨_, rfl⟩
  rw [← hP] at hsz hone hc1 ⊢
  have hi40 : (Tryz.prog.info? 40).map (·.size) = some P.size := by rw [hsz]; exact info40
  have HP := Lib.hid hP
  have HQ0 := Lib.hid (Blk.new w2 40 zPr)
  unfold zPr at HQ0
  clear hP
  go_upto_region 2 with (refine wpList_store_blk rfl 40 (.tmp 6) (.tmp 12) rfl w2.heap.size rfl _ rfl HQ0.out hsz hi40 hone ?_; intro w3 hk3 hf3)
  have HQ3 := Lib.hid hk3
  have hb3 : Below w2.heap.size w2 w3 := belowFr1 ((Below.refl _ _).alloc (Nat.le_refl _) _) hf3 (Nat.le_refl _) (Nat.le_refl _)
  have HE3 := Lib.hid (HE2.out.below hb3)
  have HN3 := Lib.hid (HN2.out.below hb3 HN2.out.lt)
  have HG3 := Lib.hid ((HG.out.below hb3).more hb3.size)
  have HF3 := Lib.hid (HF2.out.trans (VF.of_below hb3))
  have c1 := HQ3.out.cell 1
  rw [hc1] at c1
  clear hk3 hf3 hb3 HE2 HN2 HG HF2 HQ0
  go_wp2_with (first | refine wpList_load_blk rfl 40 (.tmp 6) rfl w2.heap.size rfl HQ3.out _ Tryz.underlying40 rfl hi40 ?_ | (refine wpList_store_blk rfl 40 (.tmp 4) (.tmp 22) rfl w.heap.size rfl _ rfl HN3.out hsz hi40 hone ?_; intro w5 hk5 hf5))
  exact end_cell_tmp rfl rfl hk5 Tryz.underlying40 rfl hi40 ⟨gv, by rw [HP.out]; rfl, ((HG3.out.fr hf5 HN3.out (by decide)).more hf5.size), HE3.out.fr1 hf5 HN3.out (by decide) (by decide) (by decide) HBw.out, HF3.out.own hf5 (Nat.le_refl _)⟩
end Go.Proofs.YtkoomlbnfhdhcaaGreatDoor

/-
  Walks: processes in a view: Start, change, Exit.
-/
namespace Go.Proofs.YtkoomlbnfhdhcaaGreatDoor
open Go.RowKit
set_option linter.unusedVariables false

theorem pr_set3 (p : Pr) (gv : Value) : (prCells p gv).setIfInBounds 3 (.int .i64 0) = prCells p gv := rfl
set_option maxRecDepth 100000 in
set_option maxHeartbeats 4000000 in
theorem start_any (w : World) (B C v n : Nat) (V : Val) (p : Pr) (gv : Value) (h : Env w B v V n) (hv : V (oP n1) = none) (he : V oE = none) (hp : PrOk p) (hr : p.st = 1) (hg : GrOk w C gv p.gs) (hC : C ≤ w.heap.size) (hgs : p.gs = [] ∨ p.gs = [1, 5]) (hn : n ≤ 100000) :
    Calls Tryz.prog 8 #[.pointer (some ⟨v, 0, none⟩), .string (strL n1), prV p gv] w fun e w' => e = .returned (.int .i64 0) ∧ Env w' B v (vupd V (oP n1) (prEnc p)) (n + 1) ∧ VF B w w' := by
  have hq : ∀ W, (binOp .eql 33 (.string (strL n1)) (.string ⟨#[]⟩)).run Tryz.prog W = .ok (.bool false) W := fun W => str_eql 33 n1 [] W
  have hz : (strL n1).toList.isEmpty = false := by unfold strL; rw [ByteArray.toList_mk]; rfl
  have hva := fun W => validW n1 (.inl rfl) W
  have hck := fun W (hg : GrOk W C gv p.gs) (hC : C ≤ W.heap.size) => prCheck_any W C p gv hp hg hC
  have hep := fun W (h : Env W B v V n) => epoch_any W B v n V h he
  have hof := fun W => ofProcess_any W n1
  have hha := fun W (h : Env W B v V n) => h.has (okP (.inl rfl)) hn
  rw [hv] at hha
  have hpu := fun W (h : Env W B v V n) (hg : GrOk W C gv p.gs) (hC : C ≤ W.heap.size) => put_any W B C v n V n1 p gv h (.inl rfl) hp hg hC hgs hn
  unfold oP at *
  obtain ⟨x, hx⟩ : ∃ x, x = obV ⟨1, n1, 0⟩ := ⟨_, rfl⟩
  rw [← hx] at hof hha
  clear hx
  obtain ⟨V', hV'⟩ : ∃ V', V' = vupd V ⟨1, n1, 0⟩ (prEnc p) := ⟨_, rfl⟩
  rw [← hV'] at hpu ⊢
  have hone := pr_one p w C gv hg
  have hsz := pr_size p gv
  have hs3 := pr_set3 p gv
  have hc1 : (prCells p gv)[1]? = some (.int .i64 1) := by
    have : (prCells p gv)[1]? = some (.int .i64 (p.st : Int)) := rfl
    rw [this, hr]
    rfl
  have HC := Lib.hid hC
  have HG := Lib.hid hg
  have HE := Lib.hid h
  have hBw := h.leB
  have HBw := Lib.hid hBw
  unfold prV at *
  have hc3 : (prCells p gv)[3]? = some (.int .i64 0) := rfl
  obtain ⟨P, hP⟩ : ∃ P, P = prCells p gv := ⟨_, rfl⟩
  rw [← hP] at hsz hone hc1 hc3 hck hpu hs3 ⊢
  have hi40 : (Tryz.prog.info? 40).map (·.size) = some P.size := by rw [hsz]; exact info40
  have HN := Lib.hid (Blk.new w 40 P)
  have HB0 := Lib.hid ((Below.refl w.heap.size w).alloc (Nat.le_refl _) (.cells P 40))
  clear hP hV' h hg hC hv hBw
  go_enter Tryz.func8, Tryz.ntmps8
  go_wp2_with fail
  refine (hva _).mono ?_
  rintro e w1 ⟨rfl, nb⟩
  have HN1 := Lib.hid (HN.out.below nb HN.out.lt)
  have HB1 := Lib.hid (HB0.out.trans (nb.mono HB0.out.size))
  clear HN HB0 nb
  go_wp2_with (refine wpList_load_blk rfl 40 (.tmp 5) rfl w.heap.size rfl HN1.out _ Tryz.underlying40 rfl hi40 ?_)
  refine (hck w1 (HG.out.below (HB1.out.mono HC.out)) (Nat.le_trans HC.out HB1.out.size)).mono ?_
  rintro e w2 ⟨rfl, nb⟩
  have HN2 := Lib.hid (HN1.out.below nb HN1.out.lt)
  have HB2 := Lib.hid (HB1.out.trans (nb.mono HB1.out.size))
  have c1 := HN2.out.cell 1
  rw [hc1] at c1
  clear HN1 HB1 nb
  go_wp2_with fail
  refine (hep w2 (HE.out.below HB2.out)).mono ?_
  rintro e w3 ⟨rfl, h3, f3⟩
  have HE3 := Lib.hid h3
  have HN3 := Lib.hid (f3.blk HN2.out (by decide) (by decide))
  have HG3 := Lib.hid ((HG.out.below (HB2.out.mono HC.out)).vfr f3)
  have HF3 := Lib.hid ((VF.of_below HB2.out).trans f3)
  clear h3 f3 HN2 HB2 HE HG c1
  go_wp2_with fail
  refine (hof w3).mono ?_
  rintro e w4 ⟨rfl, nb⟩
  have HE4 := Lib.hid (HE3.out.below nb)
  have HN4 := Lib.hid (HN3.out.below nb HN3.out.lt)
  have HG4 := Lib.hid (HG3.out.below (nb.mono (Nat.le_trans HC.out HF3.out.size)))
  have HF4 := Lib.hid (HF3.out.trans (VF.of_below nb))
  clear HE3 HN3 HG3 HF3 nb
  go_wp2_with fail
  refine (hha w4 HE4.out).mono ?_
  rintro e w5 ⟨rfl, h5, f5⟩
  have HE5 := Lib.hid h5
  have HN5 := Lib.hid (f5.blk HN4.out (by decide) (by decide))
  have HG5 := Lib.hid (HG4.out.vfr f5)
  have HF5 := Lib.hid (HF4.out.trans f5)
  have c3 := HN5.out.cell 3
  have k3 := HN5.out.frozen 3
  rw [hc3] at c3
  clear h5 f5 HE4 HN4 HG4 HF4
  dsimp only [Option.isSome_none]
  go_upto_region 16 with (fail)
  obtain ⟨w6, hw6⟩ : ∃ w6, w6 = w5.setCell ⟨w.heap.size, 3, none⟩ (.int .i64 0) := ⟨_, rfl⟩
  have hf6 : Fr [w.heap.size] w5 w6 := by rw [hw6]; exact (Fr.refl _ _).setCell (p := ⟨w.heap.size, 3, none⟩) (.inl (by simp)) _
  have HN6 : Hid (Blk w6 w.heap.size 40 P) := Lib.hid (by rw [hw6]; have := HN5.out.set_ 3 (.int .i64 0); rw [hs3] at this; exact this)
  have HE6 := Lib.hid (HE5.out.fr1 hf6 HN5.out (by decide) (by decide) (by decide) HBw.out)
  have HG6 := Lib.hid (HG5.out.fr hf6 HN5.out (by decide))
  have HF6 := Lib.hid (HF5.out.own hf6 (Nat.le_refl _))
  rw [← hw6]
  clear hw6 hf6 HN5 HE5 HG5 HF5 c3 k3
  go_wp2_with (refine wpList_load_blk rfl 40 (.tmp 5) rfl w.heap.size rfl HN6.out _ Tryz.underlying40 rfl hi40 ?_)
  refine (hpu w6 HE6.out HG6.out (Nat.le_trans HC.out HF6.out.size)).mono ?_
  rintro e w7 ⟨rfl, h7, f7⟩
  go_wp2_with fail
  go_ret
  exact ⟨rfl, h7, HF6.out.trans f7⟩
end Go.Proofs.YtkoomlbnfhdhcaaGreatDoor
