/-
  Words for the walk of a law's operation: a pair of a space and of the reference's space.
-/
import Derived.Test.YtbppafbdmdbdiaaMRc
import Derived.Test.YtbppafbdmdbdiaaMixE
namespace Go.Proofs.Ytbppafbdmdbdiaa
open Go.RowKit
set_option linter.unusedVariables false

def prL (g : Nat) (r : RS) : List Value := .pointer (some ⟨g, 0, none⟩) :: rsL r
/-- A block that holds a pair. -/
abbrev PB (w : World) (b g : Nat) (r : RS) : Prop := Blk w b 63 (prL g r).toArray
theorem setCells_tail {w : World} {b : Nat} {t : TypeId} {v : Value} {l : List Value} (h : Blk w b t (v :: l).toArray) (vs : List Value) (hl : vs.length = l.length) : Blk (w.setCells b 1 vs) b t (v :: vs).toArray ∧ Fr [b] w (w.setCells b 1 vs) := by
  have key : ∀ (vs : List Value) (o : Nat) (w : World) (cs : Array Value), Blk w b t cs → o + vs.length ≤ cs.size → ∃ cs', Blk (w.setCells b o vs) b t cs' ∧ Fr [b] w (w.setCells b o vs) ∧ cs'.toList = cs.toList.take o ++ vs ++ cs.toList.drop (o + vs.length) := by
    intro vs
    induction vs with
    | nil => intro o w cs h _; exact ⟨cs, h, Fr.refl _ _, by simp⟩
    | cons v vs ih =>
      intro o w cs h hl
      rw [List.length_cons] at hl
      have h2 := h.set_ o v
      obtain ⟨cs', g1, g2, g3⟩ := ih (o + 1) (w.setCell ⟨b, o, none⟩ v) (cs.setIfInBounds o v) h2 (by rw [Array.size_setIfInBounds]; omega)
      refine ⟨cs', g1, ((Fr.refl [b] w).setCell (p := ⟨b, o, none⟩) (.inl (by simp)) v).trans g2 (by simp), ?_⟩
      have hsz : cs.toList.length = cs.size := Array.length_toList
      rw [g3, Array.toList_setIfInBounds, List.length_cons]
      have e1 : (cs.toList.set o v).take (o + 1) = cs.toList.take o ++ [v] := by
        rw [List.take_succ_eq_append_getElem (by rw [List.length_set]; omega), List.take_set_of_le (Nat.le_refl _)]
        simp
      have e2 : (cs.toList.set o v).drop (o + 1 + vs.length) = cs.toList.drop (o + (vs.length + 1)) := by
        rw [List.drop_set_of_lt (by omega)]
        congr 1
        omega
      rw [e1, e2]
      simp
  obtain ⟨cs', g1, g2, g3⟩ := key vs 1 w _ h (by simp; omega)
  have : cs' = (v :: vs).toArray := Array.ext' (by rw [g3]; simp; omega)
  rw [← this]
  exact ⟨g1, g2⟩
section
variable {w w' : World} {b g : Nat} {r r0 : RS}
theorem PB.ptr (h : PB w b g r) : w.cell? ⟨b, 0, none⟩ = some (.pointer (some ⟨g, 0, none⟩)) := (h.cell _).trans rfl
theorem PB.range (h : PB w b g r) : w.rangeAt b 1 (rsL r) := fun j v hv => by
  rw [h.cell]
  show (prL g r).toArray[1 + j]? = _
  rw [List.getElem?_toArray, Nat.add_comm]
  exact hv
theorem PB.one (h : PB w b g r) (i : Nat) (v : Value) (hv : (rsL r)[i]? = some v) : w.cell? ⟨b, 1 + i, none⟩ = some v := h.range i v hv
theorem load_P {ops : Array Oper} {rest : List Oper} {op : Oper} {a : Act} {Q : Exit → Act → World → Prop} (h : PB w b g r) (hgd : op.guard = none) (x : Operand) (ho : op.op = .load 61 x)
    (hx : a.eval x = .pointer (some ⟨b, 1, none⟩)) (hk : wpList Try.prog ops Q rest (a.put op.dst (.agg (rsCells r))) w) : wpList Try.prog ops Q (op :: rest) a w :=
  wpList_load_mid hgd 61 x ho b 1 hx (rsL r) _ h.range Try.underlying61 rfl (by rw [rsL_length]; exact info61) hk
theorem pb_there (h : PB w b g r0) : w.there b 1 (rsCells r).size := by
  have hsz : (rsCells r).size = 321 := by show (rsL r).length = 321; exact rsL_length r
  intro j hj
  rw [hsz] at hj
  refine ⟨?_, ?_⟩
  · rw [h.cell]
    show ((prL g r0).toArray[1 + j]?).isSome = true
    rw [List.getElem?_toArray, List.getElem?_eq_getElem (by show 1 + j < (rsL r0).length + 1; rw [rsL_length]; omega)]
    rfl
  · exact h.frozen _
theorem store_P {ops : Array Oper} {rest : List Oper} {op : Oper} {a : Act} {Q : Exit → Act → World → Prop} (h : PB w b g r0) (hm : ∃ o, r.src = .map o) (hgd : op.guard = none) (x y : Operand) (ho : op.op = .store 61 x y)
    (hx : a.eval x = .pointer (some ⟨b, 1, none⟩)) (hy : a.eval y = .agg (rsCells r)) (hk : ∀ w', PB w' b g r → Fr [b] w w' → wpList Try.prog ops Q rest (a.put op.dst undef) w') : wpList Try.prog ops Q (op :: rest) a w := by
  have hsz : (rsCells r).size = 321 := by show (rsL r).length = 321; exact rsL_length r
  refine wpList_store_mid hgd 61 x y ho b 1 (rsCells r) hx hy (pb_there h) (by rw [hsz]; exact info61) (all_oneCell_toArray (SB.one r hm)) ?_
  obtain ⟨g1, g2⟩ := setCells_tail h (rsL r) (by rw [rsL_length, rsL_length])
  exact hk _ g1 g2
end
section
variable {ops : Array Oper} {Q : Exit → Act → World → Prop} {nl eff : List Nat} {S : World → Prop} {b g : Nat} {r : RS}
theorem mix_load_P {i : Nat} {rest : List (Nat × Oper)} {o : Oper} {a : Act} {w : World} (he : eff.contains i = false) (hw : Region.wanted o (yielded ops a.tmps) = true) (x : Operand) (ho : o.op = .load 61 x)
    (hx : a.eval x = .pointer (some ⟨b, 1, none⟩)) (hS : ∀ w', worldsOf S nl i w' → PB w' b g r) (h : wpMixS Try.prog ops Q nl eff S rest (a.put o.dst (.agg (rsCells r))) w) : wpMixS Try.prog ops Q nl eff S ((i, o) :: rest) a w :=
  wpMixS_row he hw 61 x ho b 1 hx (rsL r) _ (fun w' hw' => (hS w' hw').range) Try.underlying61 rfl (by rw [rsL_length]; exact info61) h
theorem mixE_load_P {E : (World → Prop) → Act → World → Prop} {i : Nat} {rest : List (Nat × Oper)} {o : Oper} {a : Act} {w : World} (he : eff.contains i = false) (hw : Region.wanted o (yielded ops a.tmps) = true) (x : Operand) (ho : o.op = .load 61 x)
    (hx : a.eval x = .pointer (some ⟨b, 1, none⟩)) (hS : ∀ w', worldsOf S nl i w' → PB w' b g r) (h : wpMixE Try.prog ops Q nl eff E S rest (a.put o.dst (.agg (rsCells r))) w) : wpMixE Try.prog ops Q nl eff E S ((i, o) :: rest) a w :=
  wpMixE_read he hw (fun w' hw' => by
    unfold execOp
    simp only [ho, hx, Instr.loadAt, Instr.sureAddr, Sem.run_bind, Sem.run_pure, Result.andThen_ok, run_loadVar_mid w' b 1 61 (rsL r) _ (hS w' hw').range Try.underlying61 rfl (by rw [rsL_length]; exact info61)]
    rfl) h
theorem wp_store_P {r0 : RS} {op : Oper} {a : Act} {w : World} {K : Act → World → Prop} (h : PB w b g r0) (hm : ∃ o, r.src = .map o) (x y : Operand) (ho : op.op = .store 61 x y)
    (hx : a.eval x = .pointer (some ⟨b, 1, none⟩)) (hy : a.eval y = .agg (rsCells r)) (hk : ∀ w', PB w' b g r → Fr [b] w w' → K (a.put op.dst undef) w') : op.wp Try.prog a w K Q := by
  have hsz : (rsCells r).size = 321 := by show (rsL r).length = 321; exact rsL_length r
  refine wp_store_mid 61 x y ho b 1 (rsCells r) hx hy (pb_there h) (by rw [hsz]; exact info61) (all_oneCell_toArray (SB.one r hm)) ?_
  obtain ⟨g1, g2⟩ := setCells_tail h (rsL r) (by rw [rsL_length, rsL_length])
  exact hk _ g1 g2
end

/-! ### What stays -/
/-- What stands for a source stays where a pair is written. -/
def PairOk (C : Source) : Prop := ∀ a w w' b cs, C.E a w → Blk w b 63 cs → Fr [b] w w' → C.E a w'
theorem pair_ok (box a pm cm root : Nat) (M : List (Int × Value)) : PairOk (askedSrc box a pm cm root M) := fun asked w w' b cs ⟨e1, e2, e3, c, e4, e5⟩ hb hf =>
  ⟨e1.fr hf (by have := e1.ne_ hb (by decide); simpa using this), e2.fr hf (by have := e2.ne_ hb (by decide); simpa using this),
    e3.fr hf (by have := e3.ne_blk hb; simpa using this), c, e4.fr hf (by have := e4.ne_blk hb; simpa using this), e5⟩
section
variable {C : Source} {B : Nat} {w w' W W' : World} {sps : Nat → Option Sp} {hm : Pages} {g b q : Nat} {s : Sp} {cs : Array Value} {a a' : AS} {r r' : RS} {m : Value} {o : Option (Nat → Option (List UInt8))}
theorem All.pair (h : All C B w sps hm) (hp : PairOk C) {cs : Array Value} (hb : Blk w b 63 cs) (hf : Fr [b] w w') : All C B w' sps hm :=
  ⟨⟨fun k x hx => ⟨(h.blk k x hx).1.fr hf (by have := (h.blk k x hx).1.ne_ hb (by decide); simpa using this), (h.blk k x hx).2⟩,
    fun q b sh hq => ⟨(h.mem q b sh hq).1, (h.mem q b sh hq).2.1.fr hf (by have := (h.mem q b sh hq).2.1.ne_ hb (by decide); simpa using this), (h.mem q b sh hq).2.2⟩, h.ref, h.own⟩,
    fun x hx => (h.env x hx).imp id fun e => ⟨e.1, hp _ _ _ _ _ e.2 hb hf⟩, h.nosrc, h.inv⟩
theorem view_ok (h : All C B w sps hm) (hg : sps g = some s) : AOk (view C hm s) where
  unk := fun p hp => by
    have := (h.inv g s hg p hp).2
    show pageOf hm (s.pg p) = none
    rw [this]
    rfl
  len := fun p l hl => by
    replace hl : pageOf hm (s.pg p) = some l := hl
    unfold pageOf at hl
    cases hp : s.pg p with
    | none => rw [hp] at hl; cases hl
    | some q =>
      rw [hp] at hl
      replace hl : (hm q).map (·.1) = some l := hl
      cases hq : hm q with
      | none => rw [hq] at hl; cases hl
      | some c =>
        rw [hq] at hl
        injection hl with hl
        obtain ⟨l', sh⟩ := c
        rw [← hl]
        exact (h.mem q l' sh hq).1
theorem SrcIs.mv {X : Nat → Prop} (h : SrcIs w m o) (hmv : Mv B X w w') (hx : ∀ pm, m = .map (some pm) → ¬ X pm) : SrcIs w' m o :=
  h.imp id fun ⟨pm, M, h1, h2, h3, h4⟩ => ⟨pm, M, h1, h2.keep (hmv.block pm h2.lt (.inr ⟨fun ⟨cs, t, fr, he, _⟩ => (by
    obtain ⟨_, es, clock, h1, _⟩ := h2
    rw [h1] at he
    cases he), hx pm h1⟩)), h3, h4⟩
theorem SrcIs.pair (h : SrcIs w m o) (hb : Blk w b 63 cs) (hf : Fr [b] w w') : SrcIs w' m o :=
  h.imp id fun ⟨pm, M, h1, h2, h3, h4⟩ => ⟨pm, M, h1, h2.fr hf (by have := h2.ne_blk hb; simpa using this), h3, h4⟩

/-- What a law's operation has of the world: the spaces, of which g looks like a; the pair b; the operation in q; the source that the reference holds. -/
structure DoI (C : Source) (B : Nat) (sps : Nat → Option Sp) (hm : Pages) (g b q : Nat) (cs : Array Value) (m : Value) (o : Option (Nat → Option (List UInt8))) (w : World) (a : AS) (r : RS) (W : World) : Prop where
  all : ∃ s' hm', All C B W (upd sps g (some s')) hm' ∧ view C hm' s' = a ∧ (∀ k x, k ≠ g → sps k = some x → view C hm' x = view C hm x)
  pair : PB W b g r
  op : Blk W q 45 cs
  src : SrcIs W m o
  mv : Mv B (fun k => C.X k ∨ k = b) w W
  xb : ¬ C.X b
  xq : ¬ C.X q
  xm : ∀ pm, m = .map (some pm) → ¬ C.X pm
  le : w.heap.size ≤ q
  lt : b < w.heap.size
  leB : B ≤ b
  leW : B ≤ w.heap.size
theorem DoI.below (h : DoI C B sps hm g b q cs m o w a r W) (ok : SourceOk C B) (hb : Below W.heap.size W W') : DoI C B sps hm g b q cs m o w a r W' :=
  { h with
    all := let ⟨s', hm', h1, h2, h3⟩ := h.all; ⟨s', hm', h1.below ok.keeps hb, h2, h3⟩
    pair := h.pair.below hb h.pair.lt
    op := h.op.below hb h.op.lt
    src := h.src.below hb
    mv := h.mv.trans (Mv.of_below hb) }
theorem DoI.drew (h : DoI C B sps hm g b q cs m o w a r W) (ok : SourceOk C B) : DoI C B sps hm g b q cs m o w a r W.drew := h.below ok (Below.refl _ _).drew
theorem DoI.put (h : DoI C B sps hm g b q cs m o w a r W) (hp : PairOk C) (hb : PB W' b g r') (hf : Fr [b] W W') : DoI C B sps hm g b q cs m o w a r' W' :=
  { h with
    all := let ⟨s', hm', h1, h2, h3⟩ := h.all; ⟨s', hm', h1.pair hp h.pair hf, h2, h3⟩
    pair := hb
    op := h.op.fr hf (by have := h.op.ne_ h.pair (by decide); simpa using this)
    src := h.src.pair h.pair hf
    mv := h.mv.trans (Mv.fr hf fun k hk => by rw [List.mem_singleton.1 hk]; exact ⟨h.leB, .inr (.inr rfl)⟩) }
theorem DoI.ne (h : DoI C B sps hm g b q cs m o w a r W) : q ≠ b := by have := h.le; have := h.lt; omega
theorem DoI.leWW (h : DoI C B sps hm g b q cs m o w a r W) : B ≤ W.heap.size := Nat.le_trans h.leW h.mv.size
/-- A call of one of the space's functions. -/
theorem DoI.call (h : DoI C B sps hm g b q cs m o w a r W) {fn : FuncId} {args : Array Value} {Ke : Ending → Prop}
    (hc : ∀ s1 hm1, All C B W (upd sps g (some s1)) hm1 → view C hm1 s1 = a → Calls Try.prog fn args W fun e w' => Stp C B (upd sps g (some s1)) hm1 g a' W w' (fun _ _ => Ke e)) :
    Calls Try.prog fn args W fun e w' => Ke e ∧ DoI C B sps hm g b q cs m o w a' r w' := by
  obtain ⟨s1, hm1, h1, h2, h3⟩ := h.all
  refine (hc s1 hm1 h1 h2).mono ?_
  rintro e w' ⟨s2, hm2, q1, q2, q3, q4, q5⟩
  refine ⟨q5, { h with all := ⟨s2, hm2, by rw [upd_upd] at q1; exact q1, q2, fun k x hk hx => ?_⟩, pair := q4.blk h.pair (by decide) (by decide) h.xb, op := q4.blk h.op (by decide) (by decide) h.xq, src := h.src.mv q4 h.xm, mv := h.mv.trans ?_ }⟩
  · rw [q3 k x hk (by rw [upd_ne _ _ _ _ hk]; exact hx)]
    exact h3 k x hk hx
  · exact ⟨q4.os, q4.tape, q4.output, q4.size, fun k hk hc => q4.block k hk (hc.imp id fun hc => ⟨hc.1, fun hx => hc.2 (.inl hx)⟩)⟩
/-- What a law's operation leaves. -/
def DoR (C : Source) (B : Nat) (sps : Nat → Option Sp) (hm : Pages) (g b : Nat) (m : Value) (o : Option (Nat → Option (List UInt8))) (a : AS) (r : RS) (w W : World) : Prop :=
  (∃ s' hm', All C B W (upd sps g (some s')) hm' ∧ view C hm' s' = a ∧ (∀ k x, k ≠ g → sps k = some x → view C hm' x = view C hm x)) ∧ PB W b g r ∧ SrcIs W m o ∧ Mv B (fun k => C.X k ∨ k = b) w W
theorem DoI.ret (h : DoI C B sps hm g b q cs m o w a r W) : DoR C B sps hm g b m o a r w W := ⟨h.all, h.pair, h.src, h.mv⟩
end
end Go.Proofs.Ytbppafbdmdbdiaa

/-
  The law's operation: Store, Map.
-/
namespace Go.Proofs.Ytbppafbdmdbdiaa
open Go.RowKit
set_option linter.unusedVariables false
section
variable {C : Source} {B : Nat} {w : World} {sps : Nat → Option Sp} {hm : Pages} {g b : Nat} {s : Sp} {m : Value} {r : AS}
/-- At most 200 bytes. -/
def cutT (t : ByteArray) : ByteArray := t.extract 0 (min t.size 200)
theorem cutT_size (t : ByteArray) : (cutT t).size ≤ 200 := by unfold cutT; rw [ByteArray.size_extract]; omega
structure DoP (C : Source) (B : Nat) (sps : Nat → Option Sp) (hm : Pages) (g b : Nat) (m : Value) (r : AS) (s : Sp) (w : World) : Prop where
  all : All C B w sps hm
  sp : sps g = some s
  pair : PB w b g (rsOf m r)
  leB : B ≤ b
  src : SrcIs w m r.src
  rok : AOk r
  xb : ¬ C.X b
  xm : ∀ pm, m = .map (some pm) → ¬ C.X pm
  leW : B ≤ w.heap.size
  xw : ∀ k, C.X k → k < w.heap.size
theorem DoP.init (P : DoP C B sps hm g b m r s w) (ok : SourceOk C B) (cs : Array Value) : DoI C B sps hm g b w.heap.size cs m r.src w (view C hm s) (rsOf m r) (w.alloc (.cells cs 45)) := by
  have hb : Below w.heap.size w (w.alloc (.cells cs 45)) := (Below.refl _ _).alloc (Nat.le_refl _) _
  refine ⟨⟨s, hm, ?_, rfl, fun _ _ _ _ => rfl⟩, P.pair.below hb P.pair.lt, Blk.new w 45 cs, P.src.below hb, Mv.of_below hb, P.xb, fun hx => by have := P.xw _ hx; omega, P.xm, Nat.le_refl _, P.pair.lt, P.leB, P.leW⟩
  rw [upd_same _ _ _ P.sp]
  exact P.all.below ok.keeps hb
set_option maxRecDepth 100000 in
set_option maxHeartbeats 8000000 in
theorem do1 (ok : SourceOk C B) (hp : PairOk C) (P : DoP C B sps hm g b m r s w) (kd wh x n : Int) (t : ByteArray) (hk1 : 0 ≤ kd) (hk2 : kd < 256) (hkd : kd % 11 = 1) (hx1 : -9223372036854775808 ≤ x) (hx2 : x ≤ 9223372036854775807) (hn1 : -9223372036854775808 ≤ n) (hn2 : n ≤ 9223372036854775807) (ht : t.size ≤ maxLen)
    (hag : (storeA (view C hm s) x (cutT t).data.toList).2 = (storeA r x (cutT t).data.toList).2) :
    Calls Try.prog 27 #[.pointer (some ⟨b, 0, none⟩), .agg #[.int .u8 kd, .int .u8 wh, .int .i64 x, .int .i64 n, .string t]] w fun e w' => e = .returned (.tuple #[.pointer none, .bool true]) ∧ DoR C B sps hm g b m r.src (storeA (view C hm s) x (cutT t).data.toList).1 (rsOf m (storeA r x (cutT t).data.toList).1) w w' := by
  unfold maxLen at ht
  have hcs : (cutT t).size ≤ 200 := cutT_size t
  have HREF := Lib.hid (fun W (hs : SrcIs W m r.src) => refStore_any W m r x (cutT t) (by omega) hx1 hx2 hs P.rok)
  have HAG := Lib.hid hag
  have HCS := Lib.hid hcs
  clear hag hcs
  have HI := Lib.hid (P.init ok #[.int .u8 kd, .int .u8 wh, .int .i64 x, .int .i64 n, .string t])
  have HC := Lib.hid P
  clear P
  obtain ⟨u, hu⟩ : ∃ u : Nat, u = min t.size 200 := ⟨_, rfl⟩
  have eu : (if (200 : Int) < (t.size : Int) then (200 : Int) else (t.size : Int)) = (u : Int) := by split <;> omega
  have eu2 : (u : Int) ≤ (t.size : Int) := by omega
  have eu3 : u ≤ t.size := by omega
  have HU := Lib.hid hu
  clear hu
  go_enter Try.func27, Try.ntmps27
  go_upto_region 12 with (fail)
  have HU2 := Lib.hid (show t.extract 0 u = cutT t by unfold cutT; rw [HU.out])
  generalize w.alloc (.cells #[.int .u8 kd, .int .u8 wh, .int .i64 x, .int .i64 n, .string t] 45) = W0 at *
  have HI1 := Lib.hid (HI.out.drew ok)
  have c0 : W0.drew.cell? ⟨b, 0, none⟩ = some (.pointer (some ⟨g, 0, none⟩)) := HI1.out.pair.ptr
  have c2 : W0.drew.cell? ⟨w.heap.size, 2, none⟩ = some (.int .i64 x) := HI1.out.op.cell 2
  have c3 : W0.drew.cell? ⟨w.heap.size, 3, none⟩ = some (.int .i64 n) := HI1.out.op.cell 3
  have HP := Lib.hid HI1.out.pair
  refine wp_region_mixL (fun W => W = W0.drew) [4, 6] [8, 14] [0, 1, 2, 3, 4, 5, 6, 7, 8, 9, 10, 11, 12, 13, 14, 15] (by kernel_rfl) (by kernel_rfl) rfl ?_
  simp only [inOrder, opAt]
  generalize W0.drew = Wk at *
  iterate 4
    (refine wpMixS_read (v := ?_) rfl rfl (fun w' hS => ?_) ?_
     rotate_left
     · ((try (have hE : w' = Wk := hS rfl; rw [hE])); (try clear hS); go_simp; (try with_reducible rfl))
     try simp only [Act.put, List.setIfInBounds_toArray, List.set_cons_zero, List.set_cons_succ])
  refine mix_load_P rfl rfl (.tmp 101) rfl rfl (fun w' hS => (by have hE : w' = Wk := hS rfl; rw [hE]; exact HP.out)) ?_
  try simp only [Act.put, List.setIfInBounds_toArray, List.set_cons_zero, List.set_cons_succ]
  iterate 3
    (refine wpMixS_read (v := ?_) rfl rfl (fun w' hS => ?_) ?_
     rotate_left
     · ((try (have hE : w' = Wk := hS rfl; rw [hE])); (try clear hS); go_simp; (try with_reducible rfl))
     try simp only [Act.put, List.setIfInBounds_toArray, List.set_cons_zero, List.set_cons_succ])
  refine wpMixS_eff rfl rfl (fun K hK => ?_)
  go_simp
  rw [HU2.out]
  refine (HREF.out Wk HI1.out.src).mono ?_
  rintro e w2 ⟨rfl, nb⟩
  have HI2 := Lib.hid (HI1.out.below ok nb)
  clear nb
  dsimp only
  refine hK.out _ _ _ (fun _ h => h) (fun h => by cases h) ?_
  clear hK K
  try simp only [Act.put, List.setIfInBounds_toArray, List.set_cons_zero, List.set_cons_succ]
  iterate 5
    (refine wpMixS_read (v := ?_) rfl rfl (fun w' hS => ?_) ?_
     rotate_left
     · ((try (have hE : w' = Wk := hS rfl; rw [hE])); (try clear hS); go_simp; (try with_reducible rfl))
     try simp only [Act.put, List.setIfInBounds_toArray, List.set_cons_zero, List.set_cons_succ])
  refine wpMixS_eff rfl rfl (fun K hK => ?_)
  refine wp_store_P HI2.out.pair (rsOf_map _ HC.out.src.map) (.tmp 110) (.tmp 107) rfl rfl rfl ?_
  intro w3 hw3 hf3
  have HI3 := Lib.hid (HI2.out.put hp hw3 hf3)
  clear hw3 hf3
  refine hK.out _ _ _ (fun _ h => h) (fun h => by cases h) ?_
  clear hK K
  try simp only [Act.put]
  iterate 1
    (refine wpMixS_read (v := ?_) rfl rfl (fun w' hS => ?_) ?_
     rotate_left
     · ((try (have hE : w' = Wk := hS rfl; rw [hE])); (try clear hS); go_simp; (try with_reducible rfl))
     try simp only [Act.put, List.setIfInBounds_toArray, List.set_cons_zero, List.set_cons_succ])
  refine wpMixS_nil ?_
  go_wp2_with fail
  clear c0 c2 c3 HP HI1
  have HI4 := Lib.hid (HI3.out.drew ok)
  have c0 : w3.drew.cell? ⟨b, 0, none⟩ = some (.pointer (some ⟨g, 0, none⟩)) := HI4.out.pair.ptr
  have c2 : w3.drew.cell? ⟨w.heap.size, 2, none⟩ = some (.int .i64 x) := HI4.out.op.cell 2
  have c3 : w3.drew.cell? ⟨w.heap.size, 3, none⟩ = some (.int .i64 n) := HI4.out.op.cell 3
  refine wp_region_mixL (fun W => W = w3.drew) [3, 5] [7] [0, 1, 2, 3, 4, 5, 6, 8, 7, 9, 10, 11] (by kernel_rfl) (by kernel_rfl) rfl ?_
  simp only [inOrder, opAt]
  generalize w3.drew = Wk at *
  iterate 8
    (refine wpMixS_read (v := ?_) rfl rfl (fun w' hS => ?_) ?_
     rotate_left
     · ((try (have hE : w' = Wk := hS rfl; rw [hE])); (try clear hS); go_simp; (try with_reducible rfl))
     try simp only [Act.put, List.setIfInBounds_toArray, List.set_cons_zero, List.set_cons_succ])
  refine wpMixS_eff rfl rfl (fun K hK => ?_)
  go_simp
  refine (HI4.out.call (a' := (storeA (view C hm s) x (cutT t).data.toList).1) (Ke := fun e => e = .returned (.int .i64 (storeA (view C hm s) x (cutT t).data.toList).2)) (fun s1 hm1 h1 hv => (by rw [← hv]; exact (store_all ok h1 (upd_at _ _ _) x (cutT t) (by have := HCS.out; omega) hx1 hx2 HI4.out.leWW)))).mono ?_
  rintro e w5 ⟨rfl, hi5⟩
  have HI5 := Lib.hid hi5
  clear hi5
  dsimp only
  refine hK.out _ _ _ (fun _ h => h) (fun h => by cases h) ?_
  clear hK K
  try simp only [Act.put, List.setIfInBounds_toArray, List.set_cons_zero, List.set_cons_succ]
  iterate 3
    (refine wpMixS_read (v := ?_) rfl rfl (fun w' hS => ?_) ?_
     rotate_left
     · ((try (have hE : w' = Wk := hS rfl; rw [hE])); (try clear hS); go_simp; (try with_reducible rfl))
     try simp only [Act.put, List.setIfInBounds_toArray, List.set_cons_zero, List.set_cons_succ])
  refine wpMixS_nil ?_
  go_wp2_with fail
  go_ret2
  exact ⟨by rw [HAG.out]; simp, HI5.out.ret⟩
set_option maxRecDepth 100000 in
set_option maxHeartbeats 8000000 in
theorem do5 (ok : SourceOk C B) (hp : PairOk C) (P : DoP C B sps hm g b m r s w) (kd wh x n : Int) (t : ByteArray) (hk1 : 0 ≤ kd) (hk2 : kd < 256) (hkd : kd % 11 = 5) (hx1 : -9223372036854775808 ≤ x) (hx2 : x ≤ 9223372036854775807) (hn1 : -9223372036854775808 ≤ n) (hn2 : n ≤ 9223372036854775807) (ht : t.size ≤ maxLen)
    (hag : (mapA (view C hm s) x (cutT t).data.toList).2 = (mapA r x (cutT t).data.toList).2) :
    Calls Try.prog 27 #[.pointer (some ⟨b, 0, none⟩), .agg #[.int .u8 kd, .int .u8 wh, .int .i64 x, .int .i64 n, .string t]] w fun e w' => e = .returned (.tuple #[.pointer none, .bool true]) ∧ DoR C B sps hm g b m r.src (mapA (view C hm s) x (cutT t).data.toList).1 (rsOf m (mapA r x (cutT t).data.toList).1) w w' := by
  unfold maxLen at ht
  have hcs : (cutT t).size ≤ 200 := cutT_size t
  have HREF := Lib.hid (fun W (hs : SrcIs W m r.src) => refMap_any W m r x (cutT t) (by omega) hs P.rok)
  have HAG := Lib.hid hag
  have HCS := Lib.hid hcs
  clear hag hcs
  have HI := Lib.hid (P.init ok #[.int .u8 kd, .int .u8 wh, .int .i64 x, .int .i64 n, .string t])
  have HC := Lib.hid P
  clear P
  obtain ⟨u, hu⟩ : ∃ u : Nat, u = min t.size 200 := ⟨_, rfl⟩
  have eu : (if (200 : Int) < (t.size : Int) then (200 : Int) else (t.size : Int)) = (u : Int) := by split <;> omega
  have eu2 : (u : Int) ≤ (t.size : Int) := by omega
  have eu3 : u ≤ t.size := by omega
  have HU := Lib.hid hu
  clear hu
  go_enter Try.func27, Try.ntmps27
  go_upto_region 36 with (fail)
  have HU2 := Lib.hid (show t.extract 0 u = cutT t by unfold cutT; rw [HU.out])
  generalize w.alloc (.cells #[.int .u8 kd, .int .u8 wh, .int .i64 x, .int .i64 n, .string t] 45) = W0 at *
  have HI1 := Lib.hid (HI.out.drew ok)
  have c0 : W0.drew.cell? ⟨b, 0, none⟩ = some (.pointer (some ⟨g, 0, none⟩)) := HI1.out.pair.ptr
  have c2 : W0.drew.cell? ⟨w.heap.size, 2, none⟩ = some (.int .i64 x) := HI1.out.op.cell 2
  have c3 : W0.drew.cell? ⟨w.heap.size, 3, none⟩ = some (.int .i64 n) := HI1.out.op.cell 3
  have HP := Lib.hid HI1.out.pair
  refine wp_region_mixL (fun W => W = W0.drew) [4, 6] [8, 14] [0, 1, 2, 3, 4, 5, 6, 7, 8, 9, 10, 11, 12, 13, 14, 15] (by kernel_rfl) (by kernel_rfl) rfl ?_
  simp only [inOrder, opAt]
  generalize W0.drew = Wk at *
  iterate 4
    (refine wpMixS_read (v := ?_) rfl rfl (fun w' hS => ?_) ?_
     rotate_left
     · ((try (have hE : w' = Wk := hS rfl; rw [hE])); (try clear hS); go_simp; (try with_reducible rfl))
     try simp only [Act.put, List.setIfInBounds_toArray, List.set_cons_zero, List.set_cons_succ])
  refine mix_load_P rfl rfl (.tmp 260) rfl rfl (fun w' hS => (by have hE : w' = Wk := hS rfl; rw [hE]; exact HP.out)) ?_
  try simp only [Act.put, List.setIfInBounds_toArray, List.set_cons_zero, List.set_cons_succ]
  iterate 3
    (refine wpMixS_read (v := ?_) rfl rfl (fun w' hS => ?_) ?_
     rotate_left
     · ((try (have hE : w' = Wk := hS rfl; rw [hE])); (try clear hS); go_simp; (try with_reducible rfl))
     try simp only [Act.put, List.setIfInBounds_toArray, List.set_cons_zero, List.set_cons_succ])
  refine wpMixS_eff rfl rfl (fun K hK => ?_)
  go_simp
  rw [HU2.out]
  refine (HREF.out Wk HI1.out.src).mono ?_
  rintro e w2 ⟨rfl, nb⟩
  have HI2 := Lib.hid (HI1.out.below ok nb)
  clear nb
  dsimp only
  refine hK.out _ _ _ (fun _ h => h) (fun h => by cases h) ?_
  clear hK K
  try simp only [Act.put, List.setIfInBounds_toArray, List.set_cons_zero, List.set_cons_succ]
  iterate 5
    (refine wpMixS_read (v := ?_) rfl rfl (fun w' hS => ?_) ?_
     rotate_left
     · ((try (have hE : w' = Wk := hS rfl; rw [hE])); (try clear hS); go_simp; (try with_reducible rfl))
     try simp only [Act.put, List.setIfInBounds_toArray, List.set_cons_zero, List.set_cons_succ])
  refine wpMixS_eff rfl rfl (fun K hK => ?_)
  refine wp_store_P HI2.out.pair (rsOf_map _ HC.out.src.map) (.tmp 269) (.tmp 266) rfl rfl rfl ?_
  intro w3 hw3 hf3
  have HI3 := Lib.hid (HI2.out.put hp hw3 hf3)
  clear hw3 hf3
  refine hK.out _ _ _ (fun _ h => h) (fun h => by cases h) ?_
  clear hK K
  try simp only [Act.put]
  iterate 1
    (refine wpMixS_read (v := ?_) rfl rfl (fun w' hS => ?_) ?_
     rotate_left
     · ((try (have hE : w' = Wk := hS rfl; rw [hE])); (try clear hS); go_simp; (try with_reducible rfl))
     try simp only [Act.put, List.setIfInBounds_toArray, List.set_cons_zero, List.set_cons_succ])
  refine wpMixS_nil ?_
  go_wp2_with fail
  clear c0 c2 c3 HP HI1
  have HI4 := Lib.hid (HI3.out.drew ok)
  have c0 : w3.drew.cell? ⟨b, 0, none⟩ = some (.pointer (some ⟨g, 0, none⟩)) := HI4.out.pair.ptr
  have c2 : w3.drew.cell? ⟨w.heap.size, 2, none⟩ = some (.int .i64 x) := HI4.out.op.cell 2
  have c3 : w3.drew.cell? ⟨w.heap.size, 3, none⟩ = some (.int .i64 n) := HI4.out.op.cell 3
  refine wp_region_mixL (fun W => W = w3.drew) [3, 5] [7] [0, 1, 2, 3, 4, 5, 6, 8, 7, 9, 10, 11] (by kernel_rfl) (by kernel_rfl) rfl ?_
  simp only [inOrder, opAt]
  generalize w3.drew = Wk at *
  iterate 8
    (refine wpMixS_read (v := ?_) rfl rfl (fun w' hS => ?_) ?_
     rotate_left
     · ((try (have hE : w' = Wk := hS rfl; rw [hE])); (try clear hS); go_simp; (try with_reducible rfl))
     try simp only [Act.put, List.setIfInBounds_toArray, List.set_cons_zero, List.set_cons_succ])
  refine wpMixS_eff rfl rfl (fun K hK => ?_)
  go_simp
  refine (HI4.out.call (a' := (mapA (view C hm s) x (cutT t).data.toList).1) (Ke := fun e => e = .returned (.int .i64 (mapA (view C hm s) x (cutT t).data.toList).2)) (fun s1 hm1 h1 hv => (by rw [← hv]; exact (map_all ok h1 (upd_at _ _ _) x (cutT t) (by have := HCS.out; omega) HI4.out.leWW)))).mono ?_
  rintro e w5 ⟨rfl, hi5⟩
  have HI5 := Lib.hid hi5
  clear hi5
  dsimp only
  refine hK.out _ _ _ (fun _ h => h) (fun h => by cases h) ?_
  clear hK K
  try simp only [Act.put, List.setIfInBounds_toArray, List.set_cons_zero, List.set_cons_succ]
  iterate 3
    (refine wpMixS_read (v := ?_) rfl rfl (fun w' hS => ?_) ?_
     rotate_left
     · ((try (have hE : w' = Wk := hS rfl; rw [hE])); (try clear hS); go_simp; (try with_reducible rfl))
     try simp only [Act.put, List.setIfInBounds_toArray, List.set_cons_zero, List.set_cons_succ])
  refine wpMixS_nil ?_
  go_wp2_with fail
  go_ret2
  exact ⟨by rw [HAG.out]; simp, HI5.out.ret⟩
end
end Go.Proofs.Ytbppafbdmdbdiaa
