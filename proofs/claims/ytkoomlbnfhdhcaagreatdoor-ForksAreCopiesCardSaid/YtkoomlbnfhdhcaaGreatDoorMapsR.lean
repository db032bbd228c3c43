/-
  Maps told as lists of pairs: deleting, ranging.
-/
import Derived.Test.YtkoomlbnfhdhcaaGreatDoorMaps
import Derived.Maps.Range
namespace Go.Proofs.YtkoomlbnfhdhcaaGreatDoor
open Go.RowKit
set_option linter.unusedVariables false

section
variable {κ : Type}
/-- A deletion. -/
def mdel [DecidableEq κ] (x : κ) (m : List (κ × Value)) : List (κ × Value) := match lookAt x m 0 with
  | none => m
  | some (j, _) => m.eraseIdx j
theorem mget_append_not [DecidableEq κ] (y : κ) : ∀ (a b : List (κ × Value)), y ∉ a.map (·.1) → mget (a ++ b) y = mget b y
  | [], b, _ => rfl
  | p :: a, b, h => by
    simp only [List.map_cons, List.mem_cons, not_or] at h
    rw [List.cons_append, mget_cons, if_neg h.1, mget_append_not y a b h.2]
theorem mget_none [DecidableEq κ] (y : κ) (m : List (κ × Value)) (h : y ∉ m.map (·.1)) : mget m y = none := by
  have := mget_append_not y m [] h
  rw [List.append_nil] at this
  exact this
theorem lookAt_none_not [DecidableEq κ] (x : κ) : ∀ (m : List (κ × Value)) (i : Nat), lookAt x m i = none → x ∉ m.map (·.1)
  | [], _, _ => by simp
  | p :: m, i, h => by
    unfold lookAt at h
    split at h
    · cases h
    · rename_i hne
      simp only [List.map_cons, List.mem_cons, not_or]
      exact ⟨hne, lookAt_none_not x m (i + 1) h⟩
theorem mget_mdel [DecidableEq κ] (x y : κ) (m : List (κ × Value)) (hd : (m.map (·.1)).Nodup) : mget (mdel x m) y = if y = x then none else mget m y := by
  unfold mdel
  cases hl : lookAt x m 0 with
  | none =>
    by_cases e : y = x
    · rw [if_pos e, e]
      exact mget_none x m (lookAt_none_not x m 0 hl)
    · rw [if_neg e]
  | some q =>
    obtain ⟨j, v⟩ := q
    obtain ⟨_, hj⟩ := lookAt_get x m 0 j v hl
    rw [Nat.sub_zero] at hj
    have hjl : j < m.length := (List.getElem?_eq_some_iff.1 hj).1
    have hm : m = m.take j ++ (x, v) :: m.drop (j + 1) := by
      have h1 := List.take_append_drop j m
      rw [List.drop_eq_getElem_cons hjl] at h1
      rw [← (List.getElem?_eq_some_iff.1 hj).2]
      exact h1.symm
    have he : m.eraseIdx j = m.take j ++ m.drop (j + 1) := List.eraseIdx_eq_take_drop_succ m j
    show mget (m.eraseIdx j) y = _
    rw [he]
    have hd2 := hd
    rw [hm, List.map_append, List.map_cons, List.nodup_append] at hd2
    obtain ⟨d1, d2, d3⟩ := hd2
    have d2' := List.nodup_cons.1 d2
    by_cases e : y = x
    · rw [if_pos e, e]
      refine mget_none x _ ?_
      rw [List.map_append, List.mem_append, not_or]
      exact ⟨fun hx => d3 x hx x (by simp) rfl, d2'.1⟩
    · rw [if_neg e]
      conv => rhs; rw [hm]
      by_cases hy : y ∈ (m.take j).map (·.1)
      · have key : ∀ (a b c : List (κ × Value)), y ∈ a.map (·.1) → mget (a ++ b) y = mget (a ++ c) y := by
          intro a
          induction a with
          | nil => intro b c h; simp at h
          | cons p a ih =>
            intro b c h
            rw [List.cons_append, List.cons_append, mget_cons, mget_cons]
            by_cases e2 : y = p.1
            · rw [if_pos e2, if_pos e2]
            · rw [if_neg e2, if_neg e2]
              simp only [List.map_cons, List.mem_cons] at h
              exact ih b c (h.resolve_left e2)
        exact key _ _ _ hy
      · rw [mget_append_not y _ _ hy, mget_append_not y _ _ hy, mget_cons, if_neg e]
theorem mdel_sub [DecidableEq κ] (x : κ) (m : List (κ × Value)) : (mdel x m).Sublist m := by
  unfold mdel
  split
  · exact List.Sublist.refl _
  · exact List.eraseIdx_sublist _ _

section
variable {enc : κ → Value} {C : κ → Prop} {w w' : World} {r b : Nat} {m : List (κ × Value)} {P : Program} {k e t : TypeId}
theorem stamp_erase {es : Array MapEntry} {clock j : Nat} (h : StampOk es clock) : StampOk (es.eraseIdxIfInBounds j) clock := by
  have hsub : ((es.eraseIdxIfInBounds j).toList).Sublist es.toList := by
    unfold Array.eraseIdxIfInBounds
    split
    · simp only [Array.toList_eraseIdx]
      exact List.eraseIdx_sublist _ _
    · exact List.Sublist.refl _
  exact ⟨fun x hx => h.1 x (hsub.subset hx), (hsub.map _).nodup h.2⟩
theorem run_delete_map [DecidableEq κ] (K : KeyOk P k enc C) (ht : P.underlying t = some (.map k e)) (h : MapIs enc C w r m) (x : κ) (hx : C x) (ty : TypeId) :
    ∃ w', (Builtin.delete_ #[t, k] ty #[.map (some r), enc x]).run P w = .ok (.tuple #[]) w' ∧ MapIs enc C w' r (mdel x m) ∧ Fr [r] w w' := by
  have hr : r < w.heap.size := h.lt
  obtain ⟨h0, es, clock, h1, h2, hst⟩ := h
  have hg := run_getObj_map (P := P) w r es clock h1
  have hset : ∀ o : Obj, Fr [r] w { w with heap := w.heap.setIfInBounds r o } := fun o =>
    ⟨rfl, rfl, rfl, by simp, fun k _ hn => by
      have : r ≠ k := fun e => hn (by simp [e])
      simp [this]⟩
  have hrs : ∀ o : Obj, (setObj r o).run P w = .ok () { w with heap := w.heap.setIfInBounds r o } := fun o => by simp [setObj, Sem.run, h1]
  have hlen : es.toList.length = m.length := by have := congrArg List.length h2; simpa using this
  have hsub := mdel_sub x m
  have h0' : (∀ p ∈ mdel x m, C p.1) ∧ ((mdel x m).map (·.1)).Nodup := ⟨fun p hp => h0.1 p (hsub.subset hp), (hsub.map _).nodup h0.2⟩
  cases hl : lookAt x m 0 with
  | none =>
    refine ⟨{ w with heap := w.heap.setIfInBounds r (.map es clock) }, ?_, ⟨h0', es, clock, by simp [hr], ?_, hst⟩, hset _⟩
    · simp [Builtin.delete_, run_underlying ht, hg, K.chk x hx, K.find x hx es.toList m w h0.1 h0.2 h2, hl, hrs]
    · unfold mdel
      rw [hl]
      exact h2
  | some q =>
    obtain ⟨j, v⟩ := q
    obtain ⟨_, hj⟩ := lookAt_get x m 0 j v hl
    rw [Nat.sub_zero] at hj
    have hjl : j < es.size := by
      have := (List.getElem?_eq_some_iff.1 hj).1
      rw [← Array.length_toList, hlen]
      exact this
    refine ⟨{ w with heap := w.heap.setIfInBounds r (.map (es.eraseIdxIfInBounds j) clock) }, ?_, ⟨h0', es.eraseIdxIfInBounds j, clock, by simp [hr], ?_, stamp_erase hst⟩, hset _⟩
    · simp [Builtin.delete_, run_underlying ht, hg, K.chk x hx, K.find x hx es.toList m w h0.1 h0.2 h2, hl, hrs]
    · unfold mdel
      rw [hl]
      have e1 : (es.eraseIdxIfInBounds j).toList = es.toList.eraseIdx j := by
        unfold Array.eraseIdxIfInBounds
        rw [dif_pos hjl]
        simp
      show _ = (m.eraseIdx j).map _
      have key : ∀ {α β : Type} (f : α → β) (l : List α) (n : Nat), (l.eraseIdx n).map f = (l.map f).eraseIdx n := by
        intro α β f l
        induction l with
        | nil => intro n; rfl
        | cons a l ih => intro n; cases n <;> simp [ih]
      rw [e1, key, key, h2]

/-- Block r is an iterator over the map in b; left: which keys are still to come. -/
def Rng (enc : κ → Value) (C : κ → Prop) (w : World) (b r : Nat) (m : List (κ × Value)) (left : κ → Bool) (cnt : Nat) : Prop :=
  ((∀ p ∈ m, C p.1) ∧ (m.map (·.1)).Nodup) ∧ ∃ es clock since seen c0, w.heap[b]? = some (.map es clock) ∧ es.toList.map (fun e => (e.key, e.val)) = m.map (fun p => (enc p.1, p.2)) ∧ StampOk es clock ∧
    w.heap[r]? = some (.mapIter (some b) since seen c0) ∧ (∀ x ∈ es.toList, x.born < since) ∧ (leftOf es seen).size = cnt ∧
    (∀ (i : Nat) (p : κ × Value) (x : MapEntry), m[i]? = some p → es.toList[i]? = some x → left p.1 = !seen.contains x.born) ∧ since ≤ c0 ∧ since ≤ clock
theorem Rng.mi {left : κ → Bool} {cnt : Nat} (h : Rng enc C w b r m left cnt) : MapIs enc C w b m := by
  obtain ⟨h0, es, clock, _, _, _, hb, h2, hst, _⟩ := h
  exact ⟨h0, es, clock, hb, h2, hst⟩
theorem Rng.iter {left : κ → Bool} {cnt : Nat} (h : Rng enc C w b r m left cnt) : ∃ since seen c0, w.heap[r]? = some (.mapIter (some b) since seen c0) := by
  obtain ⟨_, _, _, since, seen, c0, _, _, _, hr, _⟩ := h
  exact ⟨since, seen, c0, hr⟩
theorem Rng.lt {left : κ → Bool} {cnt : Nat} (h : Rng enc C w b r m left cnt) : r < w.heap.size := by
  obtain ⟨_, _, _, hr⟩ := h.iter
  exact (Array.getElem?_eq_some_iff.1 hr).1
theorem Rng.left_eq {left : κ → Bool} {cnt : Nat} (h : Rng enc C w b r m left cnt) : w.rangeLeft b r = cnt := by
  obtain ⟨_, es, clock, since, seen, c0, hb, _, _, hr, _, hc, _⟩ := h
  simp only [World.rangeLeft, hb, hr]
  exact hc
theorem Rng.keep {left : κ → Bool} {cnt : Nat} (h : Rng enc C w b r m left cnt) (k1 : w'.heap[b]? = w.heap[b]?) (k2 : w'.heap[r]? = w.heap[r]?) : Rng enc C w' b r m left cnt := by
  obtain ⟨h0, es, clock, since, seen, c0, hb, h2, hst, hr, rest⟩ := h
  exact ⟨h0, es, clock, since, seen, c0, k1.trans hb, h2, hst, k2.trans hr, rest⟩
theorem Rng.fr {L : List Nat} {left : κ → Bool} {cnt : Nat} (h : Rng enc C w b r m left cnt) (hf : Fr L w w') (h1 : b ∉ L) (h2 : r ∉ L) : Rng enc C w' b r m left cnt :=
  h.keep (hf.block b h.mi.lt h1) (hf.block r h.lt h2)
theorem Rng.alloc {left : κ → Bool} {cnt : Nat} (h : Rng enc C w b r m left cnt) (o : Obj) : Rng enc C (w.alloc o) b r m left cnt :=
  h.keep (Below.heap_alloc w o b h.mi.lt) (Below.heap_alloc w o r h.lt)
/-- What begins. -/
theorem MapIs.range_ [DecidableEq κ] (h : MapIs enc C w b m) (ht : P.underlying t = some (.map k e)) :
    ∃ w' left, (Instr.range t (.map (some b))).run P w = .ok (.pointer (some ⟨w.heap.size, 0, none⟩)) w' ∧ Rng enc C w' b w.heap.size m left m.length ∧ (∀ p ∈ m, left p.1 = true) ∧ Below w.heap.size w w' ∧ w'.heap.size = w.heap.size + 1 := by
  have hlt := h.lt
  obtain ⟨h0, es, clock, hb, h2, hst⟩ := h
  have hlen : es.size = m.length := by have := congrArg List.length h2; simpa using this
  refine ⟨_, fun _ => true, run_range_map w t k e b es clock ht hb, ⟨h0, es, clock, clock, #[], clock, ((MapKept.heap_alloc w _).2 b hlt).trans hb, h2, hst, (MapKept.heap_alloc w _).1, hst.1, ?_, ?_, Nat.le_refl _, Nat.le_refl _⟩, fun _ _ => rfl, (Below.refl _ _).alloc (Nat.le_refl _) _, by simp⟩
  · have e1 : es.filter (fun e => !(#[] : Array Nat).contains e.born) = es := Array.filter_eq_self.2 (fun x _ => by simp)
    unfold leftOf
    rw [e1, hlen]
  · intro i p x _ _
    simp
/-- A step. -/
theorem Rng.next [DecidableEq κ] {left : κ → Bool} {cnt : Nat} (hinj : ∀ x y, C x → C y → enc x = enc y → x = y) (h : Rng enc C w b r m left cnt) (ty : TypeId) :
    (cnt = 0 ∧ (∀ p ∈ m, left p.1 = false) ∧ (Instr.next (.pointer (some ⟨r, 0, none⟩)) false ty).run P w = .ok (.tuple #[.bool false]) w) ∨
    ∃ p w' cnt', p ∈ m ∧ left p.1 = true ∧ (Instr.next (.pointer (some ⟨r, 0, none⟩)) false ty).run P w = .ok (.tuple #[.bool true, enc p.1, p.2]) w' ∧
      Rng enc C w' b r m (fun x => left x && !decide (x = p.1)) cnt' ∧ cnt' < cnt ∧ Fr [r] w w' ∧ (Instr.entry (.pointer (some ⟨r, 0, none⟩))).run P w' = .ok (.tuple #[enc p.1, p.2]) w' := by
  obtain ⟨h0, es, clock, since, seen, c0, hb, h2, hst, hr, hold, rfl, hl, hsc, hsk⟩ := h
  have hne : r ≠ b := by
    intro e
    rw [e, hb] at hr
    cases hr
  have hlen : es.toList.length = m.length := by have := congrArg List.length h2; simpa using this
  have hat : ∀ (i : Nat) (p : κ × Value) (x : MapEntry), m[i]? = some p → es.toList[i]? = some x → x.key = enc p.1 ∧ x.val = p.2 := fun i p x hp hx => by
    have h3 := congrArg (fun l => l[i]?) h2
    simp only [List.getElem?_map, hp, hx, Option.map_some, Option.some.injEq, Prod.mk.injEq] at h3
    exact h3
  rcases run_next_at (P := P) w ty r b since c0 seen es clock hr hb hold hsc with ⟨hz, hrun⟩ | ⟨x, hx, w1, hal, hrun⟩
  · refine .inl ⟨hz, fun p hp => ?_, hrun⟩
    obtain ⟨i, hi⟩ := List.mem_iff_getElem?.1 hp
    have hil : i < es.toList.length := by rw [hlen]; exact (List.getElem?_eq_some_iff.1 hi).1
    rw [hl i p es.toList[i] hi (List.getElem?_eq_getElem hil), all_seen es seen hz _ (List.getElem_mem hil)]
    rfl
  · obtain ⟨hxm, hxs⟩ := mem_left hx
    obtain ⟨j, hj⟩ := List.mem_iff_getElem?.1 hxm
    have hjl : j < m.length := by rw [← hlen]; exact (List.getElem?_eq_some_iff.1 hj).1
    have hmj : m[j]? = some m[j] := List.getElem?_eq_getElem hjl
    obtain ⟨hk, hv⟩ := hat j _ x hmj hj
    have hr1 : w1.heap[r]? = some (.mapIter (some b) since seen c0) := by rcases hal with rfl | rfl <;> exact hr
    have hb1 : w1.heap[b]? = some (.map es clock) := by rcases hal with rfl | rfl <;> exact hb
    have hset := MapKept.heap_set (o' := .mapIter (some b) since (seen.push x.born) clock) hr1
    have hr' : (ChangeMaps.setBlock w1 r (.mapIter (some b) since (seen.push x.born) clock)).heap[r]? = some (.mapIter (some b) since (seen.push x.born) clock) := hset.1
    have hb' : (ChangeMaps.setBlock w1 r (.mapIter (some b) since (seen.push x.born) clock)).heap[b]? = some (.map es clock) := (hset.2 b (fun e1 => hne e1.symm)).trans hb1
    rw [hk, hv] at hrun
    have hen := run_entry_at (P := P) _ r b since seen es clock x hr' hb' hxm hst.2
    rw [hk, hv] at hen
    refine .inr ⟨m[j], _, _, List.getElem_mem hjl, by rw [hl j _ x hmj hj, hxs]; rfl, hrun, ⟨h0, es, clock, since, seen.push x.born, clock, hb', h2, hst, hr', hold, rfl, fun i p y hp hy => ?_, hsk, hsk⟩, left_shrinks es seen x hx, ?_, hen⟩
    · show (left p.1 && !decide (p.1 = (m[j]).1)) = _
      rw [hl i p y hp hy, contains_push]
      have hym := List.mem_of_getElem? hy
      by_cases e1 : p.1 = (m[j]).1
      · have hij : i = j := by
          have hil : i < (m.map (·.1)).length := by rw [List.length_map]; exact (List.getElem?_eq_some_iff.1 hp).1
          refine (List.getElem?_inj hil h0.2).1 ?_
          rw [List.getElem?_map, List.getElem?_map, hp, hmj]
          simp [e1]
        subst hij
        rw [hj] at hy
        injection hy with hy
        subst hy
        simp [e1]
      · have hbn : (y.born == x.born) = false := by
          refine beq_eq_false_iff_ne.2 fun eb => e1 ?_
          have := born_inj hst.2 hym hxm eb
          subst this
          obtain ⟨hk2, _⟩ := hat i p y hp hy
          exact hinj _ _ (h0.1 p (List.mem_of_getElem? hp)) (h0.1 _ (List.getElem_mem hjl)) (hk2.symm.trans hk)
        rw [hbn, Bool.or_false]
        simp [e1]
    · rcases hal with rfl | rfl <;> exact ⟨rfl, rfl, rfl, by simp [ChangeMaps.setBlock], fun i _ hi => hset.2 i (fun e1 => hi (by simp [e1]))⟩
end

/-! ### At the operations -/
section
variable {enc : κ → Value} {C : κ → Prop} {P : Program} (w : World) {ops : Array Oper} {rest : List Oper} {o : Oper} {a : Act} {Q : Exit → Act → World → Prop} {b r : Nat} {m : List (κ × Value)}
theorem wpList_range_mi [DecidableEq κ] (hg : o.guard = none) (x : Operand) (t : TypeId) (hop : o.op = Op.range t x) (k e : TypeId) (ht : P.underlying t = some (.map k e)) (hm : a.eval x = .map (some b)) (h : MapIs enc C w b m)
    (hK : ∀ w' left, Rng enc C w' b w.heap.size m left m.length → (∀ p ∈ m, left p.1 = true) → Below w.heap.size w w' → w'.heap.size = w.heap.size + 1 → wpList P ops Q rest (a.put o.dst (.pointer (some ⟨w.heap.size, 0, none⟩))) w') :
    wpList P ops Q (o :: rest) a w := by
  refine wpList_plain hg fun K' hK' => ?_
  obtain ⟨w', left, hrun, r1, r2, r3, r4⟩ := h.range_ (P := P) (k := k) (e := e) ht
  unfold Oper.wp
  simp [execOp, hop, hm, hrun, Result.andThen]
  exact hK' _ _ (hK w' left r1 r2 r3 r4)
theorem wpList_next_mi [DecidableEq κ] (hinj : ∀ x y, C x → C y → enc x = enc y → x = y) (hg : o.guard = none) (it : Operand) (hop : o.op = Op.next it false) {left : κ → Bool} {cnt : Nat} (hit : a.eval it = .pointer (some ⟨r, 0, none⟩)) (h : Rng enc C w b r m left cnt)
    (hDone : cnt = 0 → (∀ p ∈ m, left p.1 = false) → wpList P ops Q rest (a.put o.dst (.tuple #[.bool false])) w)
    (hMore : ∀ (x : κ) (v : Value) (w' : World) (cnt' : Nat), (x, v) ∈ m → left x = true → Rng enc C w' b r m (fun y => left y && !decide (y = x)) cnt' → cnt' < cnt → Fr [r] w w' →
      (Instr.entry (.pointer (some ⟨r, 0, none⟩))).run P w' = .ok (.tuple #[enc x, v]) w' → wpList P ops Q rest (a.put o.dst (.tuple #[.bool true, enc x, v])) w') :
    wpList P ops Q (o :: rest) a w := by
  refine wpList_plain hg fun K' hK' => ?_
  unfold Oper.wp
  rcases h.next (P := P) hinj o.type with ⟨h0, hl, hrun⟩ | ⟨p, w', cnt', hp, hlk, hrun, hrg, hlt, hf, hen⟩
  · simp [execOp, hop, hit, hrun, Result.andThen]
    exact hK' _ _ (hDone h0 hl)
  · simp [execOp, hop, hit, hrun, Result.andThen]
    exact hK' _ _ (hMore p.1 p.2 w' cnt' hp hlk hrg hlt hf hen)
theorem wpList_delete_mi [DecidableEq κ] {k : TypeId} (K : KeyOk P k enc C) (hg : o.guard = none) (x y : Operand) (t : TypeId) (hop : o.op = Op.call { callee := Callee.builtin Builtin.delete, args := #[x, y], argTypes := #[t, k] })
    (e : TypeId) (ht : P.underlying t = some (.map k e)) (hm : a.eval x = .map (some b)) (h : MapIs enc C w b m) (key : κ) (hx : a.eval y = enc key) (hC : C key)
    (hK : ∀ w', MapIs enc C w' b (mdel key m) → Fr [b] w w' → wpList P ops Q rest (a.put o.dst (.tuple #[])) w') :
    wpList P ops Q (o :: rest) a w := by
  refine wpList_plain hg fun K' hK' => ?_
  obtain ⟨w', hrun, r1, r2⟩ := run_delete_map K ht h key hC o.type
  unfold Oper.wp
  simp [execOp, hop, resolve, invoke, builtin, hm, hx, hrun, Result.andThen]
  exact hK' _ _ (hK w' r1 r2)
end
end
end Go.Proofs.YtkoomlbnfhdhcaaGreatDoor
