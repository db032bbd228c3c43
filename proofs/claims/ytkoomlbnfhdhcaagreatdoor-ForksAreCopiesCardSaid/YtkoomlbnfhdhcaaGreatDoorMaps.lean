/-
  Maps told as lists of pairs, over any program: looking up, storing, for keys whose equality is decided.
-/
import Derived.Test.YtkoomlbnfhdhcaaGreatDoorMem
import Derived.WideKeyArr
import Derived.Maps.Keyed
namespace Go.Proofs.YtkoomlbnfhdhcaaGreatDoor
open Go.RowKit

section
variable {κ : Type}

/-- Where a key stands in a list of pairs, and what is kept with it. -/
def lookAt [DecidableEq κ] (x : κ) : List (κ × Value) → Nat → Option (Nat × Value)
  | [], _ => none
  | p :: m, i => if x = p.1 then some (i, p.2) else lookAt x m (i + 1)

def mget [DecidableEq κ] (m : List (κ × Value)) (x : κ) : Option Value := (lookAt x m 0).map (·.2)

/-- A store. -/
def mput [DecidableEq κ] (x : κ) (v : Value) : List (κ × Value) → List (κ × Value)
  | [] => [(x, v)]
  | p :: m => if x = p.1 then (p.1, v) :: m else p :: mput x v m

theorem lookAt_shift [DecidableEq κ] (x : κ) : ∀ (m : List (κ × Value)) (i : Nat), lookAt x m i = (lookAt x m 0).map fun p => (p.1 + i, p.2)
  | [], _ => rfl
  | p :: m, i => by
    unfold lookAt
    split
    · simp
    · rw [lookAt_shift x m (i + 1), lookAt_shift x m (0 + 1)]
      cases lookAt x m 0 <;> simp [Nat.add_assoc, Nat.add_comm 1 i]

theorem mget_nil [DecidableEq κ] (x : κ) : mget ([] : List (κ × Value)) x = none := rfl
theorem mget_cons [DecidableEq κ] (p : κ × Value) (m : List (κ × Value)) (x : κ) : mget (p :: m) x = if x = p.1 then some p.2 else mget m x := by
  unfold mget
  conv => lhs; unfold lookAt
  split
  · rfl
  · rw [lookAt_shift x m (0 + 1)]
    cases lookAt x m 0 <;> simp

theorem mget_mput [DecidableEq κ] (x y : κ) (v : Value) : ∀ m : List (κ × Value), mget (mput x v m) y = if y = x then some v else mget m y
  | [] => by
    unfold mput
    rw [mget_cons, mget_nil]
  | p :: m => by
    unfold mput
    by_cases h : x = p.1
    · rw [if_pos h, mget_cons, mget_cons]
      simp only
      rw [← h]
      split <;> rfl
    · rw [if_neg h, mget_cons, mget_mput x y v m, mget_cons]
      by_cases h1 : y = p.1
      · rw [if_pos h1, if_pos h1, if_neg (fun e => h (by rw [← h1, e]))]
      · rw [if_neg h1, if_neg h1]

theorem mput_new [DecidableEq κ] (x : κ) (v : Value) : ∀ (m : List (κ × Value)) (i : Nat), lookAt x m i = none → mput x v m = m ++ [(x, v)]
  | [], _, _ => rfl
  | p :: m, i, h => by
    unfold lookAt at h
    split at h
    · cases h
    · rename_i hn
      unfold mput
      rw [if_neg hn, mput_new x v m (i + 1) h]
      rfl

/-- The keys of a type whose values are told by κ (those in C). -/
structure KeyOk [DecidableEq κ] (P : Program) (k : TypeId) (enc : κ → Value) (C : κ → Prop) : Prop where
  chk : ∀ x, C x → ∀ e w, (Instr.checkKey e 10000 k (enc x)).run P w = .ok () w
  find : ∀ x, C x → ∀ (es : List MapEntry) (m : List (κ × Value)) (w : World), (∀ p ∈ m, C p.1) → (m.map (·.1)).Nodup → es.map (fun e => (e.key, e.val)) = m.map (fun p => (enc p.1, p.2)) →
    (Instr.findKey k (enc x) es).run P w = .ok (lookAt x m 0) w
  stays : ∀ x, C x → ∀ w, (Instr.keyThatStays (enc x) (enc x)).run P w = .ok (enc x) w

theorem lookAt_none [DecidableEq κ] (x : κ) : ∀ (m : List (κ × Value)) (i : Nat), (∀ p ∈ m, p.1 ≠ x) → lookAt x m i = none
  | [], _, _ => rfl
  | p :: m, i, h => by
    unfold lookAt
    rw [if_neg (fun e => h p List.mem_cons_self e.symm)]
    exact lookAt_none x m (i + 1) fun q hq => h q (List.mem_cons_of_mem _ hq)

theorem lookAt_some [DecidableEq κ] (x : κ) : ∀ (m : List (κ × Value)) (i j : Nat) (v : Value), (m.map (·.1)).Nodup → m[j]? = some (x, v) → lookAt x m i = some (i + j, v)
  | [], _, _, _, _, h => by simp at h
  | p :: m, i, j, v, hd, h => by
    unfold lookAt
    cases j with
    | zero =>
      simp only [List.getElem?_cons_zero, Option.some.injEq] at h
      subst h
      rw [if_pos rfl]
      rfl
    | succ j =>
      simp only [List.getElem?_cons_succ] at h
      simp only [List.map_cons, List.nodup_cons] at hd
      have hne : x ≠ p.1 := fun e => hd.1 (by rw [← e]; exact List.mem_map.2 ⟨_, List.mem_of_getElem? h, rfl⟩)
      rw [if_neg hne, lookAt_some x m (i + 1) j v hd.2 h]
      congr 2
      omega

theorem keyOk_of_keyed [DecidableEq κ] {P : Program} {k : TypeId} (K : Maps.Keyed P k) {enc : κ → Value} {C : κ → Prop} (hk : ∀ x, C x → ∃ l, keyOf P k (enc x) = some l)
    (hinj : ∀ x y, C x → C y → enc x = enc y → x = y) : KeyOk P k enc C where
  chk := fun x hx e w => let ⟨_, h⟩ := hk x hx; K.check w e h
  stays := fun x hx w => let ⟨_, h⟩ := hk x hx; K.stays w h
  find := fun x hx es m w hC hd hes => by
    obtain ⟨l, hl⟩ := hk x hx
    have hlen : es.length = m.length := by have := congrArg List.length hes; simpa using this
    have hat : ∀ (j : Nat) e, es[j]? = some e → ∃ p, m[j]? = some p ∧ e.key = enc p.1 ∧ e.val = p.2 := by
      intro j e he
      have h3 := congrArg (fun l => l[j]?) hes
      simp only [List.getElem?_map, he, Option.map_some] at h3
      cases hm : m[j]? with
      | none => rw [hm] at h3; cases h3
      | some p =>
        rw [hm] at h3
        simp only [Option.map_some, Option.some.injEq, Prod.mk.injEq] at h3
        exact ⟨p, rfl, h3.1, h3.2⟩
    rcases K.find w hl es (fun e he => by
      obtain ⟨j, hj⟩ := List.mem_iff_getElem?.1 he
      obtain ⟨p, hp, h1, _⟩ := hat j e hj
      rw [h1]
      exact hk p.1 (hC p (List.mem_of_getElem? hp))) with ⟨hr, hno⟩ | ⟨j, e, hr, hj, he⟩
    · rw [hr, lookAt_none x m 0]
      intro p hp e
      obtain ⟨j, hj⟩ := List.mem_iff_getElem?.1 hp
      have hjl : j < es.length := by rw [hlen]; exact (List.getElem?_eq_some_iff.1 hj).1
      obtain ⟨q, hq, h1, _⟩ := hat j es[j] (List.getElem?_eq_getElem hjl)
      rw [hj] at hq
      obtain rfl := Option.some.inj hq
      exact hno es[j] (List.getElem_mem hjl) (by rw [h1, e])
    · obtain ⟨p, hp, h1, h2⟩ := hat j e hj
      have hpx : p.1 = x := hinj _ _ (hC p (List.mem_of_getElem? hp)) hx (by rw [← h1, he])
      rw [hr, h2, lookAt_some x m 0 j p.2 hd (by rw [hp, ← hpx]), Nat.zero_add]

theorem mput_keys [DecidableEq κ] (x : κ) (v : Value) : ∀ m : List (κ × Value), (mput x v m).map (·.1) = if x ∈ m.map (·.1) then m.map (·.1) else m.map (·.1) ++ [x]
  | [] => by simp [mput]
  | p :: m => by
    unfold mput
    have ih := mput_keys x v m
    by_cases h : x = p.1
    · simp [h]
    · rw [if_neg h]
      simp only [List.map_cons, ih, List.mem_cons, h, false_or]
      split <;> simp

theorem mput_nodup [DecidableEq κ] (x : κ) (v : Value) (m : List (κ × Value)) (h : (m.map (·.1)).Nodup) : ((mput x v m).map (·.1)).Nodup := by
  rw [mput_keys]
  split
  · exact h
  · rename_i hx
    rw [List.nodup_append]
    exact ⟨h, by simp, fun a ha b hb e => hx (by simp only [List.mem_singleton] at hb; rw [← hb, ← e]; exact ha)⟩

/-- The stamps of a map's entries. -/
def StampOk (es : Array MapEntry) (clock : Nat) : Prop := (∀ x ∈ es.toList, x.born < clock) ∧ (es.toList.map (·.born)).Nodup
/-- Block r is a map that holds these pairs. -/
def MapIs (enc : κ → Value) (C : κ → Prop) (w : World) (r : Nat) (m : List (κ × Value)) : Prop :=
  ((∀ p ∈ m, C p.1) ∧ (m.map (·.1)).Nodup) ∧ ∃ es clock, w.heap[r]? = some (.map es clock) ∧ es.toList.map (fun e => (e.key, e.val)) = m.map (fun p => (enc p.1, p.2)) ∧ StampOk es clock

section
variable {enc : κ → Value} {C : κ → Prop} {w w' : World} {r : Nat} {m : List (κ × Value)}
theorem MapIs.lt (h : MapIs enc C w r m) : r < w.heap.size := by
  obtain ⟨_, es, clock, h, _⟩ := h
  rcases Nat.lt_or_ge r w.heap.size with hlt | hge
  · exact hlt
  · rw [Array.getElem?_eq_none hge] at h; cases h
theorem MapIs.keep (h : MapIs enc C w r m) (hk : w'.heap[r]? = w.heap[r]?) : MapIs enc C w' r m := by
  obtain ⟨h0, es, clock, h1, h2⟩ := h
  exact ⟨h0, es, clock, hk.trans h1, h2⟩
theorem MapIs.fr {L : List Nat} (h : MapIs enc C w r m) (hf : Fr L w w') (hn : r ∉ L) : MapIs enc C w' r m := h.keep (hf.block r h.lt hn)
theorem MapIs.drewN (h : MapIs enc C w r m) (n : Nat) : MapIs enc C (w.drewN n) r m := h
theorem MapIs.drew (h : MapIs enc C w r m) : MapIs enc C w.drew r m := h
theorem MapIs.alloc (h : MapIs enc C w r m) (o : Obj) : MapIs enc C (w.alloc o) r m := h.keep (Below.heap_alloc w o r h.lt)
theorem MapIs.setCell (h : MapIs enc C w r m) {p : Addr} (hp : r ≠ p.block) (u : Value) : MapIs enc C (w.setCell p u) r m := h.keep (Below.heap_setCell w p u r hp)
theorem MapIs.new (w : World) : MapIs enc C (w.alloc (.map #[] 0)) w.heap.size [] :=
  ⟨by simp, #[], 0, heap_alloc_new w _, rfl, by unfold StampOk; simp⟩
theorem MapIs.ne_blk {g t : Nat} {cs : Array Value} (h : MapIs enc C w r m) (hb : Blk w g t cs) : r ≠ g := by
  rintro rfl
  obtain ⟨_, es, clock, h, _⟩ := h
  unfold Blk at hb
  rw [h] at hb
  cases hb

variable {P : Program} {k e t : TypeId}

theorem run_lookup_map [DecidableEq κ] (K : KeyOk P k enc C) (ht : P.underlying t = some (.map k e)) {z : Value} (hz : ∀ w, (zeroValue e).run P w = .ok z w) (h : MapIs enc C w r m) (x : κ) (hx : C x) (ok : Bool) :
    (Instr.lookup t (.map (some r)) (enc x) ok).run P w = .ok (if ok then .tuple #[(mget m x).getD z, .bool (mget m x).isSome] else (mget m x).getD z) w := by
  obtain ⟨h0, es, clock, h1, h2, hst⟩ := h
  have hg := run_getObj_map (P := P) w r es clock h1
  unfold Instr.lookup
  cases hl : lookAt x m 0 with
  | none => cases ok <;> simp [run_underlying ht, hg, K.chk x hx, K.find x hx es.toList m w h0.1 h0.2 h2, mget, hl, hz]
  | some p => cases ok <;> simp [run_underlying ht, hg, K.chk x hx, K.find x hx es.toList m w h0.1 h0.2 h2, mget, hl]

theorem lookAt_get [DecidableEq κ] (x : κ) : ∀ (m : List (κ × Value)) (i j : Nat) (v : Value), lookAt x m i = some (j, v) → i ≤ j ∧ m[j - i]? = some (x, v)
  | [], _, _, _, h => by simp [lookAt] at h
  | p :: m, i, j, v, h => by
    unfold lookAt at h
    split at h
    · rename_i hx
      simp only [Option.some.injEq, Prod.mk.injEq] at h
      obtain ⟨rfl, rfl⟩ := h
      exact ⟨Nat.le_refl _, by simp [hx]⟩
    · obtain ⟨h1, h2⟩ := lookAt_get x m (i + 1) j v h
      refine ⟨by omega, ?_⟩
      rw [show j - i = (j - (i + 1)) + 1 by omega, List.getElem?_cons_succ]
      exact h2

theorem mput_at [DecidableEq κ] (x : κ) (v u : Value) : ∀ (m : List (κ × Value)) (i j : Nat), lookAt x m i = some (j, u) → mput x v m = m.modify (j - i) fun p => (p.1, v)
  | [], _, _, h => by simp [lookAt] at h
  | p :: m, i, j, h => by
    unfold lookAt at h
    split at h
    · rename_i hx
      simp only [Option.some.injEq, Prod.mk.injEq] at h
      obtain ⟨rfl, rfl⟩ := h
      unfold mput
      rw [if_pos hx]
      simp
    · rename_i hx
      obtain ⟨h1, _⟩ := lookAt_get x m (i + 1) j u h
      unfold mput
      rw [if_neg hx, mput_at x v u m (i + 1) j h, show j - i = (j - (i + 1)) + 1 by omega]
      rfl

theorem stamp_push {es : Array MapEntry} {clock : Nat} (h : StampOk es clock) {k v : Value} : StampOk (es.push { key := k, val := v, born := clock }) (clock + 1) := by
  refine ⟨fun x hx => ?_, ?_⟩
  · rw [Array.toList_push, List.mem_append] at hx
    rcases hx with hx | hx
    · have := h.1 x hx
      omega
    · rw [List.mem_singleton.1 hx]
      exact Nat.lt_succ_self _
  · rw [Array.toList_push, List.map_append, List.nodup_append]
    refine ⟨h.2, by simp, fun a ha b hb e => ?_⟩
    obtain ⟨x, hx, rfl⟩ := List.mem_map.1 ha
    have := h.1 x hx
    simp only [List.map_cons, List.map_nil, List.mem_singleton] at hb
    omega
theorem stamp_modify {es : Array MapEntry} {clock j : Nat} (h : StampOk es clock) {k v : Value} : StampOk (es.modify j fun e => { e with key := k, val := v }) clock := by
  have e1 : (es.modify j fun e => { e with key := k, val := v }).toList.map (·.born) = es.toList.map (·.born) := by
    apply List.ext_getElem?
    intro i
    simp only [List.getElem?_map, Array.toList_modify, List.getElem?_modify]
    cases es.toList[i]? with
    | none => rfl
    | some e => by_cases hij : j = i <;> simp [hij]
  refine ⟨fun x hx => ?_, by rw [e1]; exact h.2⟩
  have hb : x.born ∈ (es.modify j fun e => { e with key := k, val := v }).toList.map (·.born) := List.mem_map.2 ⟨x, hx, rfl⟩
  rw [e1] at hb
  obtain ⟨y, hy, he⟩ := List.mem_map.1 hb
  rw [← he]
  exact h.1 y hy
theorem run_update_map [DecidableEq κ] (K : KeyOk P k enc C) (ht : P.underlying t = some (.map k e)) (h : MapIs enc C w r m) (x : κ) (hx : C x) (v : Value) :
    ∃ w', (Instr.mapUpdate t (.map (some r)) (enc x) v).run P w = .ok () w' ∧ MapIs enc C w' r (mput x v m) ∧ Fr [r] w w' := by
  obtain ⟨h0, es, clock, h1, h2, hst⟩ := h
  have hg := run_getObj_map (P := P) w r es clock h1
  have hr : r < w.heap.size := MapIs.lt (enc := enc) (C := C) ⟨h0, es, clock, h1, h2, hst⟩
  have hset : ∀ o : Obj, Fr [r] w { w with heap := w.heap.setIfInBounds r o } := fun o =>
    ⟨rfl, rfl, rfl, by simp, fun k _ hn => by
      have : r ≠ k := fun e => hn (by simp [e])
      simp [this]⟩
  have hrs : ∀ o : Obj, (setObj r o).run P w = .ok () { w with heap := w.heap.setIfInBounds r o } := fun o => by simp [setObj, Sem.run, h1]
  have hlen : es.toList.length = m.length := by have := congrArg List.length h2; simpa using this
  unfold Instr.mapUpdate
  cases hl : lookAt x m 0 with
  | none =>
    refine ⟨{ w with heap := w.heap.setIfInBounds r (.map (es.push { key := enc x, val := v, born := clock }) (clock + 1)) }, ?_, ⟨?_, es.push { key := enc x, val := v, born := clock }, clock + 1, by simp [hr], ?_, stamp_push hst⟩, hset _⟩
    · simp [run_underlying ht, hg, K.chk x hx, K.find x hx es.toList m w h0.1 h0.2 h2, hl, hrs]
    · refine ⟨?_, mput_nodup x v m h0.2⟩
      rw [mput_new x v m 0 hl]
      intro p hp
      rcases List.mem_append.1 hp with hp | hp
      · exact h0.1 p hp
      · simp only [List.mem_singleton] at hp
        subst hp
        exact hx
    · rw [mput_new x v m 0 hl]
      simp [h2]
  | some p =>
    obtain ⟨j, u⟩ := p
    obtain ⟨_, hj⟩ := lookAt_get x m 0 j u hl
    rw [Nat.sub_zero] at hj
    have hjm : j < m.length := (List.getElem?_eq_some_iff.1 hj).1
    have hes : ∃ e0, es.toList[j]? = some e0 ∧ e0.key = enc x := by
      have h3 := congrArg (fun l => l[j]?) h2
      simp only [List.getElem?_map, hj, Option.map_some] at h3
      cases he : es.toList[j]? with
      | none => rw [he] at h3; cases h3
      | some e0 =>
        rw [he] at h3
        simp only [Option.map_some, Option.some.injEq, Prod.mk.injEq] at h3
        exact ⟨e0, rfl, h3.1⟩
    obtain ⟨e0, he0, hk0⟩ := hes
    have he0' : es[j]? = some e0 := by simpa using he0
    have hs : ((Instr.keyThatStays (((es[j]?).map (·.key)).getD (enc x)) (enc x)) : Sem Value).run P w = .ok (enc x) w := by
      simp [he0', hk0, K.stays x hx]
    refine ⟨{ w with heap := w.heap.setIfInBounds r (.map (es.modify j fun e => { e with key := enc x, val := v }) clock) }, ?_, ⟨?_, es.modify j fun e => { e with key := enc x, val := v }, clock, by simp [hr], ?_, stamp_modify hst⟩, hset _⟩
    · simp [run_underlying ht, hg, K.chk x hx, K.find x hx es.toList m w h0.1 h0.2 h2, hl, hs, hrs]
    · refine ⟨?_, mput_nodup x v m h0.2⟩
      rw [mput_at x v u m 0 j hl]
      intro p hp
      obtain ⟨i, hi⟩ := List.mem_iff_getElem?.1 hp
      rw [Nat.sub_zero, List.getElem?_modify] at hi
      cases hmi : m[i]? with
      | none => rw [hmi] at hi; cases hi
      | some q =>
        rw [hmi] at hi
        have hq := h0.1 q (List.mem_of_getElem? hmi)
        simp only [Option.map_eq_map, Option.map_some, Option.some.injEq] at hi
        subst hi
        split <;> exact hq
    · rw [mput_at x v u m 0 j hl, Nat.sub_zero]
      apply List.ext_getElem?
      intro i
      have h3 := congrArg (fun l => l[i]?) h2
      simp only [List.getElem?_map, Array.toList_modify, List.getElem?_modify, Option.map_eq_map] at h3 ⊢
      by_cases hij : j = i
      · subst hij
        rw [he0, hj]
        simp only [if_true, Option.map_some]
      · simp only [hij, if_false, Option.map_id_fun', id_eq]
        exact h3
end
end

/-! ### Keys that are bytes, in an array -/
def encB (x : List UInt8) : Value := .agg (bs x).toArray
theorem bs_inj : ∀ (x y : List UInt8), bs x = bs y → x = y
  | [], [], _ => rfl
  | [], _ :: _, h => by simp [bs] at h
  | _ :: _, [], h => by simp [bs] at h
  | a :: x, b :: y, h => by
    simp only [bs, List.map_cons, List.cons.injEq, Value.int.injEq, true_and] at h
    rw [bs_inj x y h.2, UInt8.toNat_inj.1 (by omega : a.toNat = b.toNat)]
theorem encB_inj (x y : List UInt8) (h : encB x = encB y) : x = y := by
  unfold encB at h
  injection h with h
  exact bs_inj x y (by simpa using h)
end Go.Proofs.YtkoomlbnfhdhcaaGreatDoor
