/-
  The reference's space in memory: 321 cells.
-/
import Derived.Test.YtbppafbdmdbdiaaMSi
namespace Go.Proofs.Ytbppafbdmdbdiaa
open Go.RowKit
set_option linter.unusedVariables false

theorem flat5_length (F : Nat → List Value) (hF : ∀ p, (F p).length = 5) : ∀ n, ((List.range n).flatMap F).length = n * 5
  | 0 => rfl
  | n + 1 => by rw [List.range_succ, List.flatMap_append, List.length_append, flat5_length F hF n]; simp [hF]; omega
theorem flat5_get (F : Nat → List Value) (hF : ∀ p, (F p).length = 5) (p k : Nat) (hk : k < 5) : ∀ n, p < n → ((List.range n).flatMap F)[p * 5 + k]? = (F p)[k]?
  | n + 1, hp => by
    rw [List.range_succ, List.flatMap_append]
    by_cases e : p = n
    · subst e
      rw [List.getElem?_append_right (by rw [flat5_length F hF]; omega), flat5_length F hF, show p * 5 + k - p * 5 = k by omega]
      simp
    · rw [List.getElem?_append_left (by rw [flat5_length F hF]; omega)]
      exact flat5_get F hF p k hk n (by omega)
theorem flat5_set (F : Nat → List Value) (hF : ∀ p, (F p).length = 5) (p k : Nat) (hk : k < 5) (v : Value) : ∀ n, p < n → ((List.range n).flatMap F).set (p * 5 + k) v = (List.range n).flatMap (upd F p ((F p).set k v))
  | n + 1, hp => by
    rw [List.range_succ, List.flatMap_append, List.flatMap_append]
    have hF2 : ∀ q, (upd F p ((F p).set k v) q).length = 5 := fun q => by
      by_cases e : q = p
      · rw [e, upd_at, List.length_set, hF]
      · rw [upd_ne _ _ _ _ e, hF]
    by_cases e : p = n
    · subst e
      rw [List.set_append_right _ _ (by rw [flat5_length F hF]; omega), flat5_length F hF, show p * 5 + k - p * 5 = k by omega]
      congr 1
      · rw [List.flatMap_def, List.flatMap_def]
        congr 1
        refine List.map_congr_left fun q hq => ?_
        rw [upd_ne _ _ _ _ (by have := List.mem_range.1 hq; omega)]
      · simp [upd_at]
    · rw [List.set_append_left _ _ (by rw [flat5_length F hF]; omega), flat5_set F hF p k hk v n (by omega)]
      congr 1
      simp [upd_ne _ _ _ _ (fun h : n = p => e h.symm)]

/-- The reference's space. -/
structure RS where
  src : Value
  kn : Nat → Bool
  th : Nat → Bool
  ak : Nat → Bool
  ch : Nat → Bool
  bt : Nat → ByteArray
def pg5 (r : RS) (p : Nat) : List Value := [.bool (r.kn p), .bool (r.th p), .bool (r.ak p), .bool (r.ch p), .string (r.bt p)]
theorem pg5_length (r : RS) (p : Nat) : (pg5 r p).length = 5 := rfl
def rsL (r : RS) : List Value := r.src :: (List.range 64).flatMap (pg5 r)
theorem rsL_length (r : RS) : (rsL r).length = 321 := by show (List.flatMap _ _).length + 1 = _; rw [flat5_length _ (pg5_length r)]
def rsCells (r : RS) : Array Value := (rsL r).toArray
theorem rs_get (r : RS) (p k : Nat) (hp : p < 64) (hk : k < 5) : (rsCells r)[1 + p * 5 + k]? = (pg5 r p)[k]? := by
  show (rsL r).toArray[1 + p * 5 + k]? = _
  rw [List.getElem?_toArray, rsL, show 1 + p * 5 + k = (p * 5 + k) + 1 by omega, List.getElem?_cons_succ, flat5_get _ (pg5_length r) p k hk 64 hp]
theorem rs_set (r r' : RS) (p k : Nat) (v : Value) (hp : p < 64) (hk : k < 5) (hs : r'.src = r.src) (h1 : pg5 r' p = (pg5 r p).set k v) (h2 : ∀ q, q ≠ p → pg5 r' q = pg5 r q) : (rsCells r).setIfInBounds (1 + p * 5 + k) v = rsCells r' := by
  unfold rsCells
  rw [List.setIfInBounds_toArray]
  congr 1
  unfold rsL
  rw [show 1 + p * 5 + k = (p * 5 + k) + 1 by omega, List.set_cons_succ, flat5_set _ (pg5_length r) p k hk v 64 hp, hs]
  congr 2
  funext q
  by_cases e : q = p
  · rw [e, upd_at, h1]
  · rw [upd_ne _ _ _ _ e, h2 q e]
section
variable (r : RS) (p : Nat)
theorem rs_src : (rsCells r)[0]? = some r.src := rfl
theorem rs_kn (hp : p < 64) : (rsCells r)[1 + p * 5]? = some (.bool (r.kn p)) := rs_get r p 0 hp (by omega)
theorem rs_th (hp : p < 64) : (rsCells r)[1 + p * 5 + 1]? = some (.bool (r.th p)) := rs_get r p 1 hp (by omega)
theorem rs_ak (hp : p < 64) : (rsCells r)[1 + p * 5 + 2]? = some (.bool (r.ak p)) := rs_get r p 2 hp (by omega)
theorem rs_ch (hp : p < 64) : (rsCells r)[1 + p * 5 + 3]? = some (.bool (r.ch p)) := rs_get r p 3 hp (by omega)
theorem rs_bt (hp : p < 64) : (rsCells r)[1 + p * 5 + 4]? = some (.string (r.bt p)) := rs_get r p 4 hp (by omega)
theorem rs_set_kn (b : Bool) (hp : p < 64) : (rsCells r).setIfInBounds (1 + p * 5) (.bool b) = rsCells { r with kn := upd r.kn p b } :=
  rs_set r _ p 0 _ hp (by omega) rfl (by simp [pg5, upd_at]) (fun q hq => by simp [pg5, upd_ne _ _ _ _ hq])
theorem rs_set_th (b : Bool) (hp : p < 64) : (rsCells r).setIfInBounds (1 + p * 5 + 1) (.bool b) = rsCells { r with th := upd r.th p b } :=
  rs_set r _ p 1 _ hp (by omega) rfl (by simp [pg5, upd_at]) (fun q hq => by simp [pg5, upd_ne _ _ _ _ hq])
theorem rs_set_ak (b : Bool) (hp : p < 64) : (rsCells r).setIfInBounds (1 + p * 5 + 2) (.bool b) = rsCells { r with ak := upd r.ak p b } :=
  rs_set r _ p 2 _ hp (by omega) rfl (by simp [pg5, upd_at]) (fun q hq => by simp [pg5, upd_ne _ _ _ _ hq])
theorem rs_set_ch (b : Bool) (hp : p < 64) : (rsCells r).setIfInBounds (1 + p * 5 + 3) (.bool b) = rsCells { r with ch := upd r.ch p b } :=
  rs_set r _ p 3 _ hp (by omega) rfl (by simp [pg5, upd_at]) (fun q hq => by simp [pg5, upd_ne _ _ _ _ hq])
theorem rs_set_bt (b : ByteArray) (hp : p < 64) : (rsCells r).setIfInBounds (1 + p * 5 + 4) (.string b) = rsCells { r with bt := upd r.bt p b } :=
  rs_set r _ p 4 _ hp (by omega) rfl (by simp [pg5, upd_at]) (fun q hq => by simp [pg5, upd_ne _ _ _ _ hq])
end
def rs0 : RS := ⟨.map none, fun _ => false, fun _ => false, fun _ => false, fun _ => false, fun _ => ⟨#[]⟩⟩
theorem z61 (w : World) : (zeroValue 61).run Try.prog w = .ok (.agg (rsCells rs0)) w := by kernel_rfl
theorem info61 : (Try.prog.info? 61).map (·.size) = some 321 := by kernel_rfl

/-- A block that holds the reference's space. -/
abbrev SB (w : World) (b : Nat) (r : RS) : Prop := Blk w b 61 (rsCells r)
theorem SB.range {w : World} {b : Nat} {r : RS} (h : SB w b r) : w.rangeAt b 0 (rsL r) := fun j v hv => by
  rw [Nat.zero_add, h.cell]
  show (rsL r).toArray[j]? = _
  rw [List.getElem?_toArray]; exact hv
theorem SB.one (r : RS) (hr : ∃ o, r.src = .map o) : ∀ v ∈ rsL r, v.oneCell' = true := by
  intro v hv
  obtain ⟨o, ho⟩ := hr
  unfold rsL at hv
  rcases List.mem_cons.1 hv with rfl | hv
  · rw [ho]; rfl
  · obtain ⟨p, _, hv⟩ := List.mem_flatMap.1 hv
    simp [pg5] at hv
    rcases hv with rfl | rfl | rfl | rfl | rfl <;> rfl
/-- A whole row of cells over a block of as many. -/
theorem setCells_blk {w : World} {b : Nat} {t : TypeId} {cs : Array Value} (h : Blk w b t cs) (vs : List Value) (hl : vs.length = cs.size) : Blk (w.setCells b 0 vs) b t vs.toArray ∧ Fr [b] w (w.setCells b 0 vs) := by
  have key : ∀ (vs : List Value) (o : Nat) (w : World) (cs : Array Value), Blk w b t cs → o + vs.length ≤ cs.size → ∃ cs', Blk (w.setCells b o vs) b t cs' ∧ Fr [b] w (w.setCells b o vs) ∧ cs'.toList = cs.toList.take o ++ vs ++ cs.toList.drop (o + vs.length) := by
    intro vs
    induction vs with
    | nil => intro o w cs h _; exact ⟨cs, h, Fr.refl _ _, by simp⟩
    | cons v vs ih =>
      intro o w cs h hl
      rw [List.length_cons] at hl
      have h2 := h.set_ o v
      obtain ⟨cs', g1, g2, g3⟩ := ih (o + 1) (w.setCell ⟨b, o, none⟩ v) (cs.setIfInBounds o v) h2 (by rw [Array.size_setIfInBounds]; omega)
      refine ⟨cs', g1, ((Fr.refl [b] w).setCell (p := ⟨b, o, none⟩) (.inl (by simp)) v).trans g2 (by simp), ?_⟩
      have hsz : cs.toList.length = cs.size := Array.length_toList
      rw [g3, Array.toList_setIfInBounds, List.length_cons]
      have e1 : (cs.toList.set o v).take (o + 1) = cs.toList.take o ++ [v] := by
        rw [List.take_succ_eq_append_getElem (by rw [List.length_set]; omega), List.take_set_of_le (Nat.le_refl _)]
        simp
      have e2 : (cs.toList.set o v).drop (o + 1 + vs.length) = cs.toList.drop (o + (vs.length + 1)) := by
        rw [List.drop_set_of_lt (by omega)]
        congr 1
        omega
      rw [e1, e2]
      simp
  obtain ⟨cs', g1, g2, g3⟩ := key vs 0 w cs h (by omega)
  have hsz : cs.toList.length = cs.size := Array.length_toList
  rw [List.take_zero, List.nil_append, List.drop_of_length_le (by omega), List.append_nil] at g3
  refine ⟨?_, g2⟩
  have : cs' = vs.toArray := Array.ext' g3
  rw [← this]
  exact g1
section
variable {w : World} {b : Nat} {r : RS}
theorem load_S {ops : Array Oper} {rest : List Oper} {op : Oper} {a : Act} {Q : Exit → Act → World → Prop} (h : SB w b r) (hgd : op.guard = none) (x : Operand) (ho : op.op = .load 61 x)
    (hx : a.eval x = .pointer (some ⟨b, 0, none⟩)) (hk : wpList Try.prog ops Q rest (a.put op.dst (.agg (rsCells r))) w) : wpList Try.prog ops Q (op :: rest) a w :=
  wpList_load_mid hgd 61 x ho b 0 hx (rsL r) _ h.range Try.underlying61 rfl (by rw [rsL_length]; exact info61) hk
theorem store_S {r0 : RS} {ops : Array Oper} {rest : List Oper} {op : Oper} {a : Act} {Q : Exit → Act → World → Prop} (h : SB w b r0) (hm : ∃ o, r.src = .map o) (hgd : op.guard = none) (x y : Operand) (ho : op.op = .store 61 x y)
    (hx : a.eval x = .pointer (some ⟨b, 0, none⟩)) (hy : a.eval y = .agg (rsCells r)) (hk : ∀ w', SB w' b r → Fr [b] w w' → wpList Try.prog ops Q rest (a.put op.dst undef) w') : wpList Try.prog ops Q (op :: rest) a w := by
  have hsz : (rsCells r).size = 321 := by show (rsL r).length = 321; exact rsL_length r
  have hsz0 : (rsCells r0).size = 321 := by show (rsL r0).length = 321; exact rsL_length r0
  refine wpList_store_mid hgd 61 x y ho b 0 (rsCells r) hx hy ?_ ?_ (all_oneCell_toArray (SB.one r hm)) ?_
  · intro j hj
    rw [hsz] at hj
    refine ⟨?_, ?_⟩
    · rw [Nat.zero_add, h.cell, Array.getElem?_eq_getElem (by omega)]; rfl
    · exact h.frozen _
  · rw [hsz]; exact info61
  · obtain ⟨g1, g2⟩ := setCells_blk h (rsL r) (by rw [rsL_length, hsz0])
    exact hk _ g1 g2
/-- What a function returns that holds its result in a cell. -/
theorem res_S1 {fn : Func} {p : Tmp} (hf : fn.results = #[.cell p 61]) (tmps : Array Value) (h : SB w b r) (hp : tmps.getD p undef = .pointer (some ⟨b, 0, none⟩)) : (results fn tmps).run Try.prog w = .ok (.agg (rsCells r)) w := by
  have hl := run_loadVar_mid (P := Try.prog) w b 0 61 (rsL r) _ h.range Try.underlying61 rfl (by rw [rsL_length]; exact info61)
  have ha : (asAddr (.pointer (some ⟨b, 0, none⟩)) : Sem Addr).run Try.prog w = .ok ⟨b, 0, none⟩ w := rfl
  have hp' : tmps[p]?.getD undef = .pointer (some ⟨b, 0, none⟩) := by rw [← hp, Array.getD_eq_getD_getElem?]
  simp only [results, hf]
  simp [Sem.run_bind, Result.andThen, hp', ha, hl]
  rfl
theorem res_S2 {fn : Func} {p u : Tmp} (hf : fn.results = #[.cell p 61, .tmp u]) (tmps : Array Value) (h : SB w b r) (hp : tmps.getD p undef = .pointer (some ⟨b, 0, none⟩)) : (results fn tmps).run Try.prog w = .ok (.tuple #[.agg (rsCells r), tmps.getD u undef]) w := by
  have hl := run_loadVar_mid (P := Try.prog) w b 0 61 (rsL r) _ h.range Try.underlying61 rfl (by rw [rsL_length]; exact info61)
  have ha : (asAddr (.pointer (some ⟨b, 0, none⟩)) : Sem Addr).run Try.prog w = .ok ⟨b, 0, none⟩ w := rfl
  have hp' : tmps[p]?.getD undef = .pointer (some ⟨b, 0, none⟩) := by rw [← hp, Array.getD_eq_getD_getElem?]
  simp only [results, hf]
  simp [Sem.run_bind, Result.andThen, hp', ha, hl]
  rfl
theorem res_S3 {fn : Func} {p u v : Tmp} (hf : fn.results = #[.cell p 61, .tmp u, .tmp v]) (tmps : Array Value) (h : SB w b r) (hp : tmps.getD p undef = .pointer (some ⟨b, 0, none⟩)) : (results fn tmps).run Try.prog w = .ok (.tuple #[.agg (rsCells r), tmps.getD u undef, tmps.getD v undef]) w := by
  have hl := run_loadVar_mid (P := Try.prog) w b 0 61 (rsL r) _ h.range Try.underlying61 rfl (by rw [rsL_length]; exact info61)
  have ha : (asAddr (.pointer (some ⟨b, 0, none⟩)) : Sem Addr).run Try.prog w = .ok ⟨b, 0, none⟩ w := rfl
  have hp' : tmps[p]?.getD undef = .pointer (some ⟨b, 0, none⟩) := by rw [← hp, Array.getD_eq_getD_getElem?]
  simp only [results, hf]
  simp [Sem.run_bind, Result.andThen, hp', ha, hl]
  rfl
end
end Go.Proofs.Ytbppafbdmdbdiaa

/-
  The reference: pad, New, need.
-/
namespace Go.Proofs.Ytbppafbdmdbdiaa
open Go.RowKit
set_option linter.unusedVariables false

/-- The reference's space that looks as a space does. -/
def rsOf (m : Value) (a : AS) : RS := ⟨m, a.known, fun p => (a.page p).isSome, a.asked, a.changed, fun p => ⟨((a.page p).getD []).toArray⟩⟩
structure AOk (a : AS) : Prop where
  unk : ∀ p, a.known p = false → a.page p = none
  len : ∀ p b, a.page p = some b → b.length = 64
theorem AOk.need {a : AS} (h : AOk a) (p : Nat) : AOk (needA a p) := by
  unfold needA
  by_cases hk : a.known p = true
  · rw [if_pos hk]; exact h
  · rw [if_neg hk]
    cases hs : a.src with
    | none =>
      refine ⟨fun q hq => ?_, h.len⟩
      by_cases e : q = p
      · exact h.unk q (by rw [e]; simpa using hk)
      · exact h.unk q (by have : upd a.known p true q = false := hq; rwa [upd_ne _ _ _ _ e] at this)
    | some f =>
      refine ⟨fun q hq => ?_, fun q b hb => ?_⟩
      · replace hq : upd a.known p true q = false := hq
        show upd a.page p _ q = none
        by_cases e : q = p
        · rw [e, upd_at] at hq; cases hq
        · rw [upd_ne _ _ _ _ e] at hq ⊢; exact h.unk q hq
      · replace hb : upd a.page p ((f p).map padL) q = some b := hb
        by_cases e : q = p
        · rw [e, upd_at] at hb
          cases hf : f p with
          | none => rw [hf] at hb; cases hb
          | some l => rw [hf] at hb; injection hb with hb; rw [← hb]; exact padL_length l
        · rw [upd_ne _ _ _ _ e] at hb; exact h.len q b hb
theorem needA_src (a : AS) (p : Nat) : (needA a p).src = a.src := by
  unfold needA
  split
  · rfl
  · split <;> simp_all
/-- The source that the reference holds. -/
def SrcIs (w : World) (m : Value) (o : Option (Nat → Option (List UInt8))) : Prop := (m = .map none ∧ o = none) ∨ ∃ pm M, m = .map (some pm) ∧ MI w pm M ∧ Strs M ∧ o = some (srcM M)
theorem SrcIs.below {w w' : World} {m : Value} {o : Option (Nat → Option (List UInt8))} (h : SrcIs w m o) (hb : Below w.heap.size w w') : SrcIs w' m o :=
  h.imp id fun ⟨pm, M, h1, h2, h3, h4⟩ => ⟨pm, M, h1, h2.keep (hb.block _ h2.lt), h3, h4⟩
theorem SrcIs.map {w : World} {m : Value} {o : Option (Nat → Option (List UInt8))} (h : SrcIs w m o) : ∃ q, m = .map q := by
  rcases h with ⟨h, _⟩ | ⟨pm, M, h, _⟩
  · exact ⟨_, h⟩
  · exact ⟨_, h⟩

set_option maxRecDepth 100000 in
set_option maxHeartbeats 4000000 in
theorem pad_any (w : World) (t : ByteArray) (ht : t.size ≤ 9223372036854775807) : Calls Try.prog 53 #[.string t] w fun e w' => e = .returned (.string ⟨(padL t.data.toList).toArray⟩) ∧ Below w.heap.size w w' := by
  have hL : t.data.toList.length = t.size := by simp
  obtain ⟨L, hLd⟩ : ∃ L, L = padL t.data.toList := ⟨_, rfl⟩
  have hll : L.length = 64 := by rw [hLd]; exact padL_length _
  have hget : ∀ k (hk : k < t.size), k < 64 → L.getD k 0 = t[k] := fun k hk h64 => by
    rw [hLd]
    unfold padL
    rw [List.getD_eq_getElem?_getD, List.getElem?_take, if_pos h64, List.getElem?_append_left (by rw [hL]; exact hk), List.getElem?_eq_getElem (by rw [hL]; exact hk)]
    rfl
  have hrest : ∀ k, t.size ≤ k → k ≤ 64 → outL L 64 k = L := fun k hk h64 => by
    unfold outL
    rw [hLd]
    unfold padL
    refine List.ext_getElem? fun i => ?_
    by_cases hi : i < 64
    · by_cases hik : i < k
      · rw [List.getElem?_append_left (by simp; omega), List.getElem?_take, if_pos hik]
      · rw [List.getElem?_append_right (by simp; omega), List.getElem?_replicate, if_pos (by simp; omega), List.getElem?_take, if_pos hi, List.getElem?_append_right (by rw [hL]; omega), List.getElem?_replicate, if_pos (by rw [hL]; omega)]
    · rw [List.getElem?_eq_none (by simp; omega), List.getElem?_eq_none (by simp; omega)]
  rw [← hLd]
  have HGET := Lib.hid hget
  have HREST := Lib.hid hrest
  clear hLd hget hrest hL
  have hmk : ∀ W, (Instr.makeSlice 27 (.int .i64 64) (.int .i64 64)).run Try.prog W = .ok (.slice (some ⟨W.heap.size, 0, none⟩) 64 64) (W.alloc (.cells (bs (outL L 64 0)).toArray 5)) := fun W => by
    have := run_make_bytes 64 (by omega) W
    rw [made_bytes, ← outL_zero L] at this
    exact this
  have hn1 := Blk.new w 5 (bs (outL L 64 0)).toArray
  have hbel : Below w.heap.size w (w.alloc (.cells (bs (outL L 64 0)).toArray 5)) := (Below.refl _ _).alloc (Nat.le_refl _) _
  have HN1 := Lib.hid hn1
  have HBE := Lib.hid hbel
  clear hn1 hbel
  go_enter Try.func53, Try.ntmps53
  go_wp2_with fail
  generalize w.alloc (.cells (bs (outL L 64 0)).toArray 5) = W1 at *
  clear hmk
  obtain ⟨o, ho⟩ : ∃ o : Nat, o = w.heap.size := ⟨_, rfl⟩
  rw [← ho] at HN1 ⊢
  have HO := Lib.hid ho
  clear ho
  obtain ⟨m, hm⟩ : ∃ m : Nat, m = min 64 t.size := ⟨_, rfl⟩
  have hm1 : m ≤ 64 := by omega
  have hm2 : m ≤ t.size := by omega
  have HM := Lib.hid hm
  clear hm
  go_loopg [4] m (fun q iv wr => ∃ k : Nat, iv = .int .i64 k ∧ q = m - k ∧ k ≤ m ∧ Blk wr o 5 (bs (outL L 64 k)).toArray ∧ Fr [o] W1 wr)
  case atStart => exact ⟨0, rfl, rfl, Nat.zero_le _, HN1.out, Fr.refl _ _⟩
  case round =>
    obtain ⟨k, rfl, rfl, hk, hblk, hfr⟩ := hrel
    have hbw : Below w.heap.size w wr := HBE.out.trans (hfr.below (by have := HBE.out.size; omega) (by simp [HO.out]))
    have HBW := Lib.hid hbw
    clear hbw
    by_cases hlt : k < m
    · have i1 : (k : Int) < 64 := by omega
      have i2 : (k : Int) < t.size := by omega
      have i3 : k < t.size := by omega
      have hst := outL_set L 64 k hll (by omega)
      rw [HGET.out k i3 (by omega)] at hst
      have hs2 := hblk.set_ k (.int .u8 t[k].toNat)
      rw [bs_set, hst] at hs2
      have HS2 := Lib.hid hs2
      have f1 := hblk.frozen k
      have c3 : wr.cell? ⟨o, k, none⟩ = some (.int .u8 ((outL L 64 k).getD k 0).toNat) := by
        have hl := outL_length L 64 k hll (by omega)
        rw [hblk.cell, List.getElem?_toArray, bs_get, List.getElem?_eq_getElem (by omega), List.getD_eq_getElem?_getD, List.getElem?_eq_getElem (by omega)]
        rfl
      have zo := hblk.lt
      have HFR := Lib.hid hfr
      clear hst hs2 hblk hfr
      go_wp2_with fail
      go_roundg (m - (k + 1))
      case measure => omega
      case rel => exact ⟨k + 1, by go_num, rfl, by omega, HS2.out, HFR.out.setCell (.inl (by simp)) _⟩
    · obtain rfl : k = m := by omega
      have hfin : outL L 64 k = L := by
        by_cases h64 : 64 ≤ t.size
        · have := HM.out
          rw [show k = 64 by omega, outL_all L 64 hll]
        · exact HREST.out k (by have := HM.out; omega) (by omega)
      rw [hfin] at hblk
      have hconv : (convert 27 9 (.slice (some ⟨o, 0, none⟩) 64 64)).run Try.prog wr = .ok (.string ⟨L.toArray⟩) wr := by
        refine run_convert_string (B := o + 1) Try.underlying27 Try.underlying5 Try.underlying9 ⟨some ⟨o, 0, none⟩, 64, by rw [hll], by omega, by unfold maxLen; omega, by rw [bs_length]; omega, fun _ => ⟨_, rfl, by show o < _; omega, fun j u hu => ?_⟩⟩
        rw [add_at0, hblk.cell, List.getElem?_toArray]
        exact hu
      clear hblk hfr hfin
      by_cases h64 : k = 64
      · have i1 : decide ((k : Int) < 64) = false := decide_eq_false (by omega)
        clear h64
        go_wp2_with fail
        go_ret
        exact ⟨by first | rfl | simp, HBW.out⟩
      · obtain rfl : k = t.size := by have := HM.out; omega
        have i1 : (t.size : Int) < 64 := by omega
        have i2 : decide ((t.size : Int) < t.size) = false := decide_eq_false (by omega)
        clear h64
        go_wp2_with fail
        go_ret
        exact ⟨rfl, HBW.out⟩

theorem rs_set_src (r : RS) (v : Value) : (rsCells r).setIfInBounds 0 v = rsCells { r with src := v } := by
  unfold rsCells
  rw [List.setIfInBounds_toArray]
  rfl
theorem build61 (o : Option Nat) (W : World) : (Instr.build 61 #[(0, .map o)]).run Try.prog W = .ok (.agg (rsCells { rs0 with src := .map o })) W := by kernel_rfl
set_option maxRecDepth 100000 in
set_option maxHeartbeats 4000000 in
theorem refNew_any (w : World) (o : Option Nat) : Calls Try.prog 31 #[.map o] w fun e w' => e = .returned (.agg (rsCells { rs0 with src := .map o })) ∧ Below w.heap.size w w' := by
  have hz := z61
  have hb := build61 o
  have h0 := Lib.hid (Blk.new w 61 (rsCells rs0))
  have hbe := Lib.hid ((Below.refl w.heap.size w).alloc (Nat.le_refl _) (.cells (rsCells rs0) 61))
  go_enter Try.func31, Try.ntmps31
  go_wp2_with (refine store_S (r := { rs0 with src := .map o }) h0.out ⟨o, rfl⟩ rfl (.tmp 2) (.tmp 4) rfl rfl (congrArg Value.agg (rs_set_src rs0 (.map o))) ?_; intro w1 hw1 hf1)
  refine bodyPost_ret (res_S1 rfl _ hw1 rfl) rfl ?_
  exact ⟨rfl, hbe.out.trans (hf1.below (by simp) (by simp))⟩
end Go.Proofs.Ytbppafbdmdbdiaa

/-
  The reference: need.
-/
namespace Go.Proofs.Ytbppafbdmdbdiaa
open Go.RowKit
set_option linter.unusedVariables false

section
variable {w : World} {b p : Nat} {r : RS}
theorem SB.kn (h : SB w b r) (hp : p < 64) (v : Bool) : SB (w.setCell ⟨b, 1 + p * 5, none⟩ (.bool v)) b { r with kn := upd r.kn p v } := by have := h.set_ (1 + p * 5) (.bool v); rw [rs_set_kn r p v hp] at this; exact this
theorem SB.th (h : SB w b r) (hp : p < 64) (v : Bool) : SB (w.setCell ⟨b, 1 + p * 5 + 1, none⟩ (.bool v)) b { r with th := upd r.th p v } := by have := h.set_ (1 + p * 5 + 1) (.bool v); rw [rs_set_th r p v hp] at this; exact this
theorem SB.ak (h : SB w b r) (hp : p < 64) (v : Bool) : SB (w.setCell ⟨b, 1 + p * 5 + 2, none⟩ (.bool v)) b { r with ak := upd r.ak p v } := by have := h.set_ (1 + p * 5 + 2) (.bool v); rw [rs_set_ak r p v hp] at this; exact this
theorem SB.ch (h : SB w b r) (hp : p < 64) (v : Bool) : SB (w.setCell ⟨b, 1 + p * 5 + 3, none⟩ (.bool v)) b { r with ch := upd r.ch p v } := by have := h.set_ (1 + p * 5 + 3) (.bool v); rw [rs_set_ch r p v hp] at this; exact this
theorem SB.bt (h : SB w b r) (hp : p < 64) (v : ByteArray) : SB (w.setCell ⟨b, 1 + p * 5 + 4, none⟩ (.string v)) b { r with bt := upd r.bt p v } := by have := h.set_ (1 + p * 5 + 4) (.string v); rw [rs_set_bt r p v hp] at this; exact this
theorem SB.c_kn (h : SB w b r) (hp : p < 64) : w.cell? ⟨b, 1 + p * 5, none⟩ = some (.bool (r.kn p)) := (h.cell _).trans (rs_kn r p hp)
theorem SB.c_th (h : SB w b r) (hp : p < 64) : w.cell? ⟨b, 1 + p * 5 + 1, none⟩ = some (.bool (r.th p)) := (h.cell _).trans (rs_th r p hp)
theorem SB.c_ak (h : SB w b r) (hp : p < 64) : w.cell? ⟨b, 1 + p * 5 + 2, none⟩ = some (.bool (r.ak p)) := (h.cell _).trans (rs_ak r p hp)
theorem SB.c_ch (h : SB w b r) (hp : p < 64) : w.cell? ⟨b, 1 + p * 5 + 3, none⟩ = some (.bool (r.ch p)) := (h.cell _).trans (rs_ch r p hp)
theorem SB.c_bt (h : SB w b r) (hp : p < 64) : w.cell? ⟨b, 1 + p * 5 + 4, none⟩ = some (.string (r.bt p)) := (h.cell _).trans (rs_bt r p hp)
theorem SB.c_src (h : SB w b r) : w.cell? ⟨b, 0, none⟩ = some r.src := (h.cell _).trans (rs_src r)
end
/-- The two blocks that a function of the reference makes first. -/
structure Two (n : Nat) (r : RS) (w W : World) : Prop where
  s : SB W n r
  z : ∃ r0, SB W (n + 1) r0
  b : Below n w W
  le : n ≤ w.heap.size
theorem Two.new (w : World) (r : RS) : Two w.heap.size r w ((w.alloc (.cells (rsCells r) 61)).alloc (.cells (rsCells rs0) 61)) :=
  ⟨(Blk.new w 61 (rsCells r)).alloc _, ⟨rs0, Blk.new_ _ _ _ (by simp)⟩, ((Below.refl _ _).alloc (Nat.le_refl _) _).alloc (by simp) _, Nat.le_refl _⟩
section
variable {w W W' : World} {n : Nat} {r r' : RS}
theorem Two.lt (h : Two n r w W) : n + 1 < W.heap.size := let ⟨_, hz⟩ := h.z; hz.lt
theorem Two.step (h : Two n r w W) (hs : SB W' n r') (hf : Fr [n] W W') : Two n r' w W' :=
  ⟨hs, let ⟨r0, hz⟩ := h.z; ⟨r0, hz.fr hf (by simp)⟩, h.b.trans (hf.below (by have := h.lt; omega) (by simp)), h.le⟩
theorem Two.below (h : Two n r w W) (hb : Below W.heap.size W W') : Two n r w W' :=
  ⟨h.s.below hb h.s.lt, let ⟨r0, hz⟩ := h.z; ⟨r0, hz.below hb hz.lt⟩, h.b.trans (hb.mono (by have := h.lt; omega)), h.le⟩
theorem Two.kn (h : Two n r w W) {p : Nat} (hp : p < 64) (v : Bool) : Two n { r with kn := upd r.kn p v } w (W.setCell ⟨n, 1 + p * 5, none⟩ (.bool v)) := h.step (h.s.kn hp v) ((Fr.refl _ _).setCell (.inl (by simp)) _)
theorem Two.th (h : Two n r w W) {p : Nat} (hp : p < 64) (v : Bool) : Two n { r with th := upd r.th p v } w (W.setCell ⟨n, 1 + p * 5 + 1, none⟩ (.bool v)) := h.step (h.s.th hp v) ((Fr.refl _ _).setCell (.inl (by simp)) _)
theorem Two.ak (h : Two n r w W) {p : Nat} (hp : p < 64) (v : Bool) : Two n { r with ak := upd r.ak p v } w (W.setCell ⟨n, 1 + p * 5 + 2, none⟩ (.bool v)) := h.step (h.s.ak hp v) ((Fr.refl _ _).setCell (.inl (by simp)) _)
theorem Two.ch (h : Two n r w W) {p : Nat} (hp : p < 64) (v : Bool) : Two n { r with ch := upd r.ch p v } w (W.setCell ⟨n, 1 + p * 5 + 3, none⟩ (.bool v)) := h.step (h.s.ch hp v) ((Fr.refl _ _).setCell (.inl (by simp)) _)
theorem Two.bt (h : Two n r w W) {p : Nat} (hp : p < 64) (v : ByteArray) : Two n { r with bt := upd r.bt p v } w (W.setCell ⟨n, 1 + p * 5 + 4, none⟩ (.string v)) := h.step (h.s.bt hp v) ((Fr.refl _ _).setCell (.inl (by simp)) _)
/-- The result is stored. -/
theorem Two.ret (h : Two n r w W) (hf : Fr [n + 1] W W') : Below w.heap.size w W' ∨ n < w.heap.size := by
  by_cases e : n = w.heap.size
  · left
    have hb := h.b
    rw [e] at hb
    exact hb.trans (hf.below (by have := h.lt; omega) (by simp; omega))
  · right; have := h.le; omega
end

/-! ### What need makes of the reference's space -/
theorem rs_need_known (m : Value) (a : AS) (p : Nat) (h : a.known p = true) : rsOf m (needA a p) = rsOf m a := by rw [needA_id a p h]
theorem rs_need_nil (m : Value) (a : AS) (p : Nat) (h : a.known p = false) (hs : a.src = none) : rsOf m (needA a p) = { rsOf m a with kn := upd a.known p true } := by
  unfold needA; rw [if_neg (by simp [h]), hs]; rfl
theorem rs_need_none (m : Value) (a : AS) (p : Nat) (ha : AOk a) (h : a.known p = false) (f : Nat → Option (List UInt8)) (hs : a.src = some f) (hf : f p = none) : rsOf m (needA a p) = { rsOf m a with kn := upd a.known p true, ak := upd a.asked p true } := by
  unfold needA; rw [if_neg (by simp [h]), hs]
  have hp := ha.unk p h
  show rsOf m { a with known := _, asked := _, page := upd a.page p ((f p).map padL) } = _
  rw [hf, Option.map_none, upd_same a.page p none hp]
  rfl
theorem rs_need_some (m : Value) (a : AS) (p : Nat) (h : a.known p = false) (f : Nat → Option (List UInt8)) (hs : a.src = some f) (l : List UInt8) (hf : f p = some l) : rsOf m (needA a p) = { rsOf m a with kn := upd a.known p true, ak := upd a.asked p true, th := upd (fun p => (a.page p).isSome) p true, bt := upd (fun p => ⟨((a.page p).getD []).toArray⟩) p ⟨(padL l).toArray⟩ } := by
  unfold needA; rw [if_neg (by simp [h]), hs]
  show rsOf m { a with known := _, asked := _, page := upd a.page p ((f p).map padL) } = _
  rw [hf, Option.map_some]
  unfold rsOf
  congr 1
  · funext q
    show (upd a.page p (some (padL l)) q).isSome = upd _ p true q
    by_cases e : q = p
    · rw [e, upd_at, upd_at]; rfl
    · rw [upd_ne _ _ _ _ e, upd_ne _ _ _ _ e]
  · funext q
    show (⟨((upd a.page p (some (padL l)) q).getD []).toArray⟩ : ByteArray) = upd _ p _ q
    by_cases e : q = p
    · rw [e, upd_at, upd_at]; rfl
    · rw [upd_ne _ _ _ _ e, upd_ne _ _ _ _ e]
theorem eql_map_nil (W : World) : (binOp BinOp.eql 32 (.map none) (.map none)).run Try.prog W = .ok (.bool true) W := by kernel_rfl
theorem eql_map_some (W : World) (q : Nat) : (binOp BinOp.eql 32 (.map (some q)) (.map none)).run Try.prog W = .ok (.bool false) W := by kernel_rfl

set_option maxRecDepth 100000 in
set_option maxHeartbeats 8000000 in
theorem refNeed_any (w : World) (m : Value) (a : AS) (p : Nat) (hp : p < 64) (hs : SrcIs w m a.src) (ha : AOk a) :
    Calls Try.prog 52 #[.agg (rsCells (rsOf m a)), .int .i64 p] w fun e w' => e = .returned (.agg (rsCells (rsOf m (needA a p)))) ∧ Below w.heap.size w w' := by
  have hz := z61
  have hmap := hs.map
  obtain ⟨R, hR⟩ : ∃ R, R = rsOf m (needA a p) := ⟨_, rfl⟩
  rw [← hR]
  have hRm : ∃ o, R.src = .map o := by rw [hR]; exact hmap
  have HT := Lib.hid (Two.new w (rsOf m a))
  have i1 : (p : Int) < 64 := by omega
  have i0 : (0 : Int) ≤ (p : Int) := by omega
  have HRM := Lib.hid hRm
  have HS := Lib.hid hs
  have HA := Lib.hid ha
  have HR := Lib.hid hR
  clear hmap hR hRm hs ha
  obtain ⟨r, hr⟩ : ∃ r, r = rsOf m a := ⟨_, rfl⟩
  rw [← hr] at HT ⊢
  have hk0 : r.kn p = a.known p := by rw [hr]; rfl
  have hsr : r.src = m := by rw [hr]; rfl
  have HRR := Lib.hid hr
  clear hr
  go_enter Try.func52, Try.ntmps52
  go_upto_region 1 with (fail)
  generalize ((w.alloc (.cells (rsCells r) 61)).alloc (.cells (rsCells rs0) 61)) = W0 at *
  clear hz
  have c1 := HT.out.s.c_kn hp
  rw [hk0] at c1
  obtain ⟨n, hn⟩ : ∃ n, n = w.heap.size := ⟨_, rfl⟩
  rw [← hn] at c1 HT ⊢
  have HN := Lib.hid hn
  clear hn hk0
  cases hk : a.known p with
  | true =>
    rw [hk] at c1
    have hrr : R = r := by rw [HR.out, HRR.out]; exact rs_need_known m a p hk
    have hsb : SB W0 n R := by rw [hrr]; exact HT.out.s
    have HSB := Lib.hid hsb
    clear hk hrr hsb
    obtain ⟨r0, hz0⟩ := HT.out.z
    have HZ0 := Lib.hid hz0
    clear hz0
    go_wp2_with (first
      | (with_reducible refine load_S HSB.out rfl (.tmp 2) rfl rfl ?_)
      | (refine store_S HZ0.out HRM.out rfl (.tmp 4) (.tmp 12) rfl rfl rfl ?_; intro w1 hw1 hf1))
    refine bodyPost_ret (res_S1 rfl _ hw1 rfl) rfl ?_
    have hbel := (HT.out.ret hf1).resolve_right (by rw [HN.out]; omega)
    exact ⟨rfl, hbel⟩
  | false =>
    rw [hk] at c1
    have HT1 := Lib.hid (HT.out.kn hp true)
    have f1 := HT.out.s.frozen (1 + p * 5)
    have zn := HT.out.s.lt
    have hne0 : 1 + p * 5 ≠ 0 := by omega
    have c0 : (W0.setCell ⟨n, 1 + p * 5, none⟩ (.bool true)).cell? ⟨n, 0, none⟩ = some m := by
      have := HT1.out.s.c_src
      rw [this]
      exact congrArg some hsr
    rcases HS.out with ⟨hm, hs0⟩ | ⟨pm, M, hm, hmi, hst, hs0⟩
    · rw [hm] at c0
      have hrr : R = { r with kn := upd r.kn p true } := by rw [HR.out, HRR.out]; exact rs_need_nil m a p hk hs0
      have hsb : SB (W0.setCell ⟨n, 1 + p * 5, none⟩ (.bool true)) n R := by rw [hrr]; exact HT1.out.s
      have HSB := Lib.hid hsb
      obtain ⟨r0, hz0⟩ := HT1.out.z
      have HZ0 := Lib.hid hz0
      have hq := eql_map_nil
      clear hk hrr hsb hz0 hs0 hm hsr
      go_wp2_with (first
        | (with_reducible refine load_S HSB.out rfl (.tmp 2) rfl rfl ?_)
        | (refine store_S HZ0.out HRM.out rfl (.tmp 4) (.tmp 20) rfl rfl rfl ?_; intro w1 hw1 hf1))
      refine bodyPost_ret (res_S1 rfl _ hw1 rfl) rfl ?_
      have hbel := (HT1.out.ret hf1).resolve_right (by rw [HN.out]; omega)
      exact ⟨rfl, hbel⟩
    · rw [hm] at c0
      have hq := eql_map_some
      have c2 := HT1.out.s.c_ak hp
      have f2 := HT1.out.s.frozen (1 + p * 5 + 2)
      have HT2 := Lib.hid (HT1.out.ak hp true)
      have hne1 : 1 + p * 5 + 2 ≠ 0 := by omega
      have hpg : Pg (p : Int) := by unfold Pg; omega
      have hml : MI ((W0.setCell ⟨n, 1 + p * 5, none⟩ (.bool true)).setCell ⟨n, 1 + p * 5 + 2, none⟩ (.bool true)) pm M := hmi.keep (HT2.out.b.block pm (by rw [HN.out]; exact hmi.lt))
      have c3 : ((W0.setCell ⟨n, 1 + p * 5, none⟩ (.bool true)).setCell ⟨n, 1 + p * 5 + 2, none⟩ (.bool true)).cell? ⟨n, 0, none⟩ = some (.map (some pm)) := by
        have := HT2.out.s.c_src
        rw [this, ← hm]
        exact congrArg some hsr
      have hlk := run_lookup_map (P := Try.prog) keyI Try.underlying32 zero9 hml (p : Int) hpg true
      simp only [if_true] at hlk
      unfold encI at hlk
      have hsm : srcM M p = (mget M (p : Int)).map fun v => (strOf v).data.toList := rfl
      cases hmg : mget M (p : Int) with
      | none =>
        rw [hmg] at hlk hsm
        simp only [Option.getD_none, Option.isSome_none] at hlk
        have hrr : R = { r with kn := upd r.kn p true, ak := upd r.ak p true } := by rw [HR.out, HRR.out]; exact rs_need_none m a p HA.out hk (srcM M) hs0 hsm
        have hsb : SB ((W0.setCell ⟨n, 1 + p * 5, none⟩ (.bool true)).setCell ⟨n, 1 + p * 5 + 2, none⟩ (.bool true)) n R := by rw [hrr]; exact HT2.out.s
        have HSB := Lib.hid hsb
        obtain ⟨r0, hz0⟩ := HT2.out.z
        have HZ0 := Lib.hid hz0
        clear hk hrr hsb hz0 hs0 hm hsr hmg hsm hmi hst hml
        go_wp2_with (first
          | (with_reducible refine load_S HSB.out rfl (.tmp 2) rfl rfl ?_)
          | (refine store_S HZ0.out HRM.out rfl (.tmp 4) (.tmp 43) rfl rfl rfl ?_; intro w1 hw1 hf1))
        refine bodyPost_ret (res_S1 rfl _ hw1 rfl) rfl ?_
        have hbel := (HT2.out.ret hf1).resolve_right (by rw [HN.out]; omega)
        exact ⟨rfl, hbel⟩
      | some v =>
        obtain ⟨t, rfl, ht⟩ := hst _ _ hmg
        rw [hmg] at hlk hsm
        simp only [Option.getD_some, Option.isSome_some] at hlk
        have hrr := rs_need_some m a p hk (srcM M) hs0 t.data.toList hsm
        rw [← HR.out, ← HRR.out] at hrr
        have HRS := Lib.hid hrr
        have HPAD := Lib.hid (fun W => pad_any W t (by omega))
        clear hk hrr hs0 hm hsr hmg hsm hmi hst hml
        go_wp2_with fail
        have HT3 := Lib.hid (HT2.out.below (Below.refl _ _).drew)
        refine wp_region_mixL (fun _ => True) [] [3, 7, 11] [0, 1, 2, 4, 5, 6, 8, 3, 7, 9, 10, 11] (by kernel_rfl) (by kernel_rfl) trivial ?_
        simp only [inOrder, opAt]
        generalize ((W0.setCell ⟨n, 1 + p * 5, none⟩ (.bool true)).setCell ⟨n, 1 + p * 5 + 2, none⟩ (.bool true)).drew = W3 at *
        iterate 7
          (refine wpMixS_read (v := ?_) rfl rfl (fun w' hS => ?_) ?_
           rotate_left
           · ((try clear hS); go_simp; (try with_reducible rfl))
           try simp only [Act.put, List.setIfInBounds_toArray, List.set_cons_zero, List.set_cons_succ])
        refine wpMixS_eff rfl rfl (fun K hK => ?_)
        go_simp
        refine (HPAD.out W3).mono ?_
        rintro e W4 ⟨rfl, nb⟩
        have HT4 := Lib.hid (HT3.out.below nb)
        have HT5 := Lib.hid (HT4.out.th hp true)
        have HT6 := Lib.hid (HT5.out.bt hp ⟨(padL t.data.toList).toArray⟩)
        have c4 := HT4.out.s.c_th hp
        have f4 := HT4.out.s.frozen (1 + p * 5 + 1)
        have c5 := HT5.out.s.c_bt hp
        have f5 := HT5.out.s.frozen (1 + p * 5 + 4)
        clear nb
        try dsimp only
        refine hK.out _ _ _ (fun _ h => h) (fun h => by cases h) ?_
        clear hK K
        try simp only [Act.put, List.setIfInBounds_toArray, List.set_cons_zero, List.set_cons_succ]
        refine wpMixS_eff rfl rfl (fun K hK => ?_)
        go_simp
        refine hK.out _ _ _ (fun _ h => h) (fun h => by cases h) ?_
        clear hK K
        try simp only [Act.put, List.setIfInBounds_toArray, List.set_cons_zero, List.set_cons_succ]
        iterate 2
          (refine wpMixS_read (v := ?_) rfl rfl (fun w' hS => ?_) ?_
           rotate_left
           · ((try clear hS); go_simp; (try with_reducible rfl))
           try simp only [Act.put, List.setIfInBounds_toArray, List.set_cons_zero, List.set_cons_succ])
        refine wpMixS_eff rfl rfl (fun K hK => ?_)
        go_simp
        refine hK.out _ _ _ (fun _ h => h) (fun h => by cases h) ?_
        clear hK K
        try simp only [Act.put, List.setIfInBounds_toArray, List.set_cons_zero, List.set_cons_succ]
        refine wpMixS_nil ?_
        have hsb : SB ((W4.setCell ⟨n, 1 + p * 5 + 1, none⟩ (.bool true)).setCell ⟨n, 1 + p * 5 + 4, none⟩ (.string ⟨(padL t.data.toList).toArray⟩)) n R := by
          rw [HRS.out, HRR.out]
          have := HT6.out.s
          rw [HRR.out] at this
          exact this
        have HSB := Lib.hid hsb
        obtain ⟨r0, hz0⟩ := HT6.out.z
        have HZ0 := Lib.hid hz0
        have HT7 := Lib.hid (show Two n _ w ((W4.setCell ⟨n, 1 + p * 5 + 1, none⟩ (.bool true)).setCell ⟨n, 1 + p * 5 + 4, none⟩ (.string ⟨(padL t.data.toList).toArray⟩)) from HT6.out)
        clear hsb hz0 c4 f4 c5 f5 HT6 HT5
        generalize ((W4.setCell ⟨n, 1 + p * 5 + 1, none⟩ (.bool true)).setCell ⟨n, 1 + p * 5 + 4, none⟩ (.string ⟨(padL t.data.toList).toArray⟩)) = W6 at *
        go_wp2_with (first
          | (with_reducible refine load_S HSB.out rfl (.tmp 2) rfl rfl ?_)
          | (refine store_S HZ0.out HRM.out rfl (.tmp 4) (.tmp 43) rfl rfl rfl ?_; intro w1 hw1 hf1))
        refine bodyPost_ret (res_S1 rfl _ hw1 rfl) rfl ?_
        have hbel := (HT7.out.ret hf1).resolve_right (by rw [HN.out]; omega)
        exact ⟨rfl, hbel⟩
end Go.Proofs.Ytbppafbdmdbdiaa

/-
  The reference: reach.
-/
namespace Go.Proofs.Ytbppafbdmdbdiaa
open Go.RowKit
set_option linter.unusedVariables false

theorem SrcIs.two {w W : World} {n : Nat} {r : RS} {m : Value} {o : Option (Nat → Option (List UInt8))} (h : SrcIs w m o) (ht : Two n r w W) (hn : n = w.heap.size) : SrcIs W m o := h.below (by have := ht.b; rw [hn] at this; exact this)
theorem reachA_ok : ∀ (c p : Nat) (a : AS), AOk a → AOk (reachA c p a).1
  | 0, _, a, h => h
  | c + 1, p, a, h => by
    unfold reachA
    split
    · exact reachA_ok c (p + 1) _ (h.need p)
    · exact h.need p
theorem accessA_ok {a : AS} (h : AOk a) (x n : Int) : AOk (accessA a x n).1 := by
  unfold accessA
  split
  · exact h
  · split
    · exact h
    · exact reachA_ok _ _ _ h
theorem reachA_src : ∀ (c p : Nat) (a : AS), (reachA c p a).1.src = a.src
  | 0, _, a => rfl
  | c + 1, p, a => by
    unfold reachA
    split
    · rw [reachA_src c (p + 1), needA_src]
    · exact needA_src a p
theorem accessA_src (a : AS) (x n : Int) : (accessA a x n).1.src = a.src := by
  unfold accessA
  split
  · rfl
  · split
    · rfl
    · exact reachA_src _ _ _
theorem rsOf_map {m : Value} (a : AS) (h : ∃ o, m = .map o) : ∃ o, (rsOf m a).src = .map o := h

set_option maxRecDepth 100000 in
set_option maxHeartbeats 8000000 in
theorem refReach_any (w : World) (m : Value) (a : AS) (at_ n : Int) (hn0 : 0 ≤ n) (hn1 : n ≤ 9223372036854775807) (ha1 : -9223372036854775808 ≤ at_) (ha2 : at_ ≤ 9223372036854775807) (hs : SrcIs w m a.src) (ha : AOk a) :
    Calls Try.prog 51 #[.agg (rsCells (rsOf m a)), .int .i64 at_, .int .i64 n] w fun e w' => e = .returned (.tuple #[.agg (rsCells (rsOf m (accessA a at_ n).1)), .int .i64 (accessA a at_ n).2]) ∧ Below w.heap.size w w' := by
  have hz := z61
  have HMAP := Lib.hid hs.map
  have HT := Lib.hid (Two.new w (rsOf m a))
  have HS := Lib.hid hs
  have HA := Lib.hid ha
  clear hs ha
  by_cases h0 : n = 0
  · have hr : accessA a at_ n = (a, 0) := by unfold accessA; rw [if_pos h0]
    rw [hr]
    subst h0
    clear hr
    go_enter Try.func51, Try.ntmps51
    go_upto_region 1 with (fail)
    generalize ((w.alloc (.cells (rsCells (rsOf m a)) 61)).alloc (.cells (rsCells rs0) 61)) = W0 at *
    clear hz
    obtain ⟨k, hk⟩ : ∃ k, k = w.heap.size := ⟨_, rfl⟩
    rw [← hk] at HT ⊢
    have HN := Lib.hid hk
    clear hk
    obtain ⟨r0, hz0⟩ := HT.out.z
    have HZ0 := Lib.hid hz0
    clear hz0
    go_wp2_with (first
      | (with_reducible refine load_S HT.out.s rfl (.tmp 3) rfl rfl ?_)
      | (refine store_S HZ0.out (rsOf_map a HMAP.out) rfl (.tmp 6) (.tmp 11) rfl rfl rfl ?_; intro w1 hw1 hf1))
    refine bodyPost_ret (res_S2 rfl _ hw1 rfl) rfl ?_
    have hbel := (HT.out.ret hf1).resolve_right (by rw [HN.out]; omega)
    exact ⟨rfl, hbel⟩
  · have e0 : (n == 0) = false := beq_eq_false_iff_ne.2 h0
    by_cases hbad : at_ < 0 ∨ 4096 ≤ at_ ∨ 4096 - at_ < n
    · have hr : accessA a at_ n = (a, 23) := by unfold accessA; rw [if_neg h0, if_pos hbad]
      rw [hr]
      have hc : decide (at_ < 0) = true ∨ (decide (at_ < 0) = false ∧ decide (4096 ≤ at_) = true) ∨ (0 ≤ at_ ∧ at_ < 4096 ∧ decide (at_ < 0) = false ∧ decide (4096 ≤ at_) = false ∧ decide (4096 < n) = true) ∨ (0 ≤ at_ ∧ at_ < 4096 ∧ n ≤ 4096 ∧ decide (at_ < 0) = false ∧ decide (4096 ≤ at_) = false ∧ decide (4096 < n) = false ∧ decide (4096 < at_ + n) = true) := by
        by_cases c1 : at_ < 0
        · exact .inl (decide_eq_true c1)
        · by_cases c2 : 4096 ≤ at_
          · exact .inr (.inl ⟨decide_eq_false c1, decide_eq_true c2⟩)
          · by_cases c3 : 4096 < n
            · exact .inr (.inr (.inl ⟨by omega, by omega, decide_eq_false c1, decide_eq_false c2, decide_eq_true c3⟩))
            · exact .inr (.inr (.inr ⟨by omega, by omega, by omega, decide_eq_false c1, decide_eq_false c2, decide_eq_false c3, decide_eq_true (by omega)⟩))
      clear hbad hr h0
      rcases hc with c1 | ⟨c1, c2⟩ | ⟨b1, b2, c1, c2, c3⟩ | ⟨b1, b2, b3, c1, c2, c3, c4⟩
      all_goals
        go_enter Try.func51, Try.ntmps51
        go_upto_region 1 with (fail)
        generalize ((w.alloc (.cells (rsCells (rsOf m a)) 61)).alloc (.cells (rsCells rs0) 61)) = W0 at *
        clear hz
        obtain ⟨k, hk⟩ : ∃ k, k = w.heap.size := ⟨_, rfl⟩
        rw [← hk] at HT ⊢
        have HN := Lib.hid hk
        clear hk
        obtain ⟨r0, hz0⟩ := HT.out.z
        have HZ0 := Lib.hid hz0
        clear hz0
        go_wp2_with (first
          | (with_reducible refine load_S HT.out.s rfl (.tmp 3) rfl rfl ?_)
          | (refine store_S HZ0.out (rsOf_map a HMAP.out) rfl (.tmp 6) (.tmp 28) rfl rfl rfl ?_; intro w1 hw1 hf1))
        refine bodyPost_ret (res_S2 rfl _ hw1 rfl) rfl ?_
        have hbel := (HT.out.ret hf1).resolve_right (by rw [HN.out]; omega)
        exact ⟨rfl, hbel⟩
    · obtain ⟨x, rfl⟩ : ∃ x : Nat, at_ = x := ⟨at_.toNat, by omega⟩
      obtain ⟨c, rfl⟩ : ∃ c : Nat, n = c := ⟨n.toNat, by omega⟩
      have hx : x < 4096 := by omega
      have hxm : x + c ≤ 4096 := by omega
      have hm1 : 1 ≤ c := by omega
      obtain ⟨lo, hlo⟩ : ∃ lo : Nat, lo = x / 64 := ⟨_, rfl⟩
      obtain ⟨hi, hhi⟩ : ∃ hi : Nat, hi = (x + c - 1) / 64 := ⟨_, rfl⟩
      have hle : lo ≤ hi := by omega
      have hh : hi < 64 := by omega
      have hr : accessA a x c = ((reachA (hi + 1 - lo) lo a).1, errOf (reachA (hi + 1 - lo) lo a).2) := by
        unfold accessA
        rw [if_neg h0, if_neg hbad]
        have q1 : (((x : Int) + c - 1) / 64).toNat = hi := by omega
        have q2 : ((x : Int) / 64).toNat = lo := by omega
        rw [q1, q2]
      rw [hr]
      obtain ⟨R, hR⟩ : ∃ R, R = reachA (hi + 1 - lo) lo a := ⟨_, rfl⟩
      rw [← hR]
      have c1 : decide ((x : Int) < 0) = false := decide_eq_false (by omega)
      have c2 : decide ((4096 : Int) ≤ x) = false := decide_eq_false (by omega)
      have c3 : decide ((4096 : Int) < c) = false := decide_eq_false (by omega)
      have c4 : decide ((4096 : Int) < x + c) = false := decide_eq_false (by omega)
      have d1 : (x : Int) / 64 = (lo : Int) := by omega
      have d2 : ((x : Int) + c - 1) / 64 = (hi : Int) := by omega
      have HR := Lib.hid hR
      clear hbad hr hR hlo hhi h0
      go_enter Try.func51, Try.ntmps51
      go_upto_region 1 with (fail)
      generalize ((w.alloc (.cells (rsCells (rsOf m a)) 61)).alloc (.cells (rsCells rs0) 61)) = W0 at *
      clear hz
      obtain ⟨k, hk⟩ : ∃ k, k = w.heap.size := ⟨_, rfl⟩
      rw [← hk] at HT ⊢
      have HN := Lib.hid hk
      have hkl := HT.out.lt
      clear hk
      go_wp2_with fail
      go_loopg [8] (hi + 1 - lo) (fun q pv wr => ∃ (p : Nat) (a1 : AS), pv = .int .i64 p ∧ q = hi + 1 - p ∧ lo ≤ p ∧ p ≤ hi + 1 ∧ Two k (rsOf m a1) w wr ∧ Hid (reachA (hi + 1 - p) p a1 = R) ∧ AOk a1 ∧ a1.src = a.src)
      case atStart => exact ⟨lo, a, rfl, rfl, Nat.le_refl _, by omega, HT.out, Lib.hid HR.out.symm, HA.out, rfl⟩
      case round =>
        obtain ⟨p, a1, rfl, rfl, hp1, hp2, ht1, HRR, hok1, hsrc1⟩ := hrel
        have HT1 := Lib.hid ht1
        have HOK1 := Lib.hid hok1
        have HSR1 := Lib.hid hsrc1
        have hlt1 := ht1.lt
        clear ht1 hok1 hsrc1
        obtain ⟨r0, hz0⟩ := HT1.out.z
        have HZ0 := Lib.hid hz0
        clear hz0
        by_cases hlt : p ≤ hi
        · have i1 : (p : Int) ≤ hi := by omega
          have hp64 : p < 64 := by omega
          have i2 : (p : Int) < 64 := by omega
          have i3 : (0 : Int) ≤ (p : Int) := by omega
          have hRR := HRR.out
          rw [show hi + 1 - p = (hi - p) + 1 by omega] at hRR
          unfold reachA at hRR
          have HR2 := Lib.hid hRR
          have HNE := Lib.hid (refNeed_any wr m a1 p hp64 (by rw [HSR1.out]; exact HS.out.two HT1.out HN.out) HOK1.out)
          clear hRR HRR
          go_wp2_with (with_reducible refine load_S HT1.out.s rfl (.tmp 3) rfl rfl ?_)
          refine HNE.out.mono ?_
          rintro e w2 ⟨rfl, nb⟩
          have HT2 := Lib.hid (HT1.out.below nb)
          have hlt2 := HT2.out.lt
          clear nb HNE
          dsimp only
          go_upto_region 9 with (refine store_S HT2.out.s (rsOf_map _ HMAP.out) rfl (.tmp 3) (.tmp 42) rfl rfl rfl ?_; intro w3 hw3 hf3)
          have HT3 := Lib.hid (HT2.out.step hw3 hf3)
          have hlt3 := HT3.out.lt
          have cth := HT3.out.s.c_th hp64
          obtain ⟨r3, hz3⟩ := HT3.out.z
          have HZ0 := Lib.hid hz3
          clear hw3 hf3 hz3
          replace cth : w3.cell? ⟨k, 1 + p * 5 + 1, none⟩ = some (.bool ((needA a1 p).page p).isSome) := cth
          cases hb : ((needA a1 p).page p).isSome with
          | true =>
            rw [hb] at cth
            have hr2 := HR2.out
            rw [if_pos hb] at hr2
            have HR3 := Lib.hid hr2
            clear hr2 hb
            go_wp2_with fail
            go_roundg (hi + 1 - (p + 1))
            case measure => omega
            case rel => exact ⟨p + 1, needA a1 p, by go_num, rfl, by omega, by omega, HT3.out, Lib.hid (by rw [show hi + 1 - (p + 1) = hi - p by omega]; exact HR3.out), HOK1.out.need p, (needA_src a1 p).trans HSR1.out⟩
          | false =>
            rw [hb] at cth
            have hr2 := HR2.out
            rw [if_neg (by rw [hb]; simp)] at hr2
            have HR3 := Lib.hid hr2
            clear hr2 hb
            go_wp2_with (first
              | (with_reducible refine load_S HT3.out.s rfl (.tmp 3) rfl rfl ?_)
              | (refine store_S HZ0.out (rsOf_map _ HMAP.out) rfl (.tmp 6) (.tmp 49) rfl rfl rfl ?_; intro w1 hw1 hf1))
            refine bodyPost_ret (res_S2 rfl _ hw1 rfl) rfl ?_
            have hbel := (HT3.out.ret hf1).resolve_right (by rw [HN.out]; omega)
            exact ⟨by rw [← HR3.out]; rfl, hbel⟩
        · obtain rfl : p = hi + 1 := by omega
          have i1 : decide ((((hi + 1 : Nat) : Int)) ≤ (hi : Int)) = false := decide_eq_false (by omega)
          have i2 : decide ((hi : Int) + 1 ≤ (hi : Int)) = false := decide_eq_false (by omega)
          have hr2 : R = (a1, true) := by
            rw [← HRR.out, Nat.sub_self]; rfl
          have HR3 := Lib.hid hr2
          clear hr2 HRR
          go_wp2_with (first
            | (with_reducible refine load_S HT1.out.s rfl (.tmp 3) rfl rfl ?_)
            | (refine store_S HZ0.out (rsOf_map _ HMAP.out) rfl (.tmp 6) (.tmp 50) rfl rfl rfl ?_; intro w1 hw1 hf1))
          refine bodyPost_ret (res_S2 rfl _ hw1 rfl) rfl ?_
          have hbel := (HT1.out.ret hf1).resolve_right (by rw [HN.out]; omega)
          exact ⟨by rw [HR3.out]; rfl, hbel⟩
end Go.Proofs.Ytbppafbdmdbdiaa
