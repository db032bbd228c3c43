/-
  Walks: Store.
-/
import Derived.Test.YtkoomlbnfhdhcaaGreatDoorTOe
import Derived.Test.YtkoomlbnfhdhcaaGreatDoorChg
import Derived.Test.YtkoomlbnfhdhcaaGreatDoorPlB
namespace Go.Proofs.YtkoomlbnfhdhcaaGreatDoor
open Go.RowKit
set_option linter.unusedVariables false
set_option linter.unusedSimpArgs false

/-- A view behind Store: the first k of the changes are put. -/
def stV (V : Val) (who : List UInt8) (n : Nat) (l : List Ch) : Nat → Val
  | 0 => V
  | k + 1 => match l[k]? with
    | some (p, some b) => if p < n then vupd (stV V who n l k) (oG who p) b else stV V who n l k
    | _ => stV V who n l k
theorem stV_none {V : Val} {who : List UInt8} {n : Nat} {l : List Ch} {k p : Nat} (h : l[k]? = some (p, none)) : stV V who n l (k + 1) = stV V who n l k := by
  show (match l[k]? with | some (p, some b) => if p < n then vupd (stV V who n l k) (oG who p) b else stV V who n l k | _ => stV V who n l k) = _
  rw [h]
theorem stV_some {V : Val} {who : List UInt8} {n : Nat} {l : List Ch} {k p : Nat} {b : List UInt8} (h : l[k]? = some (p, some b)) : stV V who n l (k + 1) = if p < n then vupd (stV V who n l k) (oG who p) b else stV V who n l k := by
  show (match l[k]? with | some (p, some b) => if p < n then vupd (stV V who n l k) (oG who p) b else stV V who n l k | _ => stV V who n l k) = _
  rw [h]
theorem chVals_at : ∀ (cs : List Ch) (i : Nat) (c : Ch), cs[i]? = some c → ∀ j, j < 3 → (chVals cs)[i * 3 + j]? = (chCells c)[j]?
  | [], i, c, h, _, _ => by simp at h
  | d :: cs, 0, c, h, j, hj => by
    simp at h
    subst h
    show (chCells d ++ chVals cs)[0 * 3 + j]? = _
    rw [Nat.zero_mul, Nat.zero_add, List.getElem?_append_left (by obtain ⟨q, o⟩ := d; cases o <;> exact hj)]
  | d :: cs, i + 1, c, h, j, hj => by
    have hl : (chCells d).length = 3 := by obtain ⟨q, o⟩ := d; cases o <;> rfl
    rw [List.getElem?_cons_succ] at h
    show (chCells d ++ chVals cs)[(i + 1) * 3 + j]? = _
    rw [List.getElem?_append_right (by rw [hl]; omega), show (i + 1) * 3 + j - (chCells d).length = i * 3 + j from by rw [hl]; omega]
    exact chVals_at cs i c h j hj
/-- A row of changes, in a block of their type. -/
def RdC (w : World) (v : Value) (l : List Ch) : Prop := ∃ A c, v = .slice A l.length c ∧ (0 < l.length → ∃ b cur, A = some ⟨b, 0, none⟩ ∧ Blk w b 148 cur ∧ ∀ k x, l[k]? = some x → ∀ j, j < 3 → cur[k * 3 + j]? = (chCells x)[j]?)
theorem RdC.keep {w w' : World} {v : Value} {l : List Ch} (h : RdC w v l) (hk : ∀ b cur, Blk w b 148 cur → Blk w' b 148 cur) : RdC w' v l := by
  obtain ⟨A, c, h1, h3⟩ := h
  refine ⟨A, c, h1, fun h0 => ?_⟩
  obtain ⟨b, cur, h4, h5, h6⟩ := h3 h0
  exact ⟨b, cur, h4, hk b cur h5, h6⟩
theorem RdC.vf {w w' : World} {B : Nat} {v : Value} {l : List Ch} (h : RdC w v l) (hb : VF B w w') : RdC w' v l := h.keep fun _ _ h => hb.blk h (by decide) (by decide)
theorem RdC.of_own {w : World} {base : Nat} {v : Value} {l : List Ch} (h : w.ownsRow base 148 3 v l.length (chVals l)) : RdC w v l := by
  obtain ⟨OA, oc, rfl⟩ := own_slice h
  refine ⟨OA, oc, rfl, fun h0 => ?_⟩
  rcases h.2 with ⟨_, h2⟩ | ⟨g, cap, cur, hv, hg, hh, h1, h3, h4, h5⟩
  · have : l.length = 0 := by first | exact h2 | exact h2.1
    omega
  · injection hv with e1 e2 e3
    refine ⟨g, cur, e1, hh, fun k x hk j hj => ?_⟩
    have h6 := chVals_at l k x hk j hj
    have hlt : k < l.length := (List.getElem?_eq_some_iff.1 hk).1
    have := congrArg (fun l => l[k * 3 + j]?) h5
    have hlt3 : k * 3 + j < l.length * 3 := by omega
    simp only [List.getElem?_take] at this
    rw [if_pos hlt3] at this
    rw [← h6, ← this]
    simp
theorem RdC.at_ {w : World} {A : Option Addr} {n c : Nat} {l : List Ch} (h : RdC w (.slice A n c) l) {k : Nat} {x : Ch} (hk : l[k]? = some x) : ∃ b, A = some ⟨b, 0, none⟩ ∧ n = l.length ∧ w.cell? ⟨b, k * 3, none⟩ = (chCells x)[0]? ∧ w.cell? ⟨b, k * 3 + 1, none⟩ = (chCells x)[1]? ∧ w.cell? ⟨b, k * 3 + 2, none⟩ = (chCells x)[2]? := by
  obtain ⟨A', c', h1, h3⟩ := h
  injection h1 with e1 e2 e3
  have hlt : k < l.length := (List.getElem?_eq_some_iff.1 hk).1
  obtain ⟨b, cur, h4, h5, h6⟩ := h3 (by omega)
  refine ⟨b, e1.trans h4, e2, ?_, ?_, ?_⟩
  · rw [h5.cell]; exact h6 k x hk 0 (by omega)
  · rw [h5.cell]; exact h6 k x hk 1 (by omega)
  · rw [h5.cell]; exact h6 k x hk 2 (by omega)
theorem info148 : (Tryz.prog.info? 148).map (·.size) = some 3 := by kernel_rfl
set_option maxRecDepth 100000 in
set_option maxHeartbeats 8000000 in
theorem storeP_any (w : World) (B v n m : Nat) (V : Val) (who : List UInt8) (p : Pr) (l : List Ch) (h : Env w B v V n) (hp : Has V who p) (hs : p.sp = who) (hn : n + 64 ≤ 100000) (hl : l.length ≤ 64) (hlb : ∀ q b, (q, some b) ∈ l → b.length ≤ 64)
    (hch : ∀ W, VF B w W → Env W B v V n → Calls Tryz.prog 69 #[.pointer (some ⟨m, 0, none⟩)] W fun e w' => OwnChs W.heap.size l e w' ∧ Below W.heap.size W w') :
    Calls Tryz.prog 34 #[.pointer (some ⟨v, 0, none⟩), .string (strL who), .pointer (some ⟨m, 0, none⟩)] w fun e w' => e = .returned (.int .i64 0) ∧ Env w' B v (stV V who p.pages l l.length) (n + l.length) ∧ VF B w w' := by
  have hmo := fun W (h : Env W B v V n) => memoryOf_any W B v n V who p h hp hs (by omega)
  have hmk := fun W (h : Env W B v V n) => mark_any W B v n V h.vw
  have HE := Lib.hid h
  have HBw := Lib.hid h.leB
  have hw := hp.w
  have hmax := hp.ok.pages
  clear h hp
  go_enter Tryz.func34, Tryz.ntmps34
  go_wp2_with fail
  refine (hmo _ HE.out).mono ?_
  rintro e w1 ⟨gv, rfl, hgr, h1, f1⟩
  have HE1 := Lib.hid h1
  have HF1 := Lib.hid f1
  have hone := pr_one p w1 _ gv hgr
  have hsz := pr_size p gv
  have hc6 : (prCells p gv)[6]? = some (.string (strL who)) := by rw [← hs]; rfl
  have hc7 : (prCells p gv)[7]? = some (.int .i64 (p.pages : Int)) := rfl
  clear hgr h1 f1 HE hmo hs
  unfold prV at *
  obtain ⟨P, hP⟩ : ∃ P, P = prCells p gv := ⟨_, rfl⟩
  rw [← hP] at hone hsz hc6 hc7 ⊢
  have hi40 : (Tryz.prog.info? 40).map (·.size) = some P.size := by rw [hsz]; exact info40
  clear hP
  have HA2 : Hid (Blk ((w1.alloc (.cells zPr 40)).alloc (.cells zPr 40)) w1.heap.size 40 zPr) := Lib.hid ((Blk.new w1 40 zPr).alloc _)
  have HO2 : Hid (Blk ((w1.alloc (.cells zPr 40)).alloc (.cells zPr 40)) (w1.heap.size + 1) 40 zPr) := Lib.hid (Blk.new_ _ _ _ (by simp))
  have HB2 : Hid (Below w1.heap.size w1 ((w1.alloc (.cells zPr 40)).alloc (.cells zPr 40))) := Lib.hid (((Below.refl _ _).alloc (Nat.le_refl _) _).alloc (by simp) _)
  unfold zPr at HA2 HO2 HB2
  go_upto_region 4 with (first | (refine wpList_store_blk rfl 40 (.tmp 7) (.tmp 24) rfl w1.heap.size rfl _ rfl HA2.out hsz hi40 hone ?_; intro w3 hk3 hf3; have HO3 := Lib.hid (HO2.out.fr hf3 (by simp))) | (refine wpList_store_blk rfl 40 (.tmp 8) (.tmp 25) rfl (w1.heap.size + 1) rfl _ rfl HO3.out hsz hi40 hone ?_; intro w4 hk4 hf4))
  have HA4 := Lib.hid (hk3.fr hf4 (by simp))
  have HO4 := Lib.hid hk4
  have hb4 : Below w1.heap.size w1 w4 := belowFr1 (belowFr1 HB2.out hf3 (Nat.le_refl _) (Nat.le_refl _)) hf4 (Nat.le_succ _) (Nat.le_refl _)
  have HE4 := Lib.hid (HE1.out.below hb4)
  have HF4 := Lib.hid (HF1.out.trans (VF.of_below hb4))
  clear hk3 hf3 hk4 hf4 hb4 HO3 HA2 HO2 HB2 HE1 HF1
  go_wp2_with fail
  refine (hmk _ HE4.out).mono ?_
  rintro e w4' ⟨mk, rfl, rfl⟩
  clear hmk
  go_wp2_with fail
  refine (hch w4 HF4.out HE4.out).mono ?_
  rintro e w5 ⟨⟨OA, oc, rfl, hown⟩, nb⟩
  have HC5 := Lib.hid (RdC.of_own hown)
  have HA5 := Lib.hid (HA4.out.below nb HA4.out.lt)
  have HO5 := Lib.hid (HO4.out.below nb HO4.out.lt)
  have HE5 := Lib.hid (HE4.out.below nb)
  have HF5 := Lib.hid (HF4.out.trans (VF.of_below nb))
  clear hown nb HA4 HO4 HE4 HF4 hch
  go_wp2_with fail
  go_loopg [35] l.length (fun q iv wr => ∃ k : Nat, k ≤ l.length ∧ q = l.length - k ∧ iv = .int .i64 (k : Int) ∧ Env wr B v (stV V who p.pages l k) (n + k) ∧ VF B w5 wr)
  case atStart => exact ⟨0, Nat.zero_le _, rfl, rfl, HE5.out, VF.refl _ _⟩
  case round =>
    obtain ⟨k, hk, rfl, rfl, he, hf⟩ := hrel
    have HEr := Lib.hid he
    have HFr := Lib.hid hf
    clear he hf
    by_cases hlt : k < l.length
    case neg =>
      obtain rfl : k = l.length := by omega
      go_wp2_with fail
      go_ret
      exact ⟨rfl, HEr.out, HF5.out.trans HFr.out⟩
    have i1 : (k : Int) < (l.length : Int) := by omega
    have i0 : (0 : Int) ≤ (k : Int) := by omega
    obtain ⟨qx, hx⟩ : ∃ x, l[k]? = some x := ⟨_, List.getElem?_eq_getElem hlt⟩
    obtain ⟨b, hA, _, d0, d1, d2⟩ := (HC5.out.vf HFr.out).at_ hx
    subst hA
    obtain ⟨q, o⟩ := qx
    have a6 := (HFr.out.blk HA5.out (by decide) (by decide)).cell 6
    have o7 := (HFr.out.blk HO5.out (by decide) (by decide)).cell 7
    rw [hc6] at a6
    rw [hc7] at o7
    have za := (HFr.out.blk HA5.out (by decide) (by decide)).lt
    have zo := (HFr.out.blk HO5.out (by decide) (by decide)).lt
    have HK := Lib.hid (Blk.new wr 148 #[.int .i64 0, .string ⟨#[]⟩, .bool false])
    cases o with
    | none =>
      have HST := Lib.hid (stV_none (V := V) (who := who) (n := p.pages) hx)
      simp [chCells] at d0 d1 d2
      clear hx
      go_upto_region 10 with (refine wpList_store_blk rfl 148 (.tmp 12) (.tmp 38) rfl wr.heap.size rfl _ rfl HK.out rfl info148 rfl ?_; intro w7 hk7 hf7)
      have hb7 : Below wr.heap.size wr w7 := belowFr1 ((Below.refl _ _).alloc (Nat.le_refl _) _) hf7 (Nat.le_refl _) (Nat.le_refl _)
      have c2 := hk7.cell 2
      simp at c2
      have HE7 := Lib.hid (HEr.out.below hb7)
      have HF7 := Lib.hid (HFr.out.trans (VF.of_below hb7))
      clear hk7 hf7 hb7 HEr HFr d0 d1 d2 a6 o7 za zo HK
      go_wp2_with fail
      go_roundg (l.length - (k + 1))
      case measure => omega
      case rel => exact ⟨k + 1, hlt, rfl, by go_num, by rw [HST.out]; exact HE7.out.more (by omega), HF7.out⟩
    | some c =>
      have hcl := hlb q c (List.mem_of_getElem? hx)
      have hst := stV_some (V := V) (who := who) (n := p.pages) hx
      simp [chCells] at d0 d1 d2
      clear hx
      have i2 : decide ((q : Int) < 0) = false := decide_eq_false (by omega)
      go_upto_region 10 with (refine wpList_store_blk rfl 148 (.tmp 12) (.tmp 38) rfl wr.heap.size rfl _ rfl HK.out rfl info148 rfl ?_; intro w7 hk7 hf7)
      have hb7 : Below wr.heap.size wr w7 := belowFr1 ((Below.refl _ _).alloc (Nat.le_refl _) _) hf7 (Nat.le_refl _) (Nat.le_refl _)
      have HK7 := Lib.hid hk7
      have c0 := hk7.cell 0
      have c1 := hk7.cell 1
      have c2 := hk7.cell 2
      simp at c0 c1 c2
      have a6' : w7.cell? ⟨w1.heap.size, 6, none⟩ = some (.string (strL who)) := (hb7.cell (p := ⟨w1.heap.size, 6, none⟩) za).trans a6
      have o7' : w7.cell? ⟨w1.heap.size + 1, 7, none⟩ = some (.int .i64 (p.pages : Int)) := (hb7.cell (p := ⟨w1.heap.size + 1, 7, none⟩) zo).trans o7
      have HE7 := Lib.hid (HEr.out.below hb7)
      have HF7 := Lib.hid (HFr.out.trans (VF.of_below hb7))
      clear hk7 hf7 hb7 HEr HFr d0 d1 d2 a6 o7 HK
      by_cases hq : q < p.pages
      · rw [if_pos hq] at hst
        have i3 : decide (p.pages ≤ q) = false := decide_eq_false (by omega)
        have i4 : ¬ (p.pages ≤ q) := by omega
        have HST := Lib.hid hst
        have hset := fun W (h : Env W B v (stV V who p.pages l k) (n + k)) => h.set (b := c) (okG hw (i := q) (by omega)) (by omega) (by omega)
        have hof := fun W => ofPage_any W who q
        unfold oG at hset hst
        obtain ⟨x, hx⟩ : ∃ x, x = obV ⟨3, who, q⟩ := ⟨_, rfl⟩
        rw [← hx] at hset hof
        obtain ⟨V', hV'⟩ : ∃ V', V' = vupd (stV V who p.pages l k) ⟨3, who, q⟩ c := ⟨_, rfl⟩
        rw [← hV'] at hset hst
        have HST := Lib.hid hst
        obtain ⟨s, hs⟩ : ∃ s, s = strL c := ⟨_, rfl⟩
        rw [← hs] at hset
        rw [show (⟨c.toArray⟩ : ByteArray) = strL c from rfl, ← hs] at c1
        rw [show (⟨c.toArray⟩ : ByteArray) = strL c from rfl, ← hs] at HK7
        have HK8 : Hid (Blk w7 wr.heap.size 148 #[.int .i64 (q : Int), .string s, .bool false]) := HK7
        clear hx hV' hst hs HK7
        have HA7 := Lib.hid (HF7.out.blk HA5.out (by decide) (by decide))
        go_upto_region 11 with (fail)
        refine wp_region_mixL (fun W => Blk W w1.heap.size 40 P ∧ Blk W wr.heap.size 148 #[.int .i64 (q : Int), .string s, .bool false]) [2, 4, 5, 7, 8] [5, 8] [0, 1, 2, 3, 4, 6, 7, 5, 8, 9] (by kernel_rfl) (by kernel_rfl) ⟨HA7.out.drew, HK8.out.drew⟩ ?_
        simp only [inOrder, opAt]
        iterate 7
          (refine wpMixS_read (v := ?_) rfl rfl (fun w' hS => ?_) ?_
           rotate_left
           · ((try (obtain ⟨t, u⟩ := hS rfl; have t6 := t.cell 6; rw [hc6] at t6; have u0 := u.cell 0; have u1 := u.cell 1; have u2 := u.cell 2; simp at u0 u1 u2; clear t u)); go_simp; (try with_reducible rfl))
           try simp only [Act.put, List.setIfInBounds_toArray, List.set_cons_zero, List.set_cons_succ])
        refine wpMixS_eff rfl rfl (fun K hK => ?_)
        go_simp
        refine (hof _).mono ?_
        rintro e w8 ⟨rfl, nb⟩
        have HA8 := Lib.hid (HA7.out.drew.below nb HA7.out.lt)
        have HK9 := Lib.hid (HK8.out.drew.below nb HK8.out.lt)
        have HE8 := Lib.hid ((HE7.out.below (Below.refl _ _).drew).below nb)
        have HF8 := Lib.hid (HF7.out.trans (VF.of_below ((Below.refl _ _).drew.trans nb)))
        refine hK.out _ _ _ (fun _ h => h) (fun _ => ⟨HA8.out, HK9.out⟩) ?_
        clear hK K nb HE7 HF7 HA7 HK8 c0 c1 c2 a6' o7'
        try simp only [Act.put, List.setIfInBounds_toArray, List.set_cons_zero, List.set_cons_succ]
        refine wpMixS_eff rfl rfl (fun K hK => ?_)
        go_simp
        refine (hset _ HE8.out).mono ?_
        rintro e w9 ⟨rfl, h9, f9⟩
        have HE9 := Lib.hid h9
        have HF9 := Lib.hid (HF8.out.trans f9)
        refine hK.out _ _ _ (fun _ h => h) (fun _ => ⟨f9.blk HA8.out (by decide) (by decide), f9.blk HK9.out (by decide) (by decide)⟩) ?_
        clear hK K h9 f9 HE8 HF8 HA8 HK9
        try simp only [Act.put, List.setIfInBounds_toArray, List.set_cons_zero, List.set_cons_succ]
        iterate 1
          (refine wpMixS_read (v := ?_) rfl rfl (fun w' hS => ?_) ?_
           rotate_left
           · ((try clear hS); go_simp; (try with_reducible rfl))
           try simp only [Act.put, List.setIfInBounds_toArray, List.set_cons_zero, List.set_cons_succ])
        refine wpMixS_nil ?_
        go_wp2_with fail
        go_roundg (l.length - (k + 1))
        case measure => omega
        case rel => exact ⟨k + 1, hlt, rfl, by go_num, by rw [HST.out, show n + (k + 1) = n + k + 1 by omega]; exact HE9.out, HF9.out⟩
      · rw [if_neg hq] at hst
        have i3 : decide (p.pages ≤ q) = true := decide_eq_true (by omega)
        have i4 : p.pages ≤ q := by omega
        have HST := Lib.hid hst
        clear hst
        go_wp2_with fail
        go_roundg (l.length - (k + 1))
        case measure => omega
        case rel => exact ⟨k + 1, hlt, rfl, by go_num, by rw [HST.out]; exact HE7.out.more (by omega), HF7.out⟩
end Go.Proofs.YtkoomlbnfhdhcaaGreatDoor

/-
  Plain: a space whose pages come from a source: what has not changed shows what the source shows.
-/
namespace Go.Proofs.YtkoomlbnfhdhcaaGreatDoor
open Go.RowKit
set_option linter.unusedVariables false

structure SJ (f : Nat → Option (List UInt8)) (a : AS) : Prop where
  src : a.src = some f
  unch : ∀ p, a.known p = true → a.changed p = false → a.page p = (f p).map padL
  chg : ∀ p, a.changed p = true → a.known p = true ∧ (f p).isSome = true ∧ ∃ b, a.page p = some b ∧ b.length = 64
section
variable {f : Nat → Option (List UInt8)} {a : AS}
theorem SJ.need (h : SJ f a) (p : Nat) : SJ f (needA a p) := by
  unfold needA
  by_cases hk : a.known p = true
  · rw [if_pos hk]; exact h
  · rw [if_neg hk, h.src]
    have hc : a.changed p = false := by
      cases e : a.changed p with
      | false => rfl
      | true => exact absurd (h.chg p e).1 hk
    refine ⟨rfl, fun q hq hcq => ?_, fun q hq => ?_⟩
    · show upd a.page p ((f p).map padL) q = _
      by_cases e : q = p
      · rw [e, upd_at]
      · rw [upd_ne _ _ _ _ e]
        have hq : upd a.known p true q = true := hq
        rw [upd_ne _ _ _ _ e] at hq
        exact h.unch q hq hcq
    · have hne : q ≠ p := fun e => by
        rw [e] at hq
        have hq : a.changed p = true := hq
        rw [hc] at hq
        cases hq
      obtain ⟨h1, h2, h3⟩ := h.chg q hq
      refine ⟨?_, h2, ?_⟩
      · show upd a.known p true q = true
        rw [upd_ne _ _ _ _ hne]; exact h1
      · show ∃ b, upd a.page p _ q = some b ∧ _
        rw [upd_ne _ _ _ _ hne]; exact h3
theorem SJ.reach : ∀ (c p : Nat) (a : AS), SJ f a → SJ f (reachA c p a).1
  | 0, _, _, h => h
  | c + 1, p, a, h => by
    unfold reachA
    split
    · exact SJ.reach c _ _ (h.need p)
    · exact h.need p
theorem SJ.access (h : SJ f a) (x n : Int) : SJ f (accessA a x n).1 := by
  unfold accessA
  split
  · exact h
  · split
    · exact h
    · exact SJ.reach _ _ _ h
theorem SJ.load (h : SJ f a) (x n : Int) : SJ f (loadA a x n).1 := by
  unfold loadA
  split
  · exact h
  · exact h.access _ _
theorem need_keeps (a : AS) (p q : Nat) (h : a.known q = true) : (needA a p).page q = a.page q := by
  by_cases e : q = p
  · subst e
    unfold needA
    rw [if_pos h]
  · exact needA_page_ne a p q e
theorem reach_keeps : ∀ (c p : Nat) (a : AS) (q : Nat), a.known q = true → (reachA c p a).1.page q = a.page q
  | 0, _, _, _, _ => rfl
  | c + 1, p, a, q, h => by
    unfold reachA
    split
    · rw [reach_keeps c _ _ q (needE_known a p q (.inl h)), need_keeps a p q h]
    · exact need_keeps a p q h
theorem reach_some : ∀ (c p : Nat) (a : AS), (reachA c p a).2 = true → ∀ q, p ≤ q → q < p + c → ((reachA c p a).1.page q).isSome = true
  | 0, p, a, _, q, h1, h2 => by omega
  | c + 1, p, a, h, q, h1, h2 => by
    unfold reachA at h ⊢
    by_cases hs : ((needA a p).page p).isSome = true
    · rw [if_pos hs] at h ⊢
      by_cases e : q = p
      · rw [e, reach_keeps c _ _ p (needE_known a p p (.inr rfl))]; exact hs
      · exact reach_some c (p + 1) _ h q (by omega) (by omega)
    · rw [if_neg hs] at h
      cases h
theorem access_some {a : AS} {at_ n : Int} (h0 : (accessA a at_ n).2 = 0) (hn : 0 ≤ n) (i : Nat) (hi : (i : Int) < n) : ((accessA a at_ n).1.page ((at_.toNat + i) / 64)).isSome = true := by
  unfold accessA at h0 ⊢
  by_cases c0 : n = 0
  · omega
  · rw [if_neg c0] at h0 ⊢
    by_cases c1 : at_ < 0 ∨ 4096 ≤ at_ ∨ 4096 - at_ < n
    · rw [if_pos c1] at h0
      exact absurd h0 (by show ¬ (23 = 0); decide)
    · rw [if_neg c1] at h0 ⊢
      refine reach_some _ _ _ (errOf_zero h0) _ ?_ ?_
      · omega
      · omega
theorem SJ.has (h : SJ f a) {p : Nat} (hk : a.known p = true) (hs : (a.page p).isSome = true) : (f p).isSome = true ∧ ∃ b, a.page p = some b ∧ b.length = 64 := by
  cases e : a.changed p with
  | true => exact (h.chg p e).2
  | false =>
    have h1 := h.unch p hk e
    rw [h1] at hs ⊢
    cases hf : f p with
    | none => rw [hf] at hs; cases hs
    | some b => exact ⟨rfl, padL b, rfl, padL_length b⟩
theorem SJ.go (h : SJ f a) (x : Nat) (l : List UInt8) : ∀ k, (∀ i, i < k → a.known ((x + i) / 64) = true ∧ (a.page ((x + i) / 64)).isSome = true) → SJ f (storeGo a x l k)
  | 0, _ => h
  | k + 1, hk => by
    have ih := SJ.go h x l k (fun i hi => hk i (by omega))
    obtain ⟨k1, k2⟩ := hk k (by omega)
    have k1' : (storeGo a x l k).known ((x + k) / 64) = true := by rw [storeGo_known]; exact k1
    obtain ⟨h2, b, h3, h4⟩ := ih.has k1' (storeGo_some a x l _ k2 k)
    show SJ f (storeStep (storeGo a x l k) (x + k) (l.getD k 0))
    refine ⟨ih.src, fun q hq hcq => ?_, fun q hq => ?_⟩
    · have hcq : upd (storeGo a x l k).changed ((x + k) / 64) true q = false := hcq
      show upd (storeGo a x l k).page ((x + k) / 64) _ q = _
      by_cases e : q = (x + k) / 64
      · rw [e, upd_at] at hcq; cases hcq
      · rw [upd_ne _ _ _ _ e] at hcq ⊢
        exact ih.unch q hq hcq
    · have hq : upd (storeGo a x l k).changed ((x + k) / 64) true q = true := hq
      show (storeGo a x l k).known q = true ∧ _ ∧ ∃ b, upd (storeGo a x l k).page ((x + k) / 64) _ q = some b ∧ _
      by_cases e : q = (x + k) / 64
      · rw [e, upd_at]
        refine ⟨k1', h2, _, rfl, ?_⟩
        rw [h3]
        show (b.set _ _).length = 64
        rw [List.length_set]; exact h4
      · rw [upd_ne _ _ _ _ e] at hq ⊢
        exact ih.chg q hq
theorem SJ.store (h : SJ f a) (x : Int) (l : List UInt8) : SJ f (storeA a x l).1 := by
  have h1 := h.access x l.length
  unfold storeA
  show SJ f (if _ then _ else _)
  split
  · rename_i hz
    exact h1.go _ _ _ fun i hi => ⟨(access_known hz (by omega) i (by omega)).1, access_some hz (by omega) i (by omega)⟩
  · exact h1
theorem SJ.eff (h : SJ f a) (i : Ins) (g : Rg) : SJ f (effA i g a).2.1 := by
  obtain ⟨op, k, b, c⟩ := i
  by_cases h27 : op < 27
  · have h3 : op = 0 ∨ op = 1 ∨ op = 2 ∨ op = 3 ∨ op = 4 ∨ op = 5 ∨ op = 6 ∨ op = 7 ∨ op = 8 ∨ op = 9 ∨ op = 10 ∨ op = 11 ∨ op = 12 ∨ op = 13 ∨ op = 14 ∨ op = 15 ∨ op = 16 ∨ op = 21 ∨ op = 22 ∨ op = 23 ∨ op = 24 ∨ op = 25 ∨ op = 26 ∨ op = 17 ∨ op = 18 ∨ op = 19 ∨ op = 20 := by omega
    rcases h3 with rfl | rfl | rfl | rfl | rfl | rfl | rfl | rfl | rfl | rfl | rfl | rfl | rfl | rfl | rfl | rfl | rfl | rfl | rfl | rfl | rfl | rfl | rfl | rfl | rfl | rfl | rfl
    case inr.inr.inr.inr.inr.inr.inr.inr.inr.inr.inr.inr.inr.inr.inr.inr.inr.inr.inr.inr.inr.inr.inr.inl => show SJ f (loadG g a k b c).2.1; unfold loadG; split <;> exact h.load _ _
    case inr.inr.inr.inr.inr.inr.inr.inr.inr.inr.inr.inr.inr.inr.inr.inr.inr.inr.inr.inr.inr.inr.inr.inr.inl => show SJ f (storeG g a k b c).2.1; unfold storeG; split <;> exact h.store _ _
    case inr.inr.inr.inr.inr.inr.inr.inr.inr.inr.inr.inr.inr.inr.inr.inr.inr.inr.inr.inr.inr.inr.inr.inr.inr.inl => show SJ f (loadByteG g a k b c).2.1; unfold loadByteG; split <;> exact h.load _ _
    case inr.inr.inr.inr.inr.inr.inr.inr.inr.inr.inr.inr.inr.inr.inr.inr.inr.inr.inr.inr.inr.inr.inr.inr.inr.inr => show SJ f (storeByteG g a k b c).2.1; unfold storeByteG; split <;> exact h.store _ _
    all_goals exact h
  · obtain ⟨n, rfl⟩ : ∃ n, op = n + 27 := ⟨op - 27, by omega⟩
    exact h
theorem SJ.step (h : SJ f a) (g : Rg) : SJ f (stepA g a).a := by
  unfold stepA
  split
  · split
    · exact h.load _ _
    · exact (h.load _ _).eff _ _
  · exact h.load _ _
theorem SJ.loop : ∀ (n k : Nat) (g : Rg) (a : AS), SJ f a → SJ f (loopA n k g a).a
  | 0, _, _, _, h => h
  | n + 1, k, g, a, h => by
    rw [loopA_s]
    split
    · exact SJ.loop n _ _ _ (h.step g)
    · exact h.step g
/-- What a page shows. -/
theorem SJ.shows (h : SJ f a) (p : Nat) : effP a p = if a.changed p = true then a.page p else (f p).map padL := by
  unfold effP
  by_cases hc : a.changed p = true
  · rw [if_pos hc, if_pos (h.chg p hc).1]
  · rw [if_neg hc]
    split
    · rename_i hk
      exact h.unch p hk (by simpa using hc)
    · rw [h.src]
end
/-- A space that knows nothing yet. -/
def newSA (f : Nat → Option (List UInt8)) : AS := ⟨some f, fun _ => false, fun _ => false, fun _ => false, fun _ => none⟩
theorem newSA_unk (f : Nat → Option (List UInt8)) : Unk (newSA f) := fun _ _ => rfl
theorem newSA_sj (f : Nat → Option (List UInt8)) : SJ f (newSA f) := ⟨rfl, fun _ h _ => (by cases h), fun _ h => (by cases h)⟩
theorem newSA_eff (f : Nat → Option (List UInt8)) : effP (newSA f) = fun p => (f p).map padL := rfl
end Go.Proofs.YtkoomlbnfhdhcaaGreatDoor

/-
  Plain: what a turn leaves in a view.
-/
namespace Go.Proofs.YtkoomlbnfhdhcaaGreatDoor
open Go.RowKit
set_option linter.unusedVariables false

/-- The changed pages below k are put. -/
def stW (V : Val) (who : List UInt8) (n : Nat) (a : AS) (k : Nat) : Val := fun y =>
  if y.k = 3 ∧ y.o = who ∧ y.i < k ∧ y.i < n ∧ a.changed y.i = true then a.page y.i else V y
theorem stV_app (V : Val) (who : List UInt8) (n : Nat) (l m : List Ch) : ∀ k, k ≤ l.length → stV V who n (l ++ m) k = stV V who n l k
  | 0, _ => rfl
  | k + 1, h => by
    have ih := stV_app V who n l m k (by omega)
    have e : (l ++ m)[k]? = l[k]? := List.getElem?_append_left (by omega)
    show (match (l ++ m)[k]? with | some (p, some b) => if p < n then vupd (stV V who n (l ++ m) k) (oG who p) b else stV V who n (l ++ m) k | _ => stV V who n (l ++ m) k) = _
    rw [e, ih]
    rfl
theorem stW_zero (V : Val) (who : List UInt8) (n : Nat) (a : AS) : stW V who n a 0 = V := by
  funext y
  unfold stW
  rw [if_neg (fun h => absurd h.2.2.1 (by omega))]
theorem stW_skip (V : Val) (who : List UInt8) (n : Nat) (a : AS) (k : Nat) (h : ¬ (k < n ∧ a.changed k = true)) : stW V who n a (k + 1) = stW V who n a k := by
  funext y
  unfold stW
  by_cases e : y.i = k
  · rw [if_neg (fun hh => h (by rw [← e]; exact hh.2.2.2)), if_neg (fun hh => absurd hh.2.2.1 (by omega))]
  · exact ite_congr (propext (and_congr Iff.rfl (and_congr Iff.rfl (and_congr (by omega) Iff.rfl)))) (fun _ => rfl) (fun _ => rfl)
theorem stW_put (V : Val) (who : List UInt8) (n : Nat) (a : AS) (k : Nat) (b : List UInt8) (h : k < n) (hc : a.changed k = true) (hb : a.page k = some b) : stW V who n a (k + 1) = vupd (stW V who n a k) (oG who k) b := by
  funext y
  unfold vupd
  obtain ⟨yk, yo, yi⟩ := y
  by_cases e : (⟨yk, yo, yi⟩ : Ob) = oG who k
  · rw [if_pos e]
    injection e with e1 e2 e3
    subst e1 e2 e3
    unfold stW
    rw [if_pos ⟨rfl, rfl, by show yi < yi + 1; omega, h, hc⟩]
    exact hb
  · rw [if_neg e]
    unfold stW
    dsimp only
    by_cases h3 : yk = 3 ∧ yo = who
    · have hne : yi ≠ k := fun hh => e (by rw [h3.1, h3.2, hh])
      exact ite_congr (propext (and_congr Iff.rfl (and_congr Iff.rfl (and_congr (by omega) Iff.rfl)))) (fun _ => rfl) (fun _ => rfl)
    · rw [if_neg (fun hh => h3 ⟨hh.1, hh.2.1⟩), if_neg (fun hh => h3 ⟨hh.1, hh.2.1⟩)]
theorem stV_chL (V : Val) (who : List UInt8) (n : Nat) (a : AS) (hc : ∀ p, a.changed p = true → ∃ b, a.page p = some b) : ∀ k, stV V who n (chL a k) (chL a k).length = stW V who n a k
  | 0 => (stW_zero V who n a).symm
  | k + 1 => by
    have ih := stV_chL V who n a hc k
    rw [chL_succ]
    by_cases h : a.changed k = true
    · rw [if_pos h, List.length_append]
      show stV V who n (chL a k ++ [(k, a.page k)]) ((chL a k).length + 1) = _
      obtain ⟨b, hb⟩ := hc k h
      rw [hb, stV_some (p := k) (b := b) (by simp), stV_app _ _ _ _ _ _ (Nat.le_refl _), ih]
      by_cases hn : k < n
      · rw [if_pos hn, stW_put V who n a k b hn h hb]
      · rw [if_neg hn, stW_skip V who n a k (fun hh => hn hh.1)]
    · rw [if_neg h, List.append_nil, ih, stW_skip V who n a k (fun hh => h hh.2)]
/-- The memory that a view shows of a process. -/
def memM (V : Val) (p : Pr) : Mem := fun k => (memS V p k).map padL
theorem newSA_mem (V : Val) (p : Pr) : effP (newSA (memS V p)) = memM V p := rfl
theorem loopA_okR : ∀ (f n : Nat) (g : Rg) (a : AS), g.Ok → (loopA f n g a).g.Ok
  | 0, _, _, _, h => h
  | f + 1, n, g, a, h => by
    rw [loopA_s]
    split
    · exact loopA_okR f _ _ _ (stepA_ok h a)
    · exact stepA_ok h a
theorem padL_64 (b : List UInt8) (h : b.length = 64) : padL b = b := by
  unfold padL
  rw [List.take_append_of_le_length (by omega), List.take_of_length_le (by omega)]
/-- A process that runs, in a view. -/
structure Pst (V : Val) (who : List UInt8) (p : Pr) (g : Rg) : Prop where
  has : Has V who p
  st : p.st = 1
  sp : p.sp = who
  pg : AllPg V p
  rg : V (oR who) = some (encT g 9)
  ok : g.Ok
/-- The view behind a turn. -/
def turnV (V : Val) (who : List UInt8) (p : Pr) (g : Rg) (m : Nat) : Val :=
  vupd (stW V who p.pages (runA m g (newSA (memS V p))).a 64) (oR who) (encT (runA m g (newSA (memS V p))).g 9)
def turnG (V : Val) (p : Pr) (g : Rg) (m : Nat) : Rg := (runA m g (newSA (memS V p))).g
section
variable {V : Val} {who : List UInt8} {p : Pr} {g : Rg}
theorem turn_sj (V : Val) (p : Pr) (g : Rg) (m : Nat) : SJ (memS V p) (runA m g (newSA (memS V p))).a := SJ.loop m 0 g _ (newSA_sj _)
theorem turn_g (V : Val) (p : Pr) (g : Rg) (m : Nat) : turnG V p g m = (loopM m 0 g (memM V p)).g := (loopA_M m 0 g (newSA_unk (memS V p))).1
theorem turn_other (V : Val) (who : List UInt8) (p : Pr) (g : Rg) (m : Nat) (y : Ob) (h1 : ¬ (y.k = 3 ∧ y.o = who)) (h2 : y ≠ oR who) : turnV V who p g m y = V y := by
  unfold turnV
  rw [vupd_ne _ _ _ _ h2]
  unfold stW
  rw [if_neg (fun hh => h1 ⟨hh.1, hh.2.1⟩)]
theorem turn_page (h : Pst V who p g) (m : Nat) (k : Nat) (hk : k < p.pages) : turnV V who p g m (oG who k) = if (runA m g (newSA (memS V p))).a.changed k = true then (runA m g (newSA (memS V p))).a.page k else V (oG who k) := by
  have hp64 := h.has.ok.pages
  unfold turnV
  rw [vupd_ne _ _ _ _ (fun e => by injection e with e; cases e)]
  unfold stW
  by_cases hc : (runA m g (newSA (memS V p))).a.changed k = true
  · rw [if_pos hc, if_pos ⟨rfl, rfl, by show k < 64; omega, hk, hc⟩]
  · rw [if_neg hc, if_neg (fun hh => hc hh.2.2.2.2)]
theorem turn_mem (h : Pst V who p g) (m : Nat) : memM (turnV V who p g m) p = (loopM m 0 g (memM V p)).m := by
  have hm := (loopA_M m 0 g (newSA_unk (memS V p))).2.1
  rw [newSA_mem] at hm
  rw [← hm]
  funext k
  have hsj := turn_sj V p g m
  have hsh := hsj.shows k
  show _ = effP (runA m g (newSA (memS V p))).a k
  rw [hsh]
  have htp := turn_page h m k
  obtain ⟨R, hR⟩ : ∃ R, R = (runA m g (newSA (memS V p))).a := ⟨_, rfl⟩
  rw [← hR] at htp hsj ⊢
  unfold memM memS
  by_cases hk : k < p.pages
  · rw [if_pos hk, if_pos hk, h.sp, htp hk]
    by_cases hc : R.changed k = true
    · rw [if_pos hc, if_pos hc]
      obtain ⟨_, _, b, hb, hl⟩ := hsj.chg k hc
      rw [hb]
      show some (padL b) = some b
      rw [padL_64 b hl]
    · rw [if_neg hc, if_neg hc]
  · rw [if_neg hk, if_neg hk]
    by_cases hc : R.changed k = true
    · have := (hsj.chg k hc).2.1
      unfold memS at this
      rw [if_neg hk] at this
      cases this
    · rw [if_neg hc]
theorem turn_pst (h : Pst V who p g) (m : Nat) : Pst (turnV V who p g m) who p (turnG V p g m) := by
  have hsj := turn_sj V p g m
  refine ⟨⟨?_, ?_, h.has.w, h.has.ok, h.has.gs⟩, h.st, h.sp, fun k hk => ?_, vupd_at _ _ _, ?_⟩
  · rw [turn_other _ _ _ _ _ _ (fun hh => absurd hh.1 (show ¬ (1 = 3) by decide)) (fun e => by injection e with e; cases e)]
    exact h.has.v
  · rw [turn_other _ _ _ _ _ _ (fun hh => absurd hh.1 (show ¬ (20 = 3) by decide)) (fun e => by injection e with e; cases e)]
    exact h.has.e
  · rw [h.sp, turn_page h m k hk]
    by_cases hc : (runA m g (newSA (memS V p))).a.changed k = true
    · rw [if_pos hc]
      obtain ⟨_, _, b, hb, hl⟩ := hsj.chg k hc
      exact ⟨b, hb, by omega⟩
    · rw [if_neg hc, ← h.sp]; exact h.pg k hk
  · exact loopA_okR m 0 g _ h.ok
/-- A turn of one process leaves the other one. -/
theorem Pst.other {V' : Val} (h : Pst V who p g) (hV : ∀ y : Ob, (y.o = who ∨ y = oE) → V' y = V y) : Pst V' who p g := by
  refine ⟨⟨(hV _ (.inl rfl)).trans h.has.v, (hV _ (.inr rfl)).trans h.has.e, h.has.w, h.has.ok, h.has.gs⟩, h.st, h.sp, fun k hk => ?_, (hV _ (.inl rfl)).trans h.rg, h.ok⟩
  obtain ⟨b, hb, hl⟩ := h.pg k hk
  exact ⟨b, (hV _ (.inl h.sp)).trans hb, hl⟩
theorem memM_other {V' : Val} (hV : ∀ y : Ob, y.o = p.sp → V' y = V y) : memM V' p = memM V p := by
  funext k
  unfold memM memS
  rw [hV _ rfl]
end
end Go.Proofs.YtkoomlbnfhdhcaaGreatDoor

/-
  Walks: a turn.
-/
namespace Go.Proofs.YtkoomlbnfhdhcaaGreatDoor
open Go.RowKit
set_option linter.unusedVariables false
set_option linter.unusedSimpArgs false

theorem all_none (C : Source) (B : Nat) (w : World) : All C B w (fun _ => none) (fun _ => none) :=
  ⟨⟨fun _ _ h => (by cases h), fun _ _ _ h => (by cases h), fun _ _ h => (by cases h), fun _ _ _ _ _ _ _ _ h => (by cases h)⟩, fun _ h => (by cases h), fun _ _ h => (by cases h), fun _ _ h => (by cases h)⟩
theorem mach0 : MachOk C0 := fun _ _ _ _ _ _ _ h => h.elim
theorem ty0 (t : Nat) : TyOk C0 t := fun _ _ _ _ _ h => h.elim
def resC (g : Rg) (y nm ad n : Int) : Array Value := #[.int .u32 (g.r 0), .int .u32 (g.r 1), .int .u32 (g.r 2), .int .u32 (g.r 3), .int .u32 (g.r 4), .int .u32 (g.r 5), .int .u32 (g.r 6), .int .u32 (g.r 7), .int .u32 g.pc, .int .i64 y, .int .i64 nm, .int .u32 ad, .int .i64 n]
theorem resV_eq (g : Rg) (a : AS) (y nm ad : Int) (n : Nat) : resV ⟨g, a, ⟨y, nm, ad⟩, n⟩ = .agg (resC g y nm ad n) := rfl
theorem info57 : (Tryz.prog.info? 57).map (·.size) = some 13 := by kernel_rfl
section
variable {B B1 v n : Nat} {V : Val} {box ob vb pb root : Nat} {p : Pr} {gv : Value} {w w' w'' : World} {sps : Nat → Option Sp} {hm : Pages}
theorem All.vfS (h : All (vSrc B v n V box ob vb pb root p gv) B1 w sps hm) (hf : VF B w w') (he : Env w' B v V n) : All (vSrc B v n V box ob vb pb root p gv) B1 w' sps hm :=
  ⟨⟨fun k x hx => ⟨hf.blk (h.blk k x hx).1 (by decide) (by decide), (h.blk k x hx).2⟩,
    fun q b sh hq => ⟨(h.mem q b sh hq).1, hf.blk (h.mem q b sh hq).2.1 (by decide) (by decide), (h.mem q b sh hq).2.2⟩, h.ref, h.own⟩,
    fun x hx => (h.env x hx).imp id fun e => ⟨e.1, hf.blk e.2.1 (by decide) (by decide), ⟨he, hf.blk e.2.2.bo (by decide) (by decide), hf.blk e.2.2.bv (by decide) (by decide), hf.blk e.2.2.bp (by decide) (by decide)⟩⟩, h.nosrc, h.inv⟩
theorem VF.mv {X : Nat → Prop} (h : VF B w w') (k : Mv w.heap.size X w' w'') : VF B w w'' :=
  ⟨k.os.trans h.os, k.tape.trans h.tape, k.output.trans h.output, Nat.le_trans h.size k.size, fun i hi hc => (k.block i (Nat.lt_of_lt_of_le hi h.size) (.inl hi)).trans (h.block i hi hc)⟩
/-- The source's world, by the space that it feeds. -/
theorem All.rootE {C : Source} {root : Nat} {s : Sp} {f : Nat → Option (List UInt8)} (h : All C B1 w (upd sps root (some s)) hm) (hr : C.root = root) (hs : (view C hm s).src = some f) : C.E s.asked w := by
  rcases h.env s (by rw [hr]; exact upd_at _ _ _) with h1 | h1
  · exfalso
    unfold view at hs
    rw [h1] at hs
    cases hs
  · exact h1.2
end
set_option maxRecDepth 100000 in
set_option maxHeartbeats 8000000 in
theorem turn_any (w : World) (B v n m : Nat) (V : Val) (who : List UInt8) (p : Pr) (g : Rg) (h : Env w B v V n) (hs : Pst V who p g) (hm : m ≤ 100000) (hn : n + 200 ≤ 100000) (ho : Ops w) :
    Calls Tryz.prog 10 #[.pointer (some ⟨v, 0, none⟩), .string (strL who), .int .i64 (m : Int)] w fun e w' => e = .returned (.bool true) ∧ Env w' B v (turnV V who p g m) (n + 65) ∧ VF B w w' := by
  have hreg := fun W (h : Env W B v V n) => registers_any W B v n V who g h hs.has.w hs.ok hs.rg (by omega)
  have hmem := fun W (h : Env W B v V n) => memoryP_any W B v n V who p h hs.has hs.sp (by omega)
  have hw := hs.has.w
  have hsj := turn_sj V p g m
  have hRok : (runA m g (newSA (memS V p))).g.Ok := loopA_okR m 0 g _ hs.ok
  have hturn : turnV V who p g m = vupd (stW V who p.pages (runA m g (newSA (memS V p))).a 64) (oR who) (encT (runA m g (newSA (memS V p))).g 9) := rfl
  rw [hturn]
  have hrun := fun (W W3 : World) (root box ob vb pb : Nat) (gv : Value) (ha : All (vSrc B v n V box ob vb pb root p gv) W.heap.size W3 (upd (fun _ => none) root (some (spNew box))) (fun _ => none)) (hz : W.heap.size ≤ W3.heap.size) (ho : Ops W3) (h0 : 0 < W.heap.size) =>
    run_any (vSrc_ok (by rw [hs.sp]; exact hw) hs.pg hs.has.ok.pages (by omega) W.heap.size) vSrc_mach vSrc_ty ha (upd_at _ _ _) hs.ok hz (fun _ h => h.elim) ho h0 m hm
  have hvw : ∀ (box ob vb pb root : Nat) (gv : Value), view (vSrc B v n V box ob vb pb root p gv) (fun _ => none) (spNew box) = newSA (memS V p) := fun _ _ _ _ _ _ => rfl
  simp only [hvw] at hrun
  obtain ⟨R, hR⟩ : ∃ R, R = runA m g (newSA (memS V p)) := ⟨_, rfl⟩
  rw [← hR] at hsj hRok ⊢
  simp only [← hR] at hrun
  clear hvw hR hturn
  obtain ⟨rg, ra, ⟨y, nm, ad⟩, cn⟩ := R
  dsimp only at hsj hRok hrun ⊢
  have hch : ∀ q, ra.changed q = true → ∃ b, ra.page q = some b := fun q hq => let ⟨_, _, b, hb, _⟩ := hsj.chg q hq; ⟨b, hb⟩
  have hstv := stV_chL V who p.pages ra hch 64
  have hset := fun W (h : Env W B v (stW V who p.pages ra 64) (n + 64)) => setRegisters_any W B v (n + 64) _ who rg h hw hRok (by omega)
  have hlb : ∀ q b, (q, some b) ∈ chL ra 64 → b.length ≤ 64 := fun q b hq => by
    unfold chL at hq
    obtain ⟨q', h1, h2⟩ := List.mem_map.1 hq
    injection h2 with h2 h3
    subst h2
    obtain ⟨_, _, b', h4, h5⟩ := hsj.chg q' (List.mem_filter.1 h1).2
    rw [h4] at h3
    injection h3 with h3
    rw [← h3]
    omega
  have hst := fun W root h => storeP_any W B v n root V who p (chL ra 64) h hs.has hs.sp (by omega) (chL_le _ _) hlb
  rw [hstv] at hst
  obtain ⟨V1, hV1⟩ : ∃ V1, V1 = stW V who p.pages ra 64 := ⟨_, rfl⟩
  rw [← hV1] at hst hset ⊢
  obtain ⟨V2, hV2⟩ : ∃ V2, V2 = vupd V1 (oR who) (encT rg 9) := ⟨_, rfl⟩
  rw [← hV2] at hset ⊢
  have hsrcR := hsj.src
  have hchl : (chL ra 64).length ≤ 64 := chL_le _ _
  have hok := fun (box ob vb pb root : Nat) (gv : Value) (B' : Nat) => vSrc_ok (B := B) (v := v) (n := n) (V := V) (box := box) (ob := ob) (vb := vb) (pb := pb) (root := root) (p := p) (gv := gv) (by rw [hs.sp]; exact hw) hs.pg hs.has.ok.pages (by omega) B'
  have HBw := Lib.hid h.leB
  have HE := Lib.hid h
  have HO := Lib.hid ho
  have HB1' : Hid (0 < B) := Lib.hid (Nat.lt_trans (by decide) h.b1)
  clear h hs ho hV1 hV2 hstv hch hsj hRok hlb
  unfold Rg.vals at hreg hset hrun
  go_enter Tryz.func10, Tryz.ntmps10
  go_wp2_with fail
  refine (hreg _ HE.out).mono ?_
  rintro e w1 ⟨rfl, nb⟩
  have HE1 := Lib.hid (HE.out.below nb)
  have HB1 := Lib.hid nb
  clear nb HE hreg
  have HG0 := Lib.hid (Blk.new w1 51 #[.int .u32 0, .int .u32 0, .int .u32 0, .int .u32 0, .int .u32 0, .int .u32 0, .int .u32 0, .int .u32 0, .int .u32 0])
  obtain ⟨A, hA⟩ : ∃ A, A = w1.heap.size := ⟨_, rfl⟩
  go_upto_region 2 with (refine wpList_store_blk rfl 51 (.tmp 7) (.tmp 17) rfl w1.heap.size rfl _ rfl HG0.out rfl info44a rfl ?_; intro w2 hk2 hf2)
  have hb2 : Below w1.heap.size w1 w2 := belowFr1 ((Below.refl _ _).alloc (Nat.le_refl _) _) hf2 (Nat.le_refl _) (Nat.le_refl _)
  rw [← hA] at hk2 ⊢
  have HA2 := Lib.hid hk2
  have HE2 := Lib.hid (HE1.out.below hb2)
  have HB2 := Lib.hid (HB1.out.trans (hb2.mono HB1.out.size))
  have HO2 := Lib.hid (HO.out.belowS HB2.out)
  clear hk2 hf2 hb2 hA HG0 HE1 HB1 HO
  go_wp2_with fail
  refine (hmem _ HE2.out).mono ?_
  rintro e w3 ⟨root, box, ob, vb, pb, gv, rfl, hroot, hblk, hE, f3⟩
  have HA3 := Lib.hid (f3.blk HA2.out (by decide) (by decide))
  have hall : All (vSrc B v n V box ob vb pb root p gv) w2.heap.size w3 (upd (fun _ => none) root (some (spNew box))) (fun _ => none) := (all_none C0 w2.heap.size w3).addroot rfl hroot hblk rfl rfl hE
  have hO3 : Ops w3 := HO2.out.below (f3.below HE2.out.leB) HB1'.out
  have hrun1 := hrun w2 w3 root box ob vb pb gv hall f3.size hO3 HO2.out.1
  rw [resV_eq] at hrun1
  have HF3 := Lib.hid f3
  clear hrun hall hO3 hroot hblk hE f3 hmem HA2
  unfold resC at hrun1
  go_wp2_with (refine wpList_load_blk rfl 51 (.tmp 7) rfl A rfl HA3.out _ Tryz.underlying51 rfl info44a ?_)
  refine hrun1.mono ?_
  rintro e w4 ⟨rfl, s1, hm1, hA1, hv1, _, hmv, _⟩
  have hE4 := hA1.rootE rfl (by rw [hv1]; exact hsrcR)
  have HE4 : Hid (Env w4 B v V n) := Lib.hid hE4.2.env
  have HF4 := Lib.hid (HF3.out.mv hmv)
  have HALL4 := Lib.hid hA1
  have HV4 := Lib.hid hv1
  clear hrun1 hE4 hA1 hv1 hmv HF3 HA3
  have HX0 := Lib.hid (Blk.new w4 57 #[.int .u32 0, .int .u32 0, .int .u32 0, .int .u32 0, .int .u32 0, .int .u32 0, .int .u32 0, .int .u32 0, .int .u32 0, .int .i64 0, .int .i64 0, .int .u32 0, .int .i64 0])
  obtain ⟨X, hX⟩ : ∃ X, X = w4.heap.size := ⟨_, rfl⟩
  go_upto_region 4 with (refine wpList_store_blk rfl 57 (.tmp 11) (.tmp 30) rfl w4.heap.size rfl _ rfl HX0.out rfl info57 rfl ?_; intro w5 hk5 hf5)
  have hb5 : Below w4.heap.size w4 w5 := belowFr1 ((Below.refl _ _).alloc (Nat.le_refl _) _) hf5 (Nat.le_refl _) (Nat.le_refl _)
  rw [← hX] at hk5 ⊢
  have HX5 := Lib.hid hk5
  have HE5 := Lib.hid (HE4.out.below hb5)
  have HF5 := Lib.hid (HF4.out.trans (VF.of_below hb5))
  have HALL5 := Lib.hid (HALL4.out.below (hok _ _ _ _ _ _ _).keeps hb5)
  clear hk5 hf5 hb5 hX HX0 HE4 HF4 HALL4
  have hst1 := hst w5 root HE5.out (fun W hf hE => by
    have ha := HALL5.out.vfS hf hE
    refine (changes_all (hok _ _ _ _ _ _ _) ha (upd_at _ _ _)).mono ?_
    rintro e w' ⟨h1, _, h3⟩
    rw [HV4.out] at h1
    exact ⟨h1, h3⟩)
  go_wp2_with fail
  refine hst1.mono ?_
  rintro e w6 ⟨rfl, h6, f6⟩
  have HE6 : Hid (Env w6 B v V1 (n + 64)) := Lib.hid (h6.more (by omega))
  have HF6 := Lib.hid (HF5.out.trans f6)
  have hx6 := f6.blk HX5.out (by decide) (by decide)
  obtain ⟨x0, x1, x2, x3, x4, x5, x6, x7, x8⟩ : w6.cell? ⟨X, 0, none⟩ = some (.int .u32 (rg.r 0)) ∧ w6.cell? ⟨X, 1, none⟩ = some (.int .u32 (rg.r 1)) ∧ w6.cell? ⟨X, 2, none⟩ = some (.int .u32 (rg.r 2)) ∧ w6.cell? ⟨X, 3, none⟩ = some (.int .u32 (rg.r 3)) ∧ w6.cell? ⟨X, 4, none⟩ = some (.int .u32 (rg.r 4)) ∧ w6.cell? ⟨X, 5, none⟩ = some (.int .u32 (rg.r 5)) ∧ w6.cell? ⟨X, 6, none⟩ = some (.int .u32 (rg.r 6)) ∧ w6.cell? ⟨X, 7, none⟩ = some (.int .u32 (rg.r 7)) ∧ w6.cell? ⟨X, 8, none⟩ = some (.int .u32 rg.pc) :=
    ⟨hx6.cell 0, hx6.cell 1, hx6.cell 2, hx6.cell 3, hx6.cell 4, hx6.cell 5, hx6.cell 6, hx6.cell 7, hx6.cell 8⟩
  clear h6 f6 hst1 hst HE5 HF5 HALL5 HV4 HX5 hx6
  go_wp2_with fail
  refine (hset _ HE6.out).mono ?_
  rintro e w7 ⟨rfl, h7, f7⟩
  go_wp2_with fail
  go_ret
  exact ⟨rfl, h7, (VF.of_below HB2.out).trans (HF6.out.trans f7)⟩
end Go.Proofs.YtkoomlbnfhdhcaaGreatDoor
