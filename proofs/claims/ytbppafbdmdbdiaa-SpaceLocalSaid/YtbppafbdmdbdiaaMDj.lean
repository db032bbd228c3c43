/-
  The law's operation: Pages.
-/
import Derived.Test.YtbppafbdmdbdiaaMDa
namespace Go.Proofs.Ytbppafbdmdbdiaa
open Go.RowKit
set_option linter.unusedVariables false
section
variable {C : Source} {B : Nat} {w : World} {sps : Nat → Option Sp} {hm : Pages} {g b : Nat} {s : Sp} {m : Value} {r : AS}
/-- Rows of one cell in a block of one's own. -/
def RowAt (w : World) (base : Nat) (e : TypeId) (OA : Option Addr) (xs : List Value) : Prop := xs = [] ∨ ∃ g cs, OA = some ⟨g, 0, none⟩ ∧ base ≤ g ∧ Blk w g e cs ∧ cs.toList.take xs.length = xs
section
variable {W W' : World} {base : Nat} {e : TypeId} {OA : Option Addr} {xs : List Value}
theorem RowAt.of_own {n oc z : Nat} (h : W.ownsRow base e z (.slice OA n oc) n xs) : RowAt W base e OA xs := by
  rcases h.2 with ⟨_, h2⟩ | ⟨g, cap, cur, hv, hg, hh, _, _, _, r⟩
  · left
    have := h.1
    rw [h2, Nat.zero_mul] at this
    exact List.eq_nil_of_length_eq_zero this
  · right
    injection hv with hv
    exact ⟨g, cur, hv, hg, hh, by rw [h.1]; exact r⟩
theorem RowAt.below (h : RowAt W base e OA xs) (hb : Below W.heap.size W W') : RowAt W' base e OA xs :=
  h.imp id fun ⟨g, cs, h1, h2, h3, h4⟩ => ⟨g, cs, h1, h2, h3.below hb h3.lt, h4⟩
theorem RowAt.pair {b : Nat} {cs : Array Value} (h : RowAt W base e OA xs) (hb : Blk W b 63 cs) (hf : Fr [b] W W') (he : e ≠ 63 := by decide) : RowAt W' base e OA xs :=
  h.imp id fun ⟨g, cs, h1, h2, h3, h4⟩ => ⟨g, cs, h1, h2, h3.fr hf (by have := h3.ne_ hb he; simpa using this), h4⟩
theorem RowAt.cell (h : RowAt W base e OA xs) (i : Nat) (v : Value) (hv : xs[i]? = some v) : ∃ g, OA = some ⟨g, 0, none⟩ ∧ W.cell? ⟨g, i, none⟩ = some v := by
  rcases h with rfl | ⟨g, cs, h1, _, h3, h4⟩
  · simp at hv
  · refine ⟨g, h1, ?_⟩
    rw [h3.cell, ← Array.getElem?_toList]
    rw [← h4, List.getElem?_take] at hv
    split at hv
    · exact hv
    · cases hv
end
theorem theres_succ (x : AS) (p : Nat) (h : (x.page p).isSome = true) : (theres x (p + 1)).length = (theres x p).length + 1 := by
  unfold theres
  rw [List.range_succ, List.filter_append]
  simp [h]
theorem theres_same (x : AS) (p : Nat) (h : (x.page p).isSome = false) : theres x (p + 1) = theres x p := by
  unfold theres
  rw [List.range_succ, List.filter_append]
  simp [h]
theorem theres_app (x : AS) (k : Nat) : ∀ n, k ≤ n → ∃ t, theres x n = theres x k ++ t
  | 0, h => ⟨[], by rw [show k = 0 by omega]; simp⟩
  | n + 1, h => by
    by_cases e : k = n + 1
    · exact ⟨[], by rw [e]; simp⟩
    · obtain ⟨t, ht⟩ := theres_app x k n (by omega)
      refine ⟨t ++ (if (x.page n).isSome then [n] else []), ?_⟩
      rw [← List.append_assoc, ← ht]
      unfold theres
      rw [List.range_succ, List.filter_append]
      by_cases h2 : (x.page n).isSome = true
      · simp [h2]
      · simp only [Bool.not_eq_true] at h2; simp [h2]
theorem theres_at (x : AS) (p n : Nat) (hp : p < n) (h : (x.page p).isSome = true) : (theres x n)[(theres x p).length]? = some p ∧ (theres x p).length < (theres x n).length := by
  obtain ⟨t, ht⟩ := theres_app x (p + 1) n hp
  have h1 : theres x (p + 1) = theres x p ++ [p] := by
    unfold theres
    rw [List.range_succ, List.filter_append]
    simp [h]
  rw [ht, h1]
  exact ⟨by simp, by simp⟩
section
variable {q : Nat} {cs : Array Value} {o : Option (Nat → Option (List UInt8))} {a a' : AS} {r' : RS} {W : World}
/-- A call of one of the space's functions. -/
theorem DoI.call2 (h : DoI C B sps hm g b q cs m o w a r' W) {fn : FuncId} {args : Array Value} {Ke : Ending → World → Prop}
    (hc : ∀ s1 hm1, All C B W (upd sps g (some s1)) hm1 → view C hm1 s1 = a → Calls Try.prog fn args W fun e w' => Ke e w' ∧ Stp C B (upd sps g (some s1)) hm1 g a' W w' (fun _ _ => True)) :
    Calls Try.prog fn args W fun e w' => Ke e w' ∧ DoI C B sps hm g b q cs m o w a' r' w' := by
  obtain ⟨s1, hm1, h1, h2, h3⟩ := h.all
  refine (hc s1 hm1 h1 h2).mono ?_
  rintro e w' ⟨q0, s2, hm2, q1, q2, q3, q4, q5⟩
  refine ⟨q0, { h with all := ⟨s2, hm2, by rw [upd_upd] at q1; exact q1, q2, fun k x hk hx => ?_⟩, pair := q4.blk h.pair (by decide) (by decide) h.xb, op := q4.blk h.op (by decide) (by decide) h.xq, src := h.src.mv q4 h.xm, mv := h.mv.trans ?_ }⟩
  · rw [q3 k x hk (by rw [upd_ne _ _ _ _ hk]; exact hx)]
    exact h3 k x hk hx
  · exact ⟨q4.os, q4.tape, q4.output, q4.size, fun k hk hc => q4.block k hk (hc.imp id fun hc => ⟨hc.1, fun hx => hc.2 (.inl hx)⟩)⟩
end
set_option maxRecDepth 100000 in
set_option maxHeartbeats 8000000 in
theorem do9 (ok : SourceOk C B) (hp : PairOk C) (P : DoP C B sps hm g b m r s w) (kd wh x n : Int) (t : ByteArray) (hk1 : 0 ≤ kd) (hk2 : kd < 256) (hkd : kd % 11 = 9) (hx1 : -9223372036854775808 ≤ x) (hx2 : x ≤ 9223372036854775807) (hn1 : -9223372036854775808 ≤ n) (hn2 : n ≤ 9223372036854775807) (ht : t.size ≤ maxLen)
    (hag : theres (needUp 64 (view C hm s)) 64 = theres (needUp 64 r) 64) :
    Calls Try.prog 27 #[.pointer (some ⟨b, 0, none⟩), .agg #[.int .u8 kd, .int .u8 wh, .int .i64 x, .int .i64 n, .string t]] w fun e w' => e = .returned (.tuple #[.pointer none, .bool true]) ∧ DoR C B sps hm g b m r.src (needUp 64 (view C hm s)) (rsOf m (needUp 64 r)) w w' := by
  unfold maxLen at ht
  have HREF := Lib.hid (fun W (hs : SrcIs W m r.src) => refAll_any W m r hs P.rok)
  obtain ⟨r2, hr2⟩ : ∃ r2, r2 = needUp 64 r := ⟨_, rfl⟩
  rw [← hr2] at HREF hag ⊢
  have HAG := Lib.hid hag
  clear hag hr2
  have HI := Lib.hid (P.init ok #[.int .u8 kd, .int .u8 wh, .int .i64 x, .int .i64 n, .string t])
  have HC := Lib.hid P
  clear P
  obtain ⟨u, hu⟩ : ∃ u : Nat, u = min t.size 200 := ⟨_, rfl⟩
  have eu : (if (200 : Int) < (t.size : Int) then (200 : Int) else (t.size : Int)) = (u : Int) := by split <;> omega
  have eu2 : (u : Int) ≤ (t.size : Int) := by omega
  have eu3 : u ≤ t.size := by omega
  have HU := Lib.hid hu
  clear hu
  go_enter Try.func27, Try.ntmps27
  go_upto_region 55 with (fail)
  generalize w.alloc (.cells #[.int .u8 kd, .int .u8 wh, .int .i64 x, .int .i64 n, .string t] 45) = W0 at *
  have c0 : W0.cell? ⟨b, 0, none⟩ = some (.pointer (some ⟨g, 0, none⟩)) := HI.out.pair.ptr
  have c2 : W0.cell? ⟨w.heap.size, 2, none⟩ = some (.int .i64 x) := HI.out.op.cell 2
  have c3 : W0.cell? ⟨w.heap.size, 3, none⟩ = some (.int .i64 n) := HI.out.op.cell 3
  go_wp2_with fail
  refine (HI.out.call2 (a' := needUp 64 (view C hm s)) (Ke := fun e w' => OwnInts W0.heap.size (theres (needUp 64 (view C hm s)) 64) e w') (fun s1 hm1 h1 hv => (pages_all ok h1 (upd_at _ _ _) HI.out.leWW (fun k hk => Nat.lt_of_lt_of_le (HC.out.xw k hk) HI.out.mv.size)).mono (fun e w' hq => (by rw [hv] at hq; exact ⟨hq.1, hq.2⟩)))).mono ?_
  rintro e w1 ⟨⟨OA, oc, rfl, hown⟩, hi1⟩
  have HI1 := Lib.hid hi1
  have hrow := RowAt.of_own hown
  rw [HAG.out] at hrow ⊢
  have HR1 := Lib.hid hrow
  clear hown hi1 hrow c0 c2 c3
  have c0 : w1.cell? ⟨b, 0, none⟩ = some (.pointer (some ⟨g, 0, none⟩)) := HI1.out.pair.ptr
  dsimp only
  go_wp2_with (with_reducible refine load_P HI1.out.pair rfl (.tmp 399) rfl rfl ?_)
  refine (HREF.out w1 HI1.out.src).mono ?_
  rintro e w2 ⟨rfl, nb⟩
  have HI2 := Lib.hid (HI1.out.below ok nb)
  have HR2 := Lib.hid (HR1.out.below nb)
  clear nb HREF c0
  dsimp only
  go_wp2_with (refine store_P HI2.out.pair (rsOf_map _ HC.out.src.map) rfl (.tmp 403) (.tmp 401) rfl rfl rfl ?_; intro w3 hw3 hf3)
  have HI3 := Lib.hid (HI2.out.put hp hw3 hf3)
  have HR3 := Lib.hid (HR2.out.pair HI2.out.pair hf3)
  clear hw3 hf3
  obtain ⟨N, hN⟩ : ∃ N, N = (theres r2 64).length := ⟨_, rfl⟩
  have hle2 := theres_le r2 64
  rw [← hN] at hle2 ⊢
  have HN := Lib.hid hN
  clear hN
  go_loopg [33, 34] 64 (fun q kv iv wr => ∃ i : Nat, q = 64 - i ∧ i ≤ 64 ∧ iv = .int .i64 i ∧ wr = w3 ∧ kv = .int .i64 ((theres r2 i).length : Nat))
  case atStart => exact ⟨0, rfl, Nat.zero_le _, rfl, rfl, rfl⟩
  case round =>
    obtain ⟨i, rfl, hi, rfl, rfl, rfl⟩ := hrel
    by_cases hlt : i < 64
    · have i1 : (i : Int) < 64 := by omega
      have i0 : (0 : Int) ≤ (i : Int) := by omega
      have c1 : wr.cell? ⟨b, 2 + i * 5 + 1, none⟩ = some (.bool (r2.page i).isSome) := by
        have := HI3.out.pair.one (1 + i * 5 + 1) _ (by have h := rs_th (rsOf m r2) i hlt; unfold rsCells at h; rw [List.getElem?_toArray] at h; exact h)
        rw [show 2 + i * 5 + 1 = 1 + (1 + i * 5 + 1) by omega]
        exact this
      cases hp2 : (r2.page i).isSome with
      | true =>
        rw [hp2] at c1
        obtain ⟨h1, h2⟩ := theres_at r2 i 64 hlt hp2
        obtain ⟨g3, hOA, hcell⟩ := HR3.out.cell (theres r2 i).length (.int .i64 (i : Nat)) (by unfold nums; rw [List.getElem?_map, h1]; rfl)
        have hle := theres_le r2 i
        have hlen := (theres_succ r2 i hp2).symm
        obtain ⟨k, hk⟩ : ∃ k, k = (theres r2 i).length := ⟨_, rfl⟩
        rw [← hk] at h2 hcell hlen hle ⊢
        rw [← HN.out] at h2
        have i2 : decide ((N : Int) ≤ (k : Int)) = false := decide_eq_false (by omega)
        have i3 : (k : Int) < (N : Int) := by omega
        have i4 : (0 : Int) ≤ (k : Int) := by omega
        have i5 : k < N := h2
        have HLEN := Lib.hid hlen
        have HK := Lib.hid hk
        clear hp2 h1 h2 hlen hk
        subst hOA
        go_wp2_with fail
        go_roundg (64 - (i + 1))
        case measure => omega
        case rel => exact ⟨i + 1, rfl, by omega, by go_num, rfl, by rw [← HLEN.out]; go_num⟩
      | false =>
        rw [hp2] at c1
        have HLEN := Lib.hid (theres_same r2 i hp2)
        clear hp2
        go_wp2_with fail
        go_roundg (64 - (i + 1))
        case measure => omega
        case rel => exact ⟨i + 1, rfl, by omega, by go_num, rfl, by rw [HLEN.out]⟩
    · obtain rfl : i = 64 := by omega
      clear hi hlt
      rw [← HN.out]
      go_wp2_with fail
      go_ret2
      exact ⟨by simp, HI3.out.ret⟩
end
end Go.Proofs.Ytbppafbdmdbdiaa

/-
  The law's operation: Fork.
-/
namespace Go.Proofs.Ytbppafbdmdbdiaa
open Go.RowKit
set_option linter.unusedVariables false
section
variable {C : Source} {B : Nat} {w : World} {sps : Nat → Option Sp} {hm : Pages} {g b : Nat} {s : Sp} {m : Value} {r : AS}
theorem z63 (w : World) : (zeroValue 63).run Try.prog w = .ok (.agg (.pointer none :: rsL rs0).toArray) w := by kernel_rfl
theorem build63 (f : Nat) (r : RS) (W : World) : (Instr.build 63 #[(0, .pointer (some ⟨f, 0, none⟩)), (1, .agg (rsCells r))]).run Try.prog W = .ok (.agg (prL f r).toArray) W := by
  have hz := z63 W
  have hu := run_underlying Try.underlying63 W
  have hm : ∀ W, (Array.mapM (fun (f : Field) => do let n ← sizeOf f.type; pure (f.offset, n)) #[({ name := "s", type := 23, offset := 0, embedded := false, tag := "", pkgPath := "replevin/replevinlaw18", byteOffset := 0 } : Field), { name := "w", type := 61, offset := 1, embedded := false, tag := "", pkgPath := "replevin/replevinlaw18", byteOffset := 8 }] : Sem (Array (Nat × Nat))).run Try.prog W = .ok #[(0, 1), (1, 321)] W := fun W => by kernel_rfl
  unfold Instr.build
  simp only [Sem.run_bind, hz, hu, Result.andThen_ok, hm]
  have hzl := rsL_length rs0
  have hrl := rsL_length r
  generalize rsL rs0 = Z at *
  have hfill : Instr.fill (fun x => (#[(0, 1), (1, 321)] : Array (Nat × Nat))[x]?) (Value.agg (.pointer none :: Z).toArray).cells [(0, .pointer (some ⟨f, 0, none⟩)), (1, .agg (rsCells r))] = some (prL f r).toArray := by
    unfold Instr.fill
    have e1 : (#[(0, 1), (1, 321)] : Array (Nat × Nat))[0]? = some (0, 1) := rfl
    have e2 : (#[(0, 1), (1, 321)] : Array (Nat × Nat))[1]? = some (1, 321) := rfl
    have e3 : (Value.agg (.pointer none :: Z).toArray).cells = (.pointer none :: Z).toArray := rfl
    have e5 : (Value.pointer (some ⟨f, 0, none⟩)).cells = #[.pointer (some ⟨f, 0, none⟩)] := rfl
    have hs : (.pointer none :: Z : List Value).toArray.size = 322 := by simp [hzl]
    simp only [e1, e3, e5]
    rw [if_neg (by simp [hzl])]
    unfold Instr.fill
    have e6 : (Value.agg (rsCells r)).cells = (rsL r).toArray := rfl
    simp only [e2, e6]
    have e7 : (#[Value.pointer (some ⟨f, 0, none⟩)].zipIdx.foldl (fun (cs : Array Value) (x : Value × Nat) => cs.setIfInBounds (0 + x.2) x.1) (.pointer none :: Z).toArray) = (.pointer (some ⟨f, 0, none⟩) :: Z).toArray := by simp
    have hfold := foldl_set 1 (rsL r) 0 (.pointer (some ⟨f, 0, none⟩) :: Z).toArray (by simp [hzl, hrl])
    have e4 : (rsL r).toArray.zipIdx.foldl (fun (cs : Array Value) (x : Value × Nat) => cs.setIfInBounds (1 + x.2) x.1) (.pointer (some ⟨f, 0, none⟩) :: Z).toArray = ((rsL r).zipIdx 0).foldl (fun (cs : Array Value) (x : Value × Nat) => cs.setIfInBounds (1 + x.2) x.1) (.pointer (some ⟨f, 0, none⟩) :: Z).toArray := by
      rw [← Array.foldl_toList]
      simp
    rw [if_neg (by simp [hzl, hrl])]
    unfold Instr.fill
    refine congrArg some ?_
    refine Array.ext' ?_
    have e8 : ((rsL r).toArray.zipIdx.foldl (fun (cs : Array Value) (x : Value × Nat) => cs.setIfInBounds (1 + x.2) x.1) (#[Value.pointer (some ⟨f, 0, none⟩)].zipIdx.foldl (fun (cs : Array Value) (x : Value × Nat) => cs.setIfInBounds (0 + x.2) x.1) (.pointer none :: Z).toArray)).toList = (prL f r) := by
      rw [e7, e4, hfold, hrl]
      simp [prL, hzl]
    exact e8
  rw [hfill]
  rfl
theorem wpList_buildP {ops : Array Oper} {rest : List Oper} {op : Oper} {a : Act} {W : World} {Q : Exit → Act → World → Prop} (hgd : op.guard = none) (parts : Array (Nat × Operand)) (ho : op.op = .build 63 parts) (f : Nat) (r : RS)
    (hv : (parts.map fun (i, x) => (i, a.eval x)) = #[(0, .pointer (some ⟨f, 0, none⟩)), (1, .agg (rsCells r))]) (hk : wpList Try.prog ops Q rest (a.put op.dst (.agg (prL f r).toArray)) W) : wpList Try.prog ops Q (op :: rest) a W :=
  wpList_plain hgd fun _ hK => by
    unfold Oper.wp execOp
    simp only [ho, hv, Sem.run_bind, build63, Result.andThen_ok, Sem.run_pure]
    exact hK _ _ hk
theorem ptr_neq23 (W : World) (q : Nat) : (binOp BinOp.neq 23 (.pointer (some ⟨q, 0, none⟩)) (.pointer none)).run Try.prog W = .ok (.bool true) W := by kernel_rfl
section
variable {q : Nat} {cs : Array Value} {o : Option (Nat → Option (List UInt8))} {a a' : AS} {r' : RS} {W : World}
theorem DoI.fork (h : DoI C B sps hm g b q cs m o w a r' W) (ok : SourceOk C B) :
    Calls Try.prog 20 #[.pointer (some ⟨g, 0, none⟩)] W fun e w' => ∃ c1 hm1, e = .returned (ptrV (some W.heap.size)) ∧ sps W.heap.size = none ∧ view C hm1 c1 = childA (needUp 64 a) 64 ∧ (∀ k x, k ≠ g → sps k = some x → view C hm1 x = view C hm x) ∧ DoI C B (upd sps W.heap.size (some c1)) hm1 g b q cs m o w (needUp 64 a) r' w' := by
  obtain ⟨s1, hm1, h1, h2, h3⟩ := h.all
  refine (fork_all ok h1 (upd_at _ _ _) h.leWW).mono ?_
  rintro e w' ⟨rfl, s2, c2, hm2, q1, q2, q3, q4, q5, _⟩
  rw [h2] at q2 q3
  have hg : g ≠ W.heap.size := by have := (h1.blk g s1 (upd_at _ _ _)).1.lt; omega
  have hs : sps W.heap.size = none := by
    have := h1.fresh
    rw [upd_ne _ _ _ _ (Ne.symm hg)] at this
    exact this
  have hov : ∀ k x, k ≠ g → sps k = some x → view C hm2 x = view C hm x := fun k x hk hx => by
    rw [q4 k x hk (by rw [upd_ne _ _ _ _ hk]; exact hx)]
    exact h3 k x hk hx
  refine ⟨c2, hm2, rfl, hs, q3, hov, { h with all := ⟨s2, hm2, ?_, q2, fun _ _ _ _ => rfl⟩, pair := q5.blk h.pair (by decide) (by decide) h.xb, op := q5.blk h.op (by decide) (by decide) h.xq, src := h.src.mv q5 h.xm, mv := h.mv.trans ?_ }⟩
  · rw [upd_upd] at q1
    rw [upd_comm _ _ _ _ _ hg]
    exact q1
  · exact ⟨q5.os, q5.tape, q5.output, q5.size, fun k hk hc => q5.block k hk (hc.imp id fun hc => ⟨hc.1, fun hx => hc.2 (.inl hx)⟩)⟩
end
/-- What a fork leaves. -/
structure DoF (C : Source) (B : Nat) (sps : Nat → Option Sp) (hm : Pages) (g b : Nat) (m : Value) (o : Option (Nat → Option (List UInt8))) (a : AS) (r : AS) (w : World) (f b2 : Nat) (W : World) : Prop where
  all : ∃ s' c' hm', All C B W (upd (upd sps f (some c')) g (some s')) hm' ∧ view C hm' s' = needUp 64 a ∧ view C hm' c' = childA (needUp 64 a) 64 ∧ (∀ k x, k ≠ g → sps k = some x → view C hm' x = view C hm x)
  pair : PB W b g (rsOf m (needUp 64 r))
  new : PB W b2 f (rsOf (.map none) (childA (needUp 64 r) 64))
  src : SrcIs W m o
  mv : Mv B (fun k => C.X k ∨ k = b) w W
  lf : w.heap.size ≤ f
  lb : w.heap.size ≤ b2
set_option maxRecDepth 100000 in
set_option maxHeartbeats 8000000 in
theorem do10 (ok : SourceOk C B) (hp : PairOk C) (P : DoP C B sps hm g b m r s w) (kd wh x n : Int) (t : ByteArray) (hk1 : 0 ≤ kd) (hk2 : kd < 256) (hkd : kd % 11 = 10) (ht : t.size ≤ maxLen) :
    Calls Try.prog 27 #[.pointer (some ⟨b, 0, none⟩), .agg #[.int .u8 kd, .int .u8 wh, .int .i64 x, .int .i64 n, .string t]] w fun e w' => ∃ f b2, e = .returned (.tuple #[.pointer (some ⟨b2, 0, none⟩), .bool true]) ∧ DoF C B sps hm g b m r.src (view C hm s) r w f b2 w' := by
  unfold maxLen at ht
  have HREF := Lib.hid (fun W (hs : SrcIs W m r.src) => refFork_any W m r hs P.rok)
  have hz := z61
  have HI := Lib.hid (P.init ok #[.int .u8 kd, .int .u8 wh, .int .i64 x, .int .i64 n, .string t])
  have HC := Lib.hid P
  clear P
  obtain ⟨u, hu⟩ : ∃ u : Nat, u = min t.size 200 := ⟨_, rfl⟩
  have eu : (if (200 : Int) < (t.size : Int) then (200 : Int) else (t.size : Int)) = (u : Int) := by split <;> omega
  have eu2 : (u : Int) ≤ (t.size : Int) := by omega
  have eu3 : u ≤ t.size := by omega
  have HU := Lib.hid hu
  clear hu
  go_enter Try.func27, Try.ntmps27
  go_upto_region 66 with (fail)
  generalize w.alloc (.cells #[.int .u8 kd, .int .u8 wh, .int .i64 x, .int .i64 n, .string t] 45) = W0 at *
  have c0 : W0.cell? ⟨b, 0, none⟩ = some (.pointer (some ⟨g, 0, none⟩)) := HI.out.pair.ptr
  have c2 : W0.cell? ⟨w.heap.size, 2, none⟩ = some (.int .i64 x) := HI.out.op.cell 2
  have c3 : W0.cell? ⟨w.heap.size, 3, none⟩ = some (.int .i64 n) := HI.out.op.cell 3
  go_wp2_with fail
  refine (HI.out.fork ok).mono ?_
  rintro e w1 ⟨c1, hm1, rfl, hfr, hcv, hov, hi1⟩
  have HI1 := Lib.hid hi1
  have HFR := Lib.hid hfr
  have HCV := Lib.hid hcv
  have HOV := Lib.hid hov
  clear hi1 hfr hcv hov c0 c2 c3
  obtain ⟨f, hf⟩ : ∃ f, f = W0.heap.size := ⟨_, rfl⟩
  have hfl : w.heap.size ≤ f := by rw [hf]; exact HI.out.mv.size
  rw [← hf] at HI1 ⊢
  clear hf
  have c0 : w1.cell? ⟨b, 0, none⟩ = some (.pointer (some ⟨g, 0, none⟩)) := HI1.out.pair.ptr
  unfold ptrV
  dsimp only
  go_wp2_with (with_reducible refine load_P HI1.out.pair rfl (.tmp 442) rfl rfl ?_)
  refine (HREF.out w1 HI1.out.src).mono ?_
  rintro e w2 ⟨rfl, nb⟩
  have HI2 := Lib.hid (HI1.out.below ok nb)
  clear nb HREF c0
  have HY := Lib.hid ((Blk.new w2 61 (rsCells rs0)).alloc (.cells (rsCells rs0) 61))
  have HZ := Lib.hid (Blk.new_ (w2.alloc (.cells (rsCells rs0) 61)) 61 (rsCells rs0) (g := w2.heap.size + 1) (by simp))
  have HB2 := Lib.hid (((Below.refl w2.heap.size w2).alloc (Nat.le_refl _) (.cells (rsCells rs0) 61)).alloc (by simp) (.cells (rsCells rs0) 61))
  dsimp only
  go_upto_region 68 with (first
    | (refine store_S HY.out (rsOf_map _ HC.out.src.map) rfl (.tmp 36) (.tmp 445) rfl rfl rfl ?_; intro w4 hw4 hf4; have HZ4 := Lib.hid (HZ.out.fr hf4 (by simp)))
    | (refine store_S HZ4.out ⟨_, rfl⟩ rfl (.tmp 37) (.tmp 446) rfl rfl rfl ?_; intro w5 hw5 hf5))
  have HY5 := Lib.hid (hw4.fr hf5 (by simp))
  have HZ5 := Lib.hid hw5
  have HB5 := Lib.hid ((HB2.out.trans (hf4.below HB2.out.size (by simp))).trans (hf5.below (by have h1 := HB2.out.size; have h2 := hf4.size; omega) (by simp)))
  have HI5 := Lib.hid (HI2.out.below ok HB5.out)
  have HL2 := Lib.hid HI2.out.pair.lt
  clear hw4 hf4 hw5 hf5 HZ4 HZ HY HB2
  go_upto_region 69 with (first
    | (with_reducible refine load_S HY5.out rfl (.tmp 36) rfl rfl ?_)
    | (refine store_P HI5.out.pair (rsOf_map _ HC.out.src.map) rfl (.tmp 450) (.tmp 448) rfl rfl rfl ?_; intro w6 hw6 hf6))
  have HI6 := Lib.hid (HI5.out.put hp hw6 hf6)
  have HZ6 := Lib.hid (HZ5.out.fr hf6 (by have := HL2.out; simp; omega))
  clear hw6 hf6
  have hpn := ptr_neq23
  go_wp2_with (first
    | (with_reducible refine load_S HZ6.out rfl (.tmp 37) rfl rfl ?_)
    | (refine wpList_buildP rfl _ rfl f _ (by simp only [List.map_toArray, List.map_cons, List.map_nil]; rfl) ?_))
  go_ret2
  refine ⟨f, w6.heap.size, by simp, ?_⟩
  have hb7 : Below w6.heap.size w6 (w6.alloc (.cells (prL f (rsOf (.map none) (childA (needUp 64 r) 64))).toArray 63)) := (Below.refl _ _).alloc (Nat.le_refl _) _
  have HI7 := HI6.out.below ok hb7
  obtain ⟨s3, hm3, q1, q2, q3⟩ := HI7.all
  refine ⟨⟨s3, c1, hm3, q1, q2, ?_, fun k x hk hx => ?_⟩, HI7.pair, Blk.new _ _ _, HI7.src, HI7.mv, hfl, HI6.out.mv.size⟩
  · rw [q3 f c1 (by have := HI6.out.lt; have := HC.out.all.blk g s HC.out.sp; have := this.1.lt; omega) (upd_at _ _ _)]
    exact HCV.out
  · have hkf : k ≠ f := fun e => by have := (HC.out.all.blk k x hx).1.lt; omega
    rw [q3 k x hk (by rw [upd_ne _ _ _ _ hkf]; exact hx)]
    exact HOV.out k x hk hx
end
end Go.Proofs.Ytbppafbdmdbdiaa
