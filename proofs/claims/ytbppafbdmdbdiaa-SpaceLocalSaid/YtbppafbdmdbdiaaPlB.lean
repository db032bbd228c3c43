/-
  Walks: play.
-/
import Derived.Test.YtbppafbdmdbdiaaPlA
namespace Go.Proofs.Ytbppafbdmdbdiaa
open Go.RowKit
set_option linter.unusedVariables false

theorem info64 : (Try.prog.info? 64).map (fun i => (i.zero, i.size, i.bytes)) = some (some (.pointer none), 1, 8) := by kernel_rfl
theorem info45 : (Try.prog.info? 45).map (·.size) = some 5 := by kernel_rfl
theorem ptr_neq64 (W : World) (q : Nat) : (binOp BinOp.neq 64 (.pointer (some ⟨q, 0, none⟩)) (.pointer none)).run Try.prog W = .ok (.bool true) W := by kernel_rfl
theorem nil_neq64 (W : World) : (binOp BinOp.neq 64 (.pointer none) (.pointer none)).run Try.prog W = .ok (.bool false) W := by kernel_rfl
theorem rs_new (m : Value) (f : Nat → Option (List UInt8)) : rsOf m (newS f) = { rs0 with src := m } := rfl
section
variable {C : Source} {B : Nat} {W W' : World} {sps : Nat → Option Sp} {hm : Pages} {L : List Pr}
theorem PlayI.grown (h : PlayI C B sps hm W L) (ok : SourceOk C B) (hp : RowOk C) {base n : Nat} {v : Value} {xs : List Value} (hown : W.ownsRow base 64 1 v n xs) (hbase : base ≤ W.heap.size) (cs : Array Value)
    (hg : World.grownBy (W.alloc (.cells cs 64)) W' v.ownBlock) : PlayI C B sps hm W' L ∧ Below base W W' ∧ ∀ a t cs', t ≠ 64 → Blk W a t cs' → Blk W' a t cs' := by
  have hb1 : Below W.heap.size W (W.alloc (.cells cs 64)) := (Below.refl _ _).alloc (Nat.le_refl _) _
  have hown1 := hown.alloc (.cells cs 64)
  have h1 := h.below ok hb1
  have hbel : Below base W W' := ((Below.refl _ _).alloc hbase _).grown hg (by simp; omega) (fun q hq => (hown.lt q hq).1)
  cases hr : v.ownBlock with
  | none =>
    rw [hr] at hg
    have hf : Fr [] (W.alloc (.cells cs 64)) W' := Fr.of_grown hg (fun g hg => by cases hg)
    exact ⟨h1.below ok hf.nil_below, hbel, fun a t cs' ht hb => (hb.alloc _).fr hf (by simp)⟩
  | some r =>
    obtain ⟨cs2, hb2⟩ := own_blk hown1 r hr
    rw [hr] at hg
    have hf : Fr [r] (W.alloc (.cells cs 64)) W' := Fr.of_grown hg (fun g hg => by injection hg with hg; simp [hg])
    exact ⟨h1.row64 hp hb2 hf, hbel, fun a t cs' ht hb => (hb.alloc _).fr hf (by have := (hb.alloc (.cells cs 64)).ne_ hb2 ht; simpa using this)⟩
end

/-- What a play has at the head of a round. -/
structure PlS (C : Source) (B base a pm cm b0 : Nat) (w wr : World) (OA : Option Addr) (oc : Nat) (sps : Nat → Option Sp) (hm : Pages) (L : List Pr) : Prop where
  own : wr.ownsRow base 64 1 (.slice OA L.length oc) L.length (prPs L)
  play : PlayI C B sps hm wr L
  head : L.head? = some ⟨b0, C.root, .map (some pm)⟩
  four : L.length ≤ 4
  bel : Below w.heap.size w wr
  blk : Blk wr a 37 #[.map (some pm), .map (some cm)]
  xb : ∀ k, C.X k → k < base
  xa : ¬ C.X a
  leb : base ≤ wr.heap.size
  root : C.root < wr.heap.size
  lb : w.heap.size ≤ base
  tl : ∀ q ∈ L.tail, q.g ≠ C.root
theorem PlS.pos {C : Source} {B base a pm cm b0 : Nat} {w wr : World} {OA : Option Addr} {oc : Nat} {sps : Nat → Option Sp} {hm : Pages} {L : List Pr} (h : PlS C B base a pm cm b0 w wr OA oc sps hm L) : 0 < L.length := by
  have := h.head
  cases L with
  | nil => cases this
  | cons _ _ => simp
theorem PlS.step {C : Source} {base a pm cm b0 : Nat} {w wr w9 : World} {OA : Option Addr} {oc : Nat} {sps sps' : Nat → Option Sp} {hm hm' : Pages} {L : List Pr} (h : PlS C w.heap.size base a pm cm b0 w wr OA oc sps hm L)
    {q : Pr} {r : RS} (hb : PB wr q.b q.g r) (hp : PlayI C w.heap.size sps' hm' w9 L) (hmv : Mv w.heap.size (fun k => C.X k ∨ k = q.b) wr w9) : PlS C w.heap.size base a pm cm b0 w w9 OA oc sps' hm' L :=
  ⟨own_mvD h.own hmv h.xb hb, hp, h.head, h.four, h.bel.trans (hmv.below h.bel.size), hmv.blk h.blk (by decide) (by decide) (fun hx => hx.elim h.xa (h.blk.ne_ hb (by decide))), h.xb, h.xa, Nat.le_trans h.leb hmv.size, Nat.lt_of_lt_of_le h.root hmv.size, h.lb, h.tl⟩
theorem PlS.fork {C : Source} {base a pm cm b0 : Nat} {w wr w9 w4 : World} {OA : Option Addr} {oc oc4 : Nat} {sps sps' : Nat → Option Sp} {hm hm' : Pages} {L : List Pr} (h : PlS C w.heap.size base a pm cm b0 w wr OA oc sps hm L) (ok : SourceOk C w.heap.size) (hrk : RowOk C)
    {q : Pr} {r : RS} (hb : PB wr q.b q.g r) {b2 f : Nat} (hp : PlayI C w.heap.size sps' hm' w9 (L ++ [⟨b2, f, .map none⟩])) (hlf : wr.heap.size ≤ f) (hmv : Mv w.heap.size (fun k => C.X k ∨ k = q.b) wr w9) (h4 : L.length < 4) (cs : Array Value)
    (hg : World.grownBy (w9.alloc (.cells cs 64)) w4 (Value.slice OA L.length oc).ownBlock) {A4 : Option Addr} (hown4 : w4.ownsRow base 64 1 (.slice A4 (L.length + 1) oc4) (L.length + 1) (prPs L ++ [.pointer (some ⟨b2, 0, none⟩)])) :
    PlS C w.heap.size base a pm cm b0 w w4 A4 oc4 sps' hm' (L ++ [⟨b2, f, .map none⟩]) := by
  have hown9 := own_mvD h.own hmv h.xb hb
  have hb9 := Nat.le_trans h.leb hmv.size
  obtain ⟨g1, g2, g3⟩ := hp.grown ok hrk hown9 hb9 cs hg
  refine ⟨by rw [List.length_append]; unfold prPs; rw [List.map_append]; exact hown4, g1, ?_, by rw [List.length_append]; simp; omega, (h.bel.trans (hmv.below h.bel.size)).trans (g2.mono h.lb), g3 _ _ _ (by decide) (hmv.blk h.blk (by decide) (by decide) (fun hx => hx.elim h.xa (h.blk.ne_ hb (by decide)))), h.xb, h.xa, Nat.le_trans hb9 g2.size, Nat.lt_of_lt_of_le h.root (Nat.le_trans hmv.size g2.size), h.lb, ?_⟩
  · rw [List.head?_append, h.head]
    rfl
  · have hhd := h.head
    have htl := h.tl
    have hrt := h.root
    cases L with
    | nil => cases hhd
    | cons q0 L =>
      intro q hq
      rcases List.mem_append.1 (show q ∈ L ++ [⟨b2, f, .map none⟩] from hq) with hq | hq
      · exact htl q hq
      · rw [List.mem_singleton.1 hq]
        show f ≠ C.root
        omega
/-- What a play answers. -/
def PlR (w : World) (l : List Fl) (e : Ending) (w' : World) : Prop :=
  ∃ (box a cm root base b0 : Nat) (OA : Option Addr) (oc : Nat) (sps : Nat → Option Sp) (hm : Pages) (L : List Pr),
    e = .returned (.tuple #[.slice OA L.length oc, .map (some cm), .bool true]) ∧ SourceOk (askedSrc box a w.heap.size cm root (srcL l)) w.heap.size ∧ w.heap.size < cm ∧
    PlS (askedSrc box a w.heap.size cm root (srcL l)) w.heap.size base a w.heap.size cm b0 w w' OA oc sps hm L

set_option maxRecDepth 100000 in
set_option maxHeartbeats 8000000 in
theorem play_any (w : World) (v1 v2 : Value) (l : List Fl) (ops : List OpV) (hl : RdF w w.heap.size v1 l) (ho : RdO w w.heap.size v2 ops) (hfl : ∀ y ∈ l, y.2.size ≤ maxLen) :
    Calls Try.prog 25 #[v1, v2] w fun e w' => PlR w l e w' := by
  obtain ⟨OP, opc, rfl, hlen, hops⟩ := id ho
  unfold maxLen at hlen
  have HOP := Lib.hid hops
  have HL := Lib.hid hl
  have HRO := Lib.hid ho
  have HS := Lib.hid (strs_srcL l hfl)
  have hmm := @run_makeMap Try.prog
  have hmf : ∀ (fn : Fn) (first cap : Array Value) (w : World), (Instr.makeFunc fn first cap).run Try.prog w = .ok (.func fn first cap) w := fun _ _ _ _ => rfl
  obtain ⟨i64, hi, hz0, hz1, hz2⟩ := info_parts info64
  have HI64 := Lib.hid hi
  have HZ0 := Lib.hid hz0
  have HZ1 := Lib.hid hz1
  have HZ2 := Lib.hid hz2
  clear hops hl ho hfl hi hz0 hz1 hz2
  obtain ⟨M, hM⟩ : ∃ M, M = srcL l := ⟨_, rfl⟩
  rw [← hM] at HS
  have HMM := Lib.hid hM
  clear hM
  go_enter Try.func25, Try.ntmps25
  go_wp2_with fail
  refine (source_any w v1 l w.heap.size HL.out (Nat.le_refl _)).mono ?_
  rintro e w2 ⟨rfl, hmi, nb⟩
  rw [← HMM.out] at hmi
  have hsz2 := nb.size
  have hlt2 := hmi.lt
  have B2 := Lib.hid nb
  have HMI := Lib.hid hmi
  clear nb hmi
  obtain ⟨B, hB⟩ : ∃ B, B = w.heap.size := ⟨_, rfl⟩
  have HB := Lib.hid hB
  rw [← hB] at HMI hlt2 ⊢
  clear hB
  have hs3 : ((w2.alloc (.map #[] 0)).alloc (.cells #[.map (some B), .map (some w2.heap.size)] 37)).heap.size = w2.heap.size + 2 := by simp
  have hk3 := Blk.new_ (w2.alloc (.map #[] 0)) 37 #[.map (some B), .map (some w2.heap.size)] (g := w2.heap.size + 1) (by simp)
  have HK3 := Lib.hid hk3
  have HS3 := Lib.hid hs3
  clear hk3 hs3
  dsimp only
  go_wp2_with fail
  obtain ⟨W3, hW3⟩ : ∃ W3, W3 = (w2.alloc (.map #[] 0)).alloc (.cells #[.map (some B), .map (some w2.heap.size)] 37) := ⟨_, rfl⟩
  have HW3 := Lib.hid hW3
  rw [← hW3] at HK3 HS3 ⊢
  clear hW3
  obtain ⟨ab, hab⟩ : ∃ ab, ab = w2.heap.size + 1 := ⟨_, rfl⟩
  have HAB := Lib.hid hab
  rw [← hab] at HK3 ⊢
  clear hab
  have HRD : Hid (∀ W, Below W3.drew.heap.size W3.drew W → W.cell? ⟨ab, 0, none⟩ = some (.map (some B))) := Lib.hid fun W hb => (Blk.below HK3.out.drew hb HK3.out.lt).cell 0
  have HNW := Lib.hid (new_src W3.drew ab)
  have hsd : W3.drew.heap.size = w2.heap.size + 2 := HS3.out
  unfold getV at HNW
  refine wp_region_mixL (fun W => Below W3.drew.heap.size W3.drew W) [2, 6, 7, 9, 10] [2, 7, 9, 10] [0, 1, 3, 4, 5, 6, 2, 7, 8, 9, 10, 11] (by kernel_rfl) (by kernel_rfl) (Below.refl _ _) ?_
  simp only [inOrder, opAt]
  obtain ⟨Wk, hWk⟩ : ∃ Wk, Wk = W3.drew := ⟨_, rfl⟩
  have HWK := Lib.hid hWk
  rw [← hWk] at HNW HRD hsd ⊢
  clear hWk
  iterate 6
    (refine wpMixS_read (v := ?_) rfl rfl (fun w' hS => ?_) ?_
     rotate_left
     · ((try (have s0 := HRD.out w' (hS rfl))); (try clear hS); go_simp; (try with_reducible rfl))
     try simp only [Act.put, List.setIfInBounds_toArray, List.set_cons_zero, List.set_cons_succ])
  refine wpMixS_eff rfl rfl (fun K hK => ?_)
  go_simp
  refine HNW.out.mono ?_
  rintro e w5 ⟨rfl, n1, n2, n3⟩
  rw [hsd] at n1 n2
  have h35 : Below (w2.heap.size + 2) ((w2.alloc (.map #[] 0)).alloc (.cells #[.map (some B), .map (some w2.heap.size)] 37)) w5 := by
    rw [← HW3.out]
    refine Below.trans ((Below.refl _ W3).drew) ?_
    rw [← HWK.out]
    exact n3.mono (by omega)
  obtain ⟨hok, hall, nb⟩ := setup (w2 := w2) (w5 := w5) (Nat.le_refl B) HMI.out HS.out (by rw [← HAB.out]; exact n1) n2 h35
  have hvw := view_new_src (w2.heap.size + 2) (w2.heap.size + 1) B w2.heap.size (w2.heap.size + 3) M
  have hpk := pair_ok (w2.heap.size + 2) (w2.heap.size + 1) B w2.heap.size (w2.heap.size + 3) M
  have hrk := row_ok (w2.heap.size + 2) (w2.heap.size + 1) B w2.heap.size (w2.heap.size + 3) M
  have HN3 := Lib.hid n3
  have hsz5 := n2.lt
  have HB5 := Lib.hid (B2.out.trans (nb.mono hsz2))
  have HMI5 := Lib.hid (HMI.out.keep (nb.block B hlt2))
  have HK5 := Lib.hid ((HK3.out.drew : Blk W3.drew ab 37 _).below (by rw [← HWK.out]; exact n3) (by rw [hsd, HAB.out]; omega))
  clear n1 n2 n3 h35 nb
  obtain ⟨C, hC⟩ : ∃ C, C = askedSrc (w2.heap.size + 2) (w2.heap.size + 1) B w2.heap.size (w2.heap.size + 3) M := ⟨_, rfl⟩
  rw [← hC] at hok hall hvw hpk hrk
  have hX : C.X = fun k => k = w2.heap.size := by rw [hC]; rfl
  have hroot : C.root = w2.heap.size + 3 := by rw [hC]; rfl
  have HC := Lib.hid hC
  generalize (⟨fetchV (w2.heap.size + 2), fun _ => false, fun _ => false, fun _ => false, fun _ => none⟩ : Sp) = s0 at *
  have HOK := Lib.hid hok
  have HALL := Lib.hid hall
  have HVW := Lib.hid hvw
  have HX := Lib.hid hX
  have HPK := Lib.hid hpk
  have HRK := Lib.hid hrk
  have HRT := Lib.hid hroot
  clear hok hall hvw hX hpk hrk hC hroot
  have hge : Wk.heap.size + 1 = w2.heap.size + 3 := by rw [hsd]
  unfold ptrV
  simp only [Option.map_some]
  rw [hge]
  refine hK.out _ _ _ (fun _ h => h) (fun _ => HN3.out) ?_
  clear hK K
  try simp only [Act.put, List.setIfInBounds_toArray, List.set_cons_zero, List.set_cons_succ]
  refine wpMixS_eff rfl rfl (fun K hK => ?_)
  go_simp
  refine (refNew_any w5 (some B)).mono ?_
  rintro e w6 ⟨rfl, nb⟩
  have HN6 := Lib.hid (HN3.out.trans (nb.mono HN3.out.size))
  have HNB := Lib.hid nb
  clear nb
  dsimp only
  refine hK.out _ _ _ (fun _ h => h) (fun _ => HN6.out) ?_
  clear hK K
  try simp only [Act.put, List.setIfInBounds_toArray, List.set_cons_zero, List.set_cons_succ]
  refine wpMixS_build rfl rfl 63 _ rfl (.agg (prL (w2.heap.size + 3) { rs0 with src := .map (some B) }).toArray) #[(0, .pointer (some ⟨w2.heap.size + 3, 0, none⟩)), (1, .agg (rsCells { rs0 with src := .map (some B) }))] (by simp only [List.map_toArray, List.map_cons, List.map_nil]; rfl) (fun W => build63 _ _ W) ?_
  try simp only [Act.put, List.setIfInBounds_toArray, List.set_cons_zero, List.set_cons_succ]
  refine wpMixS_eff rfl rfl (fun K hK => ?_)
  go_simp
  refine hK.out _ _ _ (fun _ h => h) (fun _ => HN6.out.alloc HN6.out.size _) ?_
  clear hK K
  try simp only [Act.put, List.setIfInBounds_toArray, List.set_cons_zero, List.set_cons_succ]
  refine wpMixS_eff rfl rfl (fun K hK => ?_)
  go_simp
  refine hK.out _ _ _ (fun _ h => h) (fun _ => (HN6.out.alloc HN6.out.size _).alloc (by have := HN6.out.size; simp; omega) _) ?_
  clear hK K
  try simp only [Act.put, List.setIfInBounds_toArray, List.set_cons_zero, List.set_cons_succ]
  iterate 1
    (refine wpMixS_read (v := ?_) rfl rfl (fun w' hS => ?_) ?_
     rotate_left
     · ((try clear hS); go_simp; (try with_reducible rfl))
     try simp only [Act.put, List.setIfInBounds_toArray, List.set_cons_zero, List.set_cons_succ])
  refine wpMixS_nil ?_
  obtain ⟨b0, hb0⟩ : ∃ b0, b0 = w6.heap.size := ⟨_, rfl⟩
  have hz6 := HNB.out.size
  have H7 : Hid (PlS C B (w6.heap.size + 1) ab B w2.heap.size b0 w ((w6.alloc (.cells (prL (w2.heap.size + 3) { rs0 with src := .map (some B) }).toArray 63)).alloc (.cells #[.pointer (some ⟨w6.heap.size, 0, none⟩)] 64)) (some ⟨w6.heap.size + 1, 0, none⟩) 1 (one (w2.heap.size + 3) s0) none_ [⟨b0, C.root, .map (some B)⟩]) := by
    apply Lib.hid
    have nb2 : Below w5.heap.size w5 ((w6.alloc (.cells (prL (w2.heap.size + 3) { rs0 with src := .map (some B) }).toArray 63)).alloc (.cells #[.pointer (some ⟨w6.heap.size, 0, none⟩)] 64)) := (HNB.out.alloc hz6 _).alloc (by simp; omega) _
    have hA := HALL.out.below HOK.out.keeps nb2
    have hsz : ((w6.alloc (.cells (prL (w2.heap.size + 3) { rs0 with src := .map (some B) }).toArray 63)).alloc (.cells #[.pointer (some ⟨w6.heap.size, 0, none⟩)] 64)).heap.size = w6.heap.size + 2 := by simp
    have hrow := Blk.new_ (w6.alloc (.cells (prL (w2.heap.size + 3) { rs0 with src := .map (some B) }).toArray 63)) 64 #[.pointer (some ⟨w6.heap.size, 0, none⟩)] (g := w6.heap.size + 1) (by simp)
    have hpb := (Blk.new w6 63 (prL (w2.heap.size + 3) { rs0 with src := .map (some B) }).toArray).alloc (.cells #[.pointer (some ⟨w6.heap.size, 0, none⟩)] 64)
    refine ⟨⟨rfl, .inr ⟨w6.heap.size + 1, 1, _, rfl, Nat.le_refl _, hrow, Nat.le_refl _, by unfold maxLen; omega, rfl, by rw [hb0]; rfl⟩⟩, ⟨hA, fun q hq => ?_, fun q1 h1 q2 h2 _ => by rw [List.mem_singleton.1 h1, List.mem_singleton.1 h2], fun q1 h1 q2 h2 _ => by rw [List.mem_singleton.1 h1, List.mem_singleton.1 h2], fun k hk => by rw [HX.out] at hk; have : k = w2.heap.size := hk; rw [hsz]; omega, by rw [hsz]; omega⟩, rfl, by simp, ?_, HK5.out.below nb2 HK5.out.lt, fun k hk => by rw [HX.out] at hk; have : k = w2.heap.size := hk; omega, fun hx => by rw [HX.out] at hx; have : ab = w2.heap.size := hx; rw [HAB.out] at this; omega, by rw [hsz]; omega, by rw [HRT.out, hsz]; omega, by omega, fun q hq => by cases hq⟩
    · rw [List.mem_singleton.1 hq]
      refine ⟨⟨s0, by rw [HRT.out]; exact upd_at _ _ _, ?_, ?_, fun hr => absurd rfl hr⟩, by show B ≤ b0; omega, fun hx => by rw [HX.out] at hx; have : b0 = w2.heap.size := hx; omega, fun pm hpm hx => by rw [HX.out] at hx; have : pm = w2.heap.size := hx; injection hpm with hpm; injection hpm with hpm; omega⟩
      · rw [HVW.out, rs_new, hb0, HRT.out]
        exact hpb
      · rw [HVW.out]
        exact .inr ⟨B, M, rfl, (HMI5.out.keep (nb2.block B HMI5.out.lt)), HS.out, rfl⟩
    · exact HB5.out.trans (nb2.mono (HB5.out.size))
  have HB0 := Lib.hid hb0
  clear hb0 hz6
  generalize hW7 : ((w6.alloc (.cells (prL (w2.heap.size + 3) { rs0 with src := .map (some B) }).toArray 63)).alloc (.cells #[.pointer (some ⟨w6.heap.size, 0, none⟩)] 64)) = W7 at *
  obtain ⟨base, hbase⟩ : ∃ base, base = w6.heap.size + 1 := ⟨_, rfl⟩
  rw [← hbase] at H7 ⊢
  clear hW7 hbase HRD HNW
  go_wp2_with fail
  go_loopg [4, 8] ops.length (fun q av iv wr => ∃ (i : Nat) (L : List Pr) (OA : Option Addr) (oc : Nat) (sps : Nat → Option Sp) (hm : Pages), q = ops.length - i ∧ i ≤ ops.length ∧ iv = .int .i64 i ∧ av = .slice OA L.length oc ∧ PlS C B base ab B w2.heap.size b0 w wr OA oc sps hm L)
  case atStart => exact ⟨0, _, _, _, _, _, rfl, Nat.zero_le _, rfl, rfl, H7.out⟩
  case round =>
    obtain ⟨i, L, OA, oc, sps, hm, rfl, hi, rfl, rfl, hpl⟩ := hrel
    have HP := Lib.hid hpl
    have hLp := hpl.pos
    have hL4 := hpl.four
    clear hpl
    by_cases hlt : i < ops.length
    · have hokc := HOP.out i hlt
      have i2 : (i : Int) < (ops.length : Int) := by omega
      have hrow := RowAt.of_own HP.out.own
      have hrng := (HRO.out.below HP.out.bel)
      obtain ⟨OP', opc', hopv, _, hops2⟩ := hrng
      injection hopv with hopv1 _ hopv3
      subst hopv1 hopv3
      obtain ⟨hok, bo, off, rfl, hbo, hbw, hrange⟩ := hops2 i hlt
      clear hokc hops2
      generalize ops[i] = o at *
      have c0 : wr.cell? ⟨bo, off + i * 5, none⟩ = some (.int .u8 o.kd) := hrange 0 _ rfl
      have c1 : wr.cell? ⟨bo, off + i * 5 + 1, none⟩ = some (.int .u8 o.wh) := hrange 1 _ rfl
      have c2 : wr.cell? ⟨bo, off + i * 5 + 2, none⟩ = some (.int .i64 o.x) := hrange 2 _ rfl
      have c3 : wr.cell? ⟨bo, off + i * 5 + 3, none⟩ = some (.int .i64 o.n) := hrange 3 _ rfl
      have c4 : wr.cell? ⟨bo, off + i * 5 + 4, none⟩ = some (.string o.t) := hrange 4 _ rfl
      obtain ⟨j, hj⟩ : ∃ j : Nat, j = o.wh.toNat % L.length := ⟨_, rfl⟩
      have hjl : j < L.length := by rw [hj]; exact Nat.mod_lt _ hLp
      have hw1 := hok.w1
      have hw2 := hok.w2
      have e1 : o.wh.tmod (L.length : Int) = (j : Int) := by
        rw [Int.tmod_eq_emod_of_nonneg hw1, hj]
        have : (o.wh.toNat : Int) = o.wh := Int.toNat_of_nonneg hw1
        rw [Int.natCast_emod, this]
      have e0 : wrap64 o.wh = o.wh := IntWalk.wrap64_in _ (by omega)
      obtain ⟨rg, hOA, hcell⟩ := hrow.cell j (.pointer (some ⟨(L[j]).b, 0, none⟩)) (by unfold prPs; rw [List.getElem?_map, List.getElem?_eq_getElem hjl]; rfl)
      have hqm : L[j] ∈ L := List.getElem_mem hjl
      generalize L[j] = pr at *
      subst hOA
      have e2 : (j : Int) < (L.length : Int) := by omega
      have e3 : (0 : Int) ≤ (j : Int) := by omega
      have e4 : ((L.length : Int) == 0) = false := beq_eq_false_iff_ne.2 (by omega)
      have e5 : (L.length : Int) ≠ 0 := by omega
      have HOKO := Lib.hid hok
      have HRNG := Lib.hid hrange
      have HQM := Lib.hid hqm
      have hp3 := ptr_neq64
      have hp4 := nil_neq64
      clear hj hrow hw1 hw2 hok hrange hqm hlt
      by_cases hc : o.kd % 11 = 10
      · by_cases h4 : L.length = 4
        · have e6 : ((L.length : Int) == 4) = true := by rw [h4]; rfl
          have e7 : o.kd.tmod 11 = 10 := by rw [Int.tmod_eq_emod_of_nonneg HOKO.out.k1]; exact hc
          have HC10 := Lib.hid hc
          clear h4
          go_wp2_with fail
          go_roundg (ops.length - (i + 1))
          case measure => omega
          case rel => exact ⟨i + 1, L, _, oc, sps, hm, rfl, by omega, by go_num, rfl, HP.out⟩
        · have e6 : ((L.length : Int) == 4) = false := beq_eq_false_iff_ne.2 (by omega)
          have e7 : o.kd.tmod 11 = 10 := by rw [Int.tmod_eq_emod_of_nonneg HOKO.out.k1]; exact hc
          have h4' : L.length < 4 := by omega
          obtain ⟨s, hdp⟩ := HP.out.play.dop HQM.out
          have HDP := Lib.hid hdp
          have HDO := Lib.hid (do10 HOK.out HPK.out hdp o.kd o.wh o.x o.n o.t HOKO.out.k1 HOKO.out.k2 hc HOKO.out.t)
          clear h4 hdp
          go_wp2_with (with_reducible refine wpList_load_mid rfl 45 (.tmp 62) rfl bo (off + i * 5) rfl o.cells _ HRNG.out Try.underlying45 rfl (by exact info45) ?_)
          refine HDO.out.mono ?_
          rintro e w9 ⟨f, b2, rfl, hdf⟩
          obtain ⟨s', c', hm', hpl9, _, _, hmv9, hlb2, hlf⟩ := HP.out.play.forked HOK.out HQM.out HDP.out.sp HP.out.root hdf
          have HOWN9 := Lib.hid (own_mvD HP.out.own hmv9 HP.out.xb HDP.out.pair)
          have hb9 := Nat.le_trans HP.out.leb hmv9.size
          have HPL9 := Lib.hid hpl9
          have HMV9 := Lib.hid hmv9
          have HLF := Lib.hid hlf
          clear hdf hpl9 hmv9 hlb2 hlf
          dsimp only
          go_wp2_with (at_builtin; refine wpList_append_lies _ rfl (.tmp 71) (.tmp 73) _ rfl base 64 i64 _ 1 8 Try.underlying53 HI64.out HZ0.out HZ1.out HZ2.out rfl (by omega) (.slice (some ⟨rg, 0, none⟩) L.length oc) L.length (prPs L) rfl (HOWN9.out.alloc _) ⟨w9.heap.size, 0, none⟩ 1 1 [.pointer (some ⟨b2, 0, none⟩)] rfl rfl (World.news_of_block (t := 64) (fr := (0, 0)) (heap_alloc_new w9 _)) (by simp [Value.oneCell']) (by omega) (by unfold maxLen; omega) (by omega) (by simp; omega) (w9.heap.size + 1) (by simp) ?_; intro gg oc4 w4 hown4 hgrow4 hat4 hlt4)
          go_roundg (ops.length - (i + 1))
          case measure => omega
          case rel =>
            have hsub := HB.out
            subst hsub
            exact ⟨i + 1, L ++ [⟨b2, f, .map none⟩], _, oc4, _, hm', rfl, by omega, by go_num, by rw [List.length_append]; rfl, HP.out.fork HOK.out HRK.out HDP.out.pair HPL9.out HLF.out HMV9.out h4' _ hgrow4 hown4⟩
      · have hk10 : o.k < 10 := by have h1 := HOKO.out.k1; unfold OpV.k; omega
        have hkk : o.kd % 11 = (o.k : Int) := by have h1 := HOKO.out.k1; unfold OpV.k; omega
        have e6 : (o.kd % 11 == 10) = false := beq_eq_false_iff_ne.2 hc
        have e7 : ¬ o.kd.tmod 11 = 10 := by rw [Int.tmod_eq_emod_of_nonneg HOKO.out.k1]; exact hc
        have e8 : (o.kd.tmod 11 == 10) = false := beq_eq_false_iff_ne.2 e7
        obtain ⟨s, hdp⟩ := HP.out.play.dop HQM.out
        have HDP := Lib.hid hdp
        have HDO := Lib.hid (do_any HOK.out HPK.out hdp o.k hk10 o.kd o.wh o.x o.n o.t HOKO.out.k1 HOKO.out.k2 hkk HOKO.out.x1 HOKO.out.x2 HOKO.out.n1 HOKO.out.n2 HOKO.out.t rfl)
        clear hc hk10 hkk hdp
        go_wp2_with (with_reducible refine wpList_load_mid rfl 45 (.tmp 62) rfl bo (off + i * 5) rfl o.cells _ HRNG.out Try.underlying45 rfl (by exact info45) ?_)
        refine HDO.out.mono ?_
        rintro e w9 ⟨rfl, hdr⟩
        obtain ⟨s', hm', hpl9, _, hmv9⟩ := HP.out.play.step HQM.out HDP.out.sp hdr
        have hsub := HB.out
        subst hsub
        have H9 := Lib.hid (HP.out.step HDP.out.pair hpl9 hmv9)
        clear hdr hpl9 hmv9
        dsimp only
        go_wp2_with fail
        go_roundg (ops.length - (i + 1))
        case measure => omega
        case rel => exact ⟨i + 1, L, _, oc, _, hm', rfl, by omega, by go_num, rfl, H9.out⟩
    · obtain rfl : i = ops.length := by omega
      clear hi hlt
      go_wp2_with fail
      have hc1 : wr.drew.cell? ⟨ab, 1, none⟩ = some (.map (some w2.heap.size)) := HP.out.blk.cell 1
      have HPD : Hid (PlS C B base ab B w2.heap.size b0 w wr.drew OA oc sps hm L) := Lib.hid ⟨HP.out.own, HP.out.play.below HOK.out (Below.refl _ _).drew, HP.out.head, HP.out.four, HP.out.bel.drew, HP.out.blk, HP.out.xb, HP.out.xa, HP.out.leb, HP.out.root, HP.out.lb, HP.out.tl⟩
      refine wp_region_mixL (fun W => W = wr.drew) [4] [] [0, 1, 2, 3, 4, 5, 6, 7] (by kernel_rfl) (by kernel_rfl) rfl ?_
      simp only [inOrder, opAt]
      generalize wr.drew = Wz at *
      iterate 8
        (refine wpMixS_read (v := ?_) rfl rfl (fun w' hS => ?_) ?_
         rotate_left
         · ((try (have hE : w' = Wz := hS rfl; rw [hE])); (try clear hS); go_simp; (try with_reducible rfl))
         try simp only [Act.put, List.setIfInBounds_toArray, List.set_cons_zero, List.set_cons_succ])
      refine wpMixS_nil ?_
      go_wp2_with fail
      refine bodyPost_ret (results_tmp3 rfl _ _ _) rfl ?_
      have hsub := HB.out
      subst hsub
      have hab2 := HAB.out
      subst hab2
      refine ⟨w2.heap.size + 2, w2.heap.size + 1, w2.heap.size, w2.heap.size + 3, base, b0, OA, oc, sps, hm, L, rfl, ?_, by omega, ?_⟩
      · have := HOK.out
        rw [HC.out, HMM.out] at this
        exact this
      · have := HPD.out
        rw [HC.out, HMM.out] at this
        exact this
end Go.Proofs.Ytbppafbdmdbdiaa
