/-
  Walks of the writer: end.
-/
import Derived.Test.YtgmpdclmfcmodaaLongest
import Derived.Test.YtgmpdclmfcmodaaMix
namespace Go.Proofs.Ytgmpdclmfcmodaa
open Go.RowKit

theorem u8wrap (n : Nat) : IntKind.u8.wrap (n : Int) = ((UInt8.ofNat n).toNat : Int) := by
  simp [IntKind.wrap, IntKind.bits, IntKind.signed]

/-- The writer: its block g; p is written, q waits; all that it holds lies from block base on. -/
def Wr (w : World) (base g : Nat) (p q : List UInt8) : Prop :=
  ∃ pv qv, Blk w g 65 #[pv, qv] ∧ w.ownsRow base 5 1 pv p.length (bs p) ∧ w.ownsRow base 5 1 qv q.length (bs q) ∧ (∀ b, pv.ownBlock = some b → qv.ownBlock ≠ some b) ∧ base ≤ g

theorem end_nothing (w : World) (base g : Nat) (p : List UInt8) (h : Wr w base g p []) :
    Calls Try.prog 33 #[.pointer (some ⟨g, 0, none⟩)] w fun e w' => e = .returned (.tuple #[]) ∧ w = w' := by
  obtain ⟨pv, qv, hg, hp, hq, hne, hb⟩ := h
  have g1 := hg.cell 1
  simp at g1
  have hqv : ∃ A cap, qv = .slice A 0 cap := by
    rcases hq.2 with ⟨h, _⟩ | ⟨b, cap, _, h, _⟩
    · exact ⟨_, _, h⟩
    · exact ⟨_, _, h⟩
  obtain ⟨A, cap, rfl⟩ := hqv
  go_enter Try.func33, Try.ntmps33
  go_wp2_with fail
  refine bodyPost_ret (results_none rfl _ _ _) rfl ⟨rfl, rfl⟩

set_option maxRecDepth 100000 in
set_option maxHeartbeats 1600000 in
theorem end_some (w : World) (base g : Nat) (p q : List UInt8) (h : Wr w base g p q) (hq0 : 0 < q.length) (hq1 : q.length ≤ 128) (hpl : p.length ≤ 8000000) (hbase : base ≤ w.heap.size) :
    Calls Try.prog 33 #[.pointer (some ⟨g, 0, none⟩)] w fun e w' => e = .returned (.tuple #[]) ∧ Wr w' base g (Pk.flush p q) [] ∧ Below base w w' := by
  obtain ⟨i0, hi, hz0, hz1, hz2⟩ := info_parts info5
  obtain ⟨pv, qv, hg, hp, hq, hne, hb⟩ := h
  have g0 := hg.cell 0
  have g1 := hg.cell 1
  have fz0 := hg.frozen 0
  have fz1 := hg.frozen 1
  simp at g0 g1
  obtain ⟨b, cap, rfl, hbb, hbl⟩ := hq.form hq0
  have ap : pv.ownBlock ≠ some g := own_blk_ne hp hg (by decide)
  have aq : b ≠ g := by
    have := own_blk_ne hq hg (by decide)
    intro e
    exact this (by rw [← e]; rfl)
  have lg := hg.lt
  have e0 : IntKind.i64.wrap ((q.length : Int) - 1) = (q.length : Int) - 1 := IntWalk.i64_in _ (by omega)
  have e1 : IntKind.u8.wrap ((q.length : Int) - 1) = ((UInt8.ofNat (q.length - 1)).toNat : Int) := by
    rw [← u8wrap, show ((q.length - 1 : Nat) : Int) = (q.length : Int) - 1 by omega]
  have i1 : (1 : Int) ≤ q.length := by omega
  have i2 : ((q.length : Int) == 0) = false := beq_eq_false_iff_ne.2 (by omega)
  go_enter Try.func33, Try.ntmps33
  go_wp2_with fail
  refine wp_region_mix (fun w' => w'.cell? ⟨g, 0, none⟩ = some pv ∧ w'.cell? ⟨g, 1, none⟩ = some (.slice (some ⟨b, 0, none⟩) q.length cap))
    [0, 1, 2, 3, 4, 5, 6, 7, 8, 9, 10, 11, 12, 13] [12, 13, 16] [0, 1, 2, 3, 4, 5, 6, 7, 8, 9, 10, 11, 12, 13, 14, 15, 16] (by kernel_rfl) (by kernel_rfl) ⟨g0, g1⟩ ?_
  simp only [inOrder, opAt]
  repeat
    (refine wpMix_read (v := ?_) rfl rfl (fun w' hS => ?_) ?_
     rotate_left
     · ((try replace hS := hS rfl); (try dsimp only at hS); go_simp; (try with_reducible rfl))
     simp only [Act.put, List.setIfInBounds_toArray, List.set_cons_zero, List.set_cons_succ])
  refine wpMix_eff rfl rfl (fun K hK => ?_)
  go_simp
  refine hK.out _ _ (fun _ => ⟨by simp [go_sem, g0, lg], by simp [go_sem, g1, lg]⟩) ?_
  clear hK K
  refine wpMix_eff rfl rfl (fun K hK => ?_)
  refine wp_append_lies _ _ _ _ (by rfl) base 5 i0 _ 1 1 Try.underlying22 hi hz0 hz1 hz2 rfl (by omega) pv p.length (bs p) (by rfl) ((hp.alloc _).drew)
        ⟨w.heap.size, 0, none⟩ 1 1 [.int .u8 (UInt8.ofNat (q.length - 1)).toNat] (by rfl) (by rfl) (World.news_of_block (t := 5) (fr := (0, 0)) (heap_alloc_new w _)) (by simp [Value.oneCell'])
        (by omega) (by unfold maxLen; omega) (by omega) (by simp; omega) (w.heap.size + 1) (by simp) ?_
  intro gg cap2 w1 hown1 hgrow hat hlt
  have hg1 : Blk w1 g 65 #[pv, .slice (some ⟨b, 0, none⟩) q.length cap] := ((hg.alloc _).drew).grown hgrow (Ne.symm ap)
  have c0 := hg1.cell 0
  have c1 := hg1.cell 1
  have f0 := hg1.frozen 0
  simp at c0 c1
  refine hK.out _ _ (fun _ => ⟨c0, c1⟩) ?_
  clear hK K
  simp only [Act.put, List.setIfInBounds_toArray, List.set_cons_zero, List.set_cons_succ]
  repeat
    (refine wpMix_read (v := ?_) rfl rfl (fun w' hS => ?_) ?_
     rotate_left
     · ((try replace hS := hS rfl); (try dsimp only at hS); go_simp; (try with_reducible rfl))
     simp only [Act.put, List.setIfInBounds_toArray, List.set_cons_zero, List.set_cons_succ])
  refine wpMix_eff rfl rfl (fun K hK => ?_)
  go_simp
  refine hK.out _ _ (fun h => by cases h) ?_
  clear hK K
  refine wpMix_nil ?_
  have hgb : gg ≠ b := by
    intro e
    rcases hat with h | h
    · exact hne gg h (by rw [e]; rfl)
    · omega
  have hgg : gg ≠ g := by
    intro e
    rcases hat with h | h
    · exact ap (by rw [h, e])
    · omega
  have hbg : base ≤ gg := by
    rcases hat with h | h
    · exact (hp.lt gg h).1
    · omega
  go_wp2_with fail
  refine wp_forget (fun W => Blk W g 65 #[.slice (some ⟨gg, 0, none⟩) (p.length + 1) cap2, .slice (some ⟨b, 0, none⟩) q.length cap] ∧
    W.ownsRow base 5 1 (.slice (some ⟨gg, 0, none⟩) (p.length + 1) cap2) (p.length + 1) (bs p ++ [.int .u8 (UInt8.ofNat (q.length - 1)).toNat]) ∧
    W.ownsRow base 5 1 (.slice (some ⟨b, 0, none⟩) q.length cap) q.length (bs q) ∧ Below base w W) ?_ ?_
  · have hfr : Fr [g] w1 (w1.setCell ⟨g, 0, none⟩ (.slice (some ⟨gg, 0, none⟩) (p.length + 1) cap2)) := (Fr.refl _ _).setCell (.inl (by simp)) _
    refine ⟨?_, own_fr hown1 hfr (by intro x hx; simp [Value.ownBlock] at hx; simp; omega), own_fr (((hq.alloc _).drew).kept hgrow (.inr ?_)) hfr (by intro x hx; simp [Value.ownBlock] at hx; simp; omega), ?_⟩
    · have := hg1.set_ 0 (.slice (some ⟨gg, 0, none⟩) (p.length + 1) cap2)
      simpa using this
    · simp [Value.ownBlock]
      exact fun e => hne b e.symm rfl
    · exact ((((Below.refl _ _).alloc hbase _).drew).grown hgrow (by simp; omega) (fun k hk => (hp.lt k hk).1)).setCell hb _
  clear hgrow c0 c1 f0 hown1 hg1 g0 g1 fz0 fz1 hg hlt hp hq lg hat hne
  rintro w2 ⟨hg, hp, hq, hbel⟩
  have g0 := hg.cell 0
  have g1 := hg.cell 1
  simp at g0 g1
  have lg := hg.lt
  have hq' := hq.cells (g := b) rfl
  have hsz := hbel.size
  refine wp_region_mix (fun w' => w'.cell? ⟨g, 0, none⟩ = some (.slice (some ⟨gg, 0, none⟩) (p.length + 1) cap2) ∧ w'.cell? ⟨g, 1, none⟩ = some (.slice (some ⟨b, 0, none⟩) q.length cap))
    [0, 1, 2, 3, 4, 5, 6, 7, 8, 9] [9, 12] [0, 1, 2, 3, 4, 5, 6, 7, 8, 9, 10, 11, 12] (by kernel_rfl) (by kernel_rfl) ⟨g0, g1⟩ ?_
  simp only [inOrder, opAt]
  repeat
    (refine wpMix_read (v := ?_) rfl rfl (fun w' hS => ?_) ?_
     rotate_left
     · ((try replace hS := hS rfl); (try dsimp only at hS); go_simp; (try with_reducible rfl))
     simp only [Act.put, List.setIfInBounds_toArray, List.set_cons_zero, List.set_cons_succ])
  refine wpMix_eff rfl rfl (fun K hK => ?_)
  refine wp_append_lies _ _ _ _ (by rfl) base 5 i0 _ 1 1 Try.underlying22 hi hz0 hz1 hz2 rfl (by omega) _ (p.length + 1) _ (by rfl) hp.drew
        ⟨b, 0, none⟩ q.length cap (bs q) (by rfl) (by rw [bs_length, Nat.mul_one]) hq' (bs_one q)
        (by omega) (by unfold maxLen; omega) (by omega) (by simp; omega) w2.heap.size (by simp) ?_
  intro gh cap3 w3 hown3 hgrow hat hlt
  have hg3 : Blk w3 g 65 #[.slice (some ⟨gg, 0, none⟩) (p.length + 1) cap2, .slice (some ⟨b, 0, none⟩) q.length cap] := hg.drew.grown hgrow (by simp [Value.ownBlock]; omega)
  have c0 := hg3.cell 0
  have c1 := hg3.cell 1
  have f0 := hg3.frozen 0
  have f1 := hg3.frozen 1
  simp at c0 c1
  refine hK.out _ _ (fun _ => ⟨c0, c1⟩) ?_
  clear hK K
  simp only [Act.put, List.setIfInBounds_toArray, List.set_cons_zero, List.set_cons_succ]
  repeat
    (refine wpMix_read (v := ?_) rfl rfl (fun w' hS => ?_) ?_
     rotate_left
     · ((try replace hS := hS rfl); (try dsimp only at hS); go_simp; (try with_reducible rfl))
     simp only [Act.put, List.setIfInBounds_toArray, List.set_cons_zero, List.set_cons_succ])
  refine wpMix_eff rfl rfl (fun K hK => ?_)
  go_simp
  refine hK.out _ _ (fun h => by cases h) ?_
  clear hK K
  refine wpMix_nil ?_
  go_wp2_with fail
  have hgb2 : gh ≠ b := by
    intro e
    rcases hat with h | h
    · simp [Value.ownBlock] at h; omega
    · have := (hq.lt b rfl).2
      omega
  have hgg2 : gh ≠ g := by
    intro e
    rcases hat with h | h
    · simp [Value.ownBlock] at h; omega
    · omega
  have hfr : Fr [g] w3 ((w3.setCell ⟨g, 0, none⟩ (.slice (some ⟨gh, 0, none⟩) (p.length + 1 + q.length) cap3)).setCell ⟨g, 1, none⟩ (.slice (some ⟨b, 0, none⟩) 0 cap)) :=
    ((Fr.refl _ _).setCell (.inl (by simp)) _).setCell (.inl (by simp)) _
  refine bodyPost_end (results_none rfl _ _ _) rfl ⟨rfl, ⟨.slice (some ⟨gh, 0, none⟩) (p.length + 1 + q.length) cap3, .slice (some ⟨b, 0, none⟩) 0 cap, ?_, ?_, ?_, ?_, hb⟩, ?_⟩
  · have := (hg3.set_ 0 (.slice (some ⟨gh, 0, none⟩) (p.length + 1 + q.length) cap3)).set_ 1 (.slice (some ⟨b, 0, none⟩) 0 cap)
    simpa using this
  · have e : bs (Pk.flush p q) = bs p ++ [.int .u8 (UInt8.ofNat (q.length - 1)).toNat] ++ bs q := by
      unfold Pk.flush
      rw [if_neg (by intro h; rw [h] at hq0; simp at hq0)]
      simp [bs]
    have el : (Pk.flush p q).length = p.length + 1 + q.length := by
      have := congrArg List.length e
      simp [bs_length] at this
      omega
    rw [e, el]
    exact own_fr hown3 hfr (by intro x hx; simp [Value.ownBlock] at hx; simp; omega)
  · exact own_fr (own_none (hq.drew.kept hgrow (.inr (by simp [Value.ownBlock]; omega)))) hfr (by intro x hx; simp [Value.ownBlock] at hx; simp; omega)
  · intro x hx
    simp [Value.ownBlock] at hx ⊢
    omega
  · exact (((hbel.drew).grown hgrow (by simp; omega) (fun k hk => by simp [Value.ownBlock] at hk; omega)).setCell hb _).setCell hb _

/-- end: the literals that wait are written. -/
theorem end_any (w : World) (base g : Nat) (p q : List UInt8) (h : Wr w base g p q) (hq1 : q.length ≤ 128) (hpl : p.length ≤ 8000000) (hbase : base ≤ w.heap.size) :
    Calls Try.prog 33 #[.pointer (some ⟨g, 0, none⟩)] w fun e w' => e = .returned (.tuple #[]) ∧ Wr w' base g (Pk.flush p q) [] ∧ Below base w w' := by
  rcases Nat.eq_zero_or_pos q.length with h0 | h0
  · have : q = [] := List.eq_nil_of_length_eq_zero h0
    subst this
    refine (end_nothing w base g p h).mono ?_
    rintro e w' ⟨rfl, rfl⟩
    exact ⟨rfl, h, Below.refl _ _⟩
  · exact end_some w base g p q h h0 hq1 hpl hbase

/-- The literals have grown. -/
theorem Wr.lit {w w1 : World} {base g gg cap2 : Nat} {p q : List UInt8} {pv qv : Value} {b : UInt8}
    (hg : Blk w g 65 #[pv, qv]) (hp : w.ownsRow base 5 1 pv p.length (bs p)) (hq : w.ownsRow base 5 1 qv q.length (bs q)) (hne : ∀ b, pv.ownBlock = some b → qv.ownBlock ≠ some b) (hb : base ≤ g) (hbase : base ≤ w.heap.size)
    (hgrow : (w.alloc (.cells #[.int .u8 b.toNat] 5)).grownBy w1 qv.ownBlock)
    (hown : w1.ownsRow base 5 1 (.slice (some ⟨gg, 0, none⟩) (q.length + 1) cap2) (q.length + 1) (bs q ++ [.int .u8 b.toNat]))
    (hat : qv.ownBlock = some gg ∨ gg = w.heap.size + 1) :
    Wr (w1.setCell ⟨g, 1, none⟩ (.slice (some ⟨gg, 0, none⟩) (q.length + 1) cap2)) base g p (q ++ [b]) ∧ Below base w (w1.setCell ⟨g, 1, none⟩ (.slice (some ⟨gg, 0, none⟩) (q.length + 1) cap2)) := by
  have aq : qv.ownBlock ≠ some g := own_blk_ne hq hg (by decide)
  have ap : pv.ownBlock ≠ some g := own_blk_ne hp hg (by decide)
  have hg1 : Blk w1 g 65 #[pv, qv] := (hg.alloc _).grown hgrow (Ne.symm aq)
  have lg := hg.lt
  have hgg : gg ≠ g := by
    intro e
    rcases hat with h | h
    · exact aq (by rw [h, e])
    · omega
  have hfr : Fr [g] w1 (w1.setCell ⟨g, 1, none⟩ (.slice (some ⟨gg, 0, none⟩) (q.length + 1) cap2)) := (Fr.refl _ _).setCell (.inl (by simp)) _
  refine ⟨⟨pv, .slice (some ⟨gg, 0, none⟩) (q.length + 1) cap2, ?_, ?_, ?_, ?_, hb⟩, ?_⟩
  · have := hg1.set_ 1 (.slice (some ⟨gg, 0, none⟩) (q.length + 1) cap2)
    simpa using this
  · refine own_fr ((hp.alloc _).kept hgrow ?_) hfr (by intro x hx; simp; exact fun e => ap (by rw [hx, e]))
    cases hpb : pv.ownBlock with
    | none => exact .inl rfl
    | some k => exact .inr (fun e => hne k hpb e.symm)
  · have := own_fr hown hfr (by intro x hx; simp [Value.ownBlock] at hx; simp; omega)
    simpa [bs] using this
  · intro x hx e
    simp [Value.ownBlock] at e
    rcases hat with h | h
    · exact hne x hx (by rw [h, e])
    · have := (hp.lt x hx).2
      omega
  · exact (((Below.refl _ _).alloc hbase _).grown hgrow (by simp; omega) (fun k hk => (hq.lt k hk).1)).setCell hb _

set_option maxRecDepth 100000 in
set_option maxHeartbeats 1600000 in
/-- literal: a byte is added to the present run. -/
theorem literal_any (w : World) (base g : Nat) (p q : List UInt8) (b : UInt8) (h : Wr w base g p q) (hq1 : q.length < 128) (hpl : p.length ≤ 8000000) (hbase : base ≤ w.heap.size) :
    Calls Try.prog 31 #[.pointer (some ⟨g, 0, none⟩), .int .u8 b.toNat] w fun e w' => e = .returned (.tuple #[]) ∧
      Wr w' base g (if q.length + 1 = 128 then Pk.flush p (q ++ [b]) else p) (if q.length + 1 = 128 then [] else q ++ [b]) ∧ Below base w w' := by
  obtain ⟨i0, hi, hz0, hz1, hz2⟩ := info_parts info5
  obtain ⟨pv, qv, hg, hp, hq, hne, hb⟩ := h
  have g0 := hg.cell 0
  have g1 := hg.cell 1
  have fz1 := hg.frozen 1
  simp at g0 g1
  have aq : qv.ownBlock ≠ some g := own_blk_ne hq hg (by decide)
  have lg := hg.lt
  by_cases h128 : q.length + 1 = 128
  · rw [if_pos h128, if_pos h128]
    have e1 : (((q.length : Int) + 1) == 128) = true := beq_iff_eq.2 (by omega)
    have H := Lib.hid h128
    clear h128
    go_enter Try.func31, Try.ntmps31
    go_wp2_with (at_builtin; refine wpList_append_lies _ rfl _ _ _ rfl base 5 i0 _ 1 1 Try.underlying22 hi hz0 hz1 hz2 rfl (by omega) qv q.length (bs q) rfl (hq.alloc _) ⟨w.heap.size, 0, none⟩ 1 1 [.int .u8 b.toNat] rfl rfl (World.news_of_block (t := 5) (fr := (0, 0)) (heap_alloc_new w _)) (by simp [Value.oneCell']) (by omega) (by unfold maxLen; omega) (by omega) (by simp; omega) (w.heap.size + 1) (by simp) ?_; intro gg cap2 w1 hown1 hgrow hat hlt; have hg1 : Blk w1 g 65 #[pv, qv] := (hg.alloc _).grown hgrow (Ne.symm aq); have c0 := hg1.cell 0; have c1 := hg1.cell 1; have f1 := hg1.frozen 1; simp at c0 c1)
    obtain ⟨hw2, hbl⟩ := Wr.lit hg hp hq hne hb hbase hgrow hown1 hat
    refine (end_any _ base g p (q ++ [b]) hw2 (by simp; omega) hpl (by have := hbl.size; omega)).mono ?_
    rintro e w2 ⟨rfl, hw3, hb3⟩
    go_wp2_with fail
    exact bodyPost_end (results_none rfl _ _ _) rfl ⟨rfl, hw3, hbl.trans hb3⟩
  · rw [if_neg h128, if_neg h128]
    have e1 : (((q.length : Int) + 1) == 128) = false := beq_eq_false_iff_ne.2 (by omega)
    have H := Lib.hid h128
    clear h128
    go_enter Try.func31, Try.ntmps31
    go_wp2_with (at_builtin; refine wpList_append_lies _ rfl _ _ _ rfl base 5 i0 _ 1 1 Try.underlying22 hi hz0 hz1 hz2 rfl (by omega) qv q.length (bs q) rfl (hq.alloc _) ⟨w.heap.size, 0, none⟩ 1 1 [.int .u8 b.toNat] rfl rfl (World.news_of_block (t := 5) (fr := (0, 0)) (heap_alloc_new w _)) (by simp [Value.oneCell']) (by omega) (by unfold maxLen; omega) (by omega) (by simp; omega) (w.heap.size + 1) (by simp) ?_; intro gg cap2 w1 hown1 hgrow hat hlt; have hg1 : Blk w1 g 65 #[pv, qv] := (hg.alloc _).grown hgrow (Ne.symm aq); have c0 := hg1.cell 0; have c1 := hg1.cell 1; have f1 := hg1.frozen 1; simp at c0 c1)
    obtain ⟨hw2, hbl⟩ := Wr.lit hg hp hq hne hb hbase hgrow hown1 hat
    exact bodyPost_end (results_none rfl _ _ _) rfl ⟨rfl, hw2, hbl⟩

set_option maxRecDepth 100000 in
set_option maxHeartbeats 1600000 in
/-- match: the present run ends, and a match is written. -/
theorem match_any (w : World) (base g : Nat) (p q : List UInt8) (n d : Nat) (h : Wr w base g p q) (hq1 : q.length ≤ 128) (hpl : p.length ≤ 6000000) (hbase : base ≤ w.heap.size)
    (hn : 4 ≤ n) (hn2 : n ≤ 131) (hd : 0 < d) (hd2 : d ≤ 4096) :
    Calls Try.prog 32 #[.pointer (some ⟨g, 0, none⟩), .int .i64 n, .int .i64 d] w fun e w' => e = .returned (.tuple #[]) ∧
      Wr w' base g (Pk.flush p q ++ Pk.matchBytes n d) [] ∧ Below base w w' := by
  obtain ⟨i0, hi, hz0, hz1, hz2⟩ := info_parts info5
  have i1 : (4 : Int) ≤ n := by omega
  have i2 : (n : Int) ≤ 131 := by omega
  have i3 : (1 : Int) ≤ d := by omega
  have i4 : (d : Int) ≤ 4096 := by omega
  have hfl : (Pk.flush p q).length ≤ 6000200 := by
    unfold Pk.flush
    split
    · omega
    · simp; omega
  go_enter Try.func32, Try.ntmps32
  go_wp2_with fail
  refine (end_any w base g p q h hq1 (by omega) hbase).mono ?_
  rintro e w1 ⟨rfl, h1, hbl⟩
  obtain ⟨pv, qv, hg, hp, hq, hne, hb⟩ := h1
  have g0 := hg.cell 0
  have g1 := hg.cell 1
  have fz0 := hg.frozen 0
  simp at g0 g1
  have ap : pv.ownBlock ≠ some g := own_blk_ne hp hg (by decide)
  have lg := hg.lt
  have hsz := hbl.size
  go_wp2_with (at_builtin; refine wpList_append_lies _ rfl _ _ _ rfl base 5 i0 _ 1 1 Try.underlying22 hi hz0 hz1 hz2 rfl (by omega) pv (Pk.flush p q).length (bs (Pk.flush p q)) rfl (hp.alloc _) ⟨w1.heap.size, 0, none⟩ 3 3 [.int .u8 (128 + (n : Int) - 4), .int .u8 (((d : Int) - 1) / 256), .int .u8 (((d : Int) - 1) % 256)] rfl rfl (World.news_of_block (t := 5) (fr := (0, 0)) (heap_alloc_new w1 _)) (by simp [Value.oneCell']) (by omega) (by unfold maxLen; omega) (by omega) (by simp; omega) (w1.heap.size + 1) (by simp) ?_; intro gg cap2 w2 hown1 hgrow hat hlt; have hg1 : Blk w2 g 65 #[pv, qv] := (hg.alloc _).grown hgrow (Ne.symm ap); have c0 := hg1.cell 0; have f0 := hg1.frozen 0; simp at c0)
  have hgg : gg ≠ g := by
    intro e
    rcases hat with h | h
    · exact ap (by rw [h, e])
    · omega
  have hfr : Fr [g] w2 (w2.setCell ⟨g, 0, none⟩ (.slice (some ⟨gg, 0, none⟩) ((Pk.flush p q).length + 3) cap2)) := (Fr.refl _ _).setCell (.inl (by simp)) _
  have aq : qv.ownBlock ≠ some g := own_blk_ne hq hg (by decide)
  refine bodyPost_end (results_none rfl _ _ _) rfl ⟨rfl, ⟨.slice (some ⟨gg, 0, none⟩) ((Pk.flush p q).length + 3) cap2, qv, ?_, ?_, ?_, ?_, hb⟩, ?_⟩
  · have := hg1.set_ 0 (.slice (some ⟨gg, 0, none⟩) ((Pk.flush p q).length + 3) cap2)
    simpa using this
  · have e : bs (Pk.flush p q ++ Pk.matchBytes n d) = bs (Pk.flush p q) ++ [.int .u8 (128 + (n : Int) - 4), .int .u8 (((d : Int) - 1) / 256), .int .u8 (((d : Int) - 1) % 256)] := by
      unfold Pk.matchBytes
      simp [bs]
      omega
    have el : (Pk.flush p q ++ Pk.matchBytes n d).length = (Pk.flush p q).length + 3 := by simp [Pk.matchBytes]
    rw [e, el]
    exact own_fr hown1 hfr (by intro x hx; simp [Value.ownBlock] at hx; simp; omega)
  · refine own_fr ((hq.alloc _).kept hgrow ?_) hfr (by intro x hx; simp; exact fun e => aq (by rw [hx, e]))
    cases hqb : qv.ownBlock with
    | none => exact .inl rfl
    | some k => exact .inr (fun e => hne k e.symm hqb)
  · intro x hx e
    simp [Value.ownBlock] at hx
    rcases hat with h | h
    · exact hne x (by rw [h, hx]) e
    · have := (hq.lt x e).2
      omega
  · exact (((hbl.alloc (by omega) _).grown hgrow (by simp; omega) (fun k hk => (hp.lt k hk).1)).setCell hb _)
end Go.Proofs.Ytgmpdclmfcmodaa
