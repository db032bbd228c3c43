/-
  Walks: the effects that load and store. (genCpH.py prints this text.)
-/
import Derived.Test.YtkoomlbnfhdhcaaGreatDoorMCc
import Derived.Test.YtkoomlbnfhdhcaaGreatDoorRsJ
namespace Go.Proofs.YtkoomlbnfhdhcaaGreatDoor
open Go.RowKit
set_option linter.unusedVariables false
set_option linter.unusedSectionVars false

/-- What stands for a source stays where a machine, or an ending, is written. -/
def MachOk (C : Source) : Prop := ∀ a w w' b t cs, (t = 116 ∨ t = 111 ∨ t = 109) → C.E a w → Blk w b t cs → Fr [b] w w' → C.E a w'
section
variable {C : Source} {B : Nat} {w w' w'' : World} {sps : Nat → Option Sp} {hm : Pages} {sp X ef : Nat} {g g' : Rg} {s : Sp} {a a' : AS} {E : End} {e : Ending} {cs : Array Value}
theorem All.mach (h : All C B w sps hm) (hp : MachOk C) {b t : Nat} (ht : t = 116 ∨ t = 111 ∨ t = 109) (hb : Blk w b t cs) (hf : Fr [b] w w') : All C B w' sps hm :=
  ⟨⟨fun k x hx => ⟨(h.blk k x hx).1.fr hf (by have := (h.blk k x hx).1.ne_ hb (by rcases ht with rfl | rfl | rfl <;> decide); simpa using this), (h.blk k x hx).2⟩,
    fun q b sh hq => ⟨(h.mem q b sh hq).1, (h.mem q b sh hq).2.1.fr hf (by have := (h.mem q b sh hq).2.1.ne_ hb (by rcases ht with rfl | rfl | rfl <;> decide); simpa using this), (h.mem q b sh hq).2.2⟩, h.ref, h.own⟩,
    fun x hx => (h.env x hx).imp id fun e => ⟨e.1, hp _ _ _ _ _ _ ht e.2 hb hf⟩, h.nosrc, h.inv⟩
theorem Mv.frN {Y : Nat → Prop} {w2 w3 : World} {L : List Nat} (h : Mv B Y w w2) (hf : Fr L w2 w3) (hL : ∀ x ∈ L, (B ≤ x ∧ Y x) ∨ w.heap.size ≤ x) : Mv B Y w w3 :=
  ⟨hf.os.trans h.os, hf.tape.trans h.tape, hf.output.trans h.output, Nat.le_trans h.size hf.size, fun k hk hc => (hf.block k (Nat.lt_of_lt_of_le hk h.size) fun hm => by
    rcases hL k hm with ⟨h1, h2⟩ | h1
    · rcases hc with hc | hc
      · omega
      · exact hc.2 h2
    · omega).trans (h.block k hk hc)⟩
/-- A machine and its space. -/
structure MP (C : Source) (B : Nat) (sps : Nat → Option Sp) (hm : Pages) (sp X ef : Nat) (g : Rg) (s : Sp) (w : World) : Prop where
  ok : SourceOk C B
  mok : MachOk C
  all : All C B w sps hm
  sp_ : sps sp = some s
  blk : Blk w X 116 (mcells g sp ef)
  gok : g.Ok
  xX : ¬ C.X X
  XB : B ≤ X
  leB : B ≤ w.heap.size
  xw : ∀ k, C.X k → k < w.heap.size
/-- What an instruction leaves. -/
def MStp (C : Source) (B : Nat) (sps : Nat → Option Sp) (hm : Pages) (sp X ef : Nat) (g' : Rg) (a' : AS) (w w' : World) : Prop :=
  ∃ s' hm', All C B w' (upd sps sp (some s')) hm' ∧ view C hm' s' = a' ∧ (∀ k x, k ≠ sp → sps k = some x → view C hm' x = view C hm x) ∧ Mv B (fun k => C.X k ∨ k = X) w w' ∧ Blk w' X 116 (mcells g' sp ef)
theorem Mv.widen (h : Mv B C.X w w') : Mv B (fun k => C.X k ∨ k = X) w w' := ⟨h.os, h.tape, h.output, h.size, fun k hk hc => h.block k hk (hc.imp id fun hc => ⟨hc.1, fun hx => hc.2 (.inl hx)⟩)⟩
theorem Mv.ofFr (h : Fr [X] w w') (hB : B ≤ X) : Mv B (fun k => C.X k ∨ k = X) w w' := Mv.fr h fun g hg => by rw [List.mem_singleton.1 hg]; exact ⟨hB, .inr (.inr rfl)⟩
/-- An effect on registers. -/
theorem EffR.stp (P : MP C B sps hm sp X ef g s w) (h : EffR w X sp ef g' E e w') : e = .returned (endV E) ∧ MStp C B sps hm sp X ef g' (view C hm s) w w' :=
  ⟨h.ret, s, hm, by rw [upd_same _ _ _ P.sp_]; exact P.all.mach P.mok (.inl rfl) P.blk h.fr, rfl, fun _ _ _ _ => rfl, Mv.ofFr h.fr P.XB, h.blk⟩
/-- Behind a step of the space the machine stands as it stood. -/
theorem MP.blk2 (P : MP C B sps hm sp X ef g s w) {w1 : World} (hb : Below w.heap.size w w1) (hmv : Mv B C.X w1 w') : Blk w' X 116 (mcells g sp ef) :=
  hmv.blk (P.blk.below hb P.blk.lt) (by decide) (by decide) P.xX
def loadG (g : Rg) (a : AS) (k b : Nat) (c : Int) : Rg × AS × End :=
  if (loadA a (sumA g b c) 4).2.2 = 0 then (resA g k (leV (loadA a (sumA g b c) 4).2.1), (loadA a (sumA g b c) 4).1, goOn) else (g, (loadA a (sumA g b c) 4).1, ⟨4, 0, sumA g b c⟩)
def loadByteG (g : Rg) (a : AS) (k b : Nat) (c : Int) : Rg × AS × End :=
  if (loadA a (sumA g b c) 1).2.2 = 0 then (resA g k ((loadA a (sumA g b c) 1).2.1.getD 0 0).toNat, (loadA a (sumA g b c) 1).1, goOn) else (g, (loadA a (sumA g b c) 1).1, ⟨4, 0, sumA g b c⟩)
def storeG (g : Rg) (a : AS) (k b : Nat) (c : Int) : Rg × AS × End :=
  if (storeA a (sumA g b c) (le4 (g.r k).toNat)).2 = 0 then (nextA g, (storeA a (sumA g b c) (le4 (g.r k).toNat)).1, goOn) else (g, (storeA a (sumA g b c) (le4 (g.r k).toNat)).1, ⟨4, 0, sumA g b c⟩)
def storeByteG (g : Rg) (a : AS) (k b : Nat) (c : Int) : Rg × AS × End :=
  if (storeA a (sumA g b c) [UInt8.ofNat (g.r k).toNat]).2 = 0 then (nextA g, (storeA a (sumA g b c) [UInt8.ofNat (g.r k).toNat]).1, goOn) else (g, (storeA a (sumA g b c) [UInt8.ofNat (g.r k).toNat]).1, ⟨4, 0, sumA g b c⟩)
theorem sumA_0 (g : Rg) (b : Nat) (c : Int) : 0 ≤ sumA g b c := Int.emod_nonneg _ (by decide)
theorem sumA_1 (g : Rg) (b : Nat) (c : Int) : sumA g b c < 4294967296 := Int.emod_lt_of_pos _ (by decide)
theorem load1 (a : AS) (x : Int) : ((loadA a x 1).2.2 = 0 → ∃ b0, (loadA a x 1).2.1 = [b0]) ∧ ((loadA a x 1).2.2 ≠ 0 → (loadA a x 1).2.1 = []) := by
  unfold loadA
  rw [if_neg (by omega)]
  refine ⟨fun h => ?_, fun h => ?_⟩
  · have h' : (accessA a x 1).2 = 0 := h
    show ∃ b0, (if (accessA a x 1).2 = 0 then bytesA (accessA a x 1).1 x.toNat (1 : Int).toNat else []) = _
    rw [if_pos h']
    exact ⟨_, rfl⟩
  · have h' : ¬ (accessA a x 1).2 = 0 := h
    show (if (accessA a x 1).2 = 0 then bytesA (accessA a x 1).1 x.toNat (1 : Int).toNat else []) = _
    rw [if_neg h']
set_option maxRecDepth 100000 in
set_option maxHeartbeats 2000000 in
theorem load_any (P : MP C B sps hm sp X ef g s w) (op c : Int) (k b : Nat) (hk : k < 8) (hb : b < 8) : Calls Tryz.prog 82 #[.pointer (some ⟨X, 0, none⟩), insV op k b c] w fun e w' => e = .returned (endV (loadG g (view C hm s) k b c).2.2) ∧ MStp C B sps hm sp X ef (loadG g (view C hm s) k b c).1 (loadG g (view C hm s) k b c).2.1 w w' := by
  have HP := Lib.hid P
  have s0 := sumA_0 g b c
  have s1 := sumA_1 g b c
  have sw : wrap64 (sumA g b c) = sumA g b c := IntWalk.wrap64_in _ (by omega)
  obtain ⟨R, hR⟩ : ∃ R, R = loadG g (view C hm s) k b c := ⟨_, rfl⟩
  have HR0 := Lib.hid hR
  have HR : Hid (R = if (loadA (view C hm s) (sumA g b c) 4).2.2 = 0 then (resA g k (leV (loadA (view C hm s) (sumA g b c) 4).2.1), (loadA (view C hm s) (sumA g b c) 4).1, goOn) else (g, (loadA (view C hm s) (sumA g b c) 4).1, ⟨4, 0, sumA g b c⟩)) := Lib.hid hR
  clear hR
  obtain ⟨i1, i2, i3, i4, i5⟩ := eff_in P.blk #[.int .i64 op, .int .i64 k, .int .i64 b, .int .i64 c]
  unfold insV
  go_enter Tryz.func82, Tryz.ntmps82
  go_upto_region 1 with (fail)
  generalize ((w.alloc (.cells #[.int .i64 op, .int .i64 k, .int .i64 b, .int .i64 c] 109)).alloc (.cells #[.int .i64 0, .int .i64 0, .int .u32 0] 111)) = W0 at *
  have HI := Lib.hid i1
  have HE := Lib.hid i2
  have HX := Lib.hid i3
  have HB := Lib.hid i4
  have HW0 := Lib.hid i5
  have n1 := i3.ne_ i2 (by decide)
  have n2 := i3.ne_ i1 (by decide)
  have ci0 : W0.cell? ⟨w.heap.size, 0, none⟩ = some (.int .i64 op) := i1.cell 0
  have ci1 : W0.cell? ⟨w.heap.size, 1, none⟩ = some (.int .i64 k) := i1.cell 1
  have ci2 : W0.cell? ⟨w.heap.size, 2, none⟩ = some (.int .i64 b) := i1.cell 2
  have ci3 : W0.cell? ⟨w.heap.size, 3, none⟩ = some (.int .i64 c) := i1.cell 3
  have HK := Lib.hid (load4 (view C hm s) (sumA g b c))
  clear i1 i2 i3 i4 i5
  clear P
  go_wp2_with fail
  refine (sum_any HX.out op k c b hb).mono ?_
  rintro e w1 ⟨rfl, nb⟩
  have HB1 := Lib.hid (HB.out.trans (nb.mono (by rw [HW0.out]; omega)))
  have HI1 := Lib.hid (HI.out.below nb HI.out.lt)
  have HE1 := Lib.hid (HE.out.below nb HE.out.lt)
  have HX1 := Lib.hid (HX.out.below nb HX.out.lt)
  clear nb
  have d0 := HI1.out.cell 0
  have d1 := HI1.out.cell 1
  have d2 := HI1.out.cell 2
  have d3 := HI1.out.cell 3
  have x9 : w1.cell? ⟨X, 9, none⟩ = some (.pointer (some ⟨sp, 0, none⟩)) := (HX1.out.cell 9).trans (mc_sp g sp ef)
  simp at d0 d1 d2 d3
  dsimp only
  generalize sumA g b c = z at *
  have HW := Lib.hid (word_all HP.out.ok (HP.out.all.below HP.out.ok.keeps HB1.out) HP.out.sp_ z (by omega) (by omega) (Nat.le_trans HP.out.leB HB1.out.size))
  generalize loadA (view C hm s) z 4 = L at *
  obtain ⟨aL, lL, rL⟩ := L
  dsimp only at HW HK HR
  go_wp2_with fail
  refine (HW.out).mono ?_
  rintro e w2 ⟨s2, hm2, hA2, hv2, ho2, hmv2, rfl⟩
  have HA2 := Lib.hid hA2
  have HV2 := Lib.hid hv2
  have HO2 := Lib.hid ho2
  have HMV2 := Lib.hid hmv2
  have HX2 := Lib.hid (HMV2.out.blk HX1.out (by decide) (by decide) HP.out.xX)
  have HE2 := Lib.hid (HMV2.out.blk HE1.out (by decide) (by decide) (fun hx => by have := HP.out.xw _ hx; omega))
  have HI2 := Lib.hid (HMV2.out.blk HI1.out (by decide) (by decide) (fun hx => by have := HP.out.xw _ hx; omega))
  have q0 := HI2.out.cell 0
  have q1 := HI2.out.cell 1
  have q2 := HI2.out.cell 2
  have q3 := HI2.out.cell 3
  simp at q0 q1 q2 q3
  clear hA2 hv2 ho2 hmv2 d0 d1 d2 d3
  dsimp only
  by_cases hr : rL = 0
  · subst hr
    have HRV : Hid (R = (resA g k (leV lL), aL, goOn)) := Lib.hid (HR.out.trans (if_pos rfl))
    clear HR
    go_wp2_with fail
    refine (result_any HX2.out op b c _ k hk).mono ?_
    rintro e w3 ⟨rfl, hx3, hf3⟩
    have he3 := HE2.out.fr hf3 (by simpa using fun e => n1 e.symm)
    have A3 := HA2.out.mach HP.out.mok (.inl rfl) HX2.out hf3
    have HA3 := Lib.hid A3
    have HF3 := Lib.hid hf3
    have HX3 := Lib.hid hx3
    clear A3 hf3 hx3
    dsimp only
    go_wp2_with (refine wpList_store_blk rfl 111 (.tmp 4) (.tmp 28) rfl (w.heap.size + 1) rfl _ rfl he3 rfl infoEnd rfl ?_; intro w4 hk4 hf4)
    have A4 := HA3.out.mach HP.out.mok (.inr (.inl rfl)) he3 hf4
    have F3 := HF3.out
    have X3 := HX3.out
    have M3 : ∀ x ∈ [X], (B ≤ x ∧ (C.X x ∨ x = X)) ∨ w.heap.size ≤ x := by intro x hx; rw [List.mem_singleton.1 hx]; exact .inl ⟨HP.out.XB, .inr rfl⟩
    refine end_cell rfl rfl hk4 Tryz.underlying111 rfl infoEnd ?_
    rw [← HR0.out, HRV.out]
    exact ⟨rfl, s2, hm2, A4, HV2.out, HO2.out, (((Mv.of_below HB1.out).trans HMV2.out.widen).frN F3 M3).frN hf4 (by intro x hx; rw [List.mem_singleton.1 hx]; exact .inr (by omega)), X3.fr hf4 (by simpa using n1)⟩
  · have HRV : Hid (R = (g, aL, ⟨4, 0, z⟩)) := Lib.hid (HR.out.trans (if_neg hr))
    have er : ((rL : Nat) : Int) ≠ 0 := by omega
    have er2 : (((rL : Nat) : Int) != 0) = true := by simpa using hr
    clear HR hr
    go_wp2_with fail
    refine (fault_any _ _).mono ?_
    rintro e w3 ⟨rfl, nb⟩
    have he3 := HE2.out.below nb HE2.out.lt
    have A3 := HA2.out.below HP.out.ok.keeps nb
    have F3 : Fr [] w2 w3 := Fr.of_below nb
    have M3 : ∀ x ∈ ([] : List Nat), (B ≤ x ∧ (C.X x ∨ x = X)) ∨ w.heap.size ≤ x := by intro x hx; cases hx
    have X3 := HX2.out.below nb HX2.out.lt
    have HA3 := Lib.hid A3
    have HF3 := Lib.hid F3
    have HX3 := Lib.hid X3
    have HM3 := Lib.hid M3
    clear nb A3 F3 X3 M3
    dsimp only
    go_wp2_with (refine wpList_store_blk rfl 111 (.tmp 4) (.tmp 24) rfl (w.heap.size + 1) rfl _ rfl he3 rfl infoEnd rfl ?_; intro w4 hk4 hf4)
    have A4 := HA3.out.mach HP.out.mok (.inr (.inl rfl)) he3 hf4
    have F3 := HF3.out
    have X3 := HX3.out
    have M3 := HM3.out
    refine end_cell rfl rfl hk4 Tryz.underlying111 rfl infoEnd ?_
    rw [← HR0.out, HRV.out]
    exact ⟨rfl, s2, hm2, A4, HV2.out, HO2.out, (((Mv.of_below HB1.out).trans HMV2.out.widen).frN F3 M3).frN hf4 (by intro x hx; rw [List.mem_singleton.1 hx]; exact .inr (by omega)), X3.fr hf4 (by simpa using n1)⟩
set_option maxRecDepth 100000 in
set_option maxHeartbeats 2000000 in
theorem loadByte_any (P : MP C B sps hm sp X ef g s w) (op c : Int) (k b : Nat) (hk : k < 8) (hb : b < 8) : Calls Tryz.prog 84 #[.pointer (some ⟨X, 0, none⟩), insV op k b c] w fun e w' => e = .returned (endV (loadByteG g (view C hm s) k b c).2.2) ∧ MStp C B sps hm sp X ef (loadByteG g (view C hm s) k b c).1 (loadByteG g (view C hm s) k b c).2.1 w w' := by
  have HP := Lib.hid P
  have s0 := sumA_0 g b c
  have s1 := sumA_1 g b c
  have sw : wrap64 (sumA g b c) = sumA g b c := IntWalk.wrap64_in _ (by omega)
  obtain ⟨R, hR⟩ : ∃ R, R = loadByteG g (view C hm s) k b c := ⟨_, rfl⟩
  have HR0 := Lib.hid hR
  have HR : Hid (R = if (loadA (view C hm s) (sumA g b c) 1).2.2 = 0 then (resA g k ((loadA (view C hm s) (sumA g b c) 1).2.1.getD 0 0).toNat, (loadA (view C hm s) (sumA g b c) 1).1, goOn) else (g, (loadA (view C hm s) (sumA g b c) 1).1, ⟨4, 0, sumA g b c⟩)) := Lib.hid hR
  clear hR
  obtain ⟨i1, i2, i3, i4, i5⟩ := eff_in P.blk #[.int .i64 op, .int .i64 k, .int .i64 b, .int .i64 c]
  unfold insV
  go_enter Tryz.func84, Tryz.ntmps84
  go_upto_region 1 with (fail)
  generalize ((w.alloc (.cells #[.int .i64 op, .int .i64 k, .int .i64 b, .int .i64 c] 109)).alloc (.cells #[.int .i64 0, .int .i64 0, .int .u32 0] 111)) = W0 at *
  have HI := Lib.hid i1
  have HE := Lib.hid i2
  have HX := Lib.hid i3
  have HB := Lib.hid i4
  have HW0 := Lib.hid i5
  have n1 := i3.ne_ i2 (by decide)
  have n2 := i3.ne_ i1 (by decide)
  have ci0 : W0.cell? ⟨w.heap.size, 0, none⟩ = some (.int .i64 op) := i1.cell 0
  have ci1 : W0.cell? ⟨w.heap.size, 1, none⟩ = some (.int .i64 k) := i1.cell 1
  have ci2 : W0.cell? ⟨w.heap.size, 2, none⟩ = some (.int .i64 b) := i1.cell 2
  have ci3 : W0.cell? ⟨w.heap.size, 3, none⟩ = some (.int .i64 c) := i1.cell 3
  have HK := Lib.hid (load1 (view C hm s) (sumA g b c))
  clear i1 i2 i3 i4 i5
  clear P
  go_wp2_with fail
  refine (sum_any HX.out op k c b hb).mono ?_
  rintro e w1 ⟨rfl, nb⟩
  have HB1 := Lib.hid (HB.out.trans (nb.mono (by rw [HW0.out]; omega)))
  have HI1 := Lib.hid (HI.out.below nb HI.out.lt)
  have HE1 := Lib.hid (HE.out.below nb HE.out.lt)
  have HX1 := Lib.hid (HX.out.below nb HX.out.lt)
  clear nb
  have d0 := HI1.out.cell 0
  have d1 := HI1.out.cell 1
  have d2 := HI1.out.cell 2
  have d3 := HI1.out.cell 3
  have x9 : w1.cell? ⟨X, 9, none⟩ = some (.pointer (some ⟨sp, 0, none⟩)) := (HX1.out.cell 9).trans (mc_sp g sp ef)
  simp at d0 d1 d2 d3
  dsimp only
  generalize sumA g b c = z at *
  have HW := Lib.hid (load_all HP.out.ok (HP.out.all.below HP.out.ok.keeps HB1.out) HP.out.sp_ z 1 (by omega) (by omega) (by omega) (Nat.le_trans HP.out.leB HB1.out.size))
  generalize loadA (view C hm s) z 1 = L at *
  obtain ⟨aL, lL, rL⟩ := L
  dsimp only at HW HK HR
  go_wp2_with fail
  refine (HW.out).mono ?_
  rintro e w2 ⟨s2, hm2, hA2, hv2, ho2, hmv2, rfl⟩
  have HA2 := Lib.hid hA2
  have HV2 := Lib.hid hv2
  have HO2 := Lib.hid ho2
  have HMV2 := Lib.hid hmv2
  have HX2 := Lib.hid (HMV2.out.blk HX1.out (by decide) (by decide) HP.out.xX)
  have HE2 := Lib.hid (HMV2.out.blk HE1.out (by decide) (by decide) (fun hx => by have := HP.out.xw _ hx; omega))
  have HI2 := Lib.hid (HMV2.out.blk HI1.out (by decide) (by decide) (fun hx => by have := HP.out.xw _ hx; omega))
  have q0 := HI2.out.cell 0
  have q1 := HI2.out.cell 1
  have q2 := HI2.out.cell 2
  have q3 := HI2.out.cell 3
  simp at q0 q1 q2 q3
  clear hA2 hv2 ho2 hmv2 d0 d1 d2 d3
  dsimp only
  by_cases hr : rL = 0
  · subst hr
    obtain ⟨b0, rfl⟩ := HK.out.1 rfl
    have HRV : Hid (R = (resA g k b0.toNat, aL, goOn)) := Lib.hid (HR.out.trans (if_pos rfl))
    have hb0 := b0.toNat_lt
    clear HR
    go_wp2_with fail
    refine wp_region_tail 5 (by kernel_rfl) (by kernel_rfl) ?_
    simp only [List.take_succ_cons, List.take_zero, List.drop_succ_cons, List.drop_zero]
    repeat still_step
    refine wpStill_nil ?_
    go_wp2_with fail
    rw [show (((({ data := #[b0] } : ByteArray)[0]'(Nat.zero_lt_one)).toNat : Nat) : Int) % 4294967296 = (b0.toNat : Int) from by show ((b0.toNat : Nat) : Int) % 4294967296 = _; omega]
    refine (result_any HX2.out.drew op b c _ k hk).mono ?_
    rintro e w3 ⟨rfl, hx3, hf3⟩
    have he3 := HE2.out.drew.fr hf3 (by simpa using fun e => n1 e.symm)
    have A3 := (HA2.out.below HP.out.ok.keeps ((Below.refl _ _).drew)).mach HP.out.mok (.inl rfl) HX2.out.drew hf3
    have HA3 := Lib.hid A3
    have HF3 := Lib.hid ((Fr.refl [X] w2).drew.trans hf3 (by simp))
    have HX3 := Lib.hid hx3
    clear A3 hf3 hx3
    dsimp only
    go_wp2_with (refine wpList_store_blk rfl 111 (.tmp 4) (.tmp 30) rfl (w.heap.size + 1) rfl _ rfl he3 rfl infoEnd rfl ?_; intro w4 hk4 hf4)
    have A4 := HA3.out.mach HP.out.mok (.inr (.inl rfl)) he3 hf4
    have F3 := HF3.out
    have X3 := HX3.out
    have M3 : ∀ x ∈ [X], (B ≤ x ∧ (C.X x ∨ x = X)) ∨ w.heap.size ≤ x := by intro x hx; rw [List.mem_singleton.1 hx]; exact .inl ⟨HP.out.XB, .inr rfl⟩
    refine end_cell rfl rfl hk4 Tryz.underlying111 rfl infoEnd ?_
    rw [← HR0.out, HRV.out]
    exact ⟨rfl, s2, hm2, A4, HV2.out, HO2.out, (((Mv.of_below HB1.out).trans HMV2.out.widen).frN F3 M3).frN hf4 (by intro x hx; rw [List.mem_singleton.1 hx]; exact .inr (by omega)), X3.fr hf4 (by simpa using n1)⟩
  · have HRV : Hid (R = (g, aL, ⟨4, 0, z⟩)) := Lib.hid (HR.out.trans (if_neg hr))
    have er : ((rL : Nat) : Int) ≠ 0 := by omega
    have er2 : (((rL : Nat) : Int) != 0) = true := by simpa using hr
    clear HR hr
    go_wp2_with fail
    refine (fault_any _ _).mono ?_
    rintro e w3 ⟨rfl, nb⟩
    have he3 := HE2.out.below nb HE2.out.lt
    have A3 := HA2.out.below HP.out.ok.keeps nb
    have F3 : Fr [] w2 w3 := Fr.of_below nb
    have M3 : ∀ x ∈ ([] : List Nat), (B ≤ x ∧ (C.X x ∨ x = X)) ∨ w.heap.size ≤ x := by intro x hx; cases hx
    have X3 := HX2.out.below nb HX2.out.lt
    have HA3 := Lib.hid A3
    have HF3 := Lib.hid F3
    have HX3 := Lib.hid X3
    have HM3 := Lib.hid M3
    clear nb A3 F3 X3 M3
    dsimp only
    go_wp2_with (refine wpList_store_blk rfl 111 (.tmp 4) (.tmp 24) rfl (w.heap.size + 1) rfl _ rfl he3 rfl infoEnd rfl ?_; intro w4 hk4 hf4)
    have A4 := HA3.out.mach HP.out.mok (.inr (.inl rfl)) he3 hf4
    have F3 := HF3.out
    have X3 := HX3.out
    have M3 := HM3.out
    refine end_cell rfl rfl hk4 Tryz.underlying111 rfl infoEnd ?_
    rw [← HR0.out, HRV.out]
    exact ⟨rfl, s2, hm2, A4, HV2.out, HO2.out, (((Mv.of_below HB1.out).trans HMV2.out.widen).frN F3 M3).frN hf4 (by intro x hx; rw [List.mem_singleton.1 hx]; exact .inr (by omega)), X3.fr hf4 (by simpa using n1)⟩
set_option maxRecDepth 100000 in
set_option maxHeartbeats 2000000 in
theorem store_any (P : MP C B sps hm sp X ef g s w) (op c : Int) (k b : Nat) (hk : k < 8) (hb : b < 8) : Calls Tryz.prog 83 #[.pointer (some ⟨X, 0, none⟩), insV op k b c] w fun e w' => e = .returned (endV (storeG g (view C hm s) k b c).2.2) ∧ MStp C B sps hm sp X ef (storeG g (view C hm s) k b c).1 (storeG g (view C hm s) k b c).2.1 w w' := by
  have HP := Lib.hid P
  have s0 := sumA_0 g b c
  have s1 := sumA_1 g b c
  have sw : wrap64 (sumA g b c) = sumA g b c := IntWalk.wrap64_in _ (by omega)
  obtain ⟨R, hR⟩ : ∃ R, R = storeG g (view C hm s) k b c := ⟨_, rfl⟩
  have HR0 := Lib.hid hR
  have HR : Hid (R = if (storeA (view C hm s) (sumA g b c) (le4 (g.r k).toNat)).2 = 0 then (nextA g, (storeA (view C hm s) (sumA g b c) (le4 (g.r k).toNat)).1, goOn) else (g, (storeA (view C hm s) (sumA g b c) (le4 (g.r k).toNat)).1, ⟨4, 0, sumA g b c⟩)) := Lib.hid hR
  clear hR
  obtain ⟨i1, i2, i3, i4, i5⟩ := eff_in P.blk #[.int .i64 op, .int .i64 k, .int .i64 b, .int .i64 c]
  unfold insV
  go_enter Tryz.func83, Tryz.ntmps83
  go_upto_region 1 with (fail)
  generalize ((w.alloc (.cells #[.int .i64 op, .int .i64 k, .int .i64 b, .int .i64 c] 109)).alloc (.cells #[.int .i64 0, .int .i64 0, .int .u32 0] 111)) = W0 at *
  have HI := Lib.hid i1
  have HE := Lib.hid i2
  have HX := Lib.hid i3
  have HB := Lib.hid i4
  have HW0 := Lib.hid i5
  have n1 := i3.ne_ i2 (by decide)
  have n2 := i3.ne_ i1 (by decide)
  have ci0 : W0.cell? ⟨w.heap.size, 0, none⟩ = some (.int .i64 op) := i1.cell 0
  have ci1 : W0.cell? ⟨w.heap.size, 1, none⟩ = some (.int .i64 k) := i1.cell 1
  have ci2 : W0.cell? ⟨w.heap.size, 2, none⟩ = some (.int .i64 b) := i1.cell 2
  have ci3 : W0.cell? ⟨w.heap.size, 3, none⟩ = some (.int .i64 c) := i1.cell 3
  clear i1 i2 i3 i4 i5
  have hr0 := P.gok.r0 k
  have hr1 := P.gok.r1 k
  clear P
  go_wp2_with fail
  refine (sum_any HX.out op k c b hb).mono ?_
  rintro e w1 ⟨rfl, nb⟩
  have HB1 := Lib.hid (HB.out.trans (nb.mono (by rw [HW0.out]; omega)))
  have HI1 := Lib.hid (HI.out.below nb HI.out.lt)
  have HE1 := Lib.hid (HE.out.below nb HE.out.lt)
  have HX1 := Lib.hid (HX.out.below nb HX.out.lt)
  clear nb
  have d0 := HI1.out.cell 0
  have d1 := HI1.out.cell 1
  have d2 := HI1.out.cell 2
  have d3 := HI1.out.cell 3
  have x9 : w1.cell? ⟨X, 9, none⟩ = some (.pointer (some ⟨sp, 0, none⟩)) := (HX1.out.cell 9).trans (mc_sp g sp ef)
  simp at d0 d1 d2 d3
  dsimp only
  obtain ⟨n, hn⟩ : ∃ n : Nat, n = (g.r k).toNat := ⟨_, rfl⟩
  have xk : w1.cell? ⟨X, k, none⟩ = some (.int .u32 (n : Int)) := by rw [HX1.out.cell k, mc_r g sp ef k hk, hn, Int.toNat_of_nonneg hr0]
  have hk1 : (k : Int) < 8 := by omega
  rw [← hn] at HR
  generalize sumA g b c = z at *
  have HW := Lib.hid (setWord_all HP.out.ok (HP.out.all.below HP.out.ok.keeps (show Below w.heap.size w w1.drew from HB1.out.drew)) HP.out.sp_ z n (by omega) (by omega) (by omega) (Nat.le_trans HP.out.leB HB1.out.size))
  clear hn
  generalize storeA (view C hm s) z (le4 n) = L at *
  obtain ⟨aL, rL⟩ := L
  dsimp only at HW HR
  go_wp2_with fail
  refine wp_region_tail 14 (by kernel_rfl) (by kernel_rfl) ?_
  simp only [List.take_succ_cons, List.take_zero, List.drop_succ_cons, List.drop_zero]
  repeat still_step
  refine wpStill_nil ?_
  go_wp2_with fail
  refine (HW.out).mono ?_
  rintro e w2 ⟨s2, hm2, hA2, hv2, ho2, hmv2, rfl⟩
  have HA2 := Lib.hid hA2
  have HV2 := Lib.hid hv2
  have HO2 := Lib.hid ho2
  have HMV2 := Lib.hid hmv2
  have HB1 := Lib.hid HB1.out.drew
  have HX2 := Lib.hid (HMV2.out.blk HX1.out.drew (by decide) (by decide) HP.out.xX)
  have HE2 := Lib.hid (HMV2.out.blk HE1.out.drew (by decide) (by decide) (fun hx => by have := HP.out.xw _ hx; omega))
  have HI2 := Lib.hid (HMV2.out.blk HI1.out.drew (by decide) (by decide) (fun hx => by have := HP.out.xw _ hx; omega))
  have q0 := HI2.out.cell 0
  have q1 := HI2.out.cell 1
  have q2 := HI2.out.cell 2
  have q3 := HI2.out.cell 3
  simp at q0 q1 q2 q3
  clear hA2 hv2 ho2 hmv2 d0 d1 d2 d3
  dsimp only
  by_cases hr : rL = 0
  · subst hr
    have HRV : Hid (R = (nextA g, aL, goOn)) := Lib.hid (HR.out.trans (if_pos rfl))
    clear HR
    go_wp2_with fail
    refine (next_any HX2.out).mono ?_
    rintro e w3 ⟨rfl, hx3, hf3⟩
    have he3 := HE2.out.fr hf3 (by simpa using fun e => n1 e.symm)
    have A3 := HA2.out.mach HP.out.mok (.inl rfl) HX2.out hf3
    have HA3 := Lib.hid A3
    have HF3 := Lib.hid hf3
    have HX3 := Lib.hid hx3
    clear A3 hf3 hx3
    dsimp only
    go_wp2_with (refine wpList_store_blk rfl 111 (.tmp 4) (.tmp 28) rfl (w.heap.size + 1) rfl _ rfl he3 rfl infoEnd rfl ?_; intro w4 hk4 hf4)
    have A4 := HA3.out.mach HP.out.mok (.inr (.inl rfl)) he3 hf4
    have F3 := HF3.out
    have X3 := HX3.out
    have M3 : ∀ x ∈ [X], (B ≤ x ∧ (C.X x ∨ x = X)) ∨ w.heap.size ≤ x := by intro x hx; rw [List.mem_singleton.1 hx]; exact .inl ⟨HP.out.XB, .inr rfl⟩
    refine end_cell rfl rfl hk4 Tryz.underlying111 rfl infoEnd ?_
    rw [← HR0.out, HRV.out]
    exact ⟨rfl, s2, hm2, A4, HV2.out, HO2.out, (((Mv.of_below HB1.out).trans HMV2.out.widen).frN F3 M3).frN hf4 (by intro x hx; rw [List.mem_singleton.1 hx]; exact .inr (by omega)), X3.fr hf4 (by simpa using n1)⟩
  · have HRV : Hid (R = (g, aL, ⟨4, 0, z⟩)) := Lib.hid (HR.out.trans (if_neg hr))
    have er : ((rL : Nat) : Int) ≠ 0 := by omega
    have er2 : (((rL : Nat) : Int) != 0) = true := by simpa using hr
    clear HR hr
    go_wp2_with fail
    refine (fault_any _ _).mono ?_
    rintro e w3 ⟨rfl, nb⟩
    have he3 := HE2.out.below nb HE2.out.lt
    have A3 := HA2.out.below HP.out.ok.keeps nb
    have F3 : Fr [] w2 w3 := Fr.of_below nb
    have M3 : ∀ x ∈ ([] : List Nat), (B ≤ x ∧ (C.X x ∨ x = X)) ∨ w.heap.size ≤ x := by intro x hx; cases hx
    have X3 := HX2.out.below nb HX2.out.lt
    have HA3 := Lib.hid A3
    have HF3 := Lib.hid F3
    have HX3 := Lib.hid X3
    have HM3 := Lib.hid M3
    clear nb A3 F3 X3 M3
    dsimp only
    go_wp2_with (refine wpList_store_blk rfl 111 (.tmp 4) (.tmp 26) rfl (w.heap.size + 1) rfl _ rfl he3 rfl infoEnd rfl ?_; intro w4 hk4 hf4)
    have A4 := HA3.out.mach HP.out.mok (.inr (.inl rfl)) he3 hf4
    have F3 := HF3.out
    have X3 := HX3.out
    have M3 := HM3.out
    refine end_cell rfl rfl hk4 Tryz.underlying111 rfl infoEnd ?_
    rw [← HR0.out, HRV.out]
    exact ⟨rfl, s2, hm2, A4, HV2.out, HO2.out, (((Mv.of_below HB1.out).trans HMV2.out.widen).frN F3 M3).frN hf4 (by intro x hx; rw [List.mem_singleton.1 hx]; exact .inr (by omega)), X3.fr hf4 (by simpa using n1)⟩
set_option maxRecDepth 100000 in
set_option maxHeartbeats 2000000 in
theorem storeByte_any (P : MP C B sps hm sp X ef g s w) (op c : Int) (k b : Nat) (hk : k < 8) (hb : b < 8) : Calls Tryz.prog 85 #[.pointer (some ⟨X, 0, none⟩), insV op k b c] w fun e w' => e = .returned (endV (storeByteG g (view C hm s) k b c).2.2) ∧ MStp C B sps hm sp X ef (storeByteG g (view C hm s) k b c).1 (storeByteG g (view C hm s) k b c).2.1 w w' := by
  have HP := Lib.hid P
  have s0 := sumA_0 g b c
  have s1 := sumA_1 g b c
  have sw : wrap64 (sumA g b c) = sumA g b c := IntWalk.wrap64_in _ (by omega)
  obtain ⟨R, hR⟩ : ∃ R, R = storeByteG g (view C hm s) k b c := ⟨_, rfl⟩
  have HR0 := Lib.hid hR
  have HR : Hid (R = if (storeA (view C hm s) (sumA g b c) [UInt8.ofNat (g.r k).toNat]).2 = 0 then (nextA g, (storeA (view C hm s) (sumA g b c) [UInt8.ofNat (g.r k).toNat]).1, goOn) else (g, (storeA (view C hm s) (sumA g b c) [UInt8.ofNat (g.r k).toNat]).1, ⟨4, 0, sumA g b c⟩)) := Lib.hid hR
  clear hR
  obtain ⟨i1, i2, i3, i4, i5⟩ := eff_in P.blk #[.int .i64 op, .int .i64 k, .int .i64 b, .int .i64 c]
  unfold insV
  go_enter Tryz.func85, Tryz.ntmps85
  go_upto_region 1 with (fail)
  generalize ((w.alloc (.cells #[.int .i64 op, .int .i64 k, .int .i64 b, .int .i64 c] 109)).alloc (.cells #[.int .i64 0, .int .i64 0, .int .u32 0] 111)) = W0 at *
  have HI := Lib.hid i1
  have HE := Lib.hid i2
  have HX := Lib.hid i3
  have HB := Lib.hid i4
  have HW0 := Lib.hid i5
  have n1 := i3.ne_ i2 (by decide)
  have n2 := i3.ne_ i1 (by decide)
  have ci0 : W0.cell? ⟨w.heap.size, 0, none⟩ = some (.int .i64 op) := i1.cell 0
  have ci1 : W0.cell? ⟨w.heap.size, 1, none⟩ = some (.int .i64 k) := i1.cell 1
  have ci2 : W0.cell? ⟨w.heap.size, 2, none⟩ = some (.int .i64 b) := i1.cell 2
  have ci3 : W0.cell? ⟨w.heap.size, 3, none⟩ = some (.int .i64 c) := i1.cell 3
  clear i1 i2 i3 i4 i5
  have hr0 := P.gok.r0 k
  have hr1 := P.gok.r1 k
  clear P
  go_wp2_with fail
  refine (sum_any HX.out op k c b hb).mono ?_
  rintro e w1 ⟨rfl, nb⟩
  have HB1 := Lib.hid (HB.out.trans (nb.mono (by rw [HW0.out]; omega)))
  have HI1 := Lib.hid (HI.out.below nb HI.out.lt)
  have HE1 := Lib.hid (HE.out.below nb HE.out.lt)
  have HX1 := Lib.hid (HX.out.below nb HX.out.lt)
  clear nb
  have d0 := HI1.out.cell 0
  have d1 := HI1.out.cell 1
  have d2 := HI1.out.cell 2
  have d3 := HI1.out.cell 3
  have x9 : w1.cell? ⟨X, 9, none⟩ = some (.pointer (some ⟨sp, 0, none⟩)) := (HX1.out.cell 9).trans (mc_sp g sp ef)
  simp at d0 d1 d2 d3
  dsimp only
  obtain ⟨n, hn⟩ : ∃ n : Nat, n = (g.r k).toNat := ⟨_, rfl⟩
  have xk : w1.cell? ⟨X, k, none⟩ = some (.int .u32 (n : Int)) := by rw [HX1.out.cell k, mc_r g sp ef k hk, hn, Int.toNat_of_nonneg hr0]
  have hk1 : (k : Int) < 8 := by omega
  rw [← hn] at HR
  generalize sumA g b c = z at *
  obtain ⟨Wd, hWd⟩ : ∃ Wd, Wd = w1.drew := ⟨_, rfl⟩
  obtain ⟨WB, hWB⟩ : ∃ WB, WB = Wd.alloc (.cells #[.int .u8 ((n : Int) % 256)] 5) := ⟨_, rfl⟩
  have hbB : Below w.heap.size w WB := by rw [hWB, hWd]; exact HB1.out.drew.alloc HB1.out.size _
  have hbb : Below w1.heap.size w1 WB := by rw [hWB, hWd]; exact ((Below.refl _ _).drew).alloc (Nat.le_refl _) _
  have HW := Lib.hid (store_all HP.out.ok (HP.out.all.below HP.out.ok.keeps hbB) HP.out.sp_ z ⟨#[UInt8.ofNat n]⟩ (by show 1 ≤ _; decide) (by omega) (by omega) (Nat.le_trans HP.out.leB hbB.size))
  have hbs : (#[.int .u8 ((n : Int) % 256)] : Array Value) = (bs [UInt8.ofNat n]).toArray := by
    unfold bs
    simp only [List.map_cons, List.map_nil, UInt8.toNat_ofNat']
    congr 3
  have hcv : ∀ W, Blk W Wd.heap.size 5 #[.int .u8 ((n : Int) % 256)] → (convert 24 9 (.slice (some ⟨Wd.heap.size, 0, none⟩) 1 1)).run Tryz.prog W = .ok (.string ⟨[UInt8.ofNat n].toArray⟩) W := fun W hW => by
    have hrd : RdB W W.heap.size (.slice (some ⟨Wd.heap.size, 0, none⟩) 1 1) [UInt8.ofNat n] := by
      refine ⟨some ⟨Wd.heap.size, 0, none⟩, 1, rfl, by simp, by simp [maxLen], by simp [bs], fun _ => ⟨_, rfl, hW.lt, fun j u hu => ?_⟩⟩
      rw [add_at0, hW.cell, ← hu, hbs]
      simp
    exact run_convert_string (P := Tryz.prog) Tryz.underlying24 Tryz.underlying5 Tryz.underlying9 hrd
  have HB5 := Lib.hid (show Blk WB Wd.heap.size 5 #[.int .u8 ((n : Int) % 256)] by rw [hWB]; exact Blk.new Wd 5 _)
  have HCV := Lib.hid hcv
  have HBB := Lib.hid hbB
  have HWB := Lib.hid hWB
  have HXB := Lib.hid (HX1.out.below hbb HX1.out.lt)
  have HEB := Lib.hid (HE1.out.below hbb HE1.out.lt)
  have HIB := Lib.hid (HI1.out.below hbb HI1.out.lt)
  have HXD := Lib.hid (show Blk Wd X 116 (mcells g sp ef) by rw [hWd]; exact HX1.out)
  have HID := Lib.hid (show Blk Wd w.heap.size 109 _ by rw [hWd]; exact HI1.out)
  have HD9 : Hid (w.heap.size ≤ Wd.heap.size) := Lib.hid (by rw [hWd]; exact HB1.out.size)
  have XK : Hid ((mcells g sp ef)[k]? = some (.int .u32 (n : Int))) := Lib.hid (by rw [← HX1.out.cell k]; exact xk)
  clear hn hcv hbB hbb hbs
  rw [show (⟨#[UInt8.ofNat n]⟩ : ByteArray).data.toList = [UInt8.ofNat n] from rfl] at HW
  generalize storeA (view C hm s) z [UInt8.ofNat n] = L at *
  obtain ⟨aL, rL⟩ := L
  dsimp only at HW HR
  go_wp2_with fail
  refine wp_region_mixL (fun W => Blk W w.heap.size 109 #[.int .i64 op, .int .i64 k, .int .i64 b, .int .i64 c] ∧ Blk W X 116 (mcells g sp ef)) [3, 5, 8, 13, 14, 15, 16, 17] [15, 17] [0, 1, 2, 3, 4, 5, 6, 7, 8, 9, 10, 11, 12, 13, 14, 15, 16, 17, 18] (by kernel_rfl) (by kernel_rfl) ⟨HI1.out, HX1.out⟩ ?_
  simp only [inOrder, opAt]
  rw [← hWd]
  clear d0 d1 d2 d3 x9 xk hWd hWB
  iterate 15
    (refine wpMixS_read (v := ?_) rfl rfl (fun w' hS => ?_) ?_
     rotate_left
     · ((try (obtain ⟨t1, t2⟩ := hS rfl; have u1 : w'.cell? ⟨w.heap.size, 1, none⟩ = some (.int .i64 k) := t1.cell 1; have u9 : w'.cell? ⟨X, 9, none⟩ = some (.pointer (some ⟨sp, 0, none⟩)) := t2.cell 9; have uk : w'.cell? ⟨X, k, none⟩ = some (.int .u32 (n : Int)) := (t2.cell k).trans XK.out)); (try clear hS); go_simp; (try with_reducible rfl))
     try simp only [Act.put, List.setIfInBounds_toArray, List.set_cons_zero, List.set_cons_succ])
  refine wpMixS_eff rfl rfl (fun K hK => ?_)
  go_simp
  rw [show IntKind.u8.wrap (n : Int) = (n : Int) % 256 from IntKind.wrap_u8 _, show IntKind.i64.wrap z = z from IntWalk.i64_in _ (by omega), ← HWB.out]
  refine hK.out (fun W => (Blk W w.heap.size 109 #[.int .i64 op, .int .i64 k, .int .i64 b, .int .i64 c] ∧ Blk W X 116 (mcells g sp ef)) ∧ Blk W Wd.heap.size 5 #[.int .u8 ((n : Int) % 256)]) _ _ (fun _ h => h.1) (fun _ => ⟨⟨HIB.out, HXB.out⟩, HB5.out⟩) ?_
  clear hK K
  try simp only [Act.put, List.setIfInBounds_toArray, List.set_cons_zero, List.set_cons_succ]
  refine wpMixS_read (v := .string ⟨[UInt8.ofNat n].toArray⟩) rfl rfl (fun w' hS => ?_) ?_
  · have t3 := HCV.out w' (hS rfl).2
    clear hS
    go_simp
    try with_reducible rfl
  try simp only [Act.put, List.setIfInBounds_toArray, List.set_cons_zero, List.set_cons_succ]
  refine wpMixS_eff rfl rfl (fun K hK => ?_)
  go_simp
  refine HW.out.mono ?_
  rintro e w2 ⟨s2, hm2, hA2, hv2, ho2, hmv2, rfl⟩
  have HA2 := Lib.hid hA2
  have HV2 := Lib.hid hv2
  have HO2 := Lib.hid ho2
  have HMV2 := Lib.hid hmv2
  have HX2 := Lib.hid (HMV2.out.blk HXB.out (by decide) (by decide) HP.out.xX)
  have HE2 := Lib.hid (HMV2.out.blk HEB.out (by decide) (by decide) (fun hx => by have := HP.out.xw _ hx; omega))
  have HI2 := Lib.hid (HMV2.out.blk HIB.out (by decide) (by decide) (fun hx => by have := HP.out.xw _ hx; omega))
  have HQ2 := Lib.hid (HMV2.out.blk HB5.out (by decide) (by decide) (fun hx => by have := HP.out.xw _ hx; have := HD9.out; omega))
  have HB1 := Lib.hid HBB.out
  clear hA2 hv2 ho2 hmv2 HW
  refine hK.out _ _ _ (fun _ h => h) (fun _ => ⟨⟨HI2.out, HX2.out⟩, HQ2.out⟩) ?_
  clear hK K
  try simp only [Act.put, List.setIfInBounds_toArray, List.set_cons_zero, List.set_cons_succ]
  iterate 1
    (refine wpMixS_read (v := ?_) rfl rfl (fun w' hS => ?_) ?_
     rotate_left
     · ((try clear hS); go_simp; (try with_reducible rfl))
     try simp only [Act.put, List.setIfInBounds_toArray, List.set_cons_zero, List.set_cons_succ])
  refine wpMixS_nil ?_
  by_cases hr : rL = 0
  · subst hr
    have HRV : Hid (R = (nextA g, aL, goOn)) := Lib.hid (HR.out.trans (if_pos rfl))
    clear HR
    go_wp2_with fail
    refine (next_any HX2.out).mono ?_
    rintro e w3 ⟨rfl, hx3, hf3⟩
    have he3 := HE2.out.fr hf3 (by simpa using fun e => n1 e.symm)
    have A3 := HA2.out.mach HP.out.mok (.inl rfl) HX2.out hf3
    have HA3 := Lib.hid A3
    have HF3 := Lib.hid hf3
    have HX3 := Lib.hid hx3
    clear A3 hf3 hx3
    dsimp only
    go_wp2_with (refine wpList_store_blk rfl 111 (.tmp 4) (.tmp 31) rfl (w.heap.size + 1) rfl _ rfl he3 rfl infoEnd rfl ?_; intro w4 hk4 hf4)
    have A4 := HA3.out.mach HP.out.mok (.inr (.inl rfl)) he3 hf4
    have F3 := HF3.out
    have X3 := HX3.out
    have M3 : ∀ x ∈ [X], (B ≤ x ∧ (C.X x ∨ x = X)) ∨ w.heap.size ≤ x := by intro x hx; rw [List.mem_singleton.1 hx]; exact .inl ⟨HP.out.XB, .inr rfl⟩
    refine end_cell rfl rfl hk4 Tryz.underlying111 rfl infoEnd ?_
    rw [← HR0.out, HRV.out]
    exact ⟨rfl, s2, hm2, A4, HV2.out, HO2.out, (((Mv.of_below HB1.out).trans HMV2.out.widen).frN F3 M3).frN hf4 (by intro x hx; rw [List.mem_singleton.1 hx]; exact .inr (by omega)), X3.fr hf4 (by simpa using n1)⟩
  · have HRV : Hid (R = (g, aL, ⟨4, 0, z⟩)) := Lib.hid (HR.out.trans (if_neg hr))
    have er : ((rL : Nat) : Int) ≠ 0 := by omega
    have er2 : (((rL : Nat) : Int) != 0) = true := by simpa using hr
    clear HR hr
    go_wp2_with fail
    refine (fault_any _ _).mono ?_
    rintro e w3 ⟨rfl, nb⟩
    have he3 := HE2.out.below nb HE2.out.lt
    have A3 := HA2.out.below HP.out.ok.keeps nb
    have F3 : Fr [] w2 w3 := Fr.of_below nb
    have M3 : ∀ x ∈ ([] : List Nat), (B ≤ x ∧ (C.X x ∨ x = X)) ∨ w.heap.size ≤ x := by intro x hx; cases hx
    have X3 := HX2.out.below nb HX2.out.lt
    have HA3 := Lib.hid A3
    have HF3 := Lib.hid F3
    have HX3 := Lib.hid X3
    have HM3 := Lib.hid M3
    clear nb A3 F3 X3 M3
    dsimp only
    go_wp2_with (refine wpList_store_blk rfl 111 (.tmp 4) (.tmp 29) rfl (w.heap.size + 1) rfl _ rfl he3 rfl infoEnd rfl ?_; intro w4 hk4 hf4)
    have A4 := HA3.out.mach HP.out.mok (.inr (.inl rfl)) he3 hf4
    have F3 := HF3.out
    have X3 := HX3.out
    have M3 := HM3.out
    refine end_cell rfl rfl hk4 Tryz.underlying111 rfl infoEnd ?_
    rw [← HR0.out, HRV.out]
    exact ⟨rfl, s2, hm2, A4, HV2.out, HO2.out, (((Mv.of_below HB1.out).trans HMV2.out.widen).frN F3 M3).frN hf4 (by intro x hx; rw [List.mem_singleton.1 hx]; exact .inr (by omega)), X3.fr hf4 (by simpa using n1)⟩
end
end Go.Proofs.YtkoomlbnfhdhcaaGreatDoor
