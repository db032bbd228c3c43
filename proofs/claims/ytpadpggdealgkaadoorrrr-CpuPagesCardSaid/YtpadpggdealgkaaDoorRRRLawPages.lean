/-
  Walks: CpuPages.
-/
import Derived.Test.YtpadpggdealgkaaDoorRRRSrcP
import Derived.Test.YtpadpggdealgkaaDoorRRRTwA
namespace Go.Proofs.YtpadpggdealgkaaDoorRRR
open Go.RowKit
set_option linter.unusedVariables false
set_option linter.unusedSectionVars false
set_option linter.unusedSimpArgs false

def fewStep (m f : Mm) (k : Nat) : Mm := ⟨upd f.th k (m.th k), fun n => if n / 64 = k then m.b n else f.b n⟩
def fewJ (m f : Mm) (k j : Nat) : Mm := ⟨upd f.th k (m.th k), fun n => if 64 * k ≤ n ∧ n < 64 * k + j then m.b n else f.b n⟩
def fewF (m : Mm) (l : List Nat) (i : Nat) : Mm := (l.take i).foldl (fewStep m) mm0
theorem fewJ_0 (m f : Mm) (k : Nat) : { f with th := upd f.th k (m.th k) } = fewJ m f k 0 := by
  unfold fewJ
  congr 1
  funext n
  rw [if_neg (by omega)]
theorem fewJ_64 (m f : Mm) (k : Nat) : fewJ m f k 64 = fewStep m f k := by
  unfold fewJ fewStep
  congr 1
  funext n
  by_cases h : n / 64 = k
  · rw [if_pos (by omega), if_pos h]
  · rw [if_neg (by omega), if_neg h]
theorem fewJ_s (m f : Mm) (k j : Nat) : { fewJ m f k j with b := upd (fewJ m f k j).b (64 * k + j) (m.b (64 * k + j)) } = fewJ m f k (j + 1) := by
  show (⟨upd f.th k (m.th k), upd (fewJ m f k j).b (64 * k + j) (m.b (64 * k + j))⟩ : Mm) = ⟨upd f.th k (m.th k), fun n => if 64 * k ≤ n ∧ n < 64 * k + (j + 1) then m.b n else f.b n⟩
  congr 1
  funext n
  by_cases h : n = 64 * k + j
  · rw [h, upd_at, if_pos (by omega)]
  · rw [upd_ne _ _ _ _ h]
    show (if 64 * k ≤ n ∧ n < 64 * k + j then m.b n else f.b n) = _
    by_cases h2 : 64 * k ≤ n ∧ n < 64 * k + j
    · rw [if_pos h2, if_pos (by omega)]
    · rw [if_neg h2, if_neg (by omega)]
theorem fewF_s (m : Mm) (l : List Nat) (i : Nat) (h : i < l.length) : fewF m l (i + 1) = fewStep m (fewF m l i) l[i] := by
  unfold fewF
  rw [List.take_succ_eq_append_getElem h, List.foldl_append]
  rfl
theorem fold_th (m : Mm) (k : Nat) : ∀ (l : List Nat) (f : Mm), (l.foldl (fewStep m) f).th k = if k ∈ l then m.th k else f.th k
  | [], f => by simp
  | x :: l, f => by
    rw [List.foldl_cons, fold_th m k l]
    show (if k ∈ l then m.th k else upd f.th x (m.th x) k) = _
    by_cases h : k ∈ l
    · rw [if_pos h, if_pos (List.mem_cons_of_mem _ h)]
    · rw [if_neg h]
      by_cases e : k = x
      · rw [e, upd_at, if_pos List.mem_cons_self]
      · rw [upd_ne _ _ _ _ e, if_neg (by simp [h, e])]
theorem fold_b (m : Mm) (n : Nat) : ∀ (l : List Nat) (f : Mm), (l.foldl (fewStep m) f).b n = if n / 64 ∈ l then m.b n else f.b n
  | [], f => by simp
  | x :: l, f => by
    rw [List.foldl_cons, fold_b m n l]
    show (if n / 64 ∈ l then m.b n else if n / 64 = x then m.b n else f.b n) = _
    by_cases h : n / 64 ∈ l
    · rw [if_pos h, if_pos (List.mem_cons_of_mem _ h)]
    · rw [if_neg h]
      by_cases e : n / 64 = x
      · rw [if_pos e, if_pos (by rw [e]; exact List.mem_cons_self)]
      · rw [if_neg e, if_neg (by simp [h, e])]
theorem mmC_ext {m m' : Mm} (h1 : ∀ p, p < 64 → m.th p = m'.th p) (h2 : ∀ n, n < 4096 → m.b n = m'.b n) : mmC m = mmC m' := by
  unfold mmC mmL
  rw [List.map_congr_left (f := mmT m) (g := mmT m') (fun p hp => by unfold mmT; rw [h1 p (List.mem_range.1 hp)]), List.map_congr_left (f := mmB m) (g := mmB m') (fun n hn => by unfold mmB; rw [h2 n (List.mem_range.1 hn)])]
theorem mem_askL (a : AS) (k : Nat) (hk : k < 64) : k ∈ askL a 64 ↔ a.asked k = true := by
  unfold askL
  rw [List.mem_filter]
  exact ⟨fun h => h.2, fun h => ⟨List.mem_range.2 hk, h⟩⟩
theorem askL_lt (a : AS) (i : Nat) (h : i < (askL a 64).length) : (askL a 64)[i] < 64 := by
  have := List.getElem_mem h
  unfold askL at this
  exact List.mem_range.1 (List.mem_filter.1 this).1
theorem few_end (m : Mm) (a : AS) : mmC (fewF m (askL a 64) (askL a 64).length) = mmC (fewM m a.asked) := by
  unfold fewF
  rw [List.take_of_length_le (Nat.le_refl _)]
  refine mmC_ext (fun p hp => ?_) (fun n hn => ?_)
  · rw [fold_th]
    show _ = if a.asked p = true then m.th p else false
    by_cases h : a.asked p = true
    · rw [if_pos h, if_pos ((mem_askL a p hp).2 h)]
    · rw [if_neg h, if_neg (fun hc => h ((mem_askL a p hp).1 hc))]; rfl
  · rw [fold_b]
    show _ = if a.asked (n / 64) = true then m.b n else 0
    by_cases h : a.asked (n / 64) = true
    · rw [if_pos h, if_pos ((mem_askL a _ (by omega)).2 h)]
    · rw [if_neg h, if_neg (fun hc => h ((mem_askL a _ (by omega)).1 hc))]; rfl
/-- A row of numbers, read at a place. -/
theorem own_at {w : World} {base : Nat} {OA : Option Addr} {oc : Nat} {l : List Nat} (h : w.ownsRow base 3 1 (.slice OA l.length oc) l.length (nums l)) (i : Nat) (hi : i < l.length) : ∃ g, OA = some ⟨g, 0, none⟩ ∧ g < w.heap.size ∧ w.cell? ⟨g, i, none⟩ = some (.int .i64 (l[i] : Nat)) := by
  obtain ⟨g, cap, hv, _, hlt⟩ := h.form (by omega)
  have hA : OA = some ⟨g, 0, none⟩ := by injection hv
  subst hA
  refine ⟨g, rfl, hlt, ?_⟩
  have := h.cells (g := g) rfl i (.int .i64 (l[i] : Nat)) (by unfold nums; simp [hi])
  rwa [add_at0] at this
theorem resV_of {T : RunR} {gx : Rg} {ax : AS} {e : End} {cx : Nat} (h1 : T.g = gx) (h2 : T.e = e) (h3 : T.n = cx) : resV T = resV ⟨gx, ax, e, cx⟩ := by
  unfold resV
  rw [h1, h2, h3]
set_option maxRecDepth 100000 in
set_option maxHeartbeats 8000000 in
theorem cpuPages_any (w : World) (p : Pg19) (v : Value) (g : Rg) (b : Nat) (hl : RdI w v p.l) (hat : p.at_ < 65536) (hpg : p.pages < 256) (hby : p.by_.size ≤ maxLen) (hg : g.Ok) (hb : b < 256) (ho : Ops w) :
    Calls Tryd.prog 5 #[.agg (pcells p v g), .int .u8 b] w fun e w' => e = .returned (.bool true) ∧ Below w.heap.size w w' := by
  obtain ⟨pc, hpc⟩ : ∃ pc, pc = pcells p v g := ⟨_, rfl⟩
  have hmem := fun W (h : RdI W v p.l) => memory_any W p v g h hat hpg hby
  rw [← hpc] at hmem ⊢
  have hi41 : (Tryd.prog.info? 41).map (·.size) = some pc.size := by rw [hpc]; exact info41
  obtain ⟨i, hi⟩ : ∃ i, i = b % 41 := ⟨_, rfl⟩
  generalize memA p = m at *
  obtain ⟨X, hX⟩ : ∃ X, X = runA i g (newSA (srcMm m)) := ⟨_, rfl⟩
  have hps := pages_same m i g
  have hpf := pages_few m i g
  rw [← hX] at hps hpf
  have hxn : X.n ≤ i := by rw [hX]; have := loopA_le i 0 g (newSA (srcMm m)); unfold runA; omega
  have HX := Lib.hid hX
  have HGO := Lib.hid hg
  have HPS := Lib.hid hps
  have HPF := Lib.hid hpf
  have hbl : Below w.heap.size w (w.alloc (.cells pc 41)) := (Below.refl _ _).alloc (Nat.le_refl _) _
  have HRD := Lib.hid (hl.below hbl)
  have HP0 := Lib.hid (Blk.new w 41 pc)
  have HBL := Lib.hid hbl
  have HMEM := Lib.hid hmem
  have HPC := Lib.hid hpc
  have HI41 := Lib.hid hi41
  have HOP := Lib.hid (ho.belowS hbl)
  have hreg := fun w => registers_any w g
  unfold Rg.vals at hreg
  have HREG := Lib.hid hreg
  have hi1 : i ≤ 40 := by omega
  have hia : ((b : Int) % 41) = i := by omega
  have HIA := Lib.hid hia
  have hw0 := ho.1
  have hb0 : (0 : Int) ≤ b := by omega
  have hb1 : (b : Int) < 256 := by omega
  have hmf : ∀ (fn : Fn) (first cap : Array Value) (w : World), (Instr.makeFunc fn first cap).run Tryd.prog w = .ok (.func fn first cap) w := fun _ _ _ _ => rfl
  clear hps hpf hX hg hl hbl hmem hpc hi41 ho hreg hia hi hb hat hpg hby
  go_enter Tryd.func5, Tryd.ntmps5
  go_upto_region 1 with (fail)
  have hz0 : (w.alloc (.cells pc 41)).heap.size = w.heap.size + 1 := by simp
  generalize w.alloc (.cells pc 41) = W0 at *
  go_wp2_with (refine wpList_load_blk rfl 41 (.tmp 2) rfl w.heap.size rfl HP0.out _ Tryd.underlying41 rfl HI41.out ?_)
  refine (HMEM.out _ HRD.out).mono ?_
  rintro e w1 ⟨rfl, nb1⟩
  have HB1 := Lib.hid nb1
  clear nb1 HMEM HRD
  have hz := z38
  obtain ⟨mb, hmb⟩ : ∃ mb, mb = w1.heap.size := ⟨_, rfl⟩
  have HMB := Lib.hid hmb
  have HB7 : Hid (MB (w1.alloc (.cells (mmC mm0) 38)) mb mm0) := Lib.hid (by rw [hmb]; exact Blk.new _ _ _)
  have hmbl : W0.heap.size ≤ mb := by rw [hmb]; exact HB1.out.size
  clear hmb
  try dsimp only
  go_upto_region 2 with (rw [← HMB.out]; refine store_M (m0 := mm0) (m := m) (b := mb) HB7.out rfl (.tmp 5) (.tmp 20) rfl rfl rfl ?_; intro w2 hb2 hf2)
  have HM2 := Lib.hid hb2
  have HB2 : Hid (Below W0.heap.size W0 w2) := Lib.hid (belowFr (HB1.out.alloc HB1.out.size _) hf2 hmbl (Nat.le_refl _))
  clear hb2 hf2 HB7 HB1 hz
  go_wp2_with fail
  refine (known_any w2 (HOP.out.belowS HB2.out)).mono ?_
  rintro e w3 ⟨rfl, nb⟩
  have HM3 := Lib.hid (HM2.out.below nb HM2.out.lt)
  have HB3 := Lib.hid (HB2.out.trans (nb.mono HB2.out.size))
  clear nb HM2 HB2
  try dsimp only
  go_wp2_with fail
  have hsv : (Value.func (.func 17) #[] #[.pointer (some ⟨mb, 0, none⟩)]) = srcV mb := rfl
  rw [hsv]
  clear hsv
  refine (new_src w3 mb).mono ?_
  rintro e w4 ⟨rfl, h1, h2, nb⟩
  obtain ⟨sg, hsg⟩ : ∃ sg, sg = w3.heap.size + 1 := ⟨_, rfl⟩
  obtain ⟨box, hbox⟩ : ∃ box, box = w3.heap.size := ⟨_, rfl⟩
  rw [← hbox] at h1 h2
  rw [hbox, ← hsg, ← hbox] at h2
  have HM4 := Lib.hid (HM3.out.below nb HM3.out.lt)
  have HB4 := Lib.hid (HB3.out.trans (nb.mono HB3.out.size))
  have hA4 := mm_setup (B := w3.heap.size) (by omega) h1 HM4.out h2
  have hz4 := nb.size
  have hz3 := HB3.out.size
  obtain ⟨B, hB⟩ : ∃ B, B = w3.heap.size := ⟨_, rfl⟩
  rw [← hB] at hA4 hz4 hz3
  have hBm : mb < B := by rw [hB]; exact HM3.out.lt
  have HA4 := Lib.hid hA4
  unfold ptrV
  dsimp only [Option.map_some]
  rw [← hsg]
  clear h1 h2 nb hA4 hsg hbox hB HM3 HB3
  have hq := ptr23_some
  obtain ⟨c0, c1, c2, c3, c4, c5, c6, c7, c8⟩ := CG.of (HP0.out.below HB4.out HP0.out.lt) HPC.out
  simp only [Nat.reduceAdd] at c0 c1 c2 c3 c4 c5 c6 c7 c8
  go_upto_region 8 with (fail)
  go_wp2_with fail
  refine (HREG.out _).mono ?_
  rintro e w5 ⟨rfl, nb⟩
  have HA5 := Lib.hid (HA4.out.below (mmSrc_ok _ _ _ _ _).keeps nb)
  have HM5 := Lib.hid (HM4.out.below nb HM4.out.lt)
  have HB5 := Lib.hid (HB4.out.trans (nb.mono HB4.out.size))
  have hz5 := Nat.le_trans hz4 nb.size
  clear nb HA4 HM4 HB4 hz4 hq c0 c1 c2 c3 c4 c5 c6 c7 c8
  try dsimp only
  go_wp2_with fail
  have hrun := run_any (mmSrc_ok box mb sg m B) (mmSrc_mach box mb sg m) (mmSrc_ty box mb sg m) HA5.out (upd_at _ _ _) HGO.out hz5 (fun _ h => h.elim) (HOP.out.belowS HB5.out) (by omega) i (by omega)
  rw [view_mm, ← HX.out] at hrun
  obtain ⟨gx, ax, ⟨wx, nx, dx⟩, cx⟩ := X
  rw [resV_eq] at hrun
  unfold Rg.vals at hrun
  rw [HIA.out]
  refine hrun.mono ?_
  clear hrun
  rintro e w6 ⟨rfl, s6, hm6, hA6, hv6, _, hmv6, _⟩
  have HB6 : Hid (Below W0.heap.size W0 w6) := Lib.hid (HB5.out.trans ((hmv6.below hz5).mono hz3))
  have HM6 := Lib.hid (hmv6.blk HM5.out (by decide) (by decide) (fun h => h))
  have hz6 := Nat.le_trans hz5 hmv6.size
  obtain ⟨bx, hbx⟩ : ∃ bx, bx = w6.heap.size := ⟨_, rfl⟩
  have HBX := Lib.hid hbx
  obtain ⟨w7, hw7⟩ : ∃ w7, w7 = w6.alloc (.cells (resC gx wx nx dx cx) 47) := ⟨_, rfl⟩
  have hk7 : Blk w7 bx 47 (resC gx wx nx dx cx) := by rw [hw7, hbx]; exact Blk.new _ _ _
  have hl7 : Below w6.heap.size w6 w7 := by rw [hw7]; exact (Below.refl _ _).alloc (Nat.le_refl _) _
  have HA7 := Lib.hid (hA6.below (mmSrc_ok box mb sg m B).keeps hl7)
  have HV7 := Lib.hid hv6
  have HM7 := Lib.hid (HM6.out.below hl7 HM6.out.lt)
  have HB7 : Hid (Below W0.heap.size W0 w7) := Lib.hid (HB6.out.trans (hl7.mono HB6.out.size))
  have HX7 := Lib.hid hk7
  have hz7 := Nat.le_trans hz6 hl7.size
  try dsimp only at HV7
  clear hA6 hv6 hmv6 hbx hk7 hl7 HA5 HM5 HB5 hz5 HM6 HB6 hz6
  unfold resC at hw7
  try dsimp only
  go_upto_region 9 with (fail)
  rw [← hw7, ← HBX.out]
  clear hw7
  go_wp2_with fail
  have hask := asked_all (mmSrc_ok box mb sg m B) HA7.out (upd_at _ _ _)
  rw [HV7.out] at hask
  refine hask.mono ?_
  clear hask
  rintro e w8 ⟨⟨OA, oc, rfl, hown⟩, _, nb⟩
  have HM8 := Lib.hid (HM7.out.below nb HM7.out.lt)
  have HX8 := Lib.hid (HX7.out.below nb HX7.out.lt)
  have HB8 := Lib.hid (HB7.out.trans (nb.mono HB7.out.size))
  have hfe := few_end m ax
  have hlt := askL_lt ax
  have hln := askL_le ax 64
  have hpl := HPF.out
  try dsimp only at hpl
  generalize hL : askL ax 64 = L at *
  clear hL
  have HROW := Lib.hid (fun i hi => own_at hown i hi)
  have HFE := Lib.hid hfe
  have HLT := Lib.hid hlt
  have HPL := Lib.hid hpl
  have hln2 : (L.length : Int) ≤ 64 := by omega
  clear nb hown hfe hlt hpl hln HA7 HM7 HX7 HB7 HPF HV7
  have hz := z38
  obtain ⟨mf, hmf2⟩ : ∃ mf, mf = w8.heap.size := ⟨_, rfl⟩
  have HMF := Lib.hid hmf2
  obtain ⟨w9, hw9⟩ : ∃ w9, w9 = w8.alloc (.cells (mmC mm0) 38) := ⟨_, rfl⟩
  have HF9 : Hid (MB w9 mf (fewF m L 0)) := Lib.hid (by rw [hw9, hmf2]; exact Blk.new _ _ _)
  have HS9 : Hid (Below mf w8 w9) := Lib.hid (by rw [hw9, hmf2]; exact (Below.refl _ _).alloc (Nat.le_refl _) _)
  have hz9 : mf < w9.heap.size := HF9.out.lt
  clear hmf2
  try dsimp only
  go_upto_region 11 with (fail)
  rw [← hw9, ← HMF.out]
  clear hw9 hz
  go_wp2_with fail
  go_loopg [12] (L.length) (fun q iv wr => ∃ i : Nat, q = L.length - i ∧ i ≤ L.length ∧ iv = .int .i64 i ∧ MB wr mf (fewF m L i) ∧ Below mf w8 wr)
  case atStart => exact ⟨0, rfl, Nat.zero_le _, rfl, HF9.out, HS9.out⟩
  case round =>
    obtain ⟨k, rfl, hk, rfl, hF, hS⟩ := hrel
    have HF := Lib.hid hF
    have HS := Lib.hid hS
    clear hF hS HF9 HS9
    have hmbf : mb < mf := by rw [HMF.out]; exact HM8.out.lt
    have HMR : Hid (MB wr mb m) := Lib.hid (HM8.out.below HS.out hmbf)
    by_cases hlt : k < L.length
    · obtain ⟨gr, hOA, hgr, hcr⟩ := HROW.out k hlt
      have hpg := HLT.out k hlt
      have hfs := fewF_s m L k hlt
      have c0 : wr.cell? ⟨gr, k, none⟩ = some (.int .i64 (L[k] : Nat)) := (HS.out.cell (p := ⟨gr, k, none⟩) (by show gr < mf; rw [HMF.out]; exact hgr)).trans hcr
      have HHK := Lib.hid hlt
      have i1 : (k : Int) < (L.length : Int) := by omega
      have i0 : (0 : Int) ≤ k := by omega
      generalize hpgv : L[k] = pg at *
      clear hpgv
      have HFS := Lib.hid hfs
      subst hOA
      have p0 : (0 : Int) ≤ pg := by omega
      have p1 : (pg : Int) < 64 := by omega
      obtain ⟨F, hFF⟩ : ∃ F, F = fewF m L k := ⟨_, rfl⟩
      rw [← hFF] at HF HFS
      have HFF := Lib.hid hFF
      clear hFF hfs hcr hlt
      have c1 := HMR.out.c_th hpg
      have c2 := HF.out.c_th hpg
      have f2 := HF.out.frozen pg
      have hl2 := HF.out.lt
      obtain ⟨wa, hwa⟩ : ∃ wa, wa = wr.setCell ⟨mf, pg, none⟩ (.bool (m.th pg)) := ⟨_, rfl⟩
      have HFa : Hid (MB wa mf (fewJ m F pg 0)) := Lib.hid (by rw [hwa, ← fewJ_0]; exact HF.out.s_th hpg _)
      have HSa : Hid (Below mf w8 wa) := Lib.hid (by rw [hwa]; exact HS.out.setCell (by show mf ≤ mf; exact Nat.le_refl _) _)
      have HPG := Lib.hid hpg
      go_upto_region 16 with (fail)
      rw [← hwa]
      clear hwa c0 c1 c2 f2 hl2 HF HS HMR hpg
      obtain ⟨wo, hwo⟩ : ∃ wo, wo = wa := ⟨_, rfl⟩
      go_wp2_with fail
      go_loopg [14] (64) (fun q iv wi => ∃ j : Nat, q = 64 - j ∧ j ≤ 64 ∧ iv = .int .i64 ((64 * pg + j : Nat) : Int) ∧ MB wi mf (fewJ m F pg j) ∧ Below mf w8 wi)
      case atStart => exact ⟨0, rfl, by omega, by go_num, HFa.out, HSa.out⟩
      case round =>
        obtain ⟨j, rfl, hj, rfl, hF, hS⟩ := hrel
        clear hwo HFa HSa
        have HF := Lib.hid hF
        have HS := Lib.hid hS
        clear hF hS
        have HMR : Hid (MB wr mb m) := Lib.hid (HM8.out.below HS.out hmbf)
        obtain ⟨x, hx⟩ : ∃ x : Nat, x = 64 * pg + j := ⟨_, rfl⟩
        have hpg := HPG.out
        rw [← hx]
        by_cases hlj : j < 64
        · have j1 : (x : Int) < 64 * (pg : Int) + 64 := by omega
          have j2 : (x : Int) < 4096 := by omega
          have j0 : (0 : Int) ≤ x := by omega
          have c1 := HMR.out.c_b (i := x) (by omega)
          have c2 := HF.out.c_b (i := x) (by omega)
          have f2 := HF.out.frozen (64 + x)
          have hl2 := HF.out.lt
          have HF2 : Hid (MB (wr.setCell ⟨mf, 64 + x, none⟩ (.int .u8 (m.b x).toNat)) mf (fewJ m F pg (j + 1))) := Lib.hid (by rw [← fewJ_s, ← hx]; exact HF.out.s_b (by omega) _)
          have HS2 : Hid (Below mf w8 (wr.setCell ⟨mf, 64 + x, none⟩ (.int .u8 (m.b x).toNat))) := Lib.hid (HS.out.setCell (by show mf ≤ mf; exact Nat.le_refl _) _)
          have HXX := Lib.hid hx
          clear hx hpg
          go_wp2_with fail
          go_roundg (64 - (j + 1))
          case measure => omega
          case rel => exact ⟨j + 1, rfl, by omega, by have := HXX.out; go_num, HF2.out, HS2.out⟩
        · have hj64 : j = 64 := by omega
          have j1 : decide ((x : Int) < 64 * (pg : Int) + 64) = false := decide_eq_false (by omega)
          have HF3 : Hid (MB wr mf (fewF m L (k + 1))) := Lib.hid (by rw [HFS.out, ← fewJ_64, ← hj64]; exact HF.out)
          clear hx hpg hlj hj64
          go_wp2_with fail
          go_roundg (L.length - (k + 1))
          case measure => exact Nat.sub_lt_sub_left HHK.out (Nat.lt_succ_self _)
          case rel => exact ⟨k + 1, rfl, HHK.out, by go_num, HF3.out, HS.out⟩
    · obtain rfl : k = L.length := by omega
      have hfl : MB wr mf (fewM m ax.asked) := by
        show Blk wr mf 38 (mmC (fewM m ax.asked))
        rw [← HFE.out]
        exact HF.out
      have HFL := Lib.hid hfl
      have i1 : decide ((L.length : Int) < (L.length : Int)) = false := decide_eq_false (by omega)
      have i2 : decide (L.length < L.length) = false := decide_eq_false (by omega)
      have hmf0 : W0.heap.size ≤ mf := by rw [HMF.out]; exact HB8.out.size
      have hbxf : bx < mf := by rw [HMF.out]; exact HX8.out.lt
      have HBr : Hid (Below W0.heap.size W0 wr) := Lib.hid (HB8.out.trans (HS.out.mono hmf0))
      have HXr : Hid (Blk wr bx 47 (resC gx wx nx dx cx)) := Lib.hid (HX8.out.below HS.out hbxf)
      have hpl2 : (L.length : Int) ≤ 4 * ((cx : Int) + 1) := by have := HPL.out; omega
      have hcx : (cx : Int) ≤ 40 := by have h : cx ≤ i := hxn; omega
      have hcx0 : (0 : Int) ≤ cx := by omega
      clear hfl HF HS HX8 HB8 hk HROW HLT hxn HM8 HMR
      go_wp2_with (refine load_M HFL.out rfl (.tmp 11) rfl rfl ?_)
      refine (own_any (ok0 wr.heap.size) (all_none C0 wr.heap.size wr) (Nat.le_refl _) (fun _ h => h.elim) (fewM m ax.asked)).mono ?_
      rintro e wt ⟨g2, rfl, hg2, s2, hm2, hA2, hv2, _, hmv2⟩
      have HBt : Hid (Below W0.heap.size W0 wt) := Lib.hid (HBr.out.trans ((hmv2.below (Nat.le_refl _)).mono HBr.out.size))
      have HXt := Lib.hid (HXr.out.below (hmv2.below (Nat.le_refl _)) HXr.out.lt)
      have HAt := Lib.hid hA2
      have HVt := Lib.hid hv2
      have hzt := hmv2.size
      have hzr := HBr.out.size
      clear hA2 hv2 hmv2 hg2 HBr HXr HFL HFE
      obtain ⟨c0, c1, c2, c3, c4, c5, c6, c7, c8⟩ := CG.of (HP0.out.below HBt.out HP0.out.lt) HPC.out
      simp only [Nat.reduceAdd] at c0 c1 c2 c3 c4 c5 c6 c7 c8
      try dsimp only
      go_upto_region 21 with (fail)
      go_wp2_with fail
      refine (HREG.out _).mono ?_
      rintro e wu ⟨rfl, nb⟩
      have HAu := Lib.hid (HAt.out.below (ok0 _).keeps nb)
      have HBu := Lib.hid (HBt.out.trans (nb.mono HBt.out.size))
      have HXu := Lib.hid (HXt.out.below nb HXt.out.lt)
      have hzu := Nat.le_trans hzt nb.size
      clear nb HAt HBt HXt c0 c1 c2 c3 c4 c5 c6 c7 c8
      try dsimp only
      go_wp2_with fail
      have hrun := run_any (ok0 wr.heap.size) mach0 (ty0 47) HAu.out (upd_at _ _ _) HGO.out hzu (fun _ h => h.elim) (HOP.out.belowS HBu.out) (by omega) i (by omega)
      rw [HVt.out, resV_of (ax := ax) HPS.out.1 HPS.out.2.1 HPS.out.2.2, resV_eq] at hrun
      unfold Rg.vals at hrun
      try rw [HIA.out]
      refine hrun.mono ?_
      clear hrun
      rintro e wv ⟨rfl, s6, hm6, hA6, hv6, _, hmv6, _⟩
      have HBv : Hid (Below W0.heap.size W0 wv) := Lib.hid (HBu.out.trans ((hmv6.below hzu).mono hzr))
      have HXv := Lib.hid (hmv6.blk HXu.out (by decide) (by decide) (fun h => h))
      obtain ⟨bY, hbY⟩ : ∃ bY, bY = wv.heap.size := ⟨_, rfl⟩
      have HBY := Lib.hid hbY
      obtain ⟨wy, hwy⟩ : ∃ wy, wy = wv.alloc (.cells (resC gx wx nx dx cx) 47) := ⟨_, rfl⟩
      have hky : Blk wy bY 47 (resC gx wx nx dx cx) := by rw [hwy, hbY]; exact Blk.new _ _ _
      have hly : Below wv.heap.size wv wy := by rw [hwy]; exact (Below.refl _ _).alloc (Nat.le_refl _) _
      have HBy : Hid (Below w.heap.size w wy) := Lib.hid (HBL.out.trans ((HBv.out.trans (hly.mono HBv.out.size)).mono HBL.out.size))
      have hkx := HXv.out.below hly HXv.out.lt
      unfold resC at hwy
      clear hA6 hv6 hmv6 hbY hly HAu HBu HXu HBv HXv
      try dsimp only
      go_upto_region 22 with (fail)
      rw [← hwy, ← HBY.out]
      clear hwy
      obtain ⟨x0, x1, x2, x3, x4, x5, x6, x7, x8, x9, x10, x11, x12⟩ := CX.of hkx
      obtain ⟨y0, y1, y2, y3, y4, y5, y6, y7, y8, y9, y10, y11, y12⟩ := CX.of hky
      clear hkx hky
      have e47 := eq47_refl
      go_wp2_with fail
      go_ret
      exact ⟨rfl, HBy.out⟩
theorem cpuPages_row (w : World) (p : Pg19) (v : Value) (g : Rg) (b : Int) (hp : PgOk w p v) (hg : g.Ok) (hb : (Lit.int .u8 b).wf = true) (ho : Ops w) :
    Calls Tryd.prog 5 #[.agg (pcells p v g), .int .u8 b] w fun e w' => e = .returned (.bool true) ∧ Below w.heap.size w w' := by
  obtain ⟨m, hm, rfl⟩ := u8_nat hb
  exact cpuPages_any w p v g m hp.l hp.at_ hp.pg hp.by_ hg hm ho
end Go.Proofs.YtpadpggdealgkaaDoorRRR
