/-
  Walks: ForksAreCopies.
-/
import Derived.Test.YtkoomlbnfhdhcaaGreatDoorTOh
namespace Go.Proofs.YtkoomlbnfhdhcaaGreatDoor
open Go.RowKit
set_option linter.unusedVariables false
set_option linter.unusedSectionVars false
set_option linter.unusedSimpArgs false

theorem wrap64_small (n : Nat) (h : n < 1000000) : IntKind.i64.wrap (n : Int) = (n : Int) := by
  simp only [IntKind.wrap, IntKind.bits, IntKind.signed]
  simp
  omega
theorem build40z (W : World) : (Instr.build 40 #[(0, .int .i64 1), (1, .int .i64 1), (5, .string ⟨#[49]⟩)]).run Tryz.prog W = .ok (.agg #[.int .i64 1, .int .i64 1, .int .i64 0, .int .i64 0, .int .i64 0, .slice none 0 0, .string ⟨#[49]⟩, .int .i64 0, .string ⟨#[]⟩, .int .i64 0, .int .i64 0]) W := by kernel_rfl
theorem build47v (a0 b0 : Nat) (W : World) : (Instr.build 47 #[(0, .pointer (some ⟨a0, 0, none⟩)), (1, .pointer (some ⟨b0, 0, none⟩))]).run Tryz.prog W = .ok (.agg #[.pointer (some ⟨a0, 0, none⟩), .pointer (some ⟨b0, 0, none⟩)]) W := by kernel_rfl
theorem info47f : (Tryz.prog.info? 47).map (·.size) = some 2 := by kernel_rfl
theorem mem_none (i : Img) (m : Nat) : CntIs (turnV (imgV1 i) n1 (pL i) (rgE i.e) m) n1 0 ∧ turnV (imgV1 i) n1 (pL i) (rgE i.e) m (oP (chN 0)) = none := by
  refine ⟨.inl ⟨?_, rfl⟩, ?_⟩
  · rw [turn_other _ _ _ _ _ _ (fun h => absurd h.1 (show ¬ (5 = 3) by decide)) (fun e => by injection e with e; cases e), img1_other i _ (fun h => absurd h.1 (show ¬ (5 = 3) by decide)) (fun e => by injection e with e; cases e) (fun e => by injection e with e; cases e)]
    rfl
  · rw [turn_other _ _ _ _ _ _ (fun h => absurd h.1 (show ¬ (1 = 3) by decide)) (fun e => by injection e with e; cases e), img1_other i _ (fun h => absurd h.1 (show ¬ (1 = 3) by decide)) (fun e => by injection e with e; cases e) (fun e => chN_ne 0 (by injection e with _ e; exact e.symm))]
    rfl
/-- What the law's run is about, told once. -/
structure LawP (i : Img) (m0 : Nat) (V2 V3 : Val) (G2 : Rg) (A2 : AS) : Prop where
  p1 : Pst (imgV1 i) n1 (pL i) (rgE i.e)
  v2 : V2 = turnV (imgV1 i) n1 (pL i) (rgE i.e) m0
  v3 : V3 = forkV V2 (pL i) 0
  has2 : Has V2 n1 (pL i)
  cnt : CntIs V2 n1 0
  non : V2 (oP (chN 0)) = none
  bdd : Bdd V2
  g2 : G2 = (runA m0 (rgE i.e) (mpA (pagesL i) (npOf i))).g
  a2 : A2 = (runA m0 (rgE i.e) (mpA (pagesL i) (npOf i))).a
  inv : ∀ γ a, (∀ k, k < 2 → γ k = G2) → (∀ k, k < 2 → a k = A2) → Inv V3 (pL i) γ a
theorem lawP {i : Img} (hi : ImgOk i) (m0 : Nat) : ∃ V2 V3 G2 A2, LawP i m0 V2 V3 G2 A2 := by
  have hreO : (rgE i.e).Ok := rgE_ok i.e hi.e0 (by have := hi.el; have := hi.cl; omega)
  have p1 := pst1 hi hreO
  have p2 := turn_pst p1 m0
  obtain ⟨b1, b2, b3⟩ := before_run hi m0
  refine ⟨_, _, _, _, ⟨p1, rfl, rfl, p2.has, (mem_none i m0).1, (mem_none i m0).2, (bdd1 hi).turn m0, rfl, rfl, fun γ a hγ ha => ?_⟩⟩
  refine Inv.fork p2 (fun k hk => (hγ k hk).trans b1) (fun k hk => by rw [ha k hk]; exact b2) (fun k hk => ?_)
  rw [ha k hk, b3, turn_mem p1 m0]

def gK (G : Rg) (k : Nat) : Nat → Rg := fun j => if j < k then G else zRg
def aK (A : AS) (k : Nat) : Nat → AS := fun j => if j < k then A else emA
theorem gK_zero (G : Rg) : gK G 0 = fun _ => zRg := by funext j; unfold gK; rw [if_neg (by omega)]
theorem aK_zero (A : AS) : aK A 0 = fun _ => emA := by funext j; unfold aK; rw [if_neg (by omega)]
theorem gK_upd (G : Rg) (k : Nat) : upd (gK G k) k G = gK G (k + 1) := by
  funext j
  unfold upd gK
  by_cases e : j = k
  · rw [if_pos e, if_pos (by omega)]
  · rw [if_neg e]
    exact ite_congr (propext (by omega)) (fun _ => rfl) (fun _ => rfl)
theorem aK_upd (A : AS) (k : Nat) : upd (aK A k) k A = aK A (k + 1) := by
  funext j
  unfold upd aK
  by_cases e : j = k
  · rw [if_pos e, if_pos (by omega)]
  · rw [if_neg e]
    exact ite_congr (propext (by omega)) (fun _ => rfl) (fun _ => rfl)
theorem aK_start (A : AS) (k : Nat) (l : List (List UInt8)) : upd (aK A k) k (mpA l 0) = aK A k := upd_same _ _ _ (by unfold aK; rw [if_neg (by omega)]; rfl)
section
variable {wb w w' : World} {N B B2 v R n n' : Nat} {f : Nat → Nat} {V : Val} {γ : Nat → Rg} {a : Nat → AS}
theorem Gs.map {l : List (List UInt8)} {k q : Nat} (h : Gs wb N B B2 v R f w V n γ (upd a k (mpA l q))) (hk : k < 2) (hl : ∀ x ∈ l, x.length ≤ 64) (hq : q < 64) :
    Calls Tryz.prog 14 #[.pointer (some ⟨f k, 0, none⟩), .int .i64 (q : Int), .string (strL (l.getD q []))] w fun e w' => e = .returned (.int .i64 0) ∧ Gs wb N B B2 v R f w' V n γ (upd a k (mpA l (q + 1))) := by
  have hm := h.f2.map hk q (l.getD q []) (mpA_ok.getD_le l hl q)
  rw [upd_at, mpA_err l hl q hq, upd_upd] at hm
  refine hm.mono ?_
  rintro e w' ⟨h1, h2, h3⟩
  exact ⟨h1, h.mv h3 h2⟩
theorem Gs.run0 {l : List (List UInt8)} {k q m : Nat} {g : Rg} {Z : RunR} (hg : g.Ok) (hZ : Z = runA m g (mpA l q)) (hm : m ≤ 100000) (hk : k < 2) (h0 : 0 < N) (h : Gs wb N B B2 v R f w V n γ (upd (aK Z.a k) k (mpA l q))) (ho : Ops w) :
    Calls Tryz.prog 15 #[.agg g.vals.toArray, .pointer (some ⟨f k, 0, none⟩), .int .i64 (m : Int)] w fun e w' => e = .returned (.tuple #[resV Z, .int .i64 0]) ∧ Gs wb N B B2 v R f w' V n γ (aK Z.a (k + 1)) ∧ ∀ g t cs, Blk w g t cs → t ≠ 98 → t ≠ 125 → Blk w' g t cs := by
  have hr := h.run hk hg ho h0 m hm (Z := Z) (by rw [upd_at]; exact hZ)
  rw [upd_upd, aK_upd] at hr
  exact hr
theorem Gs.rebase (h : Gs wb N B B2 v R f w V n γ a) : Gs w N B B2 v R f w V n γ a := ⟨h.env, h.f2, h.rg, Below.refl _ _, KBl.refl _, h.hR, h.hB⟩
theorem Gs.fr57 {X : Nat} {cs : Array Value} (h : Gs wb N B B2 v R f w V n γ a) (hx : Blk w X 57 cs) (hf : Fr [X] w w') (hX : B ≤ X ∧ N ≤ X) : Gs wb N B B2 v R f w' V n γ a :=
  ⟨h.env.fr1 hf hx (by decide) (by decide) (by decide) hX.1, h.f2.ty (by decide) (by decide) hx hf, h.rg.fr hf (by simp; exact h.rg.ne_ hx (by decide)), h.bl.trans (hf.below h.leN (fun g hg => by rw [List.mem_singleton.1 hg]; exact hX.2)), h.kb.trans (KBl.fr hf hx (by unfold KT; decide)), h.hR, h.hB⟩
theorem Gs.blk {g t : Nat} {cs : Array Value} (h : Gs wb N B B2 v R f w V n γ a) (hb : Blk wb g t cs) (ht : KT t) : Blk w g t cs := h.kb g t cs hb ht
end
theorem res_range {w : World} {X : Nat} {g : Rg} {y nm ad n : Int} (h : Blk w X 57 (resC g y nm ad n)) : w.rangeAt X 0 g.vals := fun j v hv => by
  have hj : j < 9 := (List.getElem?_eq_some_iff.1 hv).1
  rw [h.cell, Nat.zero_add]
  have : (resC g y nm ad n)[j]? = g.vals[j]? := by
    rcases (show j = 0 ∨ j = 1 ∨ j = 2 ∨ j = 3 ∨ j = 4 ∨ j = 5 ∨ j = 6 ∨ j = 7 ∨ j = 8 by omega) with rfl | rfl | rfl | rfl | rfl | rfl | rfl | rfl | rfl <;> rfl
  rw [this]; exact hv
theorem kt47 : KT 47 := .inr (.inl rfl)
theorem kt23 : KT 23 := .inl rfl
theorem kt9 : KT 9 := .inr (.inr (.inl rfl))
theorem kt33 : KT 33 := .inr (.inr (.inr rfl))

section
variable {P : Program} {ops : Array Oper} {Q : Exit → Act → World → Prop} {nl eff : List Nat} {S : World → Prop} {E : (World → Prop) → Act → World → Prop}
theorem wpMixE_row {i : Nat} {rest : List (Nat × Oper)} {o : Oper} {a : Act} {w : World} (he : eff.contains i = false) (hw : Region.wanted o (yielded ops a.tmps) = true) (ty : TypeId) (x : Operand) (ho : o.op = .load ty x)
    (b off : Nat) (hx : a.eval x = .pointer (some ⟨b, off, none⟩)) (cs : List Value) (d : TypeDesc) (hS : ∀ w', worldsOf S nl i w' → w'.rangeAt b off cs)
    (hu : P.underlying ty = some d) (hd : d.isRow = true) (hi : (P.info? ty).map (·.size) = some cs.length) (h : wpMixE P ops Q nl eff E S rest (a.put o.dst (.agg cs.toArray)) w) : wpMixE P ops Q nl eff E S ((i, o) :: rest) a w :=
  wpMixE_read he hw (fun w' hw' => by
    unfold execOp
    simp only [ho, hx, Instr.loadAt, Instr.sureAddr, Sem.run_bind, Sem.run_pure, Result.andThen_ok, run_loadVar_mid w' b off ty cs d (hS w' hw') hu hd hi]) h
end
theorem rem2 (T : Nat) (h : T < 256) : IntKind.i64.wrap ((T : Int).tmod 2) = ((T % 2 : Nat) : Int) := by
  rw [Int.tmod_eq_emod_of_nonneg (by omega), show (T : Int) % 2 = ((T % 2 : Nat) : Int) by omega]
  exact wrap64_small _ (by omega)
theorem quo21 (T : Nat) (h : T < 256) : IntKind.i64.wrap ((IntKind.u8.wrap ((T : Int) / 2)).tmod 21) = ((T / 2 % 21 : Nat) : Int) := by
  have e : IntKind.u8.wrap ((T : Int) / 2) = ((T / 2 : Nat) : Int) := by
    simp only [IntKind.wrap, IntKind.bits, IntKind.signed]
    simp
    omega
  rw [e, Int.tmod_eq_emod_of_nonneg (by omega), show ((T / 2 : Nat) : Int) % 21 = ((T / 2 % 21 : Nat) : Int) by omega]
  exact wrap64_small _ (by omega)
theorem Gs.equal {wb W w : World} {N B B2 v R n k root box ob vb pb : Nat} {f : Nat → Nat} {V : Val} {γ : Nat → Rg} {a : Nat → AS} {p : Pr} {gv : Value} (hW : Gs wb N B B2 v R f W V n γ a) (hf : VF B W w) (hk : k < 2) (hroot : W.heap.size ≤ root) (hb : Blk w root 98 (spCells (spNew box)))
    (hE : (vSrc B v n V box ob vb pb root p gv).E (fun _ => false) w) (hw : Who p.sp) (hpg : AllPg V p) (hmax : p.pages ≤ 64) (hn : n ≤ 100000) (heq : eqA (needUp 64 (newSA (memS V p))) (needUp 64 (a k)) = true) :
    Calls Tryz.prog 18 #[.pointer (some ⟨root, 0, none⟩), .pointer (some ⟨f k, 0, none⟩)] w fun e w' => e = .returned (.bool true) ∧ Gs wb N B B2 v R f w' V n γ (upd a k (needUp 64 (a k))) ∧ ∀ g t cs, Blk w g t cs → t ≠ 98 → t ≠ 125 → Blk w' g t cs := by
  refine (hW.f2.equal hf hk hroot hb hE (vSrc_ok hw hpg hmax hn B2)).mono ?_
  rintro e w' ⟨he, hf2, _, hmv⟩
  exact ⟨by rw [he, heq], (hW.vf hf hE.2.env).mv hmv hf2, fun g t cs hb q1 q2 => hmv.blk hb q1 q2 (fun h => h)⟩
theorem vSrcE_drew {B v n : Nat} {V : Val} {box ob vb pb root : Nat} {p : Pr} {gv : Value} {a : Nat → Bool} {w : World} (h : (vSrc B v n V box ob vb pb root p gv).E a w) : (vSrc B v n V box ob vb pb root p gv).E a w.drew := ⟨h.1.drew, h.2.below (Below.refl _ _).drew⟩
theorem vf_drew {B : Nat} {w w' : World} (h : VF B w w') : VF B w w'.drew := h.trans (VF.of_below (Below.refl _ _).drew)
theorem Who.k {k : Nat} (h : k < 2) : Who (whoK k) := by
  rcases (show k = 0 ∨ k = 1 by omega) with rfl | rfl
  · exact .inl rfl
  · exact .inr (.inl rfl)
set_option maxRecDepth 100000 in
set_option maxHeartbeats 40000000 in
theorem forks_main (w : World) (i : Img) (bf : Nat) (tv : Value) (l : List UInt8) (hu : Usg w) (h1 : 1 < w.heap.size) (hg : ∃ cs fr, w.heap[1]? = some (.cells cs 210 fr)) (ho : Ops w) (hbf : bf < 256) (hl : RdB w w.heap.size tv l) (hi : ImgOk i) :
    Calls Tryz.prog 3 #[.agg (imgCells i), .int .u8 (bf : Int), tv] w fun e w' => e = .returned (.bool true) ∧ Below w.heap.size w w' := by
  have HB0 := Lib.hid ((Below.refl w.heap.size w).alloc (Nat.le_refl _) (.cells (imgCells i) 23))
  have hkn := knownE_any (w.alloc (.cells (imgCells i) 23)) (hu.belowS HB0.out) (by simp; omega) (by rw [HB0.out.block 1 h1]; exact hg)
  have HI := Lib.hid (Blk.new w 23 (imgCells i))
  have hck := fun W => imgCheck_any W i hi.cl hi.dl
  rw [hi.chk] at hck
  obtain ⟨m0, hm0⟩ : ∃ m0, m0 = bf % 40 := ⟨_, rfl⟩
  have hm1 : ((bf : Int) % 40) = (m0 : Int) := by omega
  have hb0 : (0 : Int) ≤ bf := by omega
  have hwm : IntKind.i64.wrap ((bf : Int).tmod 40) = (m0 : Int) := by
    rw [Int.tmod_eq_emod_of_nonneg (by omega)]
    have : (bf : Int) % 40 = (m0 : Int) := hm1
    rw [this]
    exact wrap64_small m0 (by omega)
  have hb1 : (bf : Int) < 256 := by omega
  have hm2 : m0 ≤ 40 := by omega
  clear hm0
  obtain ⟨V2, V3, G2, A2, hP⟩ := lawP hi m0
  obtain ⟨Z, hZ⟩ : ∃ Z, Z = runA m0 (rgE i.e) (mpA (pagesL i) (npOf i)) := ⟨_, rfl⟩
  have hZg := hP.g2
  have hZa := hP.a2
  rw [← hZ] at hZg hZa
  obtain ⟨zg, za, ⟨zy, zn, zd⟩, zc⟩ := Z
  dsimp only at hZg hZa
  subst hZg hZa
  have hrun0 := fun (wb w1 : World) (N B B2 v R n : Nat) (f : Nat → Nat) (V : Val) (γ : Nat → Rg) (k : Nat) (hk : k < 2) (h0 : 0 < N) (h : Gs wb N B B2 v R f w1 V n γ (upd (aK A2 k) k (mpA (pagesL i) (npOf i)))) (ho : Ops w1) => Gs.run0 hP.p1.ok hZ (by omega) hk h0 h ho
  have hre : Value.agg (rgE i.e).vals.toArray = .agg #[.int .u32 0, .int .u32 0, .int .u32 0, .int .u32 0, .int .u32 0, .int .u32 0, .int .u32 0, .int .u32 0, .int .u32 i.e] := rfl
  rw [hre] at hrun0
  dsimp only at hrun0
  rw [resV_eq] at hrun0
  have HRUN := Lib.hid hrun0
  have HPL := Lib.hid (pages_len hi)
  have ie0 : 0 ≤ i.e := hi.e0
  have ie1 : i.e < 4294967296 := by have := hi.el; have := hi.cl; omega
  have hb51 := build51
  have hwe : IntKind.u32.wrap i.e = i.e := by rw [IntKind.wrap_u32]; omega
  clear hrun0 hre hZ
  have HP := Lib.hid hP
  have HIM := Lib.hid hi
  have HO := Lib.hid ho
  have HU := Lib.hid hu
  have HG := Lib.hid hg
  have HL := Lib.hid hl
  have hst := fun W B v (hE : Env W B v vnone 0) => start_any W B W.heap.size v 0 vnone pZ (.slice none 0 0) hE rfl rfl pZ_ok rfl (.inl ⟨rfl, rfl⟩) (Nat.le_refl _) (.inl rfl) (by decide)
  have hld := fun W B v (hE : Env W B v imgV0 1) => load_any' W B v 1 imgV0 n1 pZ i hE has0 rfl hi (by decide)
  have htu := fun W B v (hE : Env W B v (imgV1 i) 67) (ho : Ops W) => turn_any W B v 67 m0 (imgV1 i) n1 (pL i) (rgE i.e) hE hP.p1 (by omega) (by decide) ho
  have hfk := fun W B v (hE : Env W B v V2 132) => fork_any W B v 132 0 V2 (pL i) hE hP.has2 rfl rfl (by decide) hP.cnt hP.non hP.bdd (by decide)
  have hpgs := fun W => pages_any W i hi
  have hnp := hi.np_le
  rw [show vupd vnone (oP n1) (prEnc pZ) = imgV0 from rfl] at hst
  rw [show loadV imgV0 n1 pZ i = imgV1 i from rfl] at hld
  rw [← hP.v2] at htu
  rw [← hP.v3] at hfk
  have hfn : 132 + 3 + (pL i).pages = 135 + npOf i := rfl
  rw [hfn] at hfk
  have hpz : prV pZ (.slice none 0 0) = .agg #[.int .i64 1, .int .i64 1, .int .i64 0, .int .i64 0, .int .i64 0, .slice none 0 0, .string ⟨#[49]⟩, .int .i64 0, .string ⟨#[]⟩, .int .i64 0, .int .i64 0] := rfl
  have hcn1 : strL n1 = ⟨#[49]⟩ := rfl
  rw [hpz, hcn1] at hst
  rw [hcn1] at hld htu hfk
  have hsz := strL_size i.c
  have hszd := strL_size i.d
  have hcl := hi.cl
  have hdl := hi.dl
  have e1 : ¬ ((200 : Int) < i.c.length) := by omega
  have e2 : decide ((i.c.length : Int) > 200) = false := decide_eq_false (by omega)
  have e3 : ¬ ((200 : Int) < i.d.length) := by omega
  have e4 : decide ((i.d.length : Int) > 200) = false := decide_eq_false (by omega)
  have hbz := build40z
  have HIC : Hid (imgCells i = #[.string (strL i.c), .string (strL i.d), .int .i64 i.z, .int .i64 i.e]) := Lib.hid rfl
  rw [HIC.out] at hkn HI HB0 hck hld hpgs ⊢
  clear hu hg ho hl hi hP hpz hcn1 hfn hcl hdl
  go_enter Tryz.func3, Tryz.ntmps3
  go_wp2_with fail
  refine hkn.mono ?_
  rintro e w1 ⟨rfl, nb⟩
  have HI1 := Lib.hid (HI.out.below nb HI.out.lt)
  have HB1 := Lib.hid (HB0.out.trans (nb.mono HB0.out.size))
  have c0 := HI1.out.cell 0
  have c1 := HI1.out.cell 1
  have c2 := HI1.out.cell 2
  have c3 := HI1.out.cell 3
  simp at c0 c1 c2 c3
  clear nb HI HB0 hkn
  go_wp2_with fail
  refine (hck _).mono ?_
  rintro e w2 ⟨rfl, nb⟩
  have HI2 := Lib.hid (HI1.out.below nb HI1.out.lt)
  have HB2 := Lib.hid (HB1.out.trans (nb.mono HB1.out.size))
  clear nb HI1 HB1 c0 c1 c2 c3 hck e1 e2 e3 e4
  go_wp2_with fail
  refine (stateNew_any w2).mono ?_
  rintro e w3 ⟨rfl, hs, nb⟩
  have HI3 := Lib.hid (HI2.out.below nb HI2.out.lt)
  have HB3 := Lib.hid (HB2.out.trans (nb.mono HB2.out.size))
  have hvn := viewNew_any w3 w2.heap.size w2.heap.size hs (Nat.le_refl _)
  obtain ⟨B, hB⟩ : ∃ B, B = w2.heap.size := ⟨_, rfl⟩
  have HNB : Hid (w.heap.size ≤ B) := Lib.hid (by rw [hB]; exact HB2.out.size)
  have HB31 : Hid (1 < B) := Lib.hid (by have := HNB.out; omega)
  clear hs nb HI2 HB2
  go_wp2_with fail
  refine hvn.mono ?_
  rintro e w4 ⟨v, rfl, hlv, hvw, nb⟩
  rw [← hB] at hvw
  have HI4 := Lib.hid (HI3.out.below nb HI3.out.lt)
  have HB4 := Lib.hid (HB3.out.trans (nb.mono HB3.out.size))
  have HE4 : Hid (Env w4 B v vnone 0) := Lib.hid ⟨hvw, HU.out.belowS HB4.out, HB31.out, by rw [HB4.out.block 1 h1]; exact HG.out⟩
  clear hlv hvw nb HI3 HB3 hvn hB
  go_wp2_with fail
  refine (hst _ _ _ HE4.out).mono ?_
  rintro e w5 ⟨rfl, h5, f5⟩
  have HI5 := Lib.hid (f5.blk HI4.out (by decide) (by decide))
  have HB5 := Lib.hid (HB4.out.trans ((f5.below HE4.out.leB).mono HNB.out))
  have HE5 := Lib.hid h5
  have c0 := HI5.out.cell 0
  have c1 := HI5.out.cell 1
  have c2 := HI5.out.cell 2
  have c3 := HI5.out.cell 3
  simp at c0 c1 c2 c3
  clear h5 f5 HI4 HB4 HE4 hst hbz
  go_wp2_with fail
  refine (hld _ _ _ HE5.out).mono ?_
  rintro e w6 ⟨rfl, h6, f6⟩
  have HI6 := Lib.hid (f6.blk HI5.out (by decide) (by decide))
  have HB6 := Lib.hid (HB5.out.trans ((f6.below HE5.out.leB).mono HNB.out))
  have HE6 := Lib.hid h6
  clear h6 f6 HI5 HB5 HE5 hld c0 c1 c2 c3
  go_wp2_with fail
  try rw [hm1]
  refine (htu _ _ _ HE6.out (HO.out.belowS HB6.out)).mono ?_
  rintro e w7 ⟨rfl, h7, f7⟩
  have HI7 := Lib.hid (f7.blk HI6.out (by decide) (by decide))
  have HB7 := Lib.hid (HB6.out.trans ((f7.below HE6.out.leB).mono HNB.out))
  have HE7 := Lib.hid h7
  clear h7 f7 HI6 HB6 HE6 htu
  go_wp2_with fail
  refine (hfk _ _ _ HE7.out).mono ?_
  rintro e w8 ⟨rfl, h8, f8⟩
  have HI8 := Lib.hid (f8.blk HI7.out (by decide) (by decide))
  have HB8 := Lib.hid (HB7.out.trans ((f8.below HE7.out.leB).mono HNB.out))
  have HE8 := Lib.hid h8
  clear h8 f8 HI7 HB7 HE7 hfk
  go_wp2_with fail
  refine (new_nil w8).mono ?_
  rintro e w9 ⟨rfl, hbA, nbA⟩
  unfold ptrV
  simp only [Option.map_some]
  go_wp2_with fail
  refine (new_nil w9).mono ?_
  rintro e w10 ⟨rfl, hbB, nbB⟩
  unfold ptrV
  simp only [Option.map_some]
  obtain ⟨f, hf0, hf1⟩ : ∃ f : Nat → Nat, f 0 = w8.heap.size + 1 ∧ f 1 = w9.heap.size + 1 := ⟨fun k => if k = 0 then w8.heap.size + 1 else w9.heap.size + 1, rfl, rfl⟩
  rw [← hf0, ← hf1]
  rw [← hf0] at hbA
  rw [← hf1] at hbB
  have hF2 := F2.new (f := f) hbA nbA (by rw [hf0]; exact Nat.le_succ _) hbB nbB (by rw [hf1]; exact Nat.le_succ _)
  have nbC := nbA.trans (nbB.mono nbA.size)
  obtain ⟨B2, hB2⟩ : ∃ B2, B2 = w8.heap.size := ⟨_, rfl⟩
  rw [← hB2] at hF2
  have HF2 := Lib.hid hF2
  have HI10 := Lib.hid (HI8.out.below nbC HI8.out.lt)
  have HB10 := Lib.hid (HB8.out.trans (nbC.mono HB8.out.size))
  have HE10 := Lib.hid (HE8.out.below nbC)
  have HNB2 : Hid (w.heap.size ≤ B2) := Lib.hid (by rw [hB2]; exact HB8.out.size)
  have hb47 := build47v (f 0) (f 1)
  clear hbA hbB nbA nbB nbC hf0 hf1 hF2 hB2 HI8 HB8 HE8
  have HF0 := Lib.hid (Blk.new w10 47 #[.pointer none, .pointer none])
  obtain ⟨F, hF⟩ : ∃ F, F = w10.heap.size := ⟨_, rfl⟩
  go_upto_region 12 with (refine wpList_store_blk rfl 47 (.tmp 10) (.tmp 74) rfl w10.heap.size rfl _ rfl HF0.out rfl info47f rfl ?_; intro w11 hk11 hf11)
  have hb11 : Below w10.heap.size w10 w11 := belowFr1 ((Below.refl _ _).alloc (Nat.le_refl _) _) hf11 (Nat.le_refl _) (Nat.le_refl _)
  rw [← hF] at hk11 ⊢
  have HF11 := Lib.hid hk11
  have HI11 := Lib.hid (HI10.out.below hb11 HI10.out.lt)
  have HB11 := Lib.hid (HB10.out.trans (hb11.mono HB10.out.size))
  have HE11 := Lib.hid (HE10.out.below hb11)
  have HF211 := Lib.hid (HF2.out.below hb11)
  clear hk11 hf11 hb11 HF0 hb47 HI10 HB10 HE10 HF2 hF
  obtain ⟨R, hR⟩ : ∃ R, R = w11.heap.size := ⟨_, rfl⟩
  obtain ⟨w12, hw12⟩ : ∃ W, W = w11.alloc (.cells (rgs fun _ => zRg) 52) := ⟨_, rfl⟩
  have hb12 : Below w11.heap.size w11 w12 := by rw [hw12]; exact (Below.refl _ _).alloc (Nat.le_refl _) _
  have HR12 : Hid (Blk w12 R 52 (rgs fun _ => zRg)) := Lib.hid (by rw [hw12, hR]; exact Blk.new _ _ _)
  rw [show (rgs fun _ => zRg) = #[.int .u32 0, .int .u32 0, .int .u32 0, .int .u32 0, .int .u32 0, .int .u32 0, .int .u32 0, .int .u32 0, .int .u32 0, .int .u32 0, .int .u32 0, .int .u32 0, .int .u32 0, .int .u32 0, .int .u32 0, .int .u32 0, .int .u32 0, .int .u32 0] from rfl] at hw12
  go_upto_region 13 with (fail)
  rw [← hw12, ← hR]
  have HRB : Hid (B ≤ R ∧ w.heap.size ≤ R) := Lib.hid (by rw [hR]; exact ⟨HE11.out.leB, HB11.out.size⟩)
  have HF12 := Lib.hid (HF11.out.below hb12 HF11.out.lt)
  have HI12 := Lib.hid (HI11.out.below hb12 HI11.out.lt)
  have HB12 := Lib.hid (HB11.out.trans (hb12.mono HB11.out.size))
  have HE12 := Lib.hid (HE11.out.below hb12)
  have HF212 := Lib.hid (HF211.out.below hb12)
  have c0 := HI12.out.cell 0
  have c1 := HI12.out.cell 1
  have c2 := HI12.out.cell 2
  have c3 := HI12.out.cell 3
  simp at c0 c1 c2 c3
  clear hw12 hR hb12 HF11 HI11 HB11 HE11 HF211
  go_wp2_with fail
  refine (hpgs _).mono ?_
  rintro e w13 ⟨pv, rfl, hown, nb⟩
  have hrd := RdS.of_own (l := pagesL i) (by rw [pagesL_length]; exact hown) (by rw [pagesL_length]; omega)
  have hown' := hown
  obtain ⟨PA, pc, rfl⟩ := own_slice hown
  have HRD := Lib.hid hrd
  have HF13 := Lib.hid (HF12.out.below nb HF12.out.lt)
  have HI13 := Lib.hid (HI12.out.below nb HI12.out.lt)
  have HB13 := Lib.hid (HB12.out.trans (nb.mono HB12.out.size))
  have HGS : Hid (Gs w13 w.heap.size B B2 v R f w13 V3 (135 + npOf i) (fun _ => zRg) (fun _ => emA)) := Lib.hid ⟨HE12.out.below nb, HF212.out.below nb, HR12.out.below nb HR12.out.lt, Below.refl _ _, KBl.refl _, HRB.out, ⟨HNB.out, HNB2.out⟩⟩
  clear hown hown' hrd nb HF12 HI12 HB12 HE12 HF212 HR12 c0 c1 c2 c3 hpgs
  go_wp2_with fail
  have HN0 : Hid (0 < w.heap.size) := Lib.hid (by omega)
  go_loopg [13] 2 (fun q kv wr => ∃ k : Nat, k ≤ 2 ∧ q = 2 - k ∧ kv = .int .i64 (k : Int) ∧ Gs w13 w.heap.size B B2 v R f wr V3 (135 + npOf i) (gK G2 k) (aK A2 k))
  case atStart => exact ⟨0, Nat.zero_le _, rfl, rfl, by rw [gK_zero, aK_zero]; exact HGS.out⟩
  case round =>
  obtain ⟨k, hk, rfl, rfl, hgs⟩ := hrel
  have HGr := Lib.hid hgs
  clear hgs HGS
  rcases (show k = 0 ∨ k = 1 ∨ k = 2 by omega) with rfl | rfl | rfl
  · rw [show (((0 : Nat)) : Int) = 0 from rfl]
    go_wp2_with fail
    go_loopg [14] (npOf i) (fun q nv wr' => ∃ n : Nat, n ≤ npOf i ∧ q = npOf i - n ∧ nv = .int .i64 (n : Int) ∧ Gs w13 w.heap.size B B2 v R f wr' V3 (135 + npOf i) (gK G2 0) (upd (aK A2 0) 0 (mpA (pagesL i) n)))
    case atStart => exact ⟨0, Nat.zero_le _, rfl, rfl, by rw [aK_start]; exact HGr.out⟩
    case round =>
      obtain ⟨n, hn, rfl, rfl, hg2⟩ := hrel
      have hFc := hg2.blk HF13.out kt47
      have HFc := Lib.hid hFc
      have HG2 := Lib.hid hg2
      by_cases hlt : n < npOf i
      case pos =>
        have i1 : (n : Int) < (npOf i : Int) := by omega
        have i0 : (0 : Int) ≤ (n : Int) := by omega
        have i2 : (n : Int) ≤ 64 := by omega
        obtain ⟨pb, hPA, -, d0⟩ := (HRD.out.keep (w' := wr) fun b cur h => hg2.kb b 9 cur h kt9).at_ (k := n) (by rw [pagesL_length]; exact hlt)
        subst hPA
        have hmap := hg2.drew.map (k := 0) (q := n) (by decide) HPL.out (by omega)
        obtain ⟨s, hs⟩ : ∃ s, s = strL ((pagesL i).getD n []) := ⟨_, rfl⟩
        rw [← hs] at hmap d0
        have HMAP := Lib.hid hmap
        clear hg2 hmap hs
        go_upto_region 20 with (fail)
        refine wp_region_mixL (fun W => Blk W F 47 #[.pointer (some ⟨f 0, 0, none⟩), .pointer (some ⟨f 1, 0, none⟩)] ∧ W.cell? ⟨pb, n, none⟩ = some (.string s)) [2, 7] [8] [0, 1, 2, 3, 4, 5, 6, 7, 8, 9] (by kernel_rfl) (by kernel_rfl) ⟨HFc.out.drew, d0⟩ ?_
        simp only [inOrder, opAt]
        iterate 8
          (refine wpMixS_read (v := ?_) rfl rfl (fun w' hS => ?_) ?_
           rotate_left
           · ((try (obtain ⟨t, u⟩ := hS rfl; have t0 := t.cell 0; have t1 := t.cell 1; simp at t0 t1; clear t)); go_simp; (try with_reducible rfl))
           try simp only [Act.put, List.setIfInBounds_toArray, List.set_cons_zero, List.set_cons_succ])
        refine wpMixS_eff rfl rfl (fun K hK => ?_)
        go_simp
        refine HMAP.out.mono ?_
        rintro e wm ⟨rfl, hgm⟩
        have HGm := Lib.hid hgm
        refine hK.out _ _ _ (fun _ h => h) (fun h => by cases h) ?_
        clear hK K hgm HMAP HG2 HFc hFc d0
        try simp only [Act.put, List.setIfInBounds_toArray, List.set_cons_zero, List.set_cons_succ]
        iterate 1
          (refine wpMixS_read (v := ?_) rfl rfl (fun w' hS => ?_) ?_
           rotate_left
           · ((try (clear hS)); go_simp; (try with_reducible rfl))
           try simp only [Act.put, List.setIfInBounds_toArray, List.set_cons_zero, List.set_cons_succ])
        refine wpMixS_nil ?_
        go_wp2_with fail
        go_roundg (npOf i - (n + 1))
        case measure => omega
        case rel => exact ⟨n + 1, hlt, rfl, by go_num, HGm.out⟩
      case neg =>
        obtain rfl : n = npOf i := by omega
        have hIc := hg2.blk HI13.out kt23
        have HIc := Lib.hid hIc
        have HD := Lib.hid hg2.drew
        clear hg2 hFc hIc HG2
        go_upto_region 22 with (fail)
        refine wp_region_mixE (fun W => Blk W F 47 #[.pointer (some ⟨f 0, 0, none⟩), .pointer (some ⟨f 1, 0, none⟩)] ∧ Blk W w.heap.size 23 #[.string (strL i.c), .string (strL i.d), .int .i64 i.z, .int .i64 i.e]) [0, 1, 2, 3, 4, 5, 6, 7, 8, 9, 10, 11, 12, 13, 14, 15] [10, 14, 15] [0, 1, 2, 3, 4, 5, 6, 7, 8, 9] 10 14 [11, 12, 13, 14, 15, 16] [10, 11, 12, 13, 15, 16] (by kernel_rfl) (by kernel_rfl) ⟨HFc.out.drew, HIc.out.drew⟩ ?_
        simp only [inOrder, opAt]
        generalize wr.drew = W5 at *
        iterate 10
          (refine wpMixE_read (v := ?_) rfl rfl (fun w' hS => ?_) ?_
           rotate_left
           · ((try (obtain ⟨t, u⟩ := hS rfl; have t0 := t.cell 0; have t1 := t.cell 1; have u3 := u.cell 3; simp at t0 t1 u3; clear t u)); go_simp; (try with_reducible rfl))
           try simp only [Act.put, List.setIfInBounds_toArray, List.set_cons_zero, List.set_cons_succ])
        try rw [hm1]
        refine wpMixE_nil ⟨?_, ?_⟩
        · refine wpMixS_eff rfl rfl (fun K hK => ?_)
          go_simp
          try simp only [hwe, hwm]
          refine (HRUN.out _ _ _ _ _ _ _ _ _ _ _ 0 (by decide) HN0.out HD.out (HO.out.belowS (HB13.out.trans HD.out.bl))).mono ?_
          rintro e w6 ⟨rfl, hg6, _⟩
          have HG6 := Lib.hid hg6
          refine hK.out _ _ _ (fun _ h => h) (fun _ => ⟨HG6.out.blk HF13.out kt47, HG6.out.blk HI13.out kt23⟩) ?_
          clear hK K hg6 HD
          try simp only [Act.put, List.setIfInBounds_toArray, List.set_cons_zero, List.set_cons_succ]
          iterate 3
            (refine wpMixS_read (v := ?_) rfl rfl (fun w' hS => ?_) ?_
             rotate_left
             · ((try (clear hS)); go_simp; (try with_reducible rfl))
             try simp only [Act.put, List.setIfInBounds_toArray, List.set_cons_zero, List.set_cons_succ])
          refine wpMixS_eff rfl rfl (fun K hK => ?_)
          go_simp
          have hb7 : Below w6.heap.size w6 (w6.alloc (.cells #[.int .u32 0, .int .u32 0, .int .u32 0, .int .u32 0, .int .u32 0, .int .u32 0, .int .u32 0, .int .u32 0, .int .u32 0, .int .i64 0, .int .i64 0, .int .u32 0, .int .i64 0] 57)) := (Below.refl _ _).alloc (Nat.le_refl _) _
          have HX7 := Lib.hid (Blk.new w6 57 #[.int .u32 0, .int .u32 0, .int .u32 0, .int .u32 0, .int .u32 0, .int .u32 0, .int .u32 0, .int .u32 0, .int .u32 0, .int .i64 0, .int .i64 0, .int .u32 0, .int .i64 0])
          refine hK.out _ _ _ (fun _ h => h) (fun _ => ⟨(HG6.out.below hb7).blk HF13.out kt47, (HG6.out.below hb7).blk HI13.out kt23⟩) ?_
          clear hK K
          try simp only [Act.put, List.setIfInBounds_toArray, List.set_cons_zero, List.set_cons_succ]
          obtain ⟨X, hX⟩ : ∃ X, X = w6.heap.size := ⟨_, rfl⟩
          refine wpMixS_eff rfl rfl (fun K hK => ?_)
          refine wp_store_blk 57 (.tmp 15) (.tmp 109) rfl w6.heap.size rfl _ rfl HX7.out rfl info57 rfl ?_
          intro w8 hk8 hf8
          have hb8 : Below w6.heap.size w6 w8 := belowFr1 hb7 hf8 (Nat.le_refl _) (Nat.le_refl _)
          rw [← hX] at hk8
          have HX8 := Lib.hid hk8
          have HG8 := Lib.hid (HG6.out.below hb8)
          rw [← hX]
          refine hK.out _ _ _ (fun _ h => h) (fun _ => ⟨HG8.out.blk HF13.out kt47, HG8.out.blk HI13.out kt23⟩) ?_
          clear hK K hk8 hf8 hb8 hb7 HX7 HG6 hX
          try simp only [Act.put, List.setIfInBounds_toArray, List.set_cons_zero, List.set_cons_succ]
          iterate 1
            (refine wpMixS_read (v := ?_) rfl rfl (fun w' hS => ?_) ?_
             rotate_left
             · ((try (clear hS)); go_simp; (try with_reducible rfl))
             try simp only [Act.put, List.setIfInBounds_toArray, List.set_cons_zero, List.set_cons_succ])
          refine wpMixS_nil ?_
          have HRG := Lib.hid (res_range HX8.out)
          go_wp2_with (first | refine wpList_load_mid rfl 51 (.tmp 114) rfl X 0 rfl G2.vals _ HRG.out Tryz.underlying51 rfl info51 ?_ | (refine wpList_store_R rfl (.tmp 116) (.tmp 115) rfl 0 (by decide) 0 rfl rfl G2 rfl HG8.out.rg ?_; intro wz hkz hfz))
          have HGz := Lib.hid (HG8.out.reg hkz hfz)
          rw [gK_upd] at HGz
          clear hkz hfz HG8 HX8 HRG
          go_roundg (2 - 1)
          case measure => omega
          case rel => exact ⟨1, by decide, rfl, rfl, HGz.out⟩
        · refine wpMixS_eff rfl rfl (fun K hK => ?_)
          go_simp
          have hb6 : Below W5.heap.size W5 (W5.alloc (.cells #[.int .u32 0, .int .u32 0, .int .u32 0, .int .u32 0, .int .u32 0, .int .u32 0, .int .u32 0, .int .u32 0, .int .u32 0, .int .i64 0, .int .i64 0, .int .u32 0, .int .i64 0] 57)) := (Below.refl _ _).alloc (Nat.le_refl _) _
          have HX6 := Lib.hid (Blk.new W5 57 #[.int .u32 0, .int .u32 0, .int .u32 0, .int .u32 0, .int .u32 0, .int .u32 0, .int .u32 0, .int .u32 0, .int .u32 0, .int .i64 0, .int .i64 0, .int .u32 0, .int .i64 0])
          have HG6 := Lib.hid (HD.out.below hb6)
          refine hK.out _ _ _ (fun _ h => h) (fun _ => ⟨HG6.out.blk HF13.out kt47, HG6.out.blk HI13.out kt23⟩) ?_
          clear hK K
          try simp only [Act.put, List.setIfInBounds_toArray, List.set_cons_zero, List.set_cons_succ]
          obtain ⟨X, hX⟩ : ∃ X, X = W5.heap.size := ⟨_, rfl⟩
          have HXB : Hid (B ≤ X ∧ w.heap.size ≤ X) := Lib.hid (by rw [hX]; exact ⟨HD.out.env.leB, HD.out.leN⟩)
          refine wpMixS_eff rfl rfl (fun K hK => ?_)
          go_simp
          try simp only [hwe, hwm]
          refine (HRUN.out _ _ _ _ _ _ _ _ _ _ _ 0 (by decide) HN0.out HG6.out (HO.out.belowS (HB13.out.trans HG6.out.bl))).mono ?_
          rintro e w7 ⟨rfl, hg7, hk7⟩
          have HX7 := Lib.hid (hk7 _ _ _ HX6.out (by decide) (by decide))
          have HG7 := Lib.hid hg7
          refine hK.out _ _ _ (fun _ h => h) (fun _ => ⟨HG7.out.blk HF13.out kt47, HG7.out.blk HI13.out kt23⟩) ?_
          clear hK K hg7 hk7
          try simp only [Act.put, List.setIfInBounds_toArray, List.set_cons_zero, List.set_cons_succ]
          iterate 3
            (refine wpMixS_read (v := ?_) rfl rfl (fun w' hS => ?_) ?_
             rotate_left
             · ((try (clear hS)); go_simp; (try with_reducible rfl))
             try simp only [Act.put, List.setIfInBounds_toArray, List.set_cons_zero, List.set_cons_succ])
          refine wpMixS_eff rfl rfl (fun K hK => ?_)
          refine wp_store_blk 57 (.tmp 15) (.tmp 109) rfl W5.heap.size rfl _ rfl HX7.out rfl info57 rfl ?_
          intro w8 hk8 hf8
          rw [← hX] at hk8 hf8 HX7
          have HX8 := Lib.hid hk8
          have HG8 := Lib.hid (HG7.out.fr57 HX7.out hf8 HXB.out)
          rw [← hX]
          refine hK.out _ _ _ (fun _ h => h) (fun _ => ⟨HG8.out.blk HF13.out kt47, HG8.out.blk HI13.out kt23⟩) ?_
          clear hK K hk8 hf8 hb6 HX6 HX7 HG6 HG7 hX
          try simp only [Act.put, List.setIfInBounds_toArray, List.set_cons_zero, List.set_cons_succ]
          iterate 1
            (refine wpMixS_read (v := ?_) rfl rfl (fun w' hS => ?_) ?_
             rotate_left
             · ((try (clear hS)); go_simp; (try with_reducible rfl))
             try simp only [Act.put, List.setIfInBounds_toArray, List.set_cons_zero, List.set_cons_succ])
          refine wpMixS_nil ?_
          have HRG := Lib.hid (res_range HX8.out)
          go_wp2_with (first | refine wpList_load_mid rfl 51 (.tmp 114) rfl X 0 rfl G2.vals _ HRG.out Tryz.underlying51 rfl info51 ?_ | (refine wpList_store_R rfl (.tmp 116) (.tmp 115) rfl 0 (by decide) 0 rfl rfl G2 rfl HG8.out.rg ?_; intro wz hkz hfz))
          have HGz := Lib.hid (HG8.out.reg hkz hfz)
          rw [gK_upd] at HGz
          clear hkz hfz HG8 HX8 HRG
          go_roundg (2 - 1)
          case measure => omega
          case rel => exact ⟨1, by decide, rfl, rfl, HGz.out⟩
  · rw [show (((1 : Nat)) : Int) = 1 from rfl]
    go_wp2_with fail
    go_loopg [14] (npOf i) (fun q nv wr' => ∃ n : Nat, n ≤ npOf i ∧ q = npOf i - n ∧ nv = .int .i64 (n : Int) ∧ Gs w13 w.heap.size B B2 v R f wr' V3 (135 + npOf i) (gK G2 1) (upd (aK A2 1) 1 (mpA (pagesL i) n)))
    case atStart => exact ⟨0, Nat.zero_le _, rfl, rfl, by rw [aK_start]; exact HGr.out⟩
    case round =>
      obtain ⟨n, hn, rfl, rfl, hg2⟩ := hrel
      have hFc := hg2.blk HF13.out kt47
      have HFc := Lib.hid hFc
      have HG2 := Lib.hid hg2
      by_cases hlt : n < npOf i
      case pos =>
        have i1 : (n : Int) < (npOf i : Int) := by omega
        have i0 : (0 : Int) ≤ (n : Int) := by omega
        have i2 : (n : Int) ≤ 64 := by omega
        obtain ⟨pb, hPA, -, d0⟩ := (HRD.out.keep (w' := wr) fun b cur h => hg2.kb b 9 cur h kt9).at_ (k := n) (by rw [pagesL_length]; exact hlt)
        subst hPA
        have hmap := hg2.drew.map (k := 1) (q := n) (by decide) HPL.out (by omega)
        obtain ⟨s, hs⟩ : ∃ s, s = strL ((pagesL i).getD n []) := ⟨_, rfl⟩
        rw [← hs] at hmap d0
        have HMAP := Lib.hid hmap
        clear hg2 hmap hs
        go_upto_region 20 with (fail)
        refine wp_region_mixL (fun W => Blk W F 47 #[.pointer (some ⟨f 0, 0, none⟩), .pointer (some ⟨f 1, 0, none⟩)] ∧ W.cell? ⟨pb, n, none⟩ = some (.string s)) [2, 7] [8] [0, 1, 2, 3, 4, 5, 6, 7, 8, 9] (by kernel_rfl) (by kernel_rfl) ⟨HFc.out.drew, d0⟩ ?_
        simp only [inOrder, opAt]
        iterate 8
          (refine wpMixS_read (v := ?_) rfl rfl (fun w' hS => ?_) ?_
           rotate_left
           · ((try (obtain ⟨t, u⟩ := hS rfl; have t0 := t.cell 0; have t1 := t.cell 1; simp at t0 t1; clear t)); go_simp; (try with_reducible rfl))
           try simp only [Act.put, List.setIfInBounds_toArray, List.set_cons_zero, List.set_cons_succ])
        refine wpMixS_eff rfl rfl (fun K hK => ?_)
        go_simp
        refine HMAP.out.mono ?_
        rintro e wm ⟨rfl, hgm⟩
        have HGm := Lib.hid hgm
        refine hK.out _ _ _ (fun _ h => h) (fun h => by cases h) ?_
        clear hK K hgm HMAP HG2 HFc hFc d0
        try simp only [Act.put, List.setIfInBounds_toArray, List.set_cons_zero, List.set_cons_succ]
        iterate 1
          (refine wpMixS_read (v := ?_) rfl rfl (fun w' hS => ?_) ?_
           rotate_left
           · ((try (clear hS)); go_simp; (try with_reducible rfl))
           try simp only [Act.put, List.setIfInBounds_toArray, List.set_cons_zero, List.set_cons_succ])
        refine wpMixS_nil ?_
        go_wp2_with fail
        go_roundg (npOf i - (n + 1))
        case measure => omega
        case rel => exact ⟨n + 1, hlt, rfl, by go_num, HGm.out⟩
      case neg =>
        obtain rfl : n = npOf i := by omega
        have hIc := hg2.blk HI13.out kt23
        have HIc := Lib.hid hIc
        have HD := Lib.hid hg2.drew
        clear hg2 hFc hIc HG2
        go_upto_region 22 with (fail)
        refine wp_region_mixE (fun W => Blk W F 47 #[.pointer (some ⟨f 0, 0, none⟩), .pointer (some ⟨f 1, 0, none⟩)] ∧ Blk W w.heap.size 23 #[.string (strL i.c), .string (strL i.d), .int .i64 i.z, .int .i64 i.e]) [0, 1, 2, 3, 4, 5, 6, 7, 8, 9, 10, 11, 12, 13, 14, 15] [10, 14, 15] [0, 1, 2, 3, 4, 5, 6, 7, 8, 9] 10 14 [11, 12, 13, 14, 15, 16] [10, 11, 12, 13, 15, 16] (by kernel_rfl) (by kernel_rfl) ⟨HFc.out.drew, HIc.out.drew⟩ ?_
        simp only [inOrder, opAt]
        generalize wr.drew = W5 at *
        iterate 10
          (refine wpMixE_read (v := ?_) rfl rfl (fun w' hS => ?_) ?_
           rotate_left
           · ((try (obtain ⟨t, u⟩ := hS rfl; have t0 := t.cell 0; have t1 := t.cell 1; have u3 := u.cell 3; simp at t0 t1 u3; clear t u)); go_simp; (try with_reducible rfl))
           try simp only [Act.put, List.setIfInBounds_toArray, List.set_cons_zero, List.set_cons_succ])
        try rw [hm1]
        refine wpMixE_nil ⟨?_, ?_⟩
        · refine wpMixS_eff rfl rfl (fun K hK => ?_)
          go_simp
          try simp only [hwe, hwm]
          refine (HRUN.out _ _ _ _ _ _ _ _ _ _ _ 1 (by decide) HN0.out HD.out (HO.out.belowS (HB13.out.trans HD.out.bl))).mono ?_
          rintro e w6 ⟨rfl, hg6, _⟩
          have HG6 := Lib.hid hg6
          refine hK.out _ _ _ (fun _ h => h) (fun _ => ⟨HG6.out.blk HF13.out kt47, HG6.out.blk HI13.out kt23⟩) ?_
          clear hK K hg6 HD
          try simp only [Act.put, List.setIfInBounds_toArray, List.set_cons_zero, List.set_cons_succ]
          iterate 3
            (refine wpMixS_read (v := ?_) rfl rfl (fun w' hS => ?_) ?_
             rotate_left
             · ((try (clear hS)); go_simp; (try with_reducible rfl))
             try simp only [Act.put, List.setIfInBounds_toArray, List.set_cons_zero, List.set_cons_succ])
          refine wpMixS_eff rfl rfl (fun K hK => ?_)
          go_simp
          have hb7 : Below w6.heap.size w6 (w6.alloc (.cells #[.int .u32 0, .int .u32 0, .int .u32 0, .int .u32 0, .int .u32 0, .int .u32 0, .int .u32 0, .int .u32 0, .int .u32 0, .int .i64 0, .int .i64 0, .int .u32 0, .int .i64 0] 57)) := (Below.refl _ _).alloc (Nat.le_refl _) _
          have HX7 := Lib.hid (Blk.new w6 57 #[.int .u32 0, .int .u32 0, .int .u32 0, .int .u32 0, .int .u32 0, .int .u32 0, .int .u32 0, .int .u32 0, .int .u32 0, .int .i64 0, .int .i64 0, .int .u32 0, .int .i64 0])
          refine hK.out _ _ _ (fun _ h => h) (fun _ => ⟨(HG6.out.below hb7).blk HF13.out kt47, (HG6.out.below hb7).blk HI13.out kt23⟩) ?_
          clear hK K
          try simp only [Act.put, List.setIfInBounds_toArray, List.set_cons_zero, List.set_cons_succ]
          obtain ⟨X, hX⟩ : ∃ X, X = w6.heap.size := ⟨_, rfl⟩
          refine wpMixS_eff rfl rfl (fun K hK => ?_)
          refine wp_store_blk 57 (.tmp 15) (.tmp 109) rfl w6.heap.size rfl _ rfl HX7.out rfl info57 rfl ?_
          intro w8 hk8 hf8
          have hb8 : Below w6.heap.size w6 w8 := belowFr1 hb7 hf8 (Nat.le_refl _) (Nat.le_refl _)
          rw [← hX] at hk8
          have HX8 := Lib.hid hk8
          have HG8 := Lib.hid (HG6.out.below hb8)
          rw [← hX]
          refine hK.out _ _ _ (fun _ h => h) (fun _ => ⟨HG8.out.blk HF13.out kt47, HG8.out.blk HI13.out kt23⟩) ?_
          clear hK K hk8 hf8 hb8 hb7 HX7 HG6 hX
          try simp only [Act.put, List.setIfInBounds_toArray, List.set_cons_zero, List.set_cons_succ]
          iterate 1
            (refine wpMixS_read (v := ?_) rfl rfl (fun w' hS => ?_) ?_
             rotate_left
             · ((try (clear hS)); go_simp; (try with_reducible rfl))
             try simp only [Act.put, List.setIfInBounds_toArray, List.set_cons_zero, List.set_cons_succ])
          refine wpMixS_nil ?_
          have HRG := Lib.hid (res_range HX8.out)
          go_wp2_with (first | refine wpList_load_mid rfl 51 (.tmp 114) rfl X 0 rfl G2.vals _ HRG.out Tryz.underlying51 rfl info51 ?_ | (refine wpList_store_R rfl (.tmp 116) (.tmp 115) rfl 1 (by decide) 9 rfl rfl G2 rfl HG8.out.rg ?_; intro wz hkz hfz))
          have HGz := Lib.hid (HG8.out.reg hkz hfz)
          rw [gK_upd] at HGz
          clear hkz hfz HG8 HX8 HRG
          go_roundg (2 - 2)
          case measure => omega
          case rel => exact ⟨2, by decide, rfl, rfl, HGz.out⟩
        · refine wpMixS_eff rfl rfl (fun K hK => ?_)
          go_simp
          have hb6 : Below W5.heap.size W5 (W5.alloc (.cells #[.int .u32 0, .int .u32 0, .int .u32 0, .int .u32 0, .int .u32 0, .int .u32 0, .int .u32 0, .int .u32 0, .int .u32 0, .int .i64 0, .int .i64 0, .int .u32 0, .int .i64 0] 57)) := (Below.refl _ _).alloc (Nat.le_refl _) _
          have HX6 := Lib.hid (Blk.new W5 57 #[.int .u32 0, .int .u32 0, .int .u32 0, .int .u32 0, .int .u32 0, .int .u32 0, .int .u32 0, .int .u32 0, .int .u32 0, .int .i64 0, .int .i64 0, .int .u32 0, .int .i64 0])
          have HG6 := Lib.hid (HD.out.below hb6)
          refine hK.out _ _ _ (fun _ h => h) (fun _ => ⟨HG6.out.blk HF13.out kt47, HG6.out.blk HI13.out kt23⟩) ?_
          clear hK K
          try simp only [Act.put, List.setIfInBounds_toArray, List.set_cons_zero, List.set_cons_succ]
          obtain ⟨X, hX⟩ : ∃ X, X = W5.heap.size := ⟨_, rfl⟩
          have HXB : Hid (B ≤ X ∧ w.heap.size ≤ X) := Lib.hid (by rw [hX]; exact ⟨HD.out.env.leB, HD.out.leN⟩)
          refine wpMixS_eff rfl rfl (fun K hK => ?_)
          go_simp
          try simp only [hwe, hwm]
          refine (HRUN.out _ _ _ _ _ _ _ _ _ _ _ 1 (by decide) HN0.out HG6.out (HO.out.belowS (HB13.out.trans HG6.out.bl))).mono ?_
          rintro e w7 ⟨rfl, hg7, hk7⟩
          have HX7 := Lib.hid (hk7 _ _ _ HX6.out (by decide) (by decide))
          have HG7 := Lib.hid hg7
          refine hK.out _ _ _ (fun _ h => h) (fun _ => ⟨HG7.out.blk HF13.out kt47, HG7.out.blk HI13.out kt23⟩) ?_
          clear hK K hg7 hk7
          try simp only [Act.put, List.setIfInBounds_toArray, List.set_cons_zero, List.set_cons_succ]
          iterate 3
            (refine wpMixS_read (v := ?_) rfl rfl (fun w' hS => ?_) ?_
             rotate_left
             · ((try (clear hS)); go_simp; (try with_reducible rfl))
             try simp only [Act.put, List.setIfInBounds_toArray, List.set_cons_zero, List.set_cons_succ])
          refine wpMixS_eff rfl rfl (fun K hK => ?_)
          refine wp_store_blk 57 (.tmp 15) (.tmp 109) rfl W5.heap.size rfl _ rfl HX7.out rfl info57 rfl ?_
          intro w8 hk8 hf8
          rw [← hX] at hk8 hf8 HX7
          have HX8 := Lib.hid hk8
          have HG8 := Lib.hid (HG7.out.fr57 HX7.out hf8 HXB.out)
          rw [← hX]
          refine hK.out _ _ _ (fun _ h => h) (fun _ => ⟨HG8.out.blk HF13.out kt47, HG8.out.blk HI13.out kt23⟩) ?_
          clear hK K hk8 hf8 hb6 HX6 HX7 HG6 HG7 hX
          try simp only [Act.put, List.setIfInBounds_toArray, List.set_cons_zero, List.set_cons_succ]
          iterate 1
            (refine wpMixS_read (v := ?_) rfl rfl (fun w' hS => ?_) ?_
             rotate_left
             · ((try (clear hS)); go_simp; (try with_reducible rfl))
             try simp only [Act.put, List.setIfInBounds_toArray, List.set_cons_zero, List.set_cons_succ])
          refine wpMixS_nil ?_
          have HRG := Lib.hid (res_range HX8.out)
          go_wp2_with (first | refine wpList_load_mid rfl 51 (.tmp 114) rfl X 0 rfl G2.vals _ HRG.out Tryz.underlying51 rfl info51 ?_ | (refine wpList_store_R rfl (.tmp 116) (.tmp 115) rfl 1 (by decide) 9 rfl rfl G2 rfl HG8.out.rg ?_; intro wz hkz hfz))
          have HGz := Lib.hid (HG8.out.reg hkz hfz)
          rw [gK_upd] at HGz
          clear hkz hfz HG8 HX8 HRG
          go_roundg (2 - 2)
          case measure => omega
          case rel => exact ⟨2, by decide, rfl, rfl, HGz.out⟩
  · rw [show (((2 : Nat)) : Int) = 2 from rfl]
    have HGA := Lib.hid (HGr.out.below (w' := wr.alloc (.cells #[.string ⟨#[49]⟩, .string (strL (chN 0))] 33)) ((Below.refl _ _).alloc (Nat.le_refl _) _))
    have HWA := Lib.hid (Blk.new wr 33 #[.string ⟨#[49]⟩, .string (strL (chN 0))])
    obtain ⟨Wb, hWb⟩ : ∃ Wb, Wb = wr.heap.size := ⟨_, rfl⟩
    rw [← hWb] at HWA
    go_upto_region 27 with (fail)
    rw [← hWb]
    have HWl : Hid (w.heap.size ≤ Wb) := Lib.hid (by rw [hWb]; exact HGr.out.leN)
    clear hWb
    obtain ⟨w14, hw14⟩ : ∃ W, W = wr.alloc (.cells #[.string ⟨#[49]⟩, .string (strL (chN 0))] 33) := ⟨_, rfl⟩
    rw [← hw14] at HGA HWA ⊢
    have HB14 : Hid (Below w.heap.size w w14) := Lib.hid (HB13.out.trans HGA.out.bl)
    have HF14 := Lib.hid (HGA.out.blk HF13.out kt47)
    have HW14 : Hid (Blk w14 Wb 33 #[.string (strL (whoK 0)), .string (strL (whoK 1))]) := HWA
    have HGS14 := Lib.hid HGA.out.rebase
    have HINV := Lib.hid (HP.out.inv (gK G2 2) (aK A2 2) (fun k hk => by unfold gK; rw [if_pos hk]) (fun k hk => by unfold aK; rw [if_pos hk]))
    obtain ⟨TA, tc, htv, _, _, _⟩ := HL.out.byte
    subst htv
    clear hw14 HGr HGA HWA HF13 HI13 HB13 HRD HRUN
    go_wp2_with fail
    go_loopg [18] 20 (fun q nv wr => ∃ (n : Nat) (V : Val) (γ : Nat → Rg) (a : Nat → AS), n ≤ 20 ∧ n ≤ l.length ∧ q = 20 - n ∧ nv = .int .i64 (n : Int) ∧ Inv V (pL i) γ a ∧ Gs w14 w.heap.size B B2 v R f wr V (135 + npOf i + 65 * n) γ a)
    case atStart => exact ⟨0, V3, gK G2 2, aK A2 2, Nat.zero_le _, Nat.zero_le _, rfl, rfl, HINV.out, HGS14.out⟩
    case round =>
    obtain ⟨n, V, γ, a, hn1, hn2, rfl, rfl, hinv, hgs⟩ := hrel
    have HIV := Lib.hid hinv
    have HGr := Lib.hid hgs
    clear hinv hgs HINV HGS14
    have i0 : (0 : Int) ≤ (n : Int) := by omega
    have i9 : (n : Int) ≤ 20 := by omega
    by_cases hgo : n < l.length ∧ n < 20
    case pos =>
      obtain ⟨hll, h20⟩ := hgo
      have i1 : (n : Int) < (l.length : Int) := by omega
      have i2 : (n : Int) < 20 := by omega
      obtain ⟨TA', tc', htv, _, _, hby⟩ := (HL.out.below (HB14.out.trans HGr.out.bl)).byte
      injection htv with ht1 ht2 ht3
      subst ht1 ht3
      obtain ⟨ad, hTA, ct⟩ := hby n hll
      subst hTA
      obtain ⟨T, hT⟩ : ∃ T, T = (l.getD n 0).toNat := ⟨_, rfl⟩
      have T1 : T < 256 := by rw [hT]; exact UInt8.toNat_lt _
      rw [← hT] at ct
      have t0 : (0 : Int) ≤ (T : Int) := by omega
      have t1 : (T : Int) < 256 := by omega
      clear hby hT
      go_upto_region 30 with (fail)
      refine wp_region_mixL (fun W => W.cell? (ad.add n) = some (.int .u8 (T : Int))) [3, 5, 9, 12] [] [0, 1, 2, 3, 4, 5, 6, 7, 8, 9, 10, 11, 12, 13, 14] (by kernel_rfl) (by kernel_rfl) ct ?_
      simp only [inOrder, opAt]
      iterate 15
        (refine wpMixS_read (v := ?_) rfl rfl (fun w' hS => ?_) ?_
         rotate_left
         · ((try (have ct2 := hS rfl)); go_simp; (try with_reducible rfl))
         try simp only [Act.put, List.setIfInBounds_toArray, List.set_cons_zero, List.set_cons_succ])
      refine wpMixS_nil ?_
      have HD := Lib.hid HGr.out.drew
      simp only [rem2 T T1, quo21 T T1]
      obtain ⟨kk, hkk⟩ : ∃ kk, kk = T % 2 := ⟨_, rfl⟩
      obtain ⟨m, hm⟩ : ∃ m, m = T / 2 % 21 := ⟨_, rfl⟩
      rw [← hkk, ← hm]
      have hm20 : m ≤ 20 := by omega
      have hkk2 : kk = 0 ∨ kk = 1 := by omega
      generalize wr.drew = W5 at *
      clear hkk hm ct t0 t1 T1 HGr
      rcases hkk2 with rfl | rfl
      · rw [show (((0 : Nat)) : Int) = 0 from rfl]
        have hwh := HD.out.blk HW14.out kt33
        have wh0 := hwh.cell 0
        have wh1 := hwh.cell 1
        simp at wh0 wh1
        have htn := turn_any W5 B v _ m V (whoK 0) (prK (pL i) 0) (γ 0) HD.out.env (HIV.out.ps 0 (by decide)) (by omega) (by omega) (HO.out.belowS (HB14.out.trans HD.out.bl))
        obtain ⟨Z2, hZ2⟩ : ∃ Z2, Z2 = runA m (γ 0) (a 0) := ⟨_, rfl⟩
        have hiv2 := HIV.out.turn (k := 0) (by decide) m
        rw [← hZ2] at hiv2
        obtain ⟨V', hV'⟩ : ∃ V', V' = turnV V (whoK 0) (prK (pL i) 0) (γ 0) m := ⟨_, rfl⟩
        rw [← hV'] at htn hiv2
        obtain ⟨zg2, za2, ⟨y2, n2, d2⟩, c2⟩ := Z2
        have HZ2 := Lib.hid hZ2
        have HIV2 := Lib.hid hiv2
        have hgok := (HIV.out.ps 0 (by decide)).ok
        clear hwh hZ2 hiv2 hV'
        go_wp2_with fail
        refine htn.mono ?_
        rintro e w6 ⟨rfl, h6, f6⟩
        have HG6 := Lib.hid ((HD.out.vf f6 h6).drew)
        clear h6 f6 htn wh0 wh1
        go_upto_region 33 with (fail)
        refine wp_region_mixE (fun W => Blk W F 47 #[.pointer (some ⟨f 0, 0, none⟩), .pointer (some ⟨f 1, 0, none⟩)] ∧ Blk W R 52 (rgs γ)) [0, 1, 2, 3, 4, 5, 6, 7, 8, 9, 10, 11, 12] [7, 11, 12] [0, 1, 2, 3, 4, 5, 6] 7 11 [8, 9, 10, 11, 12, 13] [7, 8, 9, 10, 12, 13] (by kernel_rfl) (by kernel_rfl) ⟨HG6.out.blk HF14.out kt47, HG6.out.rg⟩ ?_
        simp only [inOrder, opAt]
        generalize w6.drew = W7 at *
        iterate 2
          (refine wpMixE_read (v := ?_) rfl rfl (fun w' hS => ?_) ?_
           rotate_left
           · ((try (clear hS)); go_simp; (try with_reducible rfl))
           try simp only [Act.put, List.setIfInBounds_toArray, List.set_cons_zero, List.set_cons_succ])
        refine wpMixE_row rfl rfl 51 (.tmp 152) rfl R 0 rfl (γ 0).vals _ (fun w' hS => rgs_range (hS rfl).2 (k := 0) (by decide)) Tryz.underlying51 rfl info51 ?_
        simp only [Act.put, List.setIfInBounds_toArray, List.set_cons_zero, List.set_cons_succ]
        iterate 4
          (refine wpMixE_read (v := ?_) rfl rfl (fun w' hS => ?_) ?_
           rotate_left
           · ((try (obtain ⟨t, u⟩ := hS rfl; have t0 := t.cell 0; have t1 := t.cell 1; simp at t0 t1; clear t u)); go_simp; (try with_reducible rfl))
           try simp only [Act.put, List.setIfInBounds_toArray, List.set_cons_zero, List.set_cons_succ])
        have hrun := fun W (h : Gs w14 w.heap.size B B2 v R f W V' (135 + npOf i + 65 * n + 65) γ a) => h.run (k := 0) (by decide) hgok (HO.out.belowS (HB14.out.trans h.bl)) HN0.out m (by omega) HZ2.out
        simp only [resV_eq] at hrun
        have HRUN := Lib.hid hrun
        clear hrun
        refine wpMixE_nil ⟨?_, ?_⟩
        · refine wpMixS_eff rfl rfl (fun K hK => ?_)
          go_simp
          refine (HRUN.out _ HG6.out).mono ?_
          rintro e w7 ⟨rfl, hg7, _⟩
          have HG7 := Lib.hid hg7
          refine hK.out _ _ _ (fun _ h => h) (fun _ => ⟨HG7.out.blk HF14.out kt47, HG7.out.rg⟩) ?_
          clear hK K hg7 HG6
          try simp only [Act.put, List.setIfInBounds_toArray, List.set_cons_zero, List.set_cons_succ]
          iterate 3
            (refine wpMixS_read (v := ?_) rfl rfl (fun w' hS => ?_) ?_
             rotate_left
             · ((try (clear hS)); go_simp; (try with_reducible rfl))
             try simp only [Act.put, List.setIfInBounds_toArray, List.set_cons_zero, List.set_cons_succ])
          refine wpMixS_eff rfl rfl (fun K hK => ?_)
          go_simp
          have hb7 : Below w7.heap.size w7 (w7.alloc (.cells #[.int .u32 0, .int .u32 0, .int .u32 0, .int .u32 0, .int .u32 0, .int .u32 0, .int .u32 0, .int .u32 0, .int .u32 0, .int .i64 0, .int .i64 0, .int .u32 0, .int .i64 0] 57)) := (Below.refl _ _).alloc (Nat.le_refl _) _
          have HX7 := Lib.hid (Blk.new w7 57 #[.int .u32 0, .int .u32 0, .int .u32 0, .int .u32 0, .int .u32 0, .int .u32 0, .int .u32 0, .int .u32 0, .int .u32 0, .int .i64 0, .int .i64 0, .int .u32 0, .int .i64 0])
          refine hK.out _ _ _ (fun _ h => h) (fun _ => ⟨(HG7.out.below hb7).blk HF14.out kt47, (HG7.out.below hb7).rg⟩) ?_
          clear hK K
          try simp only [Act.put, List.setIfInBounds_toArray, List.set_cons_zero, List.set_cons_succ]
          obtain ⟨X, hX⟩ : ∃ X, X = w7.heap.size := ⟨_, rfl⟩
          refine wpMixS_eff rfl rfl (fun K hK => ?_)
          refine wp_store_blk 57 (.tmp 21) (.tmp 159) rfl w7.heap.size rfl _ rfl HX7.out rfl info57 rfl ?_
          intro w8 hk8 hf8
          have hb8 : Below w7.heap.size w7 w8 := belowFr1 hb7 hf8 (Nat.le_refl _) (Nat.le_refl _)
          rw [← hX] at hk8
          have HX8 := Lib.hid hk8
          have HG8 := Lib.hid (HG7.out.below hb8)
          rw [← hX]
          refine hK.out _ _ _ (fun _ h => h) (fun _ => ⟨HG8.out.blk HF14.out kt47, HG8.out.rg⟩) ?_
          clear hK K hk8 hf8 hb8 hb7 HX7 HG7 hX
          try simp only [Act.put, List.setIfInBounds_toArray, List.set_cons_zero, List.set_cons_succ]
          iterate 1
            (refine wpMixS_read (v := ?_) rfl rfl (fun w' hS => ?_) ?_
             rotate_left
             · ((try (clear hS)); go_simp; (try with_reducible rfl))
             try simp only [Act.put, List.setIfInBounds_toArray, List.set_cons_zero, List.set_cons_succ])
          refine wpMixS_nil ?_
          have HRG := Lib.hid (res_range HX8.out)
          go_wp2_with (first | refine wpList_load_mid rfl 51 (.tmp 164) rfl X 0 rfl zg2.vals _ HRG.out Tryz.underlying51 rfl info51 ?_ | (refine wpList_store_R rfl (.tmp 166) (.tmp 165) rfl 0 (by decide) 0 rfl rfl zg2 rfl HG8.out.rg ?_; intro wz hkz hfz))
          have HGz := Lib.hid (HG8.out.reg hkz hfz)
          clear hkz hfz HG8 HX8 HRG
          go_roundg (20 - (n + 1))
          case measure => omega
          case rel => exact ⟨n + 1, _, _, _, h20, hll, rfl, by go_num, HIV2.out, by rw [show 135 + npOf i + 65 * (n + 1) = 135 + npOf i + 65 * n + 65 by omega]; exact HGz.out⟩
        · refine wpMixS_eff rfl rfl (fun K hK => ?_)
          go_simp
          have hb6 : Below W7.heap.size W7 (W7.alloc (.cells #[.int .u32 0, .int .u32 0, .int .u32 0, .int .u32 0, .int .u32 0, .int .u32 0, .int .u32 0, .int .u32 0, .int .u32 0, .int .i64 0, .int .i64 0, .int .u32 0, .int .i64 0] 57)) := (Below.refl _ _).alloc (Nat.le_refl _) _
          have HX6 := Lib.hid (Blk.new W7 57 #[.int .u32 0, .int .u32 0, .int .u32 0, .int .u32 0, .int .u32 0, .int .u32 0, .int .u32 0, .int .u32 0, .int .u32 0, .int .i64 0, .int .i64 0, .int .u32 0, .int .i64 0])
          have HG7 := Lib.hid (HG6.out.below hb6)
          refine hK.out _ _ _ (fun _ h => h) (fun _ => ⟨HG7.out.blk HF14.out kt47, HG7.out.rg⟩) ?_
          clear hK K
          try simp only [Act.put, List.setIfInBounds_toArray, List.set_cons_zero, List.set_cons_succ]
          obtain ⟨X, hX⟩ : ∃ X, X = W7.heap.size := ⟨_, rfl⟩
          have HXB : Hid (B ≤ X ∧ w.heap.size ≤ X) := Lib.hid (by rw [hX]; exact ⟨HG6.out.env.leB, HG6.out.leN⟩)
          refine wpMixS_eff rfl rfl (fun K hK => ?_)
          go_simp
          refine (HRUN.out _ HG7.out).mono ?_
          rintro e w7 ⟨rfl, hg7, hk7⟩
          have HX7 := Lib.hid (hk7 _ _ _ HX6.out (by decide) (by decide))
          have HG8' := Lib.hid hg7
          refine hK.out _ _ _ (fun _ h => h) (fun _ => ⟨HG8'.out.blk HF14.out kt47, HG8'.out.rg⟩) ?_
          clear hK K hg7 hk7
          try simp only [Act.put, List.setIfInBounds_toArray, List.set_cons_zero, List.set_cons_succ]
          iterate 3
            (refine wpMixS_read (v := ?_) rfl rfl (fun w' hS => ?_) ?_
             rotate_left
             · ((try (clear hS)); go_simp; (try with_reducible rfl))
             try simp only [Act.put, List.setIfInBounds_toArray, List.set_cons_zero, List.set_cons_succ])
          refine wpMixS_eff rfl rfl (fun K hK => ?_)
          refine wp_store_blk 57 (.tmp 21) (.tmp 159) rfl W7.heap.size rfl _ rfl HX7.out rfl info57 rfl ?_
          intro w8 hk8 hf8
          rw [← hX] at hk8 hf8 HX7
          have HX8 := Lib.hid hk8
          have HG8 := Lib.hid (HG8'.out.fr57 HX7.out hf8 HXB.out)
          rw [← hX]
          refine hK.out _ _ _ (fun _ h => h) (fun _ => ⟨HG8.out.blk HF14.out kt47, HG8.out.rg⟩) ?_
          clear hK K hk8 hf8 hb6 HX6 HX7 HG6 HG7 HG8' hX
          try simp only [Act.put, List.setIfInBounds_toArray, List.set_cons_zero, List.set_cons_succ]
          iterate 1
            (refine wpMixS_read (v := ?_) rfl rfl (fun w' hS => ?_) ?_
             rotate_left
             · ((try (clear hS)); go_simp; (try with_reducible rfl))
             try simp only [Act.put, List.setIfInBounds_toArray, List.set_cons_zero, List.set_cons_succ])
          refine wpMixS_nil ?_
          have HRG := Lib.hid (res_range HX8.out)
          go_wp2_with (first | refine wpList_load_mid rfl 51 (.tmp 164) rfl X 0 rfl zg2.vals _ HRG.out Tryz.underlying51 rfl info51 ?_ | (refine wpList_store_R rfl (.tmp 166) (.tmp 165) rfl 0 (by decide) 0 rfl rfl zg2 rfl HG8.out.rg ?_; intro wz hkz hfz))
          have HGz := Lib.hid (HG8.out.reg hkz hfz)
          clear hkz hfz HG8 HX8 HRG
          go_roundg (20 - (n + 1))
          case measure => omega
          case rel => exact ⟨n + 1, _, _, _, h20, hll, rfl, by go_num, HIV2.out, by rw [show 135 + npOf i + 65 * (n + 1) = 135 + npOf i + 65 * n + 65 by omega]; exact HGz.out⟩
      · rw [show (((1 : Nat)) : Int) = 1 from rfl]
        have hwh := HD.out.blk HW14.out kt33
        have wh0 := hwh.cell 0
        have wh1 := hwh.cell 1
        simp at wh0 wh1
        have htn := turn_any W5 B v _ m V (whoK 1) (prK (pL i) 1) (γ 1) HD.out.env (HIV.out.ps 1 (by decide)) (by omega) (by omega) (HO.out.belowS (HB14.out.trans HD.out.bl))
        obtain ⟨Z2, hZ2⟩ : ∃ Z2, Z2 = runA m (γ 1) (a 1) := ⟨_, rfl⟩
        have hiv2 := HIV.out.turn (k := 1) (by decide) m
        rw [← hZ2] at hiv2
        obtain ⟨V', hV'⟩ : ∃ V', V' = turnV V (whoK 1) (prK (pL i) 1) (γ 1) m := ⟨_, rfl⟩
        rw [← hV'] at htn hiv2
        obtain ⟨zg2, za2, ⟨y2, n2, d2⟩, c2⟩ := Z2
        have HZ2 := Lib.hid hZ2
        have HIV2 := Lib.hid hiv2
        have hgok := (HIV.out.ps 1 (by decide)).ok
        clear hwh hZ2 hiv2 hV'
        go_wp2_with fail
        refine htn.mono ?_
        rintro e w6 ⟨rfl, h6, f6⟩
        have HG6 := Lib.hid ((HD.out.vf f6 h6).drew)
        clear h6 f6 htn wh0 wh1
        go_upto_region 33 with (fail)
        refine wp_region_mixE (fun W => Blk W F 47 #[.pointer (some ⟨f 0, 0, none⟩), .pointer (some ⟨f 1, 0, none⟩)] ∧ Blk W R 52 (rgs γ)) [0, 1, 2, 3, 4, 5, 6, 7, 8, 9, 10, 11, 12] [7, 11, 12] [0, 1, 2, 3, 4, 5, 6] 7 11 [8, 9, 10, 11, 12, 13] [7, 8, 9, 10, 12, 13] (by kernel_rfl) (by kernel_rfl) ⟨HG6.out.blk HF14.out kt47, HG6.out.rg⟩ ?_
        simp only [inOrder, opAt]
        generalize w6.drew = W7 at *
        iterate 2
          (refine wpMixE_read (v := ?_) rfl rfl (fun w' hS => ?_) ?_
           rotate_left
           · ((try (clear hS)); go_simp; (try with_reducible rfl))
           try simp only [Act.put, List.setIfInBounds_toArray, List.set_cons_zero, List.set_cons_succ])
        refine wpMixE_row rfl rfl 51 (.tmp 152) rfl R 9 rfl (γ 1).vals _ (fun w' hS => rgs_range (hS rfl).2 (k := 1) (by decide)) Tryz.underlying51 rfl info51 ?_
        simp only [Act.put, List.setIfInBounds_toArray, List.set_cons_zero, List.set_cons_succ]
        iterate 4
          (refine wpMixE_read (v := ?_) rfl rfl (fun w' hS => ?_) ?_
           rotate_left
           · ((try (obtain ⟨t, u⟩ := hS rfl; have t0 := t.cell 0; have t1 := t.cell 1; simp at t0 t1; clear t u)); go_simp; (try with_reducible rfl))
           try simp only [Act.put, List.setIfInBounds_toArray, List.set_cons_zero, List.set_cons_succ])
        have hrun := fun W (h : Gs w14 w.heap.size B B2 v R f W V' (135 + npOf i + 65 * n + 65) γ a) => h.run (k := 1) (by decide) hgok (HO.out.belowS (HB14.out.trans h.bl)) HN0.out m (by omega) HZ2.out
        simp only [resV_eq] at hrun
        have HRUN := Lib.hid hrun
        clear hrun
        refine wpMixE_nil ⟨?_, ?_⟩
        · refine wpMixS_eff rfl rfl (fun K hK => ?_)
          go_simp
          refine (HRUN.out _ HG6.out).mono ?_
          rintro e w7 ⟨rfl, hg7, _⟩
          have HG7 := Lib.hid hg7
          refine hK.out _ _ _ (fun _ h => h) (fun _ => ⟨HG7.out.blk HF14.out kt47, HG7.out.rg⟩) ?_
          clear hK K hg7 HG6
          try simp only [Act.put, List.setIfInBounds_toArray, List.set_cons_zero, List.set_cons_succ]
          iterate 3
            (refine wpMixS_read (v := ?_) rfl rfl (fun w' hS => ?_) ?_
             rotate_left
             · ((try (clear hS)); go_simp; (try with_reducible rfl))
             try simp only [Act.put, List.setIfInBounds_toArray, List.set_cons_zero, List.set_cons_succ])
          refine wpMixS_eff rfl rfl (fun K hK => ?_)
          go_simp
          have hb7 : Below w7.heap.size w7 (w7.alloc (.cells #[.int .u32 0, .int .u32 0, .int .u32 0, .int .u32 0, .int .u32 0, .int .u32 0, .int .u32 0, .int .u32 0, .int .u32 0, .int .i64 0, .int .i64 0, .int .u32 0, .int .i64 0] 57)) := (Below.refl _ _).alloc (Nat.le_refl _) _
          have HX7 := Lib.hid (Blk.new w7 57 #[.int .u32 0, .int .u32 0, .int .u32 0, .int .u32 0, .int .u32 0, .int .u32 0, .int .u32 0, .int .u32 0, .int .u32 0, .int .i64 0, .int .i64 0, .int .u32 0, .int .i64 0])
          refine hK.out _ _ _ (fun _ h => h) (fun _ => ⟨(HG7.out.below hb7).blk HF14.out kt47, (HG7.out.below hb7).rg⟩) ?_
          clear hK K
          try simp only [Act.put, List.setIfInBounds_toArray, List.set_cons_zero, List.set_cons_succ]
          obtain ⟨X, hX⟩ : ∃ X, X = w7.heap.size := ⟨_, rfl⟩
          refine wpMixS_eff rfl rfl (fun K hK => ?_)
          refine wp_store_blk 57 (.tmp 21) (.tmp 159) rfl w7.heap.size rfl _ rfl HX7.out rfl info57 rfl ?_
          intro w8 hk8 hf8
          have hb8 : Below w7.heap.size w7 w8 := belowFr1 hb7 hf8 (Nat.le_refl _) (Nat.le_refl _)
          rw [← hX] at hk8
          have HX8 := Lib.hid hk8
          have HG8 := Lib.hid (HG7.out.below hb8)
          rw [← hX]
          refine hK.out _ _ _ (fun _ h => h) (fun _ => ⟨HG8.out.blk HF14.out kt47, HG8.out.rg⟩) ?_
          clear hK K hk8 hf8 hb8 hb7 HX7 HG7 hX
          try simp only [Act.put, List.setIfInBounds_toArray, List.set_cons_zero, List.set_cons_succ]
          iterate 1
            (refine wpMixS_read (v := ?_) rfl rfl (fun w' hS => ?_) ?_
             rotate_left
             · ((try (clear hS)); go_simp; (try with_reducible rfl))
             try simp only [Act.put, List.setIfInBounds_toArray, List.set_cons_zero, List.set_cons_succ])
          refine wpMixS_nil ?_
          have HRG := Lib.hid (res_range HX8.out)
          go_wp2_with (first | refine wpList_load_mid rfl 51 (.tmp 164) rfl X 0 rfl zg2.vals _ HRG.out Tryz.underlying51 rfl info51 ?_ | (refine wpList_store_R rfl (.tmp 166) (.tmp 165) rfl 1 (by decide) 9 rfl rfl zg2 rfl HG8.out.rg ?_; intro wz hkz hfz))
          have HGz := Lib.hid (HG8.out.reg hkz hfz)
          clear hkz hfz HG8 HX8 HRG
          go_roundg (20 - (n + 1))
          case measure => omega
          case rel => exact ⟨n + 1, _, _, _, h20, hll, rfl, by go_num, HIV2.out, by rw [show 135 + npOf i + 65 * (n + 1) = 135 + npOf i + 65 * n + 65 by omega]; exact HGz.out⟩
        · refine wpMixS_eff rfl rfl (fun K hK => ?_)
          go_simp
          have hb6 : Below W7.heap.size W7 (W7.alloc (.cells #[.int .u32 0, .int .u32 0, .int .u32 0, .int .u32 0, .int .u32 0, .int .u32 0, .int .u32 0, .int .u32 0, .int .u32 0, .int .i64 0, .int .i64 0, .int .u32 0, .int .i64 0] 57)) := (Below.refl _ _).alloc (Nat.le_refl _) _
          have HX6 := Lib.hid (Blk.new W7 57 #[.int .u32 0, .int .u32 0, .int .u32 0, .int .u32 0, .int .u32 0, .int .u32 0, .int .u32 0, .int .u32 0, .int .u32 0, .int .i64 0, .int .i64 0, .int .u32 0, .int .i64 0])
          have HG7 := Lib.hid (HG6.out.below hb6)
          refine hK.out _ _ _ (fun _ h => h) (fun _ => ⟨HG7.out.blk HF14.out kt47, HG7.out.rg⟩) ?_
          clear hK K
          try simp only [Act.put, List.setIfInBounds_toArray, List.set_cons_zero, List.set_cons_succ]
          obtain ⟨X, hX⟩ : ∃ X, X = W7.heap.size := ⟨_, rfl⟩
          have HXB : Hid (B ≤ X ∧ w.heap.size ≤ X) := Lib.hid (by rw [hX]; exact ⟨HG6.out.env.leB, HG6.out.leN⟩)
          refine wpMixS_eff rfl rfl (fun K hK => ?_)
          go_simp
          refine (HRUN.out _ HG7.out).mono ?_
          rintro e w7 ⟨rfl, hg7, hk7⟩
          have HX7 := Lib.hid (hk7 _ _ _ HX6.out (by decide) (by decide))
          have HG8' := Lib.hid hg7
          refine hK.out _ _ _ (fun _ h => h) (fun _ => ⟨HG8'.out.blk HF14.out kt47, HG8'.out.rg⟩) ?_
          clear hK K hg7 hk7
          try simp only [Act.put, List.setIfInBounds_toArray, List.set_cons_zero, List.set_cons_succ]
          iterate 3
            (refine wpMixS_read (v := ?_) rfl rfl (fun w' hS => ?_) ?_
             rotate_left
             · ((try (clear hS)); go_simp; (try with_reducible rfl))
             try simp only [Act.put, List.setIfInBounds_toArray, List.set_cons_zero, List.set_cons_succ])
          refine wpMixS_eff rfl rfl (fun K hK => ?_)
          refine wp_store_blk 57 (.tmp 21) (.tmp 159) rfl W7.heap.size rfl _ rfl HX7.out rfl info57 rfl ?_
          intro w8 hk8 hf8
          rw [← hX] at hk8 hf8 HX7
          have HX8 := Lib.hid hk8
          have HG8 := Lib.hid (HG8'.out.fr57 HX7.out hf8 HXB.out)
          rw [← hX]
          refine hK.out _ _ _ (fun _ h => h) (fun _ => ⟨HG8.out.blk HF14.out kt47, HG8.out.rg⟩) ?_
          clear hK K hk8 hf8 hb6 HX6 HX7 HG6 HG7 HG8' hX
          try simp only [Act.put, List.setIfInBounds_toArray, List.set_cons_zero, List.set_cons_succ]
          iterate 1
            (refine wpMixS_read (v := ?_) rfl rfl (fun w' hS => ?_) ?_
             rotate_left
             · ((try (clear hS)); go_simp; (try with_reducible rfl))
             try simp only [Act.put, List.setIfInBounds_toArray, List.set_cons_zero, List.set_cons_succ])
          refine wpMixS_nil ?_
          have HRG := Lib.hid (res_range HX8.out)
          go_wp2_with (first | refine wpList_load_mid rfl 51 (.tmp 164) rfl X 0 rfl zg2.vals _ HRG.out Tryz.underlying51 rfl info51 ?_ | (refine wpList_store_R rfl (.tmp 166) (.tmp 165) rfl 1 (by decide) 9 rfl rfl zg2 rfl HG8.out.rg ?_; intro wz hkz hfz))
          have HGz := Lib.hid (HG8.out.reg hkz hfz)
          clear hkz hfz HG8 HX8 HRG
          go_roundg (20 - (n + 1))
          case measure => omega
          case rel => exact ⟨n + 1, _, _, _, h20, hll, rfl, by go_num, HIV2.out, by rw [show 135 + npOf i + 65 * (n + 1) = 135 + npOf i + 65 * n + 65 by omega]; exact HGz.out⟩
    case neg =>
    by_cases hll : n < l.length
    case pos =>
      have i2 : (n : Int) < (l.length : Int) := by omega
      have i3 : ¬ ((n : Int) < 20) := by omega
      go_upto_region 37 with (fail)
      go_wp2_with fail
      go_loopg [23] 2 (fun q kv wr => ∃ (k : Nat) (a' : Nat → AS), k ≤ 2 ∧ q = 2 - k ∧ kv = .int .i64 (k : Int) ∧ Inv V (pL i) γ a' ∧ Gs w14 w.heap.size B B2 v R f wr V (135 + npOf i + 65 * n) γ a')
      case atStart => exact ⟨0, a, Nat.zero_le _, rfl, rfl, HIV.out, HGr.out⟩
      case round =>
      obtain ⟨k, a', hk, rfl, rfl, hinv, hgs⟩ := hrel
      have HIV := Lib.hid hinv
      have HGr := Lib.hid hgs
      clear hinv hgs
      rcases (show k = 0 ∨ k = 1 ∨ k = 2 by omega) with rfl | rfl | rfl
      · rw [show (((0 : Nat)) : Int) = 0 from rfl]
        have hps := HIV.out.ps 0 (by decide)
        have hwh := HGr.out.blk HW14.out kt33
        have wh0 := hwh.cell 0
        have wh1 := hwh.cell 1
        simp at wh0 wh1
        have hreg := registers_any wr B v _ V (whoK 0) (γ 0) HGr.out.env (Who.k (by decide)) hps.ok hps.rg (by omega)
        have hmem := fun W (h : Env W B v V (135 + npOf i + 65 * n)) => memoryP_any W B v _ V (whoK 0) (prK (pL i) 0) h hps.has hps.sp (by omega)
        have hsame := HIV.out.same (k := 0) (by decide)
        have hnx := HIV.out.asked (k := 0) (by decide)
        have hneq := fun W => neq51_vals W (γ 0)
        have hgv1 := vals_one (γ 0)
        obtain ⟨gvs, hgvs⟩ : ∃ gvs, gvs = (γ 0).vals.toArray := ⟨_, rfl⟩
        have hgvl : (γ 0).vals.length = 9 := rfl
        have hgvz : gvs.size = 9 := by rw [hgvs]; rfl
        have hgvo : gvs.toList.all (·.oneCell') = true := by rw [hgvs]; exact hgv1
        have hgvi : (Tryz.prog.info? 51).map (·.size) = some gvs.size := by rw [hgvz]; exact info51
        rw [← hgvs] at hreg hneq
        have HSAME := Lib.hid hsame
        have HNX := Lib.hid hnx
        have HPS := Lib.hid hps
        have HGVS := Lib.hid hgvs
        clear hwh hps hsame hnx hgv1 hgvs HIV
        go_wp2_with fail
        refine hreg.mono ?_
        rintro e w5 ⟨rfl, nb⟩
        have HG5 := Lib.hid (HGr.out.below nb)
        clear nb wh0 wh1 hreg HGr
        have HY0 := Lib.hid (Blk.new w5 51 #[.int .u32 0, .int .u32 0, .int .u32 0, .int .u32 0, .int .u32 0, .int .u32 0, .int .u32 0, .int .u32 0, .int .u32 0])
        obtain ⟨Y, hY⟩ : ∃ Y, Y = w5.heap.size := ⟨_, rfl⟩
        go_upto_region 41 with (refine wpList_store_blk rfl 51 (.tmp 24) (.tmp 178) rfl w5.heap.size rfl _ rfl HY0.out hgvz hgvi hgvo ?_; intro w6 hk6 hf6)
        have hb6 : Below w5.heap.size w5 w6 := belowFr1 ((Below.refl _ _).alloc (Nat.le_refl _) _) hf6 (Nat.le_refl _) (Nat.le_refl _)
        rw [← hY] at hk6 ⊢
        have HY6 := Lib.hid hk6
        have HG6 := Lib.hid (HG5.out.below hb6)
        clear hk6 hf6 hb6 hY HY0 HG5
        have hwh := HG6.out.blk HW14.out kt33
        have wh0 := hwh.cell 0
        have wh1 := hwh.cell 1
        simp at wh0 wh1
        clear hwh
        go_wp2_with fail
        refine (hmem _ HG6.out.env).mono ?_
        rintro e w7 ⟨root, box, ob, vb, pb, gv, rfl, hroot, hblk, hE, f7⟩
        have hE' := vSrcE_drew hE
        have hf7 := vf_drew f7
        have HG7 := Lib.hid (HG6.out.vf hf7 hE'.2.env)
        have HY7 : Hid (Blk w7.drew Y 51 gvs) := Lib.hid (hf7.blk HY6.out (by decide) (by decide))
        have heq := HG6.out.equal hf7 (k := 0) (by decide) hroot hblk.drew hE' (by rw [HPS.out.sp]; exact Who.k (by decide)) HPS.out.pg HPS.out.has.ok.pages (by omega) HSAME.out
        have HEQ := Lib.hid heq
        clear hroot hblk hE f7 hE' hf7 heq HG6 HY6 hmem wh0 wh1 HSAME HPS
        go_upto_region 42 with (fail)
        refine wp_region_mixL (fun W => Blk W Y 51 gvs ∧ Blk W R 52 (rgs γ) ∧ Blk W F 47 #[.pointer (some ⟨f 0, 0, none⟩), .pointer (some ⟨f 1, 0, none⟩)]) [7, 10, 17, 18] [18] [0, 1, 2, 3, 4, 5, 6, 7, 8, 9, 10, 11, 12, 13, 14, 15, 16, 17, 18, 19, 20] (by kernel_rfl) (by kernel_rfl) ⟨HY7.out, HG7.out.rg, HG7.out.blk HF14.out kt47⟩ ?_
        simp only [inOrder, opAt]
        generalize w7.drew = W7 at *
        iterate 7
          (refine wpMixS_read (v := ?_) rfl rfl (fun w' hS => ?_) ?_
           rotate_left
           · ((try (clear hS)); go_simp; (try with_reducible rfl))
           try simp only [Act.put, List.setIfInBounds_toArray, List.set_cons_zero, List.set_cons_succ])
        refine wpMixS_row rfl rfl 51 (.tmp 24) rfl Y 0 rfl gvs.toList _ (fun w' hS => blk_range (hS rfl).1) Tryz.underlying51 rfl (by rw [Array.length_toList]; exact hgvi) ?_
        simp only [Act.put, List.setIfInBounds_toArray, List.set_cons_zero, List.set_cons_succ, Array.toArray_toList]
        iterate 2
          (refine wpMixS_read (v := ?_) rfl rfl (fun w' hS => ?_) ?_
           rotate_left
           · ((try (clear hS)); go_simp; (try with_reducible rfl))
           try simp only [Act.put, List.setIfInBounds_toArray, List.set_cons_zero, List.set_cons_succ])
        refine wpMixS_row rfl rfl 51 (.tmp 198) rfl R 0 rfl (γ 0).vals _ (fun w' hS => rgs_range (hS rfl).2.1 (k := 0) (by decide)) Tryz.underlying51 rfl info51 ?_
        simp only [Act.put, List.setIfInBounds_toArray, List.set_cons_zero, List.set_cons_succ]
        rw [← HGVS.out]
        iterate 7
          (refine wpMixS_read (v := ?_) rfl rfl (fun w' hS => ?_) ?_
           rotate_left
           · ((try (obtain ⟨t0, t1, t⟩ := hS rfl; clear t0 t1; have t0 := t.cell 0; have t1 := t.cell 1; simp at t0 t1; clear t)); go_simp; (try with_reducible rfl))
           try simp only [Act.put, List.setIfInBounds_toArray, List.set_cons_zero, List.set_cons_succ])
        refine wpMixS_eff rfl rfl (fun K hK => ?_)
        go_simp
        refine HEQ.out.mono ?_
        rintro e w8 ⟨rfl, hg8, hk8⟩
        have HG8 := Lib.hid hg8
        refine hK.out _ _ _ (fun _ h => h) (fun _ => ⟨hk8 _ _ _ HY7.out (by decide) (by decide), hg8.rg, hg8.blk HF14.out kt47⟩) ?_
        clear hK K hg8 hk8 HEQ HG7 HY7
        try simp only [Act.put, List.setIfInBounds_toArray, List.set_cons_zero, List.set_cons_succ]
        iterate 2
          (refine wpMixS_read (v := ?_) rfl rfl (fun w' hS => ?_) ?_
           rotate_left
           · ((try (clear hS)); go_simp; (try with_reducible rfl))
           try simp only [Act.put, List.setIfInBounds_toArray, List.set_cons_zero, List.set_cons_succ])
        refine wpMixS_nil ?_
        go_wp2_with fail
        go_roundg (2 - 1)
        case measure => omega
        case rel => exact ⟨1, _, by decide, rfl, rfl, HNX.out, HG8.out⟩
      · rw [show (((1 : Nat)) : Int) = 1 from rfl]
        have hps := HIV.out.ps 1 (by decide)
        have hwh := HGr.out.blk HW14.out kt33
        have wh0 := hwh.cell 0
        have wh1 := hwh.cell 1
        simp at wh0 wh1
        have hreg := registers_any wr B v _ V (whoK 1) (γ 1) HGr.out.env (Who.k (by decide)) hps.ok hps.rg (by omega)
        have hmem := fun W (h : Env W B v V (135 + npOf i + 65 * n)) => memoryP_any W B v _ V (whoK 1) (prK (pL i) 1) h hps.has hps.sp (by omega)
        have hsame := HIV.out.same (k := 1) (by decide)
        have hnx := HIV.out.asked (k := 1) (by decide)
        have hneq := fun W => neq51_vals W (γ 1)
        have hgv1 := vals_one (γ 1)
        obtain ⟨gvs, hgvs⟩ : ∃ gvs, gvs = (γ 1).vals.toArray := ⟨_, rfl⟩
        have hgvl : (γ 1).vals.length = 9 := rfl
        have hgvz : gvs.size = 9 := by rw [hgvs]; rfl
        have hgvo : gvs.toList.all (·.oneCell') = true := by rw [hgvs]; exact hgv1
        have hgvi : (Tryz.prog.info? 51).map (·.size) = some gvs.size := by rw [hgvz]; exact info51
        rw [← hgvs] at hreg hneq
        have HSAME := Lib.hid hsame
        have HNX := Lib.hid hnx
        have HPS := Lib.hid hps
        have HGVS := Lib.hid hgvs
        clear hwh hps hsame hnx hgv1 hgvs HIV
        go_wp2_with fail
        refine hreg.mono ?_
        rintro e w5 ⟨rfl, nb⟩
        have HG5 := Lib.hid (HGr.out.below nb)
        clear nb wh0 wh1 hreg HGr
        have HY0 := Lib.hid (Blk.new w5 51 #[.int .u32 0, .int .u32 0, .int .u32 0, .int .u32 0, .int .u32 0, .int .u32 0, .int .u32 0, .int .u32 0, .int .u32 0])
        obtain ⟨Y, hY⟩ : ∃ Y, Y = w5.heap.size := ⟨_, rfl⟩
        go_upto_region 41 with (refine wpList_store_blk rfl 51 (.tmp 24) (.tmp 178) rfl w5.heap.size rfl _ rfl HY0.out hgvz hgvi hgvo ?_; intro w6 hk6 hf6)
        have hb6 : Below w5.heap.size w5 w6 := belowFr1 ((Below.refl _ _).alloc (Nat.le_refl _) _) hf6 (Nat.le_refl _) (Nat.le_refl _)
        rw [← hY] at hk6 ⊢
        have HY6 := Lib.hid hk6
        have HG6 := Lib.hid (HG5.out.below hb6)
        clear hk6 hf6 hb6 hY HY0 HG5
        have hwh := HG6.out.blk HW14.out kt33
        have wh0 := hwh.cell 0
        have wh1 := hwh.cell 1
        simp at wh0 wh1
        clear hwh
        go_wp2_with fail
        refine (hmem _ HG6.out.env).mono ?_
        rintro e w7 ⟨root, box, ob, vb, pb, gv, rfl, hroot, hblk, hE, f7⟩
        have hE' := vSrcE_drew hE
        have hf7 := vf_drew f7
        have HG7 := Lib.hid (HG6.out.vf hf7 hE'.2.env)
        have HY7 : Hid (Blk w7.drew Y 51 gvs) := Lib.hid (hf7.blk HY6.out (by decide) (by decide))
        have heq := HG6.out.equal hf7 (k := 1) (by decide) hroot hblk.drew hE' (by rw [HPS.out.sp]; exact Who.k (by decide)) HPS.out.pg HPS.out.has.ok.pages (by omega) HSAME.out
        have HEQ := Lib.hid heq
        clear hroot hblk hE f7 hE' hf7 heq HG6 HY6 hmem wh0 wh1 HSAME HPS
        go_upto_region 42 with (fail)
        refine wp_region_mixL (fun W => Blk W Y 51 gvs ∧ Blk W R 52 (rgs γ) ∧ Blk W F 47 #[.pointer (some ⟨f 0, 0, none⟩), .pointer (some ⟨f 1, 0, none⟩)]) [7, 10, 17, 18] [18] [0, 1, 2, 3, 4, 5, 6, 7, 8, 9, 10, 11, 12, 13, 14, 15, 16, 17, 18, 19, 20] (by kernel_rfl) (by kernel_rfl) ⟨HY7.out, HG7.out.rg, HG7.out.blk HF14.out kt47⟩ ?_
        simp only [inOrder, opAt]
        generalize w7.drew = W7 at *
        iterate 7
          (refine wpMixS_read (v := ?_) rfl rfl (fun w' hS => ?_) ?_
           rotate_left
           · ((try (clear hS)); go_simp; (try with_reducible rfl))
           try simp only [Act.put, List.setIfInBounds_toArray, List.set_cons_zero, List.set_cons_succ])
        refine wpMixS_row rfl rfl 51 (.tmp 24) rfl Y 0 rfl gvs.toList _ (fun w' hS => blk_range (hS rfl).1) Tryz.underlying51 rfl (by rw [Array.length_toList]; exact hgvi) ?_
        simp only [Act.put, List.setIfInBounds_toArray, List.set_cons_zero, List.set_cons_succ, Array.toArray_toList]
        iterate 2
          (refine wpMixS_read (v := ?_) rfl rfl (fun w' hS => ?_) ?_
           rotate_left
           · ((try (clear hS)); go_simp; (try with_reducible rfl))
           try simp only [Act.put, List.setIfInBounds_toArray, List.set_cons_zero, List.set_cons_succ])
        refine wpMixS_row rfl rfl 51 (.tmp 198) rfl R 9 rfl (γ 1).vals _ (fun w' hS => rgs_range (hS rfl).2.1 (k := 1) (by decide)) Tryz.underlying51 rfl info51 ?_
        simp only [Act.put, List.setIfInBounds_toArray, List.set_cons_zero, List.set_cons_succ]
        rw [← HGVS.out]
        iterate 7
          (refine wpMixS_read (v := ?_) rfl rfl (fun w' hS => ?_) ?_
           rotate_left
           · ((try (obtain ⟨t0, t1, t⟩ := hS rfl; clear t0 t1; have t0 := t.cell 0; have t1 := t.cell 1; simp at t0 t1; clear t)); go_simp; (try with_reducible rfl))
           try simp only [Act.put, List.setIfInBounds_toArray, List.set_cons_zero, List.set_cons_succ])
        refine wpMixS_eff rfl rfl (fun K hK => ?_)
        go_simp
        refine HEQ.out.mono ?_
        rintro e w8 ⟨rfl, hg8, hk8⟩
        have HG8 := Lib.hid hg8
        refine hK.out _ _ _ (fun _ h => h) (fun _ => ⟨hk8 _ _ _ HY7.out (by decide) (by decide), hg8.rg, hg8.blk HF14.out kt47⟩) ?_
        clear hK K hg8 hk8 HEQ HG7 HY7
        try simp only [Act.put, List.setIfInBounds_toArray, List.set_cons_zero, List.set_cons_succ]
        iterate 2
          (refine wpMixS_read (v := ?_) rfl rfl (fun w' hS => ?_) ?_
           rotate_left
           · ((try (clear hS)); go_simp; (try with_reducible rfl))
           try simp only [Act.put, List.setIfInBounds_toArray, List.set_cons_zero, List.set_cons_succ])
        refine wpMixS_nil ?_
        go_wp2_with fail
        go_roundg (2 - 2)
        case measure => omega
        case rel => exact ⟨2, _, by decide, rfl, rfl, HNX.out, HG8.out⟩
      · rw [show (((2 : Nat)) : Int) = 2 from rfl]
        go_wp2_with fail
        go_ret
        exact ⟨rfl, HB14.out.trans HGr.out.bl⟩
    case neg =>
      have i2 : ¬ ((n : Int) < (l.length : Int)) := by omega
      go_upto_region 37 with (fail)
      go_wp2_with fail
      go_loopg [23] 2 (fun q kv wr => ∃ (k : Nat) (a' : Nat → AS), k ≤ 2 ∧ q = 2 - k ∧ kv = .int .i64 (k : Int) ∧ Inv V (pL i) γ a' ∧ Gs w14 w.heap.size B B2 v R f wr V (135 + npOf i + 65 * n) γ a')
      case atStart => exact ⟨0, a, Nat.zero_le _, rfl, rfl, HIV.out, HGr.out⟩
      case round =>
      obtain ⟨k, a', hk, rfl, rfl, hinv, hgs⟩ := hrel
      have HIV := Lib.hid hinv
      have HGr := Lib.hid hgs
      clear hinv hgs
      rcases (show k = 0 ∨ k = 1 ∨ k = 2 by omega) with rfl | rfl | rfl
      · rw [show (((0 : Nat)) : Int) = 0 from rfl]
        have hps := HIV.out.ps 0 (by decide)
        have hwh := HGr.out.blk HW14.out kt33
        have wh0 := hwh.cell 0
        have wh1 := hwh.cell 1
        simp at wh0 wh1
        have hreg := registers_any wr B v _ V (whoK 0) (γ 0) HGr.out.env (Who.k (by decide)) hps.ok hps.rg (by omega)
        have hmem := fun W (h : Env W B v V (135 + npOf i + 65 * n)) => memoryP_any W B v _ V (whoK 0) (prK (pL i) 0) h hps.has hps.sp (by omega)
        have hsame := HIV.out.same (k := 0) (by decide)
        have hnx := HIV.out.asked (k := 0) (by decide)
        have hneq := fun W => neq51_vals W (γ 0)
        have hgv1 := vals_one (γ 0)
        obtain ⟨gvs, hgvs⟩ : ∃ gvs, gvs = (γ 0).vals.toArray := ⟨_, rfl⟩
        have hgvl : (γ 0).vals.length = 9 := rfl
        have hgvz : gvs.size = 9 := by rw [hgvs]; rfl
        have hgvo : gvs.toList.all (·.oneCell') = true := by rw [hgvs]; exact hgv1
        have hgvi : (Tryz.prog.info? 51).map (·.size) = some gvs.size := by rw [hgvz]; exact info51
        rw [← hgvs] at hreg hneq
        have HSAME := Lib.hid hsame
        have HNX := Lib.hid hnx
        have HPS := Lib.hid hps
        have HGVS := Lib.hid hgvs
        clear hwh hps hsame hnx hgv1 hgvs HIV
        go_wp2_with fail
        refine hreg.mono ?_
        rintro e w5 ⟨rfl, nb⟩
        have HG5 := Lib.hid (HGr.out.below nb)
        clear nb wh0 wh1 hreg HGr
        have HY0 := Lib.hid (Blk.new w5 51 #[.int .u32 0, .int .u32 0, .int .u32 0, .int .u32 0, .int .u32 0, .int .u32 0, .int .u32 0, .int .u32 0, .int .u32 0])
        obtain ⟨Y, hY⟩ : ∃ Y, Y = w5.heap.size := ⟨_, rfl⟩
        go_upto_region 41 with (refine wpList_store_blk rfl 51 (.tmp 24) (.tmp 178) rfl w5.heap.size rfl _ rfl HY0.out hgvz hgvi hgvo ?_; intro w6 hk6 hf6)
        have hb6 : Below w5.heap.size w5 w6 := belowFr1 ((Below.refl _ _).alloc (Nat.le_refl _) _) hf6 (Nat.le_refl _) (Nat.le_refl _)
        rw [← hY] at hk6 ⊢
        have HY6 := Lib.hid hk6
        have HG6 := Lib.hid (HG5.out.below hb6)
        clear hk6 hf6 hb6 hY HY0 HG5
        have hwh := HG6.out.blk HW14.out kt33
        have wh0 := hwh.cell 0
        have wh1 := hwh.cell 1
        simp at wh0 wh1
        clear hwh
        go_wp2_with fail
        refine (hmem _ HG6.out.env).mono ?_
        rintro e w7 ⟨root, box, ob, vb, pb, gv, rfl, hroot, hblk, hE, f7⟩
        have hE' := vSrcE_drew hE
        have hf7 := vf_drew f7
        have HG7 := Lib.hid (HG6.out.vf hf7 hE'.2.env)
        have HY7 : Hid (Blk w7.drew Y 51 gvs) := Lib.hid (hf7.blk HY6.out (by decide) (by decide))
        have heq := HG6.out.equal hf7 (k := 0) (by decide) hroot hblk.drew hE' (by rw [HPS.out.sp]; exact Who.k (by decide)) HPS.out.pg HPS.out.has.ok.pages (by omega) HSAME.out
        have HEQ := Lib.hid heq
        clear hroot hblk hE f7 hE' hf7 heq HG6 HY6 hmem wh0 wh1 HSAME HPS
        go_upto_region 42 with (fail)
        refine wp_region_mixL (fun W => Blk W Y 51 gvs ∧ Blk W R 52 (rgs γ) ∧ Blk W F 47 #[.pointer (some ⟨f 0, 0, none⟩), .pointer (some ⟨f 1, 0, none⟩)]) [7, 10, 17, 18] [18] [0, 1, 2, 3, 4, 5, 6, 7, 8, 9, 10, 11, 12, 13, 14, 15, 16, 17, 18, 19, 20] (by kernel_rfl) (by kernel_rfl) ⟨HY7.out, HG7.out.rg, HG7.out.blk HF14.out kt47⟩ ?_
        simp only [inOrder, opAt]
        generalize w7.drew = W7 at *
        iterate 7
          (refine wpMixS_read (v := ?_) rfl rfl (fun w' hS => ?_) ?_
           rotate_left
           · ((try (clear hS)); go_simp; (try with_reducible rfl))
           try simp only [Act.put, List.setIfInBounds_toArray, List.set_cons_zero, List.set_cons_succ])
        refine wpMixS_row rfl rfl 51 (.tmp 24) rfl Y 0 rfl gvs.toList _ (fun w' hS => blk_range (hS rfl).1) Tryz.underlying51 rfl (by rw [Array.length_toList]; exact hgvi) ?_
        simp only [Act.put, List.setIfInBounds_toArray, List.set_cons_zero, List.set_cons_succ, Array.toArray_toList]
        iterate 2
          (refine wpMixS_read (v := ?_) rfl rfl (fun w' hS => ?_) ?_
           rotate_left
           · ((try (clear hS)); go_simp; (try with_reducible rfl))
           try simp only [Act.put, List.setIfInBounds_toArray, List.set_cons_zero, List.set_cons_succ])
        refine wpMixS_row rfl rfl 51 (.tmp 198) rfl R 0 rfl (γ 0).vals _ (fun w' hS => rgs_range (hS rfl).2.1 (k := 0) (by decide)) Tryz.underlying51 rfl info51 ?_
        simp only [Act.put, List.setIfInBounds_toArray, List.set_cons_zero, List.set_cons_succ]
        rw [← HGVS.out]
        iterate 7
          (refine wpMixS_read (v := ?_) rfl rfl (fun w' hS => ?_) ?_
           rotate_left
           · ((try (obtain ⟨t0, t1, t⟩ := hS rfl; clear t0 t1; have t0 := t.cell 0; have t1 := t.cell 1; simp at t0 t1; clear t)); go_simp; (try with_reducible rfl))
           try simp only [Act.put, List.setIfInBounds_toArray, List.set_cons_zero, List.set_cons_succ])
        refine wpMixS_eff rfl rfl (fun K hK => ?_)
        go_simp
        refine HEQ.out.mono ?_
        rintro e w8 ⟨rfl, hg8, hk8⟩
        have HG8 := Lib.hid hg8
        refine hK.out _ _ _ (fun _ h => h) (fun _ => ⟨hk8 _ _ _ HY7.out (by decide) (by decide), hg8.rg, hg8.blk HF14.out kt47⟩) ?_
        clear hK K hg8 hk8 HEQ HG7 HY7
        try simp only [Act.put, List.setIfInBounds_toArray, List.set_cons_zero, List.set_cons_succ]
        iterate 2
          (refine wpMixS_read (v := ?_) rfl rfl (fun w' hS => ?_) ?_
           rotate_left
           · ((try (clear hS)); go_simp; (try with_reducible rfl))
           try simp only [Act.put, List.setIfInBounds_toArray, List.set_cons_zero, List.set_cons_succ])
        refine wpMixS_nil ?_
        go_wp2_with fail
        go_roundg (2 - 1)
        case measure => omega
        case rel => exact ⟨1, _, by decide, rfl, rfl, HNX.out, HG8.out⟩
      · rw [show (((1 : Nat)) : Int) = 1 from rfl]
        have hps := HIV.out.ps 1 (by decide)
        have hwh := HGr.out.blk HW14.out kt33
        have wh0 := hwh.cell 0
        have wh1 := hwh.cell 1
        simp at wh0 wh1
        have hreg := registers_any wr B v _ V (whoK 1) (γ 1) HGr.out.env (Who.k (by decide)) hps.ok hps.rg (by omega)
        have hmem := fun W (h : Env W B v V (135 + npOf i + 65 * n)) => memoryP_any W B v _ V (whoK 1) (prK (pL i) 1) h hps.has hps.sp (by omega)
        have hsame := HIV.out.same (k := 1) (by decide)
        have hnx := HIV.out.asked (k := 1) (by decide)
        have hneq := fun W => neq51_vals W (γ 1)
        have hgv1 := vals_one (γ 1)
        obtain ⟨gvs, hgvs⟩ : ∃ gvs, gvs = (γ 1).vals.toArray := ⟨_, rfl⟩
        have hgvl : (γ 1).vals.length = 9 := rfl
        have hgvz : gvs.size = 9 := by rw [hgvs]; rfl
        have hgvo : gvs.toList.all (·.oneCell') = true := by rw [hgvs]; exact hgv1
        have hgvi : (Tryz.prog.info? 51).map (·.size) = some gvs.size := by rw [hgvz]; exact info51
        rw [← hgvs] at hreg hneq
        have HSAME := Lib.hid hsame
        have HNX := Lib.hid hnx
        have HPS := Lib.hid hps
        have HGVS := Lib.hid hgvs
        clear hwh hps hsame hnx hgv1 hgvs HIV
        go_wp2_with fail
        refine hreg.mono ?_
        rintro e w5 ⟨rfl, nb⟩
        have HG5 := Lib.hid (HGr.out.below nb)
        clear nb wh0 wh1 hreg HGr
        have HY0 := Lib.hid (Blk.new w5 51 #[.int .u32 0, .int .u32 0, .int .u32 0, .int .u32 0, .int .u32 0, .int .u32 0, .int .u32 0, .int .u32 0, .int .u32 0])
        obtain ⟨Y, hY⟩ : ∃ Y, Y = w5.heap.size := ⟨_, rfl⟩
        go_upto_region 41 with (refine wpList_store_blk rfl 51 (.tmp 24) (.tmp 178) rfl w5.heap.size rfl _ rfl HY0.out hgvz hgvi hgvo ?_; intro w6 hk6 hf6)
        have hb6 : Below w5.heap.size w5 w6 := belowFr1 ((Below.refl _ _).alloc (Nat.le_refl _) _) hf6 (Nat.le_refl _) (Nat.le_refl _)
        rw [← hY] at hk6 ⊢
        have HY6 := Lib.hid hk6
        have HG6 := Lib.hid (HG5.out.below hb6)
        clear hk6 hf6 hb6 hY HY0 HG5
        have hwh := HG6.out.blk HW14.out kt33
        have wh0 := hwh.cell 0
        have wh1 := hwh.cell 1
        simp at wh0 wh1
        clear hwh
        go_wp2_with fail
        refine (hmem _ HG6.out.env).mono ?_
        rintro e w7 ⟨root, box, ob, vb, pb, gv, rfl, hroot, hblk, hE, f7⟩
        have hE' := vSrcE_drew hE
        have hf7 := vf_drew f7
        have HG7 := Lib.hid (HG6.out.vf hf7 hE'.2.env)
        have HY7 : Hid (Blk w7.drew Y 51 gvs) := Lib.hid (hf7.blk HY6.out (by decide) (by decide))
        have heq := HG6.out.equal hf7 (k := 1) (by decide) hroot hblk.drew hE' (by rw [HPS.out.sp]; exact Who.k (by decide)) HPS.out.pg HPS.out.has.ok.pages (by omega) HSAME.out
        have HEQ := Lib.hid heq
        clear hroot hblk hE f7 hE' hf7 heq HG6 HY6 hmem wh0 wh1 HSAME HPS
        go_upto_region 42 with (fail)
        refine wp_region_mixL (fun W => Blk W Y 51 gvs ∧ Blk W R 52 (rgs γ) ∧ Blk W F 47 #[.pointer (some ⟨f 0, 0, none⟩), .pointer (some ⟨f 1, 0, none⟩)]) [7, 10, 17, 18] [18] [0, 1, 2, 3, 4, 5, 6, 7, 8, 9, 10, 11, 12, 13, 14, 15, 16, 17, 18, 19, 20] (by kernel_rfl) (by kernel_rfl) ⟨HY7.out, HG7.out.rg, HG7.out.blk HF14.out kt47⟩ ?_
        simp only [inOrder, opAt]
        generalize w7.drew = W7 at *
        iterate 7
          (refine wpMixS_read (v := ?_) rfl rfl (fun w' hS => ?_) ?_
           rotate_left
           · ((try (clear hS)); go_simp; (try with_reducible rfl))
           try simp only [Act.put, List.setIfInBounds_toArray, List.set_cons_zero, List.set_cons_succ])
        refine wpMixS_row rfl rfl 51 (.tmp 24) rfl Y 0 rfl gvs.toList _ (fun w' hS => blk_range (hS rfl).1) Tryz.underlying51 rfl (by rw [Array.length_toList]; exact hgvi) ?_
        simp only [Act.put, List.setIfInBounds_toArray, List.set_cons_zero, List.set_cons_succ, Array.toArray_toList]
        iterate 2
          (refine wpMixS_read (v := ?_) rfl rfl (fun w' hS => ?_) ?_
           rotate_left
           · ((try (clear hS)); go_simp; (try with_reducible rfl))
           try simp only [Act.put, List.setIfInBounds_toArray, List.set_cons_zero, List.set_cons_succ])
        refine wpMixS_row rfl rfl 51 (.tmp 198) rfl R 9 rfl (γ 1).vals _ (fun w' hS => rgs_range (hS rfl).2.1 (k := 1) (by decide)) Tryz.underlying51 rfl info51 ?_
        simp only [Act.put, List.setIfInBounds_toArray, List.set_cons_zero, List.set_cons_succ]
        rw [← HGVS.out]
        iterate 7
          (refine wpMixS_read (v := ?_) rfl rfl (fun w' hS => ?_) ?_
           rotate_left
           · ((try (obtain ⟨t0, t1, t⟩ := hS rfl; clear t0 t1; have t0 := t.cell 0; have t1 := t.cell 1; simp at t0 t1; clear t)); go_simp; (try with_reducible rfl))
           try simp only [Act.put, List.setIfInBounds_toArray, List.set_cons_zero, List.set_cons_succ])
        refine wpMixS_eff rfl rfl (fun K hK => ?_)
        go_simp
        refine HEQ.out.mono ?_
        rintro e w8 ⟨rfl, hg8, hk8⟩
        have HG8 := Lib.hid hg8
        refine hK.out _ _ _ (fun _ h => h) (fun _ => ⟨hk8 _ _ _ HY7.out (by decide) (by decide), hg8.rg, hg8.blk HF14.out kt47⟩) ?_
        clear hK K hg8 hk8 HEQ HG7 HY7
        try simp only [Act.put, List.setIfInBounds_toArray, List.set_cons_zero, List.set_cons_succ]
        iterate 2
          (refine wpMixS_read (v := ?_) rfl rfl (fun w' hS => ?_) ?_
           rotate_left
           · ((try (clear hS)); go_simp; (try with_reducible rfl))
           try simp only [Act.put, List.setIfInBounds_toArray, List.set_cons_zero, List.set_cons_succ])
        refine wpMixS_nil ?_
        go_wp2_with fail
        go_roundg (2 - 2)
        case measure => omega
        case rel => exact ⟨2, _, by decide, rfl, rfl, HNX.out, HG8.out⟩
      · rw [show (((2 : Nat)) : Int) = 2 from rfl]
        go_wp2_with fail
        go_ret
        exact ⟨rfl, HB14.out.trans HGr.out.bl⟩
end Go.Proofs.YtkoomlbnfhdhcaaGreatDoor

