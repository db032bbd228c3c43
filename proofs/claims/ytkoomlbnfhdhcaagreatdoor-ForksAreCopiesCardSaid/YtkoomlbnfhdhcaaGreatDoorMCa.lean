/-
  Plain laws: memory as a function from pages, whatever has been asked for; the processor over it.
-/
import Derived.Test.YtkoomlbnfhdhcaaGreatDoorMSg
import Derived.Test.YtkoomlbnfhdhcaaGreatDoorMaps
namespace Go.Proofs.YtkoomlbnfhdhcaaGreatDoor
open Go.RowKit
set_option linter.unusedVariables false
set_option linter.unusedSectionVars false

abbrev Mem := Nat → Option (List UInt8)
/-- What a page holds, asked for or not. -/
def effP (a : AS) (p : Nat) : Option (List UInt8) := if a.known p then a.page p else match a.src with
  | none => none
  | some f => (f p).map padL
/-- What is not known is not there. -/
def Unk (a : AS) : Prop := ∀ p, a.known p = false → a.page p = none
theorem Unk.need {a : AS} (h : Unk a) (p : Nat) : Unk (needA a p) := by
  intro q hq
  unfold needA at hq ⊢
  by_cases hk : a.known p = true
  · rw [if_pos hk] at hq ⊢
    exact h q hq
  · rw [if_neg hk] at hq ⊢
    cases hs : a.src with
    | none =>
      rw [hs] at hq
      have hne : q ≠ p := fun e => by rw [e] at hq; simp [upd] at hq
      exact h q (by simpa [upd, hne] using hq)
    | some f =>
      rw [hs] at hq
      have hne : q ≠ p := fun e => by rw [e] at hq; simp [upd] at hq
      show upd a.page p _ q = none
      rw [upd_ne _ _ _ _ hne]
      exact h q (by simpa [upd, hne] using hq)
theorem need_eff {a : AS} (h : Unk a) (p : Nat) : effP (needA a p) = effP a := by
  funext q
  unfold needA
  by_cases hk : a.known p = true
  · rw [if_pos hk]
  · rw [if_neg hk]
    have hk' : a.known p = false := by simpa using hk
    cases hs : a.src with
    | none =>
      unfold effP
      by_cases e : q = p
      · subst e
        simp only [upd_at, if_true, hk', Bool.false_eq_true, if_false, hs]
        exact h q hk'
      · simp only [upd_ne _ _ _ _ e, hs]
    | some f =>
      unfold effP
      by_cases e : q = p
      · subst e
        simp only [upd_at, if_true, hk', Bool.false_eq_true, if_false, hs]
      · simp only [upd_ne _ _ _ _ e, hs]
theorem need_page {a : AS} (h : Unk a) (p : Nat) : (needA a p).page p = effP a p := by
  unfold needA effP
  by_cases hk : a.known p = true
  · rw [if_pos hk, if_pos hk]
  · rw [if_neg hk, if_neg hk]
    have hk' : a.known p = false := by simpa using hk
    cases hs : a.src with
    | none => exact h p hk'
    | some f => exact upd_at _ _ _
theorem needE_known (a : AS) (p q : Nat) (h : a.known q = true ∨ q = p) : (needA a p).known q = true := by
  unfold needA
  by_cases hk : a.known p = true
  · rw [if_pos hk]
    rcases h with h | h
    · exact h
    · rw [h]; exact hk
  · rw [if_neg hk]
    have : upd a.known p true q = true := by
      by_cases e : q = p
      · rw [e, upd_at]
      · rw [upd_ne _ _ _ _ e]; exact h.resolve_right e
    cases a.src <;> exact this
theorem eff_known {a : AS} {p : Nat} (h : a.known p = true) : effP a p = a.page p := if_pos h

/-! ### Reaching -/
def reachB : Nat → Nat → Mem → Bool
  | 0, _, _ => true
  | c + 1, p, e => (e p).isSome && reachB c (p + 1) e
theorem reach_unk : ∀ (c p : Nat) (a : AS), Unk a → Unk (reachA c p a).1
  | 0, _, _, h => h
  | c + 1, p, a, h => by
    unfold reachA
    split
    · exact reach_unk c _ _ (h.need p)
    · exact h.need p
theorem reach_eff : ∀ (c p : Nat) (a : AS), Unk a → effP (reachA c p a).1 = effP a ∧ (reachA c p a).2 = reachB c p (effP a)
  | 0, _, _, _ => ⟨rfl, rfl⟩
  | c + 1, p, a, h => by
    unfold reachA reachB
    have hp := need_page h p
    have he := need_eff h p
    obtain ⟨r1, r2⟩ := reach_eff c (p + 1) (needA a p) (h.need p)
    by_cases hs : ((needA a p).page p).isSome = true
    · rw [if_pos hs, r1, r2, he]
      rw [hp] at hs
      rw [hs]
      exact ⟨rfl, rfl⟩
    · rw [if_neg hs, he]
      rw [hp] at hs
      refine ⟨rfl, ?_⟩
      rw [Bool.not_eq_true _ |>.mp hs]
      rfl
theorem reach_knows : ∀ (c p : Nat) (a : AS) (q : Nat), a.known q = true → (reachA c p a).1.known q = true
  | 0, _, _, _, h => h
  | c + 1, p, a, q, h => by
    unfold reachA
    split
    · exact reach_knows c _ _ q (needE_known a p q (.inl h))
    · exact needE_known a p q (.inl h)
theorem reach_known : ∀ (c p : Nat) (a : AS), (reachA c p a).2 = true → ∀ q, p ≤ q → q < p + c → (reachA c p a).1.known q = true
  | 0, _, _, _, q, h1, h2 => by omega
  | c + 1, p, a, h, q, h1, h2 => by
    unfold reachA at h ⊢
    by_cases hs : ((needA a p).page p).isSome = true
    · rw [if_pos hs] at h ⊢
      by_cases e : q = p
      · exact reach_knows c _ _ q (needE_known a p q (.inr e))
      · exact reach_known c (p + 1) (needA a p) h q (by omega) (by omega)
    · rw [if_neg hs] at h
      cases h
/-! ### access, Load, Store -/
def accessE (e : Mem) (at_ n : Int) : Nat :=
  if n = 0 then 0 else if at_ < 0 ∨ 4096 ≤ at_ ∨ 4096 - at_ < n then 23
  else errOf (reachB (((at_ + n - 1) / 64).toNat + 1 - (at_ / 64).toNat) (at_ / 64).toNat e)
theorem access_unk {a : AS} (h : Unk a) (at_ n : Int) : Unk (accessA a at_ n).1 := by
  unfold accessA
  split
  · exact h
  · split
    · exact h
    · exact reach_unk _ _ _ h
theorem access_eff {a : AS} (h : Unk a) (at_ n : Int) : effP (accessA a at_ n).1 = effP a ∧ (accessA a at_ n).2 = accessE (effP a) at_ n := by
  unfold accessA accessE
  by_cases h0 : n = 0
  · rw [if_pos h0, if_pos h0]; exact ⟨rfl, rfl⟩
  · rw [if_neg h0, if_neg h0]
    by_cases h1 : at_ < 0 ∨ 4096 ≤ at_ ∨ 4096 - at_ < n
    · rw [if_pos h1, if_pos h1]; exact ⟨rfl, rfl⟩
    · rw [if_neg h1, if_neg h1]
      obtain ⟨r1, r2⟩ := reach_eff (((at_ + n - 1) / 64).toNat + 1 - (at_ / 64).toNat) (at_ / 64).toNat a h
      exact ⟨r1, congrArg errOf r2⟩
theorem errOf_zero {b : Bool} (h : errOf b = 0) : b = true := by
  cases b
  · exact absurd h (by decide)
  · rfl
/-- The pages that are accessed are known then. -/
theorem access_known {a : AS} {at_ n : Int} (h0 : (accessA a at_ n).2 = 0) (hn : 0 ≤ n) (i : Nat) (hi : (i : Int) < n) : (accessA a at_ n).1.known ((at_.toNat + i) / 64) = true ∧ 0 ≤ at_ := by
  unfold accessA at h0 ⊢
  by_cases c0 : n = 0
  · omega
  · rw [if_neg c0] at h0 ⊢
    by_cases c1 : at_ < 0 ∨ 4096 ≤ at_ ∨ 4096 - at_ < n
    · rw [if_pos c1] at h0
      exact absurd h0 (by show ¬ (23 = 0); decide)
    · rw [if_neg c1] at h0 ⊢
      refine ⟨reach_known _ _ _ (errOf_zero h0) _ ?_ ?_, by omega⟩
      · omega
      · omega
def byteE (e : Mem) (x : Nat) : UInt8 := ((e (x / 64)).getD []).getD (x % 64) 0
def bytesE (e : Mem) (x n : Nat) : List UInt8 := (List.range n).map fun i => byteE e (x + i)
def loadE (e : Mem) (at_ n : Int) : List UInt8 × Nat :=
  if n < 0 then ([], 2) else (if accessE e at_ n = 0 then bytesE e at_.toNat n.toNat else [], accessE e at_ n)
theorem load_unk {a : AS} (h : Unk a) (at_ n : Int) : Unk (loadA a at_ n).1 := by
  unfold loadA
  split
  · exact h
  · exact access_unk h _ _
theorem load_eff {a : AS} (h : Unk a) (at_ n : Int) : effP (loadA a at_ n).1 = effP a ∧ (loadA a at_ n).2 = loadE (effP a) at_ n := by
  unfold loadA loadE
  by_cases h0 : n < 0
  · rw [if_pos h0, if_pos h0]; exact ⟨rfl, rfl⟩
  · rw [if_neg h0, if_neg h0]
    obtain ⟨r1, r2⟩ := access_eff h at_ n
    refine ⟨r1, ?_⟩
    show (_, _) = (_, _)
    by_cases hz : (accessA a at_ n).2 = 0
    · rw [if_pos hz, if_pos (by rw [← r2]; exact hz), r2]
      refine Prod.ext ?_ rfl
      show bytesA _ _ _ = bytesE _ _ _
      unfold bytesA bytesE
      refine List.map_congr_left fun i hi => ?_
      have hi := List.mem_range.1 hi
      have hk := (access_known hz (by omega) i (by omega)).1
      unfold byteA byteE
      rw [← r1, eff_known hk]
    · rw [if_neg hz, if_neg (by rw [← r2]; exact hz), r2]
def stepE (e : Mem) (x : Nat) (v : UInt8) : Mem := upd e (x / 64) (some (((e (x / 64)).getD []).set (x % 64) v))
def storeGoE (e : Mem) (x : Nat) (l : List UInt8) : Nat → Mem
  | 0 => e
  | k + 1 => stepE (storeGoE e x l k) (x + k) (l.getD k 0)
def storeE (e : Mem) (at_ : Int) (l : List UInt8) : Mem × Nat :=
  (if accessE e at_ l.length = 0 then storeGoE e at_.toNat l l.length else e, accessE e at_ l.length)
theorem storeGo_known (a : AS) (x : Nat) (l : List UInt8) : ∀ k, (storeGo a x l k).known = a.known
  | 0 => rfl
  | k + 1 => storeGo_known a x l k
theorem storeGo_src (a : AS) (x : Nat) (l : List UInt8) : ∀ k, (storeGo a x l k).src = a.src
  | 0 => rfl
  | k + 1 => storeGo_src a x l k
theorem storeGo_asked (a : AS) (x : Nat) (l : List UInt8) : ∀ k, (storeGo a x l k).asked = a.asked
  | 0 => rfl
  | k + 1 => storeGo_asked a x l k
theorem storeGo_unk {a : AS} (h : Unk a) (x : Nat) (l : List UInt8) : ∀ k, (∀ i, i < k → a.known ((x + i) / 64) = true) → Unk (storeGo a x l k)
  | 0, _ => h
  | k + 1, hk => by
    have ih := storeGo_unk h x l k (fun i hi => hk i (by omega))
    intro p hp
    have hp' : a.known p = false := by rw [← storeGo_known a x l (k + 1)]; exact hp
    show upd _ ((x + k) / 64) _ p = none
    have hne : p ≠ (x + k) / 64 := fun e => by rw [e, hk k (by omega)] at hp'; cases hp'
    rw [upd_ne _ _ _ _ hne]
    exact ih p (by rw [storeGo_known]; exact hp')
theorem storeGo_eff (a : AS) (x : Nat) (l : List UInt8) : ∀ k, (∀ i, i < k → a.known ((x + i) / 64) = true) → effP (storeGo a x l k) = storeGoE (effP a) x l k
  | 0, _ => rfl
  | k + 1, hk => by
    have ih := storeGo_eff a x l k (fun i hi => hk i (by omega))
    show _ = stepE (storeGoE (effP a) x l k) (x + k) (l.getD k 0)
    rw [← ih]
    have hkn : (storeGo a x l k).known ((x + k) / 64) = true := by rw [storeGo_known]; exact hk k (by omega)
    funext p
    unfold stepE
    by_cases e : p = (x + k) / 64
    · rw [e, upd_at, eff_known hkn, eff_known (show (storeGo a x l (k + 1)).known _ = true from hkn)]
      exact upd_at _ _ _
    · rw [upd_ne _ _ _ _ e]
      unfold effP
      show (if (storeGo a x l k).known p then upd _ ((x + k) / 64) _ p else _) = _
      rw [upd_ne _ _ _ _ e]
      rfl
theorem store_unk {a : AS} (h : Unk a) (at_ : Int) (l : List UInt8) : Unk (storeA a at_ l).1 := by
  unfold storeA
  show Unk (if _ then _ else _)
  split
  · rename_i hz
    exact storeGo_unk (access_unk h _ _) _ _ _ fun i hi => (access_known hz (by omega) i (by omega)).1
  · exact access_unk h _ _
theorem store_eff {a : AS} (h : Unk a) (at_ : Int) (l : List UInt8) : effP (storeA a at_ l).1 = (storeE (effP a) at_ l).1 ∧ (storeA a at_ l).2 = (storeE (effP a) at_ l).2 := by
  obtain ⟨r1, r2⟩ := access_eff h at_ l.length
  refine ⟨?_, r2⟩
  unfold storeA storeE
  show effP (if _ then _ else _) = if _ then _ else _
  by_cases hz : (accessA a at_ l.length).2 = 0
  · rw [if_pos hz, if_pos (by rw [← r2]; exact hz), storeGo_eff _ _ _ _ fun i hi => (access_known hz (by omega) i (by omega)).1, r1]
  · rw [if_neg hz, if_neg (by rw [← r2]; exact hz), r1]

/-! ### The processor -/
structure Rg where
  r : Nat → Int
  pc : Int
structure Rg.Ok (g : Rg) : Prop where
  r0 : ∀ k, 0 ≤ g.r k
  r1 : ∀ k, g.r k < 4294967296
  p0 : 0 ≤ g.pc
  p1 : g.pc < 4294967296
structure Ins where
  op : Nat
  a : Nat
  b : Nat
  c : Int
structure End where
  why : Int
  num : Int
  adr : Int
def goOn : End := ⟨0, 0, 0⟩
/-- Form, least and greatest number of an operation. -/
def opT : Nat → Nat × Int × Int
  | 0 => (0, 0, 0)
  | 1 => (2, 0, 0)
  | 2 => (4, -32768, 32767)
  | 3 => (4, 0, 65535)
  | 16 | 17 | 18 | 19 | 20 => (5, -32768, 32767)
  | 21 => (6, 0, 4095)
  | 22 | 23 | 24 => (4, 0, 4095)
  | 25 => (1, 0, 0)
  | 26 => (6, 0, 255)
  | _ => (3, 0, 0)
def fA (f : Nat) : Bool := f != 0 && f != 6
def fB (f : Nat) : Bool := f == 2 || f == 3 || f == 5
def fN (f : Nat) : Bool := f == 4 || f == 5 || f == 6
def isR (n : Int) : Bool := decide (0 ≤ n ∧ n < 8)
/-- Check of an operation of a form. -/
def chkF (f : Nat) (lo hi a b c : Int) : Nat :=
  if (fA f = false ∧ a ≠ 0) ∨ (fB f = false ∧ b ≠ 0) ∨ ((f = 3 ∨ fN f = true) → False) ∧ c ≠ 0 then 1
  else if isR a = false ∨ isR b = false then 2
  else if (f = 3 ∧ isR c = false) ∨ (fN f = true ∧ (c < lo ∨ hi < c)) then 2
  else 0
/-- Check: the first error. -/
def checkI (op a b c : Int) : Nat := if op < 0 ∨ 27 ≤ op then 11 else chkF (opT op.toNat).1 (opT op.toNat).2.1 (opT op.toNat).2.2 a b c
def cOf (b0 : Nat) (z : Int) : Int := if (opT b0).2.1 < 0 ∧ 32768 ≤ z then z - 65536 else z
def decI (b0 b1 b2 b3 : Nat) : Option Ins :=
  if 27 ≤ b0 then none
  else if checkI b0 ((b1 : Int) / 16) ((b1 : Int) % 16) (cOf b0 (b2 + 256 * b3)) = 0 then some ⟨b0, b1 / 16, b1 % 16, cOf b0 (b2 + 256 * b3)⟩ else none
end Go.Proofs.YtkoomlbnfhdhcaaGreatDoor

/-
  Walks: what the arithmetic operations calculate.
-/
namespace Go.Proofs.YtkoomlbnfhdhcaaGreatDoor
open Go.RowKit
set_option linter.unusedVariables false
set_option linter.unusedSectionVars false

/-! ### Maps that are filled -/
structure MapF {κ : Type} (enc : κ → Value) (C : κ → Prop) (W : World) (b : Nat) (m : List (κ × Value)) (w : World) : Prop where
  mi : MapIs enc C w b m
  fr : Fr [b] W w
section
variable {κ : Type} {enc : κ → Value} {C : κ → Prop} {P : Program} {W w : World} {ops : Array Oper} {rest : List Oper} {o : Oper} {a : Act} {Q : Exit → Act → World → Prop} {b : Nat} {m : List (κ × Value)}
theorem wpList_insert_mf [DecidableEq κ] {k e t : TypeId} (K : KeyOk P k enc C) (hg : o.guard = none) (x y z : Operand) (hop : o.op = Op.insert t x y z) (ht : P.underlying t = some (.map k e)) (hm : a.eval x = .map (some b)) (key : κ) (hy : a.eval y = enc key) (hC : C key) (v : Value) (hz : a.eval z = v)
    (h : MapF enc C W b m w) (hK : ∀ w', MapF enc C W b (mput key v m) w' → wpList P ops Q rest (a.put o.dst undef) w') :
    wpList P ops Q (o :: rest) a w := by
  refine wpList_plain hg fun K' hK' => ?_
  obtain ⟨w', hrun, r1, r2⟩ := run_update_map K ht h.mi key hC v
  unfold Oper.wp
  simp [execOp, hop, hm, hy, hz, hrun, Result.andThen]
  exact hK' _ _ (hK w' ⟨r1, h.fr.trans r2 (by simp)⟩)
end

def encI (x : Int) : Value := .int .i64 x
def Pg (x : Int) : Prop := 0 ≤ x ∧ x < 64
theorem keyI : KeyOk Tryz.prog 3 encI Pg :=
  keyOk_of_keyed (Maps.int_keyed Tryz.underlying3) (fun x hx => by
    obtain ⟨h1, h2⟩ := hx
    refine ⟨_, Maps.keyOf_int_mk Tryz.underlying3 (a := x) ?_⟩
    simp [Lit.wf, IntKind.min, IntKind.max, IntKind.bits, IntKind.signed]
    omega) (fun x y _ _ h => by
    unfold encI at h
    injection h)
abbrev MI := MapIs encI Pg

/-! ### Numbers -/
def sgn (x : Int) : Int := if x < 2147483648 then x else x - 4294967296
theorem wrap32_eq (x : Int) (h0 : 0 ≤ x) (h1 : x < 4294967296) : wrap64 (wrap32 x) = sgn x := by
  have e : wrap32 x = sgn x := by
    unfold wrap32 sgn
    split <;> omega
  rw [e, IntWalk.wrap64_in _ (by unfold sgn; split <;> omega)]
theorem sgn_lo (x : Int) (h0 : 0 ≤ x) : -2147483648 ≤ sgn x := by unfold sgn; split <;> omega
theorem sgn_hi (x : Int) (h1 : x < 4294967296) : sgn x < 2147483648 := by unfold sgn; split <;> omega
theorem sgn_zero (x : Int) (h0 : 0 ≤ x) (h1 : x < 4294967296) (h : x ≠ 0) : sgn x ≠ 0 := by unfold sgn; split <;> omega
theorem unsigned_any (w : World) (x : Int) : Calls Tryz.prog 126 #[.int .i64 x] w fun e w' => e = .returned (.int .u32 (x % 4294967296)) ∧ w = w' := by
  go_enter Tryz.func126, Tryz.ntmps126
  go_wp2_with fail
  go_ret
  exact ⟨rfl, rfl⟩
theorem signed_any (w : World) (x : Int) (h0 : 0 ≤ x) (h1 : x < 4294967296) : Calls Tryz.prog 179 #[.int .u32 x] w fun e w' => e = .returned (.int .i64 (sgn x)) ∧ w = w' := by
  have h := wrap32_eq x h0 h1
  go_enter Tryz.func179, Tryz.ntmps179
  go_wp2_with fail
  go_ret
  exact ⟨by rw [← h]; rfl, rfl⟩
def tru (b : Bool) : Int := if b then 1 else 0
theorem truth_any (w : World) (b : Bool) : Calls Tryz.prog 187 #[.bool b] w fun e w' => e = .returned (.int .u32 (tru b)) ∧ w = w' := by
  cases b
  all_goals
    go_enter Tryz.func187, Tryz.ntmps187
    go_wp2_with fail
    go_ret
    exact ⟨rfl, rfl⟩
/-- What the operations from Add to Equal calculate; y is not 0 for Div and Mod. -/
def calcV (op : Nat) (x y : Int) : Int := match op with
  | 4 => (x + y) % 4294967296
  | 5 => (x - y) % 4294967296
  | 6 => x * y % 4294967296
  | 7 => (sgn x).tdiv (sgn y) % 4294967296
  | 8 => (sgn x).tmod (sgn y) % 4294967296
  | 9 => bits .and .u32 x y
  | 10 => bits .or .u32 x y
  | 11 => bits .xor .u32 x y
  | 12 => x * 2 ^ (y % 32).toNat % 4294967296
  | 13 => x / 2 ^ (y % 32).toNat
  | 14 => tru (decide (sgn x < sgn y))
  | _ => tru (x == y)
section
variable (w : World) (x y : Int) (x0 : 0 ≤ x) (x1 : x < 4294967296) (y0 : 0 ≤ y) (y1 : y < 4294967296)
include x0 x1 y0 y1
theorem add_any : Calls Tryz.prog 175 #[.int .u32 x, .int .u32 y] w fun e w' => e = .returned (.int .u32 (calcV 4 x y)) ∧ w = w' := by
  go_enter Tryz.func175, Tryz.ntmps175
  go_wp2_with fail
  go_ret
  exact ⟨rfl, rfl⟩
theorem sub_any : Calls Tryz.prog 176 #[.int .u32 x, .int .u32 y] w fun e w' => e = .returned (.int .u32 (calcV 5 x y)) ∧ w = w' := by
  go_enter Tryz.func176, Tryz.ntmps176
  go_wp2_with fail
  go_ret
  exact ⟨rfl, rfl⟩
theorem mul_any : Calls Tryz.prog 177 #[.int .u32 x, .int .u32 y] w fun e w' => e = .returned (.int .u32 (calcV 6 x y)) ∧ w = w' := by
  go_enter Tryz.func177, Tryz.ntmps177
  go_wp2_with fail
  go_ret
  exact ⟨rfl, rfl⟩
theorem div_any (hy : y ≠ 0) : Calls Tryz.prog 178 #[.int .u32 x, .int .u32 y] w fun e w' => e = .returned (.int .u32 (calcV 7 x y)) ∧ w = w' := by
  have hz := sgn_zero y y0 y1 hy
  have hz2 : (sgn y == 0) = false := beq_eq_false_iff_ne.2 hz
  have l1 := sgn_lo x x0
  have l2 := sgn_hi x x1
  have h6 : IntKind.i64.wrap ((sgn x).tdiv (sgn y)) = (sgn x).tdiv (sgn y) := IntWalk.i64_in _ (by
    have := Int.natAbs_tdiv_le_natAbs (sgn x) (sgn y)
    omega)
  go_enter Tryz.func178, Tryz.ntmps178
  go_wp2_with fail
  refine (signed_any w x x0 x1).mono ?_
  rintro e w' ⟨rfl, rfl⟩
  dsimp only
  go_wp2_with fail
  refine (signed_any w y y0 y1).mono ?_
  rintro e w' ⟨rfl, rfl⟩
  dsimp only
  go_wp2_with fail
  refine (unsigned_any w _).mono ?_
  rintro e w' ⟨rfl, rfl⟩
  dsimp only
  go_wp2_with fail
  go_ret
  exact ⟨rfl, rfl⟩
theorem mod_any (hy : y ≠ 0) : Calls Tryz.prog 180 #[.int .u32 x, .int .u32 y] w fun e w' => e = .returned (.int .u32 (calcV 8 x y)) ∧ w = w' := by
  have hz := sgn_zero y y0 y1 hy
  have hz2 : (sgn y == 0) = false := beq_eq_false_iff_ne.2 hz
  have l1 := sgn_lo x x0
  have l2 := sgn_hi x x1
  go_enter Tryz.func180, Tryz.ntmps180
  go_wp2_with fail
  refine (signed_any w x x0 x1).mono ?_
  rintro e w' ⟨rfl, rfl⟩
  dsimp only
  go_wp2_with fail
  refine (signed_any w y y0 y1).mono ?_
  rintro e w' ⟨rfl, rfl⟩
  dsimp only
  go_wp2_with fail
  refine (unsigned_any w _).mono ?_
  rintro e w' ⟨rfl, rfl⟩
  dsimp only
  go_wp2_with fail
  go_ret
  exact ⟨rfl, rfl⟩
theorem and_any : Calls Tryz.prog 181 #[.int .u32 x, .int .u32 y] w fun e w' => e = .returned (.int .u32 (calcV 9 x y)) ∧ w = w' := by
  go_enter Tryz.func181, Tryz.ntmps181
  go_wp2_with fail
  go_ret
  exact ⟨rfl, rfl⟩
theorem or_any : Calls Tryz.prog 182 #[.int .u32 x, .int .u32 y] w fun e w' => e = .returned (.int .u32 (calcV 10 x y)) ∧ w = w' := by
  go_enter Tryz.func182, Tryz.ntmps182
  go_wp2_with fail
  go_ret
  exact ⟨rfl, rfl⟩
theorem xor_any : Calls Tryz.prog 183 #[.int .u32 x, .int .u32 y] w fun e w' => e = .returned (.int .u32 (calcV 11 x y)) ∧ w = w' := by
  go_enter Tryz.func183, Tryz.ntmps183
  go_wp2_with fail
  go_ret
  exact ⟨rfl, rfl⟩
theorem shl_any : Calls Tryz.prog 184 #[.int .u32 x, .int .u32 y] w fun e w' => e = .returned (.int .u32 (calcV 12 x y)) ∧ w = w' := by
  have h1 : y.tmod 32 = y % 32 := Int.tmod_eq_emod_of_nonneg y0
  have h2 : ¬ (y % 32 < 0) := by omega
  go_enter Tryz.func184, Tryz.ntmps184
  go_wp2_with fail
  go_ret
  exact ⟨rfl, rfl⟩
theorem shr_any : Calls Tryz.prog 185 #[.int .u32 x, .int .u32 y] w fun e w' => e = .returned (.int .u32 (calcV 13 x y)) ∧ w = w' := by
  have h1 : y.tmod 32 = y % 32 := Int.tmod_eq_emod_of_nonneg y0
  have h2 : ¬ (y % 32 < 0) := by omega
  go_enter Tryz.func185, Tryz.ntmps185
  go_wp2_with fail
  go_ret
  exact ⟨rfl, rfl⟩
theorem less_any : Calls Tryz.prog 186 #[.int .u32 x, .int .u32 y] w fun e w' => e = .returned (.int .u32 (calcV 14 x y)) ∧ w = w' := by
  go_enter Tryz.func186, Tryz.ntmps186
  go_wp2_with fail
  refine (signed_any w x x0 x1).mono ?_
  rintro e w' ⟨rfl, rfl⟩
  dsimp only
  go_wp2_with fail
  refine (signed_any w y y0 y1).mono ?_
  rintro e w' ⟨rfl, rfl⟩
  dsimp only
  go_wp2_with fail
  refine (truth_any w _).mono ?_
  rintro e w' ⟨rfl, rfl⟩
  dsimp only
  go_wp2_with fail
  go_ret
  exact ⟨rfl, rfl⟩
theorem equal_any : Calls Tryz.prog 188 #[.int .u32 x, .int .u32 y] w fun e w' => e = .returned (.int .u32 (calcV 15 x y)) ∧ w = w' := by
  go_enter Tryz.func188, Tryz.ntmps188
  go_wp2_with fail
  refine (truth_any w _).mono ?_
  rintro e w' ⟨rfl, rfl⟩
  dsimp only
  go_wp2_with fail
  go_ret
  exact ⟨rfl, rfl⟩
end

/-! ### arithmetic, Calculate -/
def fnV (n : Nat) : Value := .func (.func n) #[] #[]
def arithL : List (Int × Value) := [(4, fnV 175), (5, fnV 176), (6, fnV 177), (7, fnV 178), (8, fnV 180), (9, fnV 181), (10, fnV 182), (11, fnV 183), (12, fnV 184), (13, fnV 185), (14, fnV 186), (15, fnV 188)]
set_option maxRecDepth 100000 in
theorem arith_any (w : World) : Calls Tryz.prog 159 #[] w fun e w' => e = .returned (.map (some w.heap.size)) ∧ MI w' w.heap.size arithL ∧ Below w.heap.size w w' := by
  have hmm := @run_makeMap Tryz.prog
  have h0 : MapF encI Pg (w.alloc (.map #[] 0)) w.heap.size [] (w.alloc (.map #[] 0)) := ⟨MapIs.new w, Fr.refl _ _⟩
  obtain ⟨b, hb⟩ : ∃ b, b = w.heap.size := ⟨_, rfl⟩
  go_enter Tryz.func159, Tryz.ntmps159
  go_wp2_with (first | (refine wpList_insert_mf keyI rfl _ _ _ rfl Tryz.underlying241 rfl _ rfl (by unfold Pg; omega) _ rfl (by assumption) ?_; intro w1 h1) | go_in)
  go_ret
  rename_i h1
  exact ⟨rfl, h1.mi, ((Below.refl w.heap.size w).alloc (Nat.le_refl _) _).trans (h1.fr.below (by simp) (by simp))⟩
/-- Calculate: the word and the error. -/
def calcR (op : Nat) (x y : Int) : Int × Nat := if (op = 7 ∨ op = 8) ∧ y = 0 then (0, 38) else (calcV op x y, 0)
theorem zero128 (w : World) : (zeroValue 239).run Tryz.prog w = .ok .nilFunc w := by kernel_rfl
section
variable (w : World) (x y : Int) (x0 : 0 ≤ x) (x1 : x < 4294967296) (y0 : 0 ≤ y) (y1 : y < 4294967296)
include x0 x1 y0 y1
theorem calc4 : Calls Tryz.prog 133 #[.int .i64 4, .int .u32 x, .int .u32 y] w fun e w' => e = .returned (.tuple #[.int .u32 (calcV 4 x y), .int .i64 0]) ∧ Below w.heap.size w w' := by
  skip
  go_enter Tryz.func133, Tryz.ntmps133
  go_wp2_with fail
  refine (arith_any w).mono ?_
  rintro e w1 ⟨rfl, hmi, nb⟩
  have hl := run_lookup_map (P := Tryz.prog) keyI Tryz.underlying241 zero128 hmi 4 (by unfold Pg; omega) true
  simp only [if_true, show mget arithL (4 : Int) = some (fnV 175) from rfl, Option.getD_some, Option.isSome_some] at hl
  unfold encI fnV at hl
  clear hmi
  dsimp only
  go_wp2_with fail
  refine (add_any w1 x y x0 x1 y0 y1).mono ?_
  rintro e w2 ⟨rfl, rfl⟩
  dsimp only
  go_wp2_with fail
  go_ret2
  exact ⟨rfl, nb⟩
theorem calc5 : Calls Tryz.prog 133 #[.int .i64 5, .int .u32 x, .int .u32 y] w fun e w' => e = .returned (.tuple #[.int .u32 (calcV 5 x y), .int .i64 0]) ∧ Below w.heap.size w w' := by
  skip
  go_enter Tryz.func133, Tryz.ntmps133
  go_wp2_with fail
  refine (arith_any w).mono ?_
  rintro e w1 ⟨rfl, hmi, nb⟩
  have hl := run_lookup_map (P := Tryz.prog) keyI Tryz.underlying241 zero128 hmi 5 (by unfold Pg; omega) true
  simp only [if_true, show mget arithL (5 : Int) = some (fnV 176) from rfl, Option.getD_some, Option.isSome_some] at hl
  unfold encI fnV at hl
  clear hmi
  dsimp only
  go_wp2_with fail
  refine (sub_any w1 x y x0 x1 y0 y1).mono ?_
  rintro e w2 ⟨rfl, rfl⟩
  dsimp only
  go_wp2_with fail
  go_ret2
  exact ⟨rfl, nb⟩
theorem calc6 : Calls Tryz.prog 133 #[.int .i64 6, .int .u32 x, .int .u32 y] w fun e w' => e = .returned (.tuple #[.int .u32 (calcV 6 x y), .int .i64 0]) ∧ Below w.heap.size w w' := by
  skip
  go_enter Tryz.func133, Tryz.ntmps133
  go_wp2_with fail
  refine (arith_any w).mono ?_
  rintro e w1 ⟨rfl, hmi, nb⟩
  have hl := run_lookup_map (P := Tryz.prog) keyI Tryz.underlying241 zero128 hmi 6 (by unfold Pg; omega) true
  simp only [if_true, show mget arithL (6 : Int) = some (fnV 177) from rfl, Option.getD_some, Option.isSome_some] at hl
  unfold encI fnV at hl
  clear hmi
  dsimp only
  go_wp2_with fail
  refine (mul_any w1 x y x0 x1 y0 y1).mono ?_
  rintro e w2 ⟨rfl, rfl⟩
  dsimp only
  go_wp2_with fail
  go_ret2
  exact ⟨rfl, nb⟩
theorem calc7 (hy : y ≠ 0) : Calls Tryz.prog 133 #[.int .i64 7, .int .u32 x, .int .u32 y] w fun e w' => e = .returned (.tuple #[.int .u32 (calcV 7 x y), .int .i64 0]) ∧ Below w.heap.size w w' := by
  have hy2 : (y == 0) = false := beq_eq_false_iff_ne.2 hy
  go_enter Tryz.func133, Tryz.ntmps133
  go_wp2_with fail
  refine (arith_any w).mono ?_
  rintro e w1 ⟨rfl, hmi, nb⟩
  have hl := run_lookup_map (P := Tryz.prog) keyI Tryz.underlying241 zero128 hmi 7 (by unfold Pg; omega) true
  simp only [if_true, show mget arithL (7 : Int) = some (fnV 178) from rfl, Option.getD_some, Option.isSome_some] at hl
  unfold encI fnV at hl
  clear hmi
  dsimp only
  go_wp2_with fail
  refine (div_any w1 x y x0 x1 y0 y1 hy).mono ?_
  rintro e w2 ⟨rfl, rfl⟩
  dsimp only
  go_wp2_with fail
  go_ret2
  exact ⟨rfl, nb⟩
omit y0 y1 in
theorem calc7z : Calls Tryz.prog 133 #[.int .i64 7, .int .u32 x, .int .u32 0] w fun e w' => e = .returned (.tuple #[.int .u32 0, .int .i64 38]) ∧ Below w.heap.size w w' := by
  go_enter Tryz.func133, Tryz.ntmps133
  go_wp2_with fail
  refine (arith_any w).mono ?_
  rintro e w1 ⟨rfl, hmi, nb⟩
  have hl := run_lookup_map (P := Tryz.prog) keyI Tryz.underlying241 zero128 hmi 7 (by unfold Pg; omega) true
  simp only [if_true, show mget arithL (7 : Int) = some (fnV 178) from rfl, Option.getD_some, Option.isSome_some] at hl
  unfold encI fnV at hl
  clear hmi
  dsimp only
  go_wp2_with fail
  go_ret2
  exact ⟨rfl, nb⟩
theorem calc8 (hy : y ≠ 0) : Calls Tryz.prog 133 #[.int .i64 8, .int .u32 x, .int .u32 y] w fun e w' => e = .returned (.tuple #[.int .u32 (calcV 8 x y), .int .i64 0]) ∧ Below w.heap.size w w' := by
  have hy2 : (y == 0) = false := beq_eq_false_iff_ne.2 hy
  go_enter Tryz.func133, Tryz.ntmps133
  go_wp2_with fail
  refine (arith_any w).mono ?_
  rintro e w1 ⟨rfl, hmi, nb⟩
  have hl := run_lookup_map (P := Tryz.prog) keyI Tryz.underlying241 zero128 hmi 8 (by unfold Pg; omega) true
  simp only [if_true, show mget arithL (8 : Int) = some (fnV 180) from rfl, Option.getD_some, Option.isSome_some] at hl
  unfold encI fnV at hl
  clear hmi
  dsimp only
  go_wp2_with fail
  refine (mod_any w1 x y x0 x1 y0 y1 hy).mono ?_
  rintro e w2 ⟨rfl, rfl⟩
  dsimp only
  go_wp2_with fail
  go_ret2
  exact ⟨rfl, nb⟩
omit y0 y1 in
theorem calc8z : Calls Tryz.prog 133 #[.int .i64 8, .int .u32 x, .int .u32 0] w fun e w' => e = .returned (.tuple #[.int .u32 0, .int .i64 38]) ∧ Below w.heap.size w w' := by
  go_enter Tryz.func133, Tryz.ntmps133
  go_wp2_with fail
  refine (arith_any w).mono ?_
  rintro e w1 ⟨rfl, hmi, nb⟩
  have hl := run_lookup_map (P := Tryz.prog) keyI Tryz.underlying241 zero128 hmi 8 (by unfold Pg; omega) true
  simp only [if_true, show mget arithL (8 : Int) = some (fnV 180) from rfl, Option.getD_some, Option.isSome_some] at hl
  unfold encI fnV at hl
  clear hmi
  dsimp only
  go_wp2_with fail
  go_ret2
  exact ⟨rfl, nb⟩
theorem calc9 : Calls Tryz.prog 133 #[.int .i64 9, .int .u32 x, .int .u32 y] w fun e w' => e = .returned (.tuple #[.int .u32 (calcV 9 x y), .int .i64 0]) ∧ Below w.heap.size w w' := by
  skip
  go_enter Tryz.func133, Tryz.ntmps133
  go_wp2_with fail
  refine (arith_any w).mono ?_
  rintro e w1 ⟨rfl, hmi, nb⟩
  have hl := run_lookup_map (P := Tryz.prog) keyI Tryz.underlying241 zero128 hmi 9 (by unfold Pg; omega) true
  simp only [if_true, show mget arithL (9 : Int) = some (fnV 181) from rfl, Option.getD_some, Option.isSome_some] at hl
  unfold encI fnV at hl
  clear hmi
  dsimp only
  go_wp2_with fail
  refine (and_any w1 x y x0 x1 y0 y1).mono ?_
  rintro e w2 ⟨rfl, rfl⟩
  dsimp only
  go_wp2_with fail
  go_ret2
  exact ⟨rfl, nb⟩
theorem calc10 : Calls Tryz.prog 133 #[.int .i64 10, .int .u32 x, .int .u32 y] w fun e w' => e = .returned (.tuple #[.int .u32 (calcV 10 x y), .int .i64 0]) ∧ Below w.heap.size w w' := by
  skip
  go_enter Tryz.func133, Tryz.ntmps133
  go_wp2_with fail
  refine (arith_any w).mono ?_
  rintro e w1 ⟨rfl, hmi, nb⟩
  have hl := run_lookup_map (P := Tryz.prog) keyI Tryz.underlying241 zero128 hmi 10 (by unfold Pg; omega) true
  simp only [if_true, show mget arithL (10 : Int) = some (fnV 182) from rfl, Option.getD_some, Option.isSome_some] at hl
  unfold encI fnV at hl
  clear hmi
  dsimp only
  go_wp2_with fail
  refine (or_any w1 x y x0 x1 y0 y1).mono ?_
  rintro e w2 ⟨rfl, rfl⟩
  dsimp only
  go_wp2_with fail
  go_ret2
  exact ⟨rfl, nb⟩
theorem calc11 : Calls Tryz.prog 133 #[.int .i64 11, .int .u32 x, .int .u32 y] w fun e w' => e = .returned (.tuple #[.int .u32 (calcV 11 x y), .int .i64 0]) ∧ Below w.heap.size w w' := by
  skip
  go_enter Tryz.func133, Tryz.ntmps133
  go_wp2_with fail
  refine (arith_any w).mono ?_
  rintro e w1 ⟨rfl, hmi, nb⟩
  have hl := run_lookup_map (P := Tryz.prog) keyI Tryz.underlying241 zero128 hmi 11 (by unfold Pg; omega) true
  simp only [if_true, show mget arithL (11 : Int) = some (fnV 183) from rfl, Option.getD_some, Option.isSome_some] at hl
  unfold encI fnV at hl
  clear hmi
  dsimp only
  go_wp2_with fail
  refine (xor_any w1 x y x0 x1 y0 y1).mono ?_
  rintro e w2 ⟨rfl, rfl⟩
  dsimp only
  go_wp2_with fail
  go_ret2
  exact ⟨rfl, nb⟩
theorem calc12 : Calls Tryz.prog 133 #[.int .i64 12, .int .u32 x, .int .u32 y] w fun e w' => e = .returned (.tuple #[.int .u32 (calcV 12 x y), .int .i64 0]) ∧ Below w.heap.size w w' := by
  skip
  go_enter Tryz.func133, Tryz.ntmps133
  go_wp2_with fail
  refine (arith_any w).mono ?_
  rintro e w1 ⟨rfl, hmi, nb⟩
  have hl := run_lookup_map (P := Tryz.prog) keyI Tryz.underlying241 zero128 hmi 12 (by unfold Pg; omega) true
  simp only [if_true, show mget arithL (12 : Int) = some (fnV 184) from rfl, Option.getD_some, Option.isSome_some] at hl
  unfold encI fnV at hl
  clear hmi
  dsimp only
  go_wp2_with fail
  refine (shl_any w1 x y x0 x1 y0 y1).mono ?_
  rintro e w2 ⟨rfl, rfl⟩
  dsimp only
  go_wp2_with fail
  go_ret2
  exact ⟨rfl, nb⟩
theorem calc13 : Calls Tryz.prog 133 #[.int .i64 13, .int .u32 x, .int .u32 y] w fun e w' => e = .returned (.tuple #[.int .u32 (calcV 13 x y), .int .i64 0]) ∧ Below w.heap.size w w' := by
  skip
  go_enter Tryz.func133, Tryz.ntmps133
  go_wp2_with fail
  refine (arith_any w).mono ?_
  rintro e w1 ⟨rfl, hmi, nb⟩
  have hl := run_lookup_map (P := Tryz.prog) keyI Tryz.underlying241 zero128 hmi 13 (by unfold Pg; omega) true
  simp only [if_true, show mget arithL (13 : Int) = some (fnV 185) from rfl, Option.getD_some, Option.isSome_some] at hl
  unfold encI fnV at hl
  clear hmi
  dsimp only
  go_wp2_with fail
  refine (shr_any w1 x y x0 x1 y0 y1).mono ?_
  rintro e w2 ⟨rfl, rfl⟩
  dsimp only
  go_wp2_with fail
  go_ret2
  exact ⟨rfl, nb⟩
theorem calc14 : Calls Tryz.prog 133 #[.int .i64 14, .int .u32 x, .int .u32 y] w fun e w' => e = .returned (.tuple #[.int .u32 (calcV 14 x y), .int .i64 0]) ∧ Below w.heap.size w w' := by
  skip
  go_enter Tryz.func133, Tryz.ntmps133
  go_wp2_with fail
  refine (arith_any w).mono ?_
  rintro e w1 ⟨rfl, hmi, nb⟩
  have hl := run_lookup_map (P := Tryz.prog) keyI Tryz.underlying241 zero128 hmi 14 (by unfold Pg; omega) true
  simp only [if_true, show mget arithL (14 : Int) = some (fnV 186) from rfl, Option.getD_some, Option.isSome_some] at hl
  unfold encI fnV at hl
  clear hmi
  dsimp only
  go_wp2_with fail
  refine (less_any w1 x y x0 x1 y0 y1).mono ?_
  rintro e w2 ⟨rfl, rfl⟩
  dsimp only
  go_wp2_with fail
  go_ret2
  exact ⟨rfl, nb⟩
theorem calc15 : Calls Tryz.prog 133 #[.int .i64 15, .int .u32 x, .int .u32 y] w fun e w' => e = .returned (.tuple #[.int .u32 (calcV 15 x y), .int .i64 0]) ∧ Below w.heap.size w w' := by
  skip
  go_enter Tryz.func133, Tryz.ntmps133
  go_wp2_with fail
  refine (arith_any w).mono ?_
  rintro e w1 ⟨rfl, hmi, nb⟩
  have hl := run_lookup_map (P := Tryz.prog) keyI Tryz.underlying241 zero128 hmi 15 (by unfold Pg; omega) true
  simp only [if_true, show mget arithL (15 : Int) = some (fnV 188) from rfl, Option.getD_some, Option.isSome_some] at hl
  unfold encI fnV at hl
  clear hmi
  dsimp only
  go_wp2_with fail
  refine (equal_any w1 x y x0 x1 y0 y1).mono ?_
  rintro e w2 ⟨rfl, rfl⟩
  dsimp only
  go_wp2_with fail
  go_ret2
  exact ⟨rfl, nb⟩
theorem calc_any (op : Nat) (h4 : 4 ≤ op) (h15 : op ≤ 15) : Calls Tryz.prog 133 #[.int .i64 op, .int .u32 x, .int .u32 y] w fun e w' => e = .returned (.tuple #[.int .u32 (calcR op x y).1, .int .i64 (calcR op x y).2]) ∧ Below w.heap.size w w' := by
  match op, h4, h15 with
  | 4, _, _ =>
    have hr : calcR 4 x y = (calcV 4 x y, 0) := if_neg (fun h => absurd h.1 (by omega))
    rw [hr]
    exact calc4 w x y x0 x1 y0 y1
  | 5, _, _ =>
    have hr : calcR 5 x y = (calcV 5 x y, 0) := if_neg (fun h => absurd h.1 (by omega))
    rw [hr]
    exact calc5 w x y x0 x1 y0 y1
  | 6, _, _ =>
    have hr : calcR 6 x y = (calcV 6 x y, 0) := if_neg (fun h => absurd h.1 (by omega))
    rw [hr]
    exact calc6 w x y x0 x1 y0 y1
  | 7, _, _ =>
    by_cases hy : y = 0
    · subst hy
      exact calc7z w x x0 x1
    · have hr : calcR 7 x y = (calcV 7 x y, 0) := if_neg (fun h => hy h.2)
      rw [hr]
      exact calc7 w x y x0 x1 y0 y1 hy
  | 8, _, _ =>
    by_cases hy : y = 0
    · subst hy
      exact calc8z w x x0 x1
    · have hr : calcR 8 x y = (calcV 8 x y, 0) := if_neg (fun h => hy h.2)
      rw [hr]
      exact calc8 w x y x0 x1 y0 y1 hy
  | 9, _, _ =>
    have hr : calcR 9 x y = (calcV 9 x y, 0) := if_neg (fun h => absurd h.1 (by omega))
    rw [hr]
    exact calc9 w x y x0 x1 y0 y1
  | 10, _, _ =>
    have hr : calcR 10 x y = (calcV 10 x y, 0) := if_neg (fun h => absurd h.1 (by omega))
    rw [hr]
    exact calc10 w x y x0 x1 y0 y1
  | 11, _, _ =>
    have hr : calcR 11 x y = (calcV 11 x y, 0) := if_neg (fun h => absurd h.1 (by omega))
    rw [hr]
    exact calc11 w x y x0 x1 y0 y1
  | 12, _, _ =>
    have hr : calcR 12 x y = (calcV 12 x y, 0) := if_neg (fun h => absurd h.1 (by omega))
    rw [hr]
    exact calc12 w x y x0 x1 y0 y1
  | 13, _, _ =>
    have hr : calcR 13 x y = (calcV 13 x y, 0) := if_neg (fun h => absurd h.1 (by omega))
    rw [hr]
    exact calc13 w x y x0 x1 y0 y1
  | 14, _, _ =>
    have hr : calcR 14 x y = (calcV 14 x y, 0) := if_neg (fun h => absurd h.1 (by omega))
    rw [hr]
    exact calc14 w x y x0 x1 y0 y1
  | 15, _, _ =>
    have hr : calcR 15 x y = (calcV 15 x y, 0) := if_neg (fun h => absurd h.1 (by omega))
    rw [hr]
    exact calc15 w x y x0 x1 y0 y1
end
end Go.Proofs.YtkoomlbnfhdhcaaGreatDoor

/-
  Walks: Check and Decode of instructions.
-/
namespace Go.Proofs.YtkoomlbnfhdhcaaGreatDoor
open Go.RowKit
set_option linter.unusedVariables false

def opCells (op : Nat) (s : ByteArray) (u v : Bool) : List Value := [.string s, .int .i64 ((opT op).1 : Nat), .int .i64 (opT op).2.1, .int .i64 (opT op).2.2, .bool u, .bool v]
/-- The table of operations. -/
def Ops (w : World) : Prop := 0 < w.heap.size ∧ ∀ op : Nat, op < 27 → ∃ s u v, w.rangeAt 0 (op * 6) (opCells op s u v)
theorem Ops.below {w w' : World} {B : Nat} (h : Ops w) (hb : Below B w w') (hB : 0 < B) : Ops w' :=
  ⟨Nat.lt_of_lt_of_le h.1 hb.size, fun op hop => let ⟨s, u, v, hr⟩ := h.2 op hop; ⟨s, u, v, fun j x hx => by rw [← hr j x hx]; exact hb.cell (by exact hB)⟩⟩
theorem Ops.belowS {w w' : World} (h : Ops w) (hb : Below w.heap.size w w') : Ops w' := h.below hb h.1
theorem isOp_any (w : World) (op : Int) : Calls Tryz.prog 135 #[.int .i64 op] w fun e w' => e = .returned (.bool (decide (0 ≤ op ∧ op < 27))) ∧ w = w' := by
  by_cases h0 : 0 ≤ op
  · by_cases h1 : op < 27
    · have hr : decide (0 ≤ op ∧ op < 27) = true := decide_eq_true ⟨h0, h1⟩
      rw [hr]
      go_enter Tryz.func135, Tryz.ntmps135
      go_wp2_with fail
      go_ret
      exact ⟨rfl, rfl⟩
    · have hr : decide (0 ≤ op ∧ op < 27) = false := decide_eq_false (fun h => h1 h.2)
      rw [hr]
      go_enter Tryz.func135, Tryz.ntmps135
      go_wp2_with fail
      go_ret
      exact ⟨rfl, rfl⟩
  · have hr : decide (0 ≤ op ∧ op < 27) = false := decide_eq_false (fun h => h0 h.1)
    rw [hr]
    go_enter Tryz.func135, Tryz.ntmps135
    go_wp2_with fail
    go_ret
    exact ⟨rfl, rfl⟩
theorem isReg_any (w : World) (op : Int) : Calls Tryz.prog 164 #[.int .i64 op] w fun e w' => e = .returned (.bool (isR op)) ∧ w = w' := by
  unfold isR
  by_cases h0 : 0 ≤ op
  · by_cases h1 : op < 8
    · have hr : decide (0 ≤ op ∧ op < 8) = true := decide_eq_true ⟨h0, h1⟩
      rw [hr]
      go_enter Tryz.func164, Tryz.ntmps164
      go_wp2_with fail
      go_ret
      exact ⟨rfl, rfl⟩
    · have hr : decide (0 ≤ op ∧ op < 8) = false := decide_eq_false (fun h => h1 h.2)
      rw [hr]
      go_enter Tryz.func164, Tryz.ntmps164
      go_wp2_with fail
      go_ret
      exact ⟨rfl, rfl⟩
  · have hr : decide (0 ≤ op ∧ op < 8) = false := decide_eq_false (fun h => h0 h.1)
    rw [hr]
    go_enter Tryz.func164, Tryz.ntmps164
    go_wp2_with fail
    go_ret
    exact ⟨rfl, rfl⟩
theorem hasN_any (w : World) (f : Nat) (hf : f < 7) : Calls Tryz.prog 161 #[.int .i64 (f : Nat)] w fun e w' => e = .returned (.bool (fN f)) ∧ w = w' := by
  match f, hf with
  | 0, _ | 1, _ | 2, _ | 3, _ | 4, _ | 5, _ | 6, _ =>
    go_enter Tryz.func161, Tryz.ntmps161
    go_wp2_with fail
    go_ret
    exact ⟨rfl, rfl⟩
theorem hasA_any (w : World) (f : Nat) (hf : f < 7) : Calls Tryz.prog 162 #[.int .i64 (f : Nat)] w fun e w' => e = .returned (.bool (fA f)) ∧ w = w' := by
  match f, hf with
  | 0, _ | 1, _ | 2, _ | 3, _ | 4, _ | 5, _ | 6, _ =>
    go_enter Tryz.func162, Tryz.ntmps162
    go_wp2_with fail
    go_ret
    exact ⟨rfl, rfl⟩
theorem hasB_any (w : World) (f : Nat) (hf : f < 7) : Calls Tryz.prog 163 #[.int .i64 (f : Nat)] w fun e w' => e = .returned (.bool (fB f)) ∧ w = w' := by
  match f, hf with
  | 0, _ | 1, _ | 2, _ | 3, _ | 4, _ | 5, _ | 6, _ =>
    go_enter Tryz.func163, Tryz.ntmps163
    go_wp2_with fail
    go_ret
    exact ⟨rfl, rfl⟩
theorem opT_lt (op : Nat) : (opT op).1 < 7 := by
  unfold opT
  split <;> simp
theorem info124 : (Tryz.prog.info? 205).map (·.size) = some 6 := by kernel_rfl
def insV (op a b c : Int) : Value := .agg #[.int .i64 op, .int .i64 a, .int .i64 b, .int .i64 c]

end Go.Proofs.YtkoomlbnfhdhcaaGreatDoor
