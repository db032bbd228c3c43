/-
  The law's operation, all kinds in one.
-/
import Derived.Test.YtbppafbdmdbdiaaDoC
import Derived.Test.YtbppafbdmdbdiaaDoD
import Derived.Test.YtbppafbdmdbdiaaDoE
import Derived.Test.YtbppafbdmdbdiaaDoF
import Derived.Test.YtbppafbdmdbdiaaDoG
import Derived.Test.YtbppafbdmdbdiaaDoH
import Derived.Test.YtbppafbdmdbdiaaDoI
import Derived.Test.YtbppafbdmdbdiaaMDj
namespace Go.Proofs.Ytbppafbdmdbdiaa
open Go.RowKit
set_option linter.unusedVariables false
set_option linter.unusedSectionVars false

/-- What an operation makes of a space, and what it answers. -/
def doA (k : Nat) (x n : Int) (t : ByteArray) (a : AS) : AS × List UInt8 × Nat × List Nat :=
  match k with
  | 0 => ((loadA a x (cutN n)).1, (loadA a x (cutN n)).2.1, (loadA a x (cutN n)).2.2, [])
  | 1 => ((storeA a x (cutT t).data.toList).1, [], (storeA a x (cutT t).data.toList).2, [])
  | 2 => ((loadA a x 4).1, (loadA a x 4).2.1, (loadA a x 4).2.2, [])
  | 3 => ((storeA a x (le4 (n % 4294967296).toNat)).1, [], (storeA a x (le4 (n % 4294967296).toNat)).2, [])
  | 4 => ((textA a x (cutM n)).1, (textA a x (cutM n)).2.1, (textA a x (cutM n)).2.2, [])
  | 5 => ((mapA a x (cutT t).data.toList).1, [], (mapA a x (cutT t).data.toList).2, [])
  | 6 => ((unmapA a x).1, [], (unmapA a x).2, [])
  | 7 => ((hasA a x).1, [], if (hasA a x).2 then 1 else 0, [])
  | 8 => ((pageA a x).1, (pageA a x).2.1, (pageA a x).2.2, [])
  | _ => (needUp 64 a, [], 0, theres (needUp 64 a) 64)
theorem textGo_clo (P : AS → Prop) (h1 : ∀ a p, P a → P (needA a p)) : ∀ (f : Nat) (a : AS) (x : Int) (acc : List UInt8) (most : Int), P a → P (textGo f a x acc most).1
  | 0, a, _, _, _, h => h
  | f + 1, a, x, acc, most, h => by
    unfold textGo
    split
    · exact h
    · split
      · exact h1 _ _ h
      · split
        · exact h1 _ _ h
        · split
          · exact h1 _ _ h
          · exact textGo_clo P h1 f _ _ _ _ (h1 _ _ h)
theorem reachA_clo (P : AS → Prop) (h1 : ∀ a p, P a → P (needA a p)) : ∀ (c p : Nat) (a : AS), P a → P (reachA c p a).1
  | 0, _, _, h => h
  | c + 1, p, a, h => by
    unfold reachA
    split
    · exact reachA_clo P h1 c _ _ (h1 _ _ h)
    · exact h1 _ _ h
theorem accessA_clo (P : AS → Prop) (h1 : ∀ a p, P a → P (needA a p)) (a : AS) (x n : Int) (h : P a) : P (accessA a x n).1 := by
  unfold accessA
  split
  · exact h
  · split
    · exact h
    · exact reachA_clo P h1 _ _ _ h
theorem needUp_clo (P : AS → Prop) (h1 : ∀ a p, P a → P (needA a p)) (a : AS) (h : P a) : ∀ k, P (needUp k a)
  | 0 => h
  | k + 1 => h1 _ _ (needUp_clo P h1 a h k)
section
variable (P : AS → Prop) (h1 : ∀ a p, P a → P (needA a p)) (h2 : ∀ (a : AS) pg ch, P a → P { a with page := pg, changed := ch })
include h1 h2
theorem storeGo_clo (a : AS) (x : Nat) (l : List UInt8) (h : P a) : ∀ k, P (storeGo a x l k)
  | 0 => h
  | k + 1 => h2 _ _ _ (storeGo_clo a x l h k)
theorem storeA_clo (a : AS) (x : Int) (l : List UInt8) (h : P a) : P (storeA a x l).1 := by
  unfold storeA
  show P (if _ then _ else _)
  split
  · exact storeGo_clo P h1 h2 _ _ _ (accessA_clo P h1 _ _ _ h) _
  · exact accessA_clo P h1 _ _ _ h
theorem loadA_clo (a : AS) (x n : Int) (h : P a) : P (loadA a x n).1 := by
  unfold loadA
  split
  · exact h
  · exact accessA_clo P h1 _ _ _ h
theorem textA_clo (a : AS) (x most : Int) (h : P a) : P (textA a x most).1 := by
  unfold textA
  have h2 := textGo_clo P h1 4097 a x [] most h
  revert h2
  generalize textGo 4097 a x [] most = R
  intro h2
  by_cases hc : most < 0
  · rw [if_pos hc]; exact h
  · rw [if_neg hc]; exact h2
attribute [local irreducible] textA textGo storeA loadA
theorem doA_clo (k : Nat) (x n : Int) (t : ByteArray) (a : AS) (h : P a) : P (doA k x n t a).1 := by
  unfold doA
  split
  · show P (loadA a x _).1
    exact loadA_clo P h1 h2 a x _ h
  · show P (storeA a x _).1
    exact storeA_clo P h1 h2 a x _ h
  · show P (loadA a x _).1
    exact loadA_clo P h1 h2 a x _ h
  · show P (storeA a x _).1
    exact storeA_clo P h1 h2 a x _ h
  · show P (textA a x _).1
    exact textA_clo P h1 h2 a x _ h
  · show P (mapA a x _).1
    unfold mapA
    split
    · exact h
    · split
      · exact h
      · split
        · exact h1 _ _ h
        · exact h2 _ _ _ (h1 _ _ h)
  · show P (unmapA a x).1
    unfold unmapA
    split
    · exact h
    · split
      · exact h2 _ _ _ (h1 _ _ h)
      · exact h1 _ _ h
  · show P (hasA a x).1
    unfold hasA
    split
    · exact h
    · exact h1 _ _ h
  · show P (pageA a x).1
    unfold pageA
    split
    · exact h
    · split <;> exact h1 _ _ h
  · have h3 := needUp_clo P h1 a h 64
    generalize needUp 64 a = R at h3 ⊢
    exact h3
end
theorem doA_src (k : Nat) (x n : Int) (t : ByteArray) (a : AS) : (doA k x n t a).1.src = a.src := by
  have h := doA_clo (fun b => b.src = a.src) (fun b p hb => (needA_src b p).trans hb) (fun b pg ch hb => hb) k x n t a rfl
  generalize doA k x n t a = R at h ⊢
  exact h
/-- A space without a source asks nothing. -/
theorem need_noask (a : AS) (p : Nat) (h : a.src = none ∧ ∀ q, a.asked q = false) : (needA a p).src = none ∧ ∀ q, (needA a p).asked q = false := by
  refine ⟨(needA_src a p).trans h.1, ?_⟩
  unfold needA
  rw [h.1]
  split
  · exact h.2
  · exact h.2
theorem doA_noask (k : Nat) (x n : Int) (t : ByteArray) (a : AS) (h : a.src = none ∧ ∀ q, a.asked q = false) : (doA k x n t a).1.src = none ∧ ∀ q, (doA k x n t a).1.asked q = false := by
  have h := doA_clo (fun b => b.src = none ∧ ∀ q, b.asked q = false) need_noask (fun b pg ch hb => hb) k x n t a h
  generalize doA k x n t a = R at h ⊢
  exact h
attribute [local irreducible] textA textGo storeA loadA mapA unmapA hasA pageA needUp theres le4
set_option maxRecDepth 100000
section
variable {C : Source} {B : Nat} {w : World} {sps : Nat → Option Sp} {hm : Pages} {g b : Nat} {s : Sp} {m : Value} {r : AS}
theorem do_any (ok : SourceOk C B) (hp : PairOk C) (P : DoP C B sps hm g b m r s w) (k : Nat) (hk : k < 10) (kd wh x n : Int) (t : ByteArray) (hk1 : 0 ≤ kd) (hk2 : kd < 256) (hkd : kd % 11 = k) (hx1 : -9223372036854775808 ≤ x) (hx2 : x ≤ 9223372036854775807) (hn1 : -9223372036854775808 ≤ n) (hn2 : n ≤ 9223372036854775807) (ht : t.size ≤ maxLen)
    (hag : (doA k x n t (view C hm s)).2 = (doA k x n t r).2) :
    Calls Try.prog 27 #[.pointer (some ⟨b, 0, none⟩), .agg #[.int .u8 kd, .int .u8 wh, .int .i64 x, .int .i64 n, .string t]] w fun e w' => e = .returned (.tuple #[.pointer none, .bool true]) ∧ DoR C B sps hm g b m r.src (doA k x n t (view C hm s)).1 (rsOf m (doA k x n t r).1) w w' := by
  match k, hk with
  | 0, _ =>
    have e1 := congrArg (·.1) hag
    have e2 := congrArg (·.2.1) hag
    exact do0 ok hp P kd wh x n t hk1 hk2 hkd hx1 hx2 hn1 hn2 ht (Prod.ext e1 e2)
  | 1, _ => exact do1 ok hp P kd wh x n t hk1 hk2 hkd hx1 hx2 hn1 hn2 ht (congrArg (·.2.1) hag)
  | 2, _ =>
    have e1 := congrArg (·.1) hag
    have e2 := congrArg (·.2.1) hag
    exact do2 ok hp P kd wh x n t hk1 hk2 hkd hx1 hx2 hn1 hn2 ht (Prod.ext e1 e2)
  | 3, _ => exact do3 ok hp P kd wh x n t hk1 hk2 hkd hx1 hx2 hn1 hn2 ht (congrArg (·.2.1) hag)
  | 4, _ =>
    have e1 := congrArg (·.1) hag
    have e2 := congrArg (·.2.1) hag
    exact do4 ok hp P kd wh x n t hk1 hk2 hkd hx1 hx2 hn1 hn2 ht (Prod.ext e1 e2)
  | 5, _ => exact do5 ok hp P kd wh x n t hk1 hk2 hkd hx1 hx2 hn1 hn2 ht (congrArg (·.2.1) hag)
  | 6, _ => exact do6 ok hp P kd wh x n t hk1 hk2 hkd hx1 hx2 hn1 hn2 ht (congrArg (·.2.1) hag)
  | 7, _ =>
    have e : (if (hasA (view C hm s) x).2 then 1 else 0) = (if (hasA r x).2 then 1 else 0) := congrArg (·.2.1) hag
    refine do7 ok hp P kd wh x n t hk1 hk2 hkd hx1 hx2 hn1 hn2 ht ?_
    revert e
    cases (hasA (view C hm s) x).2 <;> cases (hasA r x).2 <;> simp
  | 8, _ =>
    have e1 := congrArg (·.1) hag
    have e2 := congrArg (·.2.1) hag
    exact do8 ok hp P kd wh x n t hk1 hk2 hkd hx1 hx2 hn1 hn2 ht (Prod.ext e1 e2)
  | 9, _ => exact do9 ok hp P kd wh x n t hk1 hk2 hkd hx1 hx2 hn1 hn2 ht (congrArg (·.2.2) hag)
end
end Go.Proofs.Ytbppafbdmdbdiaa
