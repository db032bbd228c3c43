/-
  Walks: Text.
-/
import Derived.Test.YtkoomlbnfhdhcaaGreatDoorMSd
namespace Go.Proofs.YtkoomlbnfhdhcaaGreatDoor
open Go.RowKit
set_option linter.unusedVariables false

theorem own_blk {w : World} {base e size n : Nat} {v : Value} {xs : List Value} (h : w.ownsRow base e size v n xs) : ∀ g, v.ownBlock = some g → ∃ cs, Blk w g e cs := by
  rcases h.2 with ⟨rfl, _⟩ | ⟨g', cap, cur, rfl, _, hh, _⟩
  · simp [Value.ownBlock]
  · intro g hg
    have : g' = g := by simpa [Value.ownBlock] using hg
    subst this
    exact ⟨_, hh⟩
theorem own_formL {w : World} {base e size n : Nat} {v : Value} {xs : List Value} (h : w.ownsRow base e size v n xs) : ∃ A c, v = .slice A n c := by
  rcases h.2 with ⟨rfl, rfl⟩ | ⟨g, cap, cur, rfl, _⟩
  · exact ⟨_, _, rfl⟩
  · exact ⟨_, _, rfl⟩

section
variable {C : Source} {B : Nat} {w w' : World} {sps : Nat → Option Sp} {hm : Pages} {g : Nat} {s : Sp}
/-- A row of the call's own grows. -/
theorem All.rows (h : All C B w sps hm) (hk : Keeps C B) {row : Option Nat} (hg : w.grownBy w' row) (hrow : ∀ q, row = some q → ∃ cs t, Blk w q t cs ∧ (t = 5 ∨ t = 3 ∨ t = 148)) : All C B w' sps hm := by
  have hne : ∀ q t cs, Blk w q t cs → (t = 98 ∨ t = 125) → some q ≠ row := fun q t cs hb ht e => by
    obtain ⟨cs', t', hb', ht'⟩ := hrow q e.symm
    unfold Blk at hb hb'
    rw [hb] at hb'
    injection hb' with hb'
    injection hb' with _ he
    subst he
    rcases ht with ht | ht <;> rcases ht' with h' | h' | h' <;> rw [ht] at h' <;> exact absurd h' (by decide)
  refine ⟨⟨fun k x hx => ⟨(h.blk k x hx).1.grown hg (hne _ _ _ (h.blk k x hx).1 (.inl rfl)), (h.blk k x hx).2⟩, fun q b sh hq => ⟨(h.mem q b sh hq).1, (h.mem q b sh hq).2.1.grown hg (hne _ _ _ (h.mem q b sh hq).2.1 (.inr rfl)), (h.mem q b sh hq).2.2⟩, h.ref, h.own⟩,
    fun x hx => (h.env x hx).imp id fun e => ⟨e.1, hk _ _ _ e.2 ⟨hg.size, fun k hk' hc => hg.block k hk' (fun e => ?_)⟩⟩, h.nosrc, h.inv⟩
  obtain ⟨cs', t', hb', ht'⟩ := hrow k e.symm
  exact hc ⟨cs', t', (0, 0), hb', ht'.elim (fun h => .inr (.inr (.inl h))) fun h => h.elim (fun h => .inr (.inr (.inr (.inl h)))) fun h => .inr (.inr (.inr (.inr h)))⟩
end

/-- Text from a place on. -/
def textGo : Nat → AS → Int → List UInt8 → Int → AS × List UInt8 × Nat
  | 0, a, _, _, _ => (a, [], 0)
  | f + 1, a, x, acc, most =>
    if x < 0 ∨ 4096 ≤ x then (a, [], 23)
    else match (needA a (x / 64).toNat).page (x / 64).toNat with
      | none => (needA a (x / 64).toNat, [], 23)
      | some b => if b.getD (x % 64).toNat 0 = 0 then (needA a (x / 64).toNat, acc, 0) else if (acc.length : Int) = most then (needA a (x / 64).toNat, [], 5)
        else textGo f (needA a (x / 64).toNat) (x + 1) (acc ++ [b.getD (x % 64).toNat 0]) most
def textA (a : AS) (x most : Int) : AS × List UInt8 × Nat := if most < 0 then (a, [], 2) else textGo 4097 a x [] most
theorem needA_twice (a : AS) (p : Nat) : needA (needA a p) p = needA a p := by
  have h := needA_known a p
  show (if (needA a p).known p then _ else _) = _
  rw [if_pos h]

theorem own_mv {w1 w2 : World} {B base n : Nat} {X : Nat → Prop} {v : Value} {xs : List Value} (h : w1.ownsRow base 5 1 v n xs) (hm : Mv B X w1 w2) (hX : ∀ k, X k → k < base) : w2.ownsRow base 5 1 v n xs := by
  refine ⟨h.1, ?_⟩
  rcases h.2 with h2 | ⟨g, cap, cur, hv, hg, hh, r⟩
  · exact .inl h2
  · exact .inr ⟨g, cap, cur, hv, hg, hm.blk hh (by decide) (by decide) (fun hx => by have := hX _ hx; omega), r⟩
/-- .. and the call's own part may change beside it. -/
theorem Mv.of_below_row {w w1 w2 : World} {B : Nat} {X : Nat → Prop} (h : Mv B X w w1) (hb : Below w.heap.size w1 w2) : Mv B X w w2 :=
  ⟨hb.os.trans h.os, hb.tape.trans h.tape, hb.output.trans h.output, Nat.le_trans h.size hb.size, fun i hi hc => (hb.block i hi).trans (h.block i hi hc)⟩
theorem textGo_step (f : Nat) (a : AS) (z : Nat) (acc : List UInt8) (most : Int) (b : List UInt8) (hz : z < 4096) (hk : needA a (z / 64) = a) (hp : a.page (z / 64) = some b) :
    textGo (f + 1) a (z : Int) acc most = if b.getD (z % 64) 0 = 0 then (a, acc, 0) else if (acc.length : Int) = most then (a, [], 5) else textGo f a ((z : Int) + 1) (acc ++ [b.getD (z % 64) 0]) most := by
  conv => lhs; unfold textGo
  rw [if_neg (by omega), show (((z : Int) / 64).toNat) = z / 64 by omega, show (((z : Int) % 64).toNat) = z % 64 by omega, hk, hp]
theorem textGo_need (f : Nat) (a : AS) (z : Nat) (acc : List UInt8) (most : Int) (hz : z < 4096) : textGo (f + 1) (needA a (z / 64)) (z : Int) acc most = textGo (f + 1) a (z : Int) acc most := by
  conv => lhs; unfold textGo
  conv => rhs; unfold textGo
  rw [if_neg (by omega), if_neg (by omega), show (((z : Int) / 64).toNat) = z / 64 by omega, needA_twice]

section
variable {C : Source} {B : Nat} {w w' : World} {sps : Nat → Option Sp} {hm : Pages} {g : Nat} {s : Sp}
end
end Go.Proofs.YtkoomlbnfhdhcaaGreatDoor

/-
  Text of a space without a source.
-/
namespace Go.Proofs.YtkoomlbnfhdhcaaGreatDoor
open Go.RowKit
variable {B : Nat} {w w' : World} {g : Nat} {a : AS}
end Go.Proofs.YtkoomlbnfhdhcaaGreatDoor
