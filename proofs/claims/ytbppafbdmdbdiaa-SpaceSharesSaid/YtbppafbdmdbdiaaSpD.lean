/-
  Words for all spaces of a world: what stands in memory, what they hold, what may have moved.
-/
import Derived.Test.YtbppafbdmdbdiaaSpC
namespace Go.Proofs.Ytbppafbdmdbdiaa
open Go.RowKit
set_option linter.unusedVariables false

/-! ### What may have moved: spaces and pages, what X names, and new blocks; nothing below B -/
def SpT (w : World) (k : Nat) : Prop := ∃ cs t fr, w.heap[k]? = some (.cells cs t fr) ∧ (t = 86 ∨ t = 91)
structure Mv (B : Nat) (X : Nat → Prop) (w w' : World) : Prop where
  os : w'.os = w.os
  tape : w'.tape = w.tape
  output : w'.output = w.output
  size : w.heap.size ≤ w'.heap.size
  block : ∀ k, k < w.heap.size → (k < B ∨ (¬ SpT w k ∧ ¬ X k)) → w'.heap[k]? = w.heap[k]?
def NoX : Nat → Prop := fun _ => False

section
variable {B : Nat} {X : Nat → Prop} {w w' w'' : World}
theorem SpT_of_eq {k : Nat} (h : w'.heap[k]? = w.heap[k]?) : SpT w' k ↔ SpT w k := by unfold SpT; rw [h]
theorem Mv.refl (B : Nat) (X : Nat → Prop) (w : World) : Mv B X w w := ⟨rfl, rfl, rfl, Nat.le_refl _, fun _ _ _ => rfl⟩
theorem Mv.trans (h : Mv B X w w') (k : Mv B X w' w'') : Mv B X w w'' :=
  ⟨k.os.trans h.os, k.tape.trans h.tape, k.output.trans h.output, Nat.le_trans h.size k.size, fun i hi hc => by
    have h1 := h.block i hi hc
    refine (k.block i (Nat.lt_of_lt_of_le hi h.size) ?_).trans h1
    rcases hc with hc | ⟨hc1, hc2⟩
    · exact .inl hc
    · exact .inr ⟨fun hs => hc1 ((SpT_of_eq h1).1 hs), hc2⟩⟩
theorem Mv.drew (h : Mv B X w w') : Mv B X w w'.drew := ⟨h.os, h.tape, h.output, h.size, h.block⟩
theorem Mv.drewN (h : Mv B X w w') (n : Nat) : Mv B X w (w'.drewN n) := ⟨h.os, h.tape, h.output, h.size, h.block⟩
theorem Mv.alloc (h : Mv B X w w') (o : Obj) : Mv B X w (w'.alloc o) :=
  ⟨h.os, h.tape, h.output, Nat.le_trans h.size (by simp), fun i hi hc => (Below.heap_alloc w' o i (Nat.lt_of_lt_of_le hi h.size)).trans (h.block i hi hc)⟩
theorem Mv.fr {L : List Nat} (h : Fr L w w') (hL : ∀ g ∈ L, B ≤ g ∧ (SpT w g ∨ X g)) : Mv B X w w' :=
  ⟨h.os, h.tape, h.output, h.size, fun k hk hc => h.block k hk (fun hm => by
    obtain ⟨h1, h2⟩ := hL k hm
    rcases hc with hc | ⟨hc1, hc2⟩
    · omega
    · rcases h2 with h2 | h2
      · exact hc1 h2
      · exact hc2 h2)⟩
theorem Mv.more (h : Mv B NoX w w') : Mv B X w w' := ⟨h.os, h.tape, h.output, h.size, fun k hk hc => h.block k hk (hc.imp id fun hc => ⟨hc.1, fun h => h⟩)⟩
theorem Mv.below (h : Mv B X w w') (hB : B ≤ w.heap.size) : Below B w w' := ⟨h.os, h.tape, h.output, h.size, fun k hk => h.block k (by omega) (.inl hk)⟩
theorem Mv.of_below (h : Below w.heap.size w w') : Mv B X w w' := ⟨h.os, h.tape, h.output, h.size, fun k hk _ => h.block k hk⟩
theorem Mv.blk {g : Nat} {t : TypeId} {cs : Array Value} (h : Mv B X w w') (hb : Blk w g t cs) (h1 : t ≠ 86) (h2 : t ≠ 91) (hx : ¬ X g) : Blk w' g t cs :=
  (h.block g hb.lt (.inr ⟨fun ⟨cs', t', fr, he, ht⟩ => by
    unfold Blk at hb
    rw [hb] at he
    injection he with he
    injection he with _ he
    subst he
    rcases ht with ht | ht
    · exact h1 ht
    · exact h2 ht, hx⟩)).trans hb
theorem spT_86 {g : Nat} {cs : Array Value} (h : Blk w g 86 cs) : SpT w g := ⟨cs, 86, (0, 0), h, .inl rfl⟩
theorem spT_91 {g : Nat} {cs : Array Value} (h : Blk w g 91 cs) : SpT w g := ⟨cs, 91, (0, 0), h, .inr rfl⟩
end

/-! ### All spaces -/
abbrev Pages := Nat → Option (List UInt8 × Bool)
structure Rep (B : Nat) (w : World) (sps : Nat → Option Sp) (hm : Pages) : Prop where
  blk : ∀ g s, sps g = some s → Blk w g 86 (spCells s) ∧ B ≤ g
  mem : ∀ h b sh, hm h = some (b, sh) → b.length = 64 ∧ Blk w h 91 (heldCells b sh) ∧ B ≤ h
  ref : ∀ g s, sps g = some s → ∀ p h, s.pg p = some h → ∃ c, hm h = some c
  own : ∀ g s g' s' p q h b, sps g = some s → sps g' = some s' → s.pg p = some h → s'.pg q = some h → hm h = some (b, false) → g = g' ∧ p = q

/-- What a page of a space holds. -/
def pageOf (hm : Pages) (o : Option Nat) : Option (List UInt8) := o.bind fun h => (hm h).map (·.1)

/-- What a space is, its blocks aside. -/
structure AS where
  src : Option (Nat → Option (List UInt8))
  known : Nat → Bool
  asked : Nat → Bool
  changed : Nat → Bool
  page : Nat → Option (List UInt8)

/-- A source: the value that asks it, what it holds, what must stand in memory if these pages have been asked for; the blocks that it writes. -/
structure Source where
  val : Value
  src : Nat → Option (List UInt8)
  E : (Nat → Bool) → World → Prop
  X : Nat → Prop
  root : Nat
def srcOf (C : Source) (v : Value) : Option (Nat → Option (List UInt8)) := match v with
  | .nilFunc => none
  | _ => some C.src
def view (C : Source) (hm : Pages) (s : Sp) : AS := ⟨srcOf C s.fetch, s.known, s.asked, s.changed, fun p => pageOf hm (s.pg p)⟩

/-- All that stands in memory. -/
structure All (C : Source) (B : Nat) (w : World) (sps : Nat → Option Sp) (hm : Pages) : Prop extends Rep B w sps hm where
  env : ∀ s, sps C.root = some s → s.fetch = .nilFunc ∨ (s.fetch = C.val ∧ C.E s.asked w)
  nosrc : ∀ g s, sps g = some s → g ≠ C.root → s.fetch = .nilFunc
  inv : ∀ g s, sps g = some s → ∀ p, s.known p = false → s.asked p = false ∧ s.pg p = none

/-- .. as the spaces look. -/
def Looks (C : Source) (B : Nat) (w : World) (V : Nat → Option AS) : Prop := ∃ sps hm, All C B w sps hm ∧ ∀ g, V g = (sps g).map (view C hm)

def needA (a : AS) (p : Nat) : AS :=
  if a.known p then a else match a.src with
  | none => { a with known := upd a.known p true }
  | some f => { a with known := upd a.known p true, asked := upd a.asked p true, page := upd a.page p ((f p).map padL) }

/-- A space's pages behind a change of the memory of pages. -/
theorem upd_some {α : Type} (f : Nat → Option α) (g : Nat) (v x : α) (g' : Nat) (h : upd f g (some v) g' = some x) : (g' = g ∧ x = v) ∨ (g' ≠ g ∧ f g' = some x) := by
  unfold upd at h
  split at h
  · rename_i he
    injection h with h
    exact .inl ⟨he, h.symm⟩
  · rename_i he
    exact .inr ⟨he, h⟩
end Go.Proofs.Ytbppafbdmdbdiaa
