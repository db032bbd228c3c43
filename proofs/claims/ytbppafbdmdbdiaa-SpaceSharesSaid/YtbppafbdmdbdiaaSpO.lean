/-
  One space without a source; the laws' known.
-/
import Derived.Test.YtbppafbdmdbdiaaSpN
namespace Go.Proofs.Ytbppafbdmdbdiaa
open Go.RowKit
set_option linter.unusedVariables false

/-- No source. -/
def C0 : Source := ⟨fetchV 0, fun _ => none, fun _ _ => False, NoX, 0⟩
theorem ok0 (B : Nat) : SourceOk C0 B := ⟨fun _ _ _ h _ => h, fun _ h => h.elim, fun _ _ _ h => h.elim, ⟨0, rfl⟩, fun _ _ _ _ _ _ _ h => h.elim⟩
/-- One space that looks so. -/
def On (B : Nat) (w : World) (g : Nat) (a : AS) : Prop := (∃ sps hm s, All C0 B w sps hm ∧ sps g = some s ∧ view C0 hm s = a) ∧ B ≤ w.heap.size
def newA : AS := ⟨none, fun _ => false, fun _ => false, fun _ => false, fun _ => none⟩

section
variable {B : Nat} {w w' : World} {g : Nat} {a : AS}
theorem On.step {sps : Nat → Option Sp} {hm : Pages} {a' : AS} {K : Sp → Pages → Prop} (hB : B ≤ w.heap.size) (h : Stp C0 B sps hm g a' w w' K) : On B w' g a' ∧ Below B w w' := by
  obtain ⟨s', hm', h1, h2, _, h4, _⟩ := h
  exact ⟨⟨⟨_, hm', s', h1, upd_at _ _ _, h2⟩, Nat.le_trans hB h4.size⟩, h4.below hB⟩
theorem On.below (h : On B w g a) (hb : Below w.heap.size w w') : On B w' g a := by
  obtain ⟨⟨sps, hm, s, h1, h2, h3⟩, hB⟩ := h
  exact ⟨⟨sps, hm, s, h1.below (ok0 B).keeps hb, h2, h3⟩, Nat.le_trans hB hb.size⟩

theorem new_on (w : World) : Calls Try.prog 12 #[.nilFunc] w fun e w' => e = .returned (.pointer (some ⟨w.heap.size + 1, 0, none⟩)) ∧ On w.heap.size w' (w.heap.size + 1) newA ∧ Below w.heap.size w w' := by
  refine (new_nil w).mono ?_
  rintro e w' ⟨rfl, hb, nb⟩
  refine ⟨rfl, ⟨⟨upd (fun _ => none) (w.heap.size + 1) (some ⟨.nilFunc, fun _ => false, fun _ => false, fun _ => false, fun _ => none⟩), fun _ => none, _, ?_, upd_at _ _ _, rfl⟩, nb.size⟩, nb⟩
  refine ⟨⟨fun k s hs => ?_, fun h b sh hh => (by cases hh), fun k s hs p h hp => ?_, fun k s k' s' p q h b hs hs' hp hq hh => (by cases hh)⟩, fun s hs => ?_, fun k s hs _ => ?_, fun k s hs p hp => ?_⟩
  · rcases upd_some _ _ _ _ _ hs with ⟨e1, e2⟩ | ⟨_, hs⟩
    · rw [e1, e2]; exact ⟨hb, by omega⟩
    · cases hs
  · rcases upd_some _ _ _ _ _ hs with ⟨e1, e2⟩ | ⟨_, hs⟩
    · rw [e2] at hp; cases hp
    · cases hs
  · rcases upd_some _ _ _ _ _ hs with ⟨e1, e2⟩ | ⟨_, hs⟩
    · rw [e2]; exact .inl rfl
    · cases hs
  · rcases upd_some _ _ _ _ _ hs with ⟨e1, e2⟩ | ⟨_, hs⟩
    · rw [e2]
    · cases hs
  · rcases upd_some _ _ _ _ _ hs with ⟨e1, e2⟩ | ⟨_, hs⟩
    · rw [e2]; exact ⟨rfl, rfl⟩
    · cases hs

theorem load_on (h : On B w g a) (at_ n : Int) (hn1 : n ≤ 140737488355328) (ha1 : -9223372036854775808 ≤ at_) (ha2 : at_ ≤ 9223372036854775807) :
    Calls Try.prog 15 #[.pointer (some ⟨g, 0, none⟩), .int .i64 at_, .int .i64 n] w fun e w' => e = .returned (.tuple #[.string ⟨(loadA a at_ n).2.1.toArray⟩, .int .i64 (loadA a at_ n).2.2]) ∧ On B w' g (loadA a at_ n).1 ∧ Below B w w' := by
  obtain ⟨⟨sps, hm, s, h1, h2, rfl⟩, hB⟩ := h
  refine (load_all (ok0 B) h1 h2 at_ n hn1 ha1 ha2 hB).mono ?_
  intro e w' hs
  have := On.step hB hs
  obtain ⟨s', hm', _, _, _, _, hK⟩ := hs
  exact ⟨hK, this⟩
theorem store_on (h : On B w g a) (at_ : Int) (t : ByteArray) (ht : t.size ≤ 140737488355328) (ha1 : -9223372036854775808 ≤ at_) (ha2 : at_ ≤ 9223372036854775807) :
    Calls Try.prog 14 #[.pointer (some ⟨g, 0, none⟩), .int .i64 at_, .string t] w fun e w' => e = .returned (.int .i64 (storeA a at_ t.data.toList).2) ∧ On B w' g (storeA a at_ t.data.toList).1 ∧ Below B w w' := by
  obtain ⟨⟨sps, hm, s, h1, h2, rfl⟩, hB⟩ := h
  refine (store_all (ok0 B) h1 h2 at_ t ht ha1 ha2 hB).mono ?_
  intro e w' hs
  have := On.step hB hs
  obtain ⟨s', hm', _, _, _, _, hK⟩ := hs
  exact ⟨hK, this⟩
theorem map_on (h : On B w g a) (p : Int) (t : ByteArray) (ht : t.size ≤ 140737488355328) :
    Calls Try.prog 13 #[.pointer (some ⟨g, 0, none⟩), .int .i64 p, .string t] w fun e w' => e = .returned (.int .i64 (mapA a p t.data.toList).2) ∧ On B w' g (mapA a p t.data.toList).1 ∧ Below B w w' := by
  obtain ⟨⟨sps, hm, s, h1, h2, rfl⟩, hB⟩ := h
  refine (map_all (ok0 B) h1 h2 p t ht hB).mono ?_
  intro e w' hs
  have := On.step hB hs
  obtain ⟨s', hm', _, _, _, _, hK⟩ := hs
  exact ⟨hK, this⟩
end

/-! ### known -/
def k1A : AS := (loadA newA 0 1).1
def k2A : AS := (mapA k1A 0 [97, 98]).1
def k3A : AS := (mapA k2A 1 []).1
def k4A : AS := (storeA k3A 62 [120, 121, 122]).1
theorem k1 : (loadA newA 0 1).2 = ([], 23) := by decide +kernel
theorem k2 : (mapA k1A 0 [97, 98]).2 = 0 := by decide +kernel
theorem k3 : (mapA k2A 1 []).2 = 0 := by decide +kernel
theorem k4 : (storeA k3A 62 [120, 121, 122]).2 = 0 := by decide +kernel
theorem k5 : (loadA k4A 61 5).2 = ([0, 120, 121, 122, 0], 0) := by decide +kernel

set_option maxHeartbeats 4000000 in
theorem known_any (w : World) : Calls Try.prog 11 #[] w fun e w' => e = .returned (.bool true) ∧ Below w.heap.size w w' := by
  have hq := ptr23_some
  go_enter Try.func11, Try.ntmps11
  go_wp2_with fail
  refine (new_on w).mono ?_
  rintro e w1 ⟨rfl, o1, b1⟩
  dsimp only
  go_wp2_with fail
  refine (load_on o1 0 1 (by omega) (by omega) (by omega)).mono ?_
  rintro e w2 ⟨rfl, o2, nb⟩
  rw [k1]
  have b2 := b1.trans nb
  clear o1 b1 nb
  dsimp only
  go_wp2_with fail
  refine (map_on (a := k1A) o2 0 ⟨#[97, 98]⟩ (by decide)).mono ?_
  rintro e w3 ⟨rfl, o3, nb⟩
  have b3 := b2.trans nb
  clear o2 b2 nb
  rw [show (mapA k1A 0 (⟨#[97, 98]⟩ : ByteArray).data.toList).2 = 0 from k2]
  dsimp only
  go_wp2_with fail
  refine (map_on (a := k2A) o3 1 ⟨#[]⟩ (by decide)).mono ?_
  rintro e w4 ⟨rfl, o4, nb⟩
  have b4 := b3.trans nb
  clear o3 b3 nb
  rw [show (mapA k2A 1 (⟨#[]⟩ : ByteArray).data.toList).2 = 0 from k3]
  dsimp only
  go_wp2_with fail
  refine (store_on (a := k3A) o4 62 ⟨#[120, 121, 122]⟩ (by decide) (by omega) (by omega)).mono ?_
  rintro e w5 ⟨rfl, o5, nb⟩
  have b5 := b4.trans nb
  clear o4 b4 nb
  rw [show (storeA k3A 62 (⟨#[120, 121, 122]⟩ : ByteArray).data.toList).2 = 0 from k4]
  dsimp only
  go_wp2_with fail
  refine (load_on (a := k4A) o5 61 5 (by omega) (by omega) (by omega)).mono ?_
  rintro e w6 ⟨rfl, o6, nb⟩
  have b6 := b5.trans nb
  clear o5 b5 nb
  rw [k5]
  dsimp only
  go_wp2_with fail
  go_ret
  exact ⟨by first | rfl | simp, b6⟩
end Go.Proofs.Ytbppafbdmdbdiaa
