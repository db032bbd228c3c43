/-
  Plain laws for SpaceEdges: a text that runs over the end.
-/
import Derived.Test.YtbppafbdmdbdiaaSpQ
namespace Go.Proofs.Ytbppafbdmdbdiaa
open Go.RowKit
theorem text_end (a : AS) (b : List UInt8) (hk : needA a 63 = a) (hp : a.page 63 = some b) (most : Int) :
    ∀ (k f : Nat) (acc : List UInt8), k ≤ 64 → k < f → (acc.length : Int) + k ≤ most → (∀ j, 64 - k ≤ j → j < 64 → b.getD j 0 ≠ 0) → textGo f a ((4096 - k : Nat) : Int) acc most = (a, [], 23)
  | 0, f + 1, acc, _, _, _, _ => by unfold textGo; rw [if_pos (by omega)]
  | k + 1, f + 1, acc, h1, h2, h3, h4 => by
    have hz : (4096 - (k + 1)) / 64 = 63 := by omega
    have hm : (4096 - (k + 1)) % 64 = 64 - (k + 1) := by omega
    rw [textGo_step f a (4096 - (k + 1)) acc most b (by omega) (by rw [hz]; exact hk) (by rw [hz]; exact hp), hm, if_neg (h4 _ (Nat.le_refl _) (by omega)), if_neg (by omega),
      show (((4096 - (k + 1) : Nat) : Int) + 1) = ((4096 - k : Nat) : Int) by omega]
    exact text_end a b hk hp most k f _ (by omega) (by omega) (by rw [List.length_append]; show ((acc.length + 1 : Nat) : Int) + k ≤ most; omega) (fun j hj hj2 => h4 j (by omega) hj2)
/-- What a row of equal bytes leaves behind in the last page. -/
theorem storeGo_rep (a : AS) (b : List UInt8) (k : Nat) (v : UInt8) (hb : b.length = 64) (hp : a.page 63 = some b) (hk : k ≤ 64) : ∀ i, i ≤ k →
    ∃ b', (storeGo a (4096 - k) (List.replicate k v) i).page 63 = some b' ∧ b'.length = 64 ∧ (∀ j, 64 - k ≤ j → j < 64 - k + i → b'.getD j 0 = v) ∧ (storeGo a (4096 - k) (List.replicate k v) i).known = a.known ∧ (storeGo a (4096 - k) (List.replicate k v) i).src = a.src
  | 0, _ => ⟨b, hp, hb, fun j h1 h2 => by omega, rfl, rfl⟩
  | i + 1, hi => by
    obtain ⟨b', h1, h2, h3, h4, h5⟩ := storeGo_rep a b k v hb hp hk i (by omega)
    have hz : (4096 - k + i) / 64 = 63 := by omega
    have hm : (4096 - k + i) % 64 = 64 - k + i := by omega
    refine ⟨b'.set (64 - k + i) v, ?_, by rw [List.length_set]; exact h2, fun j hj1 hj2 => ?_, h4, h5⟩
    · show upd _ ((4096 - k + i) / 64) _ 63 = _
      rw [hz, upd_at, h1, hm]
      have hv : (List.replicate k v).getD i 0 = v := by
        rw [List.getD_eq_getElem?_getD, List.getElem?_replicate, if_pos (by omega)]; rfl
      rw [hv]; rfl
    · rw [List.getD_eq_getElem?_getD, List.getElem?_set]
      by_cases e : 64 - k + i = j
      · rw [if_pos e, if_pos (by omega)]; rfl
      · rw [if_neg e, ← List.getD_eq_getElem?_getD]
        exact h3 j hj1 (by omega)
theorem access_last (a : AS) (b : List UInt8) (hk : needA a 63 = a) (hp : a.page 63 = some b) (k : Nat) (h1 : 1 ≤ k) (h2 : k ≤ 64) : accessA a ((4096 - k : Nat) : Int) k = (a, 0) := by
  unfold accessA
  rw [if_neg (by omega), if_neg (by omega), show ((((4096 - k : Nat) : Int) + k - 1) / 64).toNat = 63 by omega, show ((((4096 - k : Nat) : Int)) / 64).toNat = 63 by omega]
  have hr : reachA (63 + 1 - 63) 63 a = (a, true) := by
    show reachA 1 63 a = _
    unfold reachA
    rw [hk, hp]
    rfl
  rw [hr]
  rfl
theorem load_last (a : AS) (b : List UInt8) (v : UInt8) (hk : needA a 63 = a) (hp : a.page 63 = some b) (k : Nat) (h1 : 1 ≤ k) (h2 : k ≤ 64) (hv : ∀ j, 64 - k ≤ j → j < 64 → b.getD j 0 = v) : loadA a ((4096 - k : Nat) : Int) k = (a, List.replicate k v, 0) := by
  unfold loadA
  rw [if_neg (by omega), access_last a b hk hp k h1 h2, if_pos rfl, Int.toNat_natCast, Int.toNat_natCast]
  have : bytesA a (4096 - k) k = List.replicate k v := by
    unfold bytesA
    refine List.ext_getElem (by simp) fun i hi1 hi2 => ?_
    simp only [List.getElem_map, List.getElem_range, List.getElem_replicate]
    have hi : i < k := by simpa using hi2
    unfold byteA
    rw [show (4096 - k + i) / 64 = 63 by omega, show (4096 - k + i) % 64 = 64 - k + i by omega, hp]
    exact hv _ (by omega) (by omega)
  rw [this]
theorem load_over (a : AS) (k : Nat) (h2 : k ≤ 4096) : loadA a ((4096 - k : Nat) : Int) ((k : Int) + 1) = (a, [], 23) := by
  have h : accessA a ((4096 - k : Nat) : Int) ((k : Int) + 1) = (a, 23) := by
    unfold accessA
    rw [if_neg (by omega), if_pos (by omega)]
  unfold loadA
  rw [if_neg (by omega), h]
  rfl
theorem access_two (a : AS) (hp : (needA a 62).page 62 = none) (k : Nat) (h1 : 64 < k) (h2 : k ≤ 128) : (accessA a ((4096 - k : Nat) : Int) k).2 = 23 := by
  unfold accessA
  rw [if_neg (by omega), if_neg (by omega), show ((((4096 - k : Nat) : Int) + k - 1) / 64).toNat = 63 by omega, show ((((4096 - k : Nat) : Int)) / 64).toNat = 62 by omega]
  have hr : reachA (63 + 1 - 62) 62 a = (needA a 62, false) := by
    show reachA 2 62 a = _
    unfold reachA
    rw [hp]
    rfl
  rw [hr]
  rfl
def e1A : AS := (mapA newA 63 []).1
theorem e1_page : e1A.page 63 = some (padL []) := by decide +kernel
theorem e1_known : e1A.known 63 = true := by decide +kernel
theorem e1_need : needA e1A 63 = e1A := by unfold needA; rw [if_pos e1_known]
theorem edges_store (k : Nat) (v : UInt8) (h1 : 1 ≤ k) (h2 : k ≤ 64) : ∃ a2 b', storeA e1A ((4096 - k : Nat) : Int) (List.replicate k v) = (a2, 0) ∧ needA a2 63 = a2 ∧ a2.page 63 = some b' ∧ ∀ j, 64 - k ≤ j → j < 64 → b'.getD j 0 = v := by
  obtain ⟨b', q1, q2, q3, q4, q5⟩ := storeGo_rep e1A (padL []) k v (by decide +kernel) e1_page h2 k (Nat.le_refl _)
  refine ⟨storeGo e1A (4096 - k) (List.replicate k v) k, b', ?_, ?_, q1, fun j hj1 hj2 => q3 j hj1 (by omega)⟩
  · unfold storeA
    rw [List.length_replicate, access_last e1A _ e1_need e1_page k h1 h2, if_pos rfl, Int.toNat_natCast]
  · unfold needA
    rw [q4, if_pos e1_known]
end Go.Proofs.Ytbppafbdmdbdiaa
