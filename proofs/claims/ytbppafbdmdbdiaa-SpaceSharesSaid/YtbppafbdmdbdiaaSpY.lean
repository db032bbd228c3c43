/-
  Walks: Changes, Asked.
-/
import Derived.Test.YtbppafbdmdbdiaaSpX
namespace Go.Proofs.Ytbppafbdmdbdiaa
open Go.RowKit
set_option linter.unusedVariables false

abbrev Ch := Nat × Option (List UInt8)
def chCells (c : Ch) : List Value := match c.2 with
  | some b => [.int .i64 (c.1 : Int), .string ⟨b.toArray⟩, .bool false]
  | none => [.int .i64 (c.1 : Int), .string ⟨#[]⟩, .bool true]
theorem chCells_length (c : Ch) : (chCells c).length = 3 := by unfold chCells; split <;> rfl
def chVals (l : List Ch) : List Value := l.flatMap chCells
theorem chVals_append (l m : List Ch) : chVals (l ++ m) = chVals l ++ chVals m := by simp [chVals]
/-- The pages below k that have changed. -/
def chL (a : AS) (k : Nat) : List Ch := ((List.range k).filter fun p => a.changed p).map fun p => (p, a.page p)
theorem chL_succ (a : AS) (k : Nat) : chL a (k + 1) = chL a k ++ if a.changed k = true then [(k, a.page k)] else [] := by
  unfold chL
  rw [List.range_succ, List.filter_append, List.map_append]
  congr 1
  by_cases h : a.changed k = true
  · rw [if_pos h]; simp [h]
  · rw [if_neg h]; simp only [Bool.not_eq_true] at h; simp [h]
theorem chL_le (a : AS) (k : Nat) : (chL a k).length ≤ k := by
  unfold chL
  rw [List.length_map]
  exact Nat.le_trans (List.length_filter_le _ _) (by simp)
theorem info96 : (Try.prog.info? 96).map (fun i => (i.zero, i.size, i.bytes)) = some (some (.agg #[.int .i64 0, .string ⟨#[]⟩, .bool false]), 3, 32) := by kernel_rfl
theorem info82 : (Try.prog.info? 82).map (·.size) = some 64 := by kernel_rfl
theorem changed_range (W : World) (g : Nat) (s : Sp) (h : Blk W g 86 (spCells s)) : W.rangeAt g 129 (row .bool s.changed) := fun j v hv => by
  have hj : j < 64 := by
    have := (List.getElem?_eq_some_iff.1 hv).1
    rw [row_length] at this
    exact this
  rw [h.cell, sp_changed s j hj, ← hv, row_get _ _ j hj]
theorem asked_range (W : World) (g : Nat) (s : Sp) (h : Blk W g 86 (spCells s)) : W.rangeAt g 65 (row .bool s.asked) := fun j v hv => by
  have hj : j < 64 := by
    have := (List.getElem?_eq_some_iff.1 hv).1
    rw [row_length] at this
    exact this
  rw [h.cell, sp_asked s j hj, ← hv, row_get _ _ j hj]
/-- A slice of changes of the call's own. -/
def OwnChs (base : Nat) (l : List Ch) (e : Ending) (w : World) : Prop := ∃ OA oc, e = .returned (.slice OA l.length oc) ∧ w.ownsRow base 96 3 (.slice OA l.length oc) l.length (chVals l)

section
variable {C : Source} {B : Nat} {w w' : World} {sps : Nat → Option Sp} {hm : Pages} {g : Nat} {s : Sp}
set_option maxRecDepth 100000 in
set_option maxHeartbeats 8000000 in
theorem changes_all (ok : SourceOk C B) (h : All C B w sps hm) (hg : sps g = some s) :
    Calls Try.prog 24 #[.pointer (some ⟨g, 0, none⟩)] w fun e w' => OwnChs w.heap.size (chL (view C hm s) 64) e w' ∧ All C B w' sps hm ∧ Below w.heap.size w w' := by
  have hq := ptr23_some
  obtain ⟨i96, hi, hz0, hz1, hz2⟩ := info_parts info96
  obtain ⟨a, ha⟩ : ∃ a, a = view C hm s := ⟨_, rfl⟩
  rw [← ha]
  have HA := Lib.hid ha
  have H0 := Lib.hid h
  have HG := Lib.hid hg
  have hrow := Lib.hid (changed_range w g s (h.blk g s hg).1)
  clear ha h hg
  go_enter Try.func24, Try.ntmps24
  go_wp2_with (with_reducible refine wpList_load_mid rfl 82 (.tmp 11) rfl g 129 rfl (row .bool s.changed) _ hrow.out Try.underlying82 rfl (by rw [row_length]; exact info82) ?_)
  have hR : ∀ k, k < 64 → (row Value.bool s.changed).toArray[k]? = some (.bool (s.changed k)) := fun k hk => by rw [List.getElem?_toArray, row_get _ _ k hk]
  generalize (row Value.bool s.changed).toArray = R at *
  have HR := Lib.hid hR
  clear hR hrow
  go_loopg [3, 13] 64 (fun q tv iv wr => ∃ (k : Nat) (OA : Option Addr) (oc : Nat), iv = .int .i64 k ∧ q = 64 - k ∧ k ≤ 64 ∧ tv = .slice OA (chL a k).length oc ∧
    wr.ownsRow w.heap.size 96 3 (.slice OA (chL a k).length oc) (chL a k).length (chVals (chL a k)) ∧ All C B wr sps hm ∧ Below w.heap.size w wr)
  case atStart => exact ⟨0, none, 0, rfl, rfl, by omega, rfl, World.ownsRow_nil _ _ _ _, H0.out, Below.refl _ _⟩
  case round =>
    obtain ⟨k, OA, oc, rfl, rfl, hk, rfl, hown, hA1, hb1⟩ := hrel
    have HOWN := Lib.hid hown
    have HA1 := Lib.hid hA1
    have HB1 := Lib.hid hb1
    have hsz1 := hb1.size
    clear hown hA1 hb1
    by_cases hlt : k < 64
    · have i1 : (k : Int) < 64 := by omega
      have i0 : (0 : Int) ≤ (k : Int) := by omega
      have hsu := chL_succ a k
      have hle := chL_le a k
      have hix := fun W => idx_row 82 4 _ R k _ W Try.underlying82 Try.underlying4 rfl info4 hlt (HR.out k hlt)
      have hca : a.changed k = s.changed k := by rw [HA.out]; rfl
      rw [hca] at hsu
      obtain ⟨L, hL⟩ : ∃ L, L = chL a k := ⟨_, rfl⟩
      rw [← hL] at HOWN hle hsu ⊢
      clear hL hca
      cases hc : s.changed k with
      | false =>
        rw [hc] at hix hsu
        have hnx : chL a (k + 1) = L := by rw [hsu]; simp
        have HNX := Lib.hid hnx
        clear hnx hsu hc
        go_wp2_with fail
        go_roundg (64 - (k + 1))
        case measure => omega
        case rel => exact ⟨k + 1, OA, oc, by go_num, rfl, by omega, by rw [HNX.out], by rw [HNX.out]; exact HOWN.out, HA1.out, HB1.out⟩
      | true =>
        rw [hc] at hix hsu
        rw [if_pos rfl] at hsu
        have hbg := (HA1.out.blk g s HG.out).1
        have k2 : wr.cell? ⟨g, 193 + k, none⟩ = some (ptrV (s.pg k)) := by rw [hbg.cell, sp_pg s k hlt]
        have zg := hbg.lt
        have hpa : a.page k = pageOf hm (s.pg k) := by rw [HA.out]; rfl
        rw [hpa] at hsu
        have hq2 := ptr_neq2
        have hq3 := nil_neq
        clear hc hpa hbg
        cases h1 : s.pg k with
        | none =>
          rw [h1] at k2 hsu
          unfold ptrV at k2
          simp only [Option.map_none] at k2
          have hnx : chL a (k + 1) = L ++ [(k, none)] := hsu
          have HNX := Lib.hid hnx
          clear hnx hsu h1
          have hle2 : L.length ≤ 64 := by omega
          go_wp2_with (at_builtin; refine wpList_append_lies _ rfl (.tmp 37) (.tmp 40) _ rfl w.heap.size 96 i96 _ 3 32 Try.underlying49 hi hz0 hz1 hz2 rfl (by omega) (.slice OA L.length oc) L.length (chVals L) rfl (HOWN.out.alloc _) ⟨wr.heap.size, 0, none⟩ 1 1 [.int .i64 (k : Int), .string ⟨#[]⟩, .bool true] rfl rfl (World.news_of_block (t := 96) (fr := (0, 0)) (heap_alloc_new wr _)) (by simp [Value.oneCell']) (by omega) (by unfold maxLen; omega) (by omega) (by simp; omega) (wr.heap.size + 1) (by simp) ?_; intro gg oc4 w4 hown4 hgrow4 hat4 hlt4)
          have h4 := HA1.out.below_own ok hsz1 HOWN.out (.inr (.inr rfl)) _ hgrow4
          have hcv : chVals L ++ [.int .i64 (k : Int), .string ⟨#[]⟩, .bool true] = chVals (L ++ [(k, none)]) := by rw [chVals_append]; rfl
          rw [hcv] at hown4
          go_roundg (64 - (k + 1))
          case measure => omega
          case rel => exact ⟨k + 1, _, _, by go_num, rfl, by omega, by rw [HNX.out, List.length_append]; rfl, by rw [HNX.out, List.length_append]; exact hown4, h4.1, HB1.out.trans (h4.2)⟩
        | some r =>
          obtain ⟨⟨b0, sh0⟩, hmr⟩ := HA1.out.ref g s HG.out k r h1
          have hpn : pageOf hm (some r) = some b0 := by show (hm r).map _ = _; rw [hmr]; rfl
          rw [h1] at k2 hsu
          rw [hpn] at hsu
          unfold ptrV at k2
          simp only [Option.map_some] at k2
          have HNX := Lib.hid hsu
          clear hsu h1 hpn
          obtain ⟨hl, hbr, _⟩ := HA1.out.mem r b0 sh0 hmr
          have hconv : (convert 27 9 (.slice (some ⟨r, 0, none⟩) 64 64)).run Try.prog wr = .ok (.string ⟨b0.toArray⟩) wr := by
            refine run_convert_string (B := wr.heap.size) Try.underlying27 Try.underlying5 Try.underlying9 ⟨some ⟨r, 0, none⟩, 64, by rw [hl], by omega, by unfold maxLen; omega, by rw [bs_length]; omega, fun _ => ⟨_, rfl, hbr.lt, fun j u hu => ?_⟩⟩
            rw [add_at0]
            have := held_range wr r b0 sh0 hbr j u hu
            rw [Nat.zero_add] at this
            exact this
          clear hmr hl hbr
          have hle2 : L.length ≤ 64 := by omega
          go_wp2_with (at_builtin; refine wpList_append_lies _ rfl (.tmp 27) (.tmp 35) _ rfl w.heap.size 96 i96 _ 3 32 Try.underlying49 hi hz0 hz1 hz2 rfl (by omega) (.slice OA L.length oc) L.length (chVals L) rfl (HOWN.out.alloc _) ⟨wr.heap.size, 0, none⟩ 1 1 [.int .i64 (k : Int), .string ⟨b0.toArray⟩, .bool false] rfl rfl (World.news_of_block (t := 96) (fr := (0, 0)) (heap_alloc_new wr _)) (by simp [Value.oneCell']) (by omega) (by unfold maxLen; omega) (by omega) (by simp; omega) (wr.heap.size + 1) (by simp) ?_; intro gg oc4 w4 hown4 hgrow4 hat4 hlt4)
          have h4 := HA1.out.below_own ok hsz1 HOWN.out (.inr (.inr rfl)) _ hgrow4
          have hcv : chVals L ++ [.int .i64 (k : Int), .string ⟨b0.toArray⟩, .bool false] = chVals (L ++ [(k, some b0)]) := by rw [chVals_append]; rfl
          rw [hcv] at hown4
          go_roundg (64 - (k + 1))
          case measure => omega
          case rel => exact ⟨k + 1, _, _, by go_num, rfl, by omega, by rw [HNX.out, List.length_append]; rfl, by rw [HNX.out, List.length_append]; exact hown4, h4.1, HB1.out.trans (h4.2)⟩
    · obtain rfl : k = 64 := by omega
      have i1 : decide (((64 : Nat) : Int) < 64) = false := by decide
      go_wp2_with fail
      go_ret
      exact ⟨⟨OA, oc, rfl, HOWN.out⟩, HA1.out, HB1.out⟩

/-- The pages below k that have been asked for. -/
def askL (a : AS) (k : Nat) : List Nat := (List.range k).filter fun p => a.asked p
theorem askL_succ (a : AS) (k : Nat) : askL a (k + 1) = askL a k ++ if a.asked k = true then [k] else [] := by
  unfold askL
  rw [List.range_succ, List.filter_append]
  congr 1
  by_cases h : a.asked k = true
  · rw [if_pos h]; simp [h]
  · rw [if_neg h]; simp only [Bool.not_eq_true] at h; simp [h]
theorem askL_le (a : AS) (k : Nat) : (askL a k).length ≤ k := by
  unfold askL
  exact Nat.le_trans (List.length_filter_le _ _) (by simp)
set_option maxRecDepth 100000 in
set_option maxHeartbeats 8000000 in
theorem asked_all (ok : SourceOk C B) (h : All C B w sps hm) (hg : sps g = some s) :
    Calls Try.prog 26 #[.pointer (some ⟨g, 0, none⟩)] w fun e w' => OwnInts w.heap.size (askL (view C hm s) 64) e w' ∧ All C B w' sps hm ∧ Below w.heap.size w w' := by
  have hq := ptr23_some
  obtain ⟨i3, hi, hz0, hz1, hz2⟩ := info_parts info3
  obtain ⟨a, ha⟩ : ∃ a, a = view C hm s := ⟨_, rfl⟩
  rw [← ha]
  have HA := Lib.hid ha
  have H0 := Lib.hid h
  have HG := Lib.hid hg
  have hrow := Lib.hid (asked_range w g s (h.blk g s hg).1)
  clear ha h hg
  go_enter Try.func26, Try.ntmps26
  go_wp2_with (with_reducible refine wpList_load_mid rfl 82 (.tmp 10) rfl g 65 rfl (row .bool s.asked) _ hrow.out Try.underlying82 rfl (by rw [row_length]; exact info82) ?_)
  have hR : ∀ k, k < 64 → (row Value.bool s.asked).toArray[k]? = some (.bool (s.asked k)) := fun k hk => by rw [List.getElem?_toArray, row_get _ _ k hk]
  generalize (row Value.bool s.asked).toArray = R at *
  have HR := Lib.hid hR
  clear hR hrow
  go_loopg [3, 12] 64 (fun q tv iv wr => ∃ (k : Nat) (OA : Option Addr) (oc : Nat), iv = .int .i64 k ∧ q = 64 - k ∧ k ≤ 64 ∧ tv = .slice OA (askL a k).length oc ∧
    wr.ownsRow w.heap.size 3 1 (.slice OA (askL a k).length oc) (askL a k).length (nums (askL a k)) ∧ All C B wr sps hm ∧ Below w.heap.size w wr)
  case atStart => exact ⟨0, none, 0, rfl, rfl, by omega, rfl, World.ownsRow_nil _ _ _ _, H0.out, Below.refl _ _⟩
  case round =>
    obtain ⟨k, OA, oc, rfl, rfl, hk, rfl, hown, hA1, hb1⟩ := hrel
    have HOWN := Lib.hid hown
    have HA1 := Lib.hid hA1
    have HB1 := Lib.hid hb1
    have hsz1 := hb1.size
    clear hown hA1 hb1
    by_cases hlt : k < 64
    · have i1 : (k : Int) < 64 := by omega
      have i0 : (0 : Int) ≤ (k : Int) := by omega
      have hsu := askL_succ a k
      have hle := askL_le a k
      have hix := fun W => idx_row 82 4 _ R k _ W Try.underlying82 Try.underlying4 rfl info4 hlt (HR.out k hlt)
      have hca : a.asked k = s.asked k := by rw [HA.out]; rfl
      rw [hca] at hsu
      obtain ⟨L, hL⟩ : ∃ L, L = askL a k := ⟨_, rfl⟩
      rw [← hL] at HOWN hle hsu ⊢
      clear hL hca
      cases hc : s.asked k with
      | false =>
        rw [hc] at hix hsu
        have hnx : askL a (k + 1) = L := by rw [hsu]; simp
        have HNX := Lib.hid hnx
        clear hnx hsu hc
        go_wp2_with fail
        go_roundg (64 - (k + 1))
        case measure => omega
        case rel => exact ⟨k + 1, OA, oc, by go_num, rfl, by omega, by rw [HNX.out], by rw [HNX.out]; exact HOWN.out, HA1.out, HB1.out⟩
      | true =>
        rw [hc] at hix hsu
        rw [if_pos rfl] at hsu
        have HNX := Lib.hid hsu
        have hle2 : L.length ≤ 64 := by omega
        clear hc hsu
        go_wp2_with (at_builtin; refine wpList_append_lies _ rfl (.tmp 17) (.tmp 19) _ rfl w.heap.size 3 i3 _ 1 8 Try.underlying56 hi hz0 hz1 hz2 rfl (by omega) (.slice OA L.length oc) L.length (nums L) rfl (HOWN.out.alloc _) ⟨wr.heap.size, 0, none⟩ 1 1 [.int .i64 k] rfl rfl (World.news_of_block (t := 3) (fr := (0, 0)) (heap_alloc_new wr _)) (by simp [Value.oneCell']) (by omega) (by unfold maxLen; omega) (by omega) (by simp; omega) (wr.heap.size + 1) (by simp) ?_; intro gg oc4 w4 hown4 hgrow4 hat4 hlt4)
        have h4 := HA1.out.below_own ok hsz1 HOWN.out (.inr (.inl rfl)) _ hgrow4
        rw [show nums L ++ [.int .i64 k] = nums (L ++ [k]) by rw [nums_append]; rfl] at hown4
        go_roundg (64 - (k + 1))
        case measure => omega
        case rel => exact ⟨k + 1, _, _, by go_num, rfl, by omega, by rw [HNX.out, List.length_append]; rfl, by rw [HNX.out, List.length_append]; exact hown4, h4.1, HB1.out.trans (h4.2)⟩
    · obtain rfl : k = 64 := by omega
      have i1 : decide (((64 : Nat) : Int) < 64) = false := by decide
      go_wp2_with fail
      go_ret
      exact ⟨⟨OA, oc, rfl, HOWN.out⟩, HA1.out, HB1.out⟩
end
end Go.Proofs.Ytbppafbdmdbdiaa
