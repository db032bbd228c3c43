/-
  Walks: Changes.
-/
import Derived.Test.YtkoomlbnfhdhcaaGreatDoorMSg
namespace Go.Proofs.YtkoomlbnfhdhcaaGreatDoor
open Go.RowKit
set_option linter.unusedVariables false

theorem info96 : (Tryz.prog.info? 148).map (fun i => (i.zero, i.size, i.bytes)) = some (some (.agg #[.int .i64 0, .string ⟨#[]⟩, .bool false]), 3, 32) := by kernel_rfl
section
variable {C : Source} {B : Nat} {w w' : World} {sps : Nat → Option Sp} {hm : Pages} {g : Nat} {s : Sp}
set_option maxRecDepth 100000 in
set_option maxHeartbeats 8000000 in
theorem changes_all (ok : SourceOk C B) (h : All C B w sps hm) (hg : sps g = some s) :
    Calls Tryz.prog 69 #[.pointer (some ⟨g, 0, none⟩)] w fun e w' => OwnChs w.heap.size (chL (view C hm s) 64) e w' ∧ All C B w' sps hm ∧ Below w.heap.size w w' := by
  have hq := ptr23_some
  obtain ⟨i96, hi, hz0, hz1, hz2⟩ := info_parts info96
  obtain ⟨a, ha⟩ : ∃ a, a = view C hm s := ⟨_, rfl⟩
  rw [← ha]
  have HA := Lib.hid ha
  have H0 := Lib.hid h
  have HG := Lib.hid hg
  have hrow := Lib.hid (changed_range w g s (h.blk g s hg).1)
  clear ha h hg
  go_enter Tryz.func69, Tryz.ntmps69
  go_wp2_with (with_reducible refine wpList_load_mid rfl 94 (.tmp 11) rfl g 129 rfl (row .bool s.changed) _ hrow.out Tryz.underlying94 rfl (by rw [row_length]; exact info82) ?_)
  have hR : ∀ k, k < 64 → (row Value.bool s.changed).toArray[k]? = some (.bool (s.changed k)) := fun k hk => by rw [List.getElem?_toArray, row_get _ _ k hk]
  generalize (row Value.bool s.changed).toArray = R at *
  have HR := Lib.hid hR
  clear hR hrow
  go_loopg [3, 13] 64 (fun q tv iv wr => ∃ (k : Nat) (OA : Option Addr) (oc : Nat), iv = .int .i64 k ∧ q = 64 - k ∧ k ≤ 64 ∧ tv = .slice OA (chL a k).length oc ∧
    wr.ownsRow w.heap.size 148 3 (.slice OA (chL a k).length oc) (chL a k).length (chVals (chL a k)) ∧ All C B wr sps hm ∧ Below w.heap.size w wr)
  case atStart => exact ⟨0, none, 0, rfl, rfl, by omega, rfl, World.ownsRow_nil _ _ _ _, H0.out, Below.refl _ _⟩
  case round =>
    obtain ⟨k, OA, oc, rfl, rfl, hk, rfl, hown, hA1, hb1⟩ := hrel
    have HOWN := Lib.hid hown
    have HA1 := Lib.hid hA1
    have HB1 := Lib.hid hb1
    have hsz1 := hb1.size
    clear hown hA1 hb1
    by_cases hlt : k < 64
    · have i1 : (k : Int) < 64 := by omega
      have i0 : (0 : Int) ≤ (k : Int) := by omega
      have hsu := chL_succ a k
      have hle := chL_le a k
      have hix := fun W => idx_row 94 4 _ R k _ W Tryz.underlying94 Tryz.underlying4 rfl info4 hlt (HR.out k hlt)
      have hca : a.changed k = s.changed k := by rw [HA.out]; rfl
      rw [hca] at hsu
      obtain ⟨L, hL⟩ : ∃ L, L = chL a k := ⟨_, rfl⟩
      rw [← hL] at HOWN hle hsu ⊢
      clear hL hca
      cases hc : s.changed k with
      | false =>
        rw [hc] at hix hsu
        have hnx : chL a (k + 1) = L := by rw [hsu]; simp
        have HNX := Lib.hid hnx
        clear hnx hsu hc
        go_wp2_with fail
        go_roundg (64 - (k + 1))
        case measure => omega
        case rel => exact ⟨k + 1, OA, oc, by go_num, rfl, by omega, by rw [HNX.out], by rw [HNX.out]; exact HOWN.out, HA1.out, HB1.out⟩
      | true =>
        rw [hc] at hix hsu
        rw [if_pos rfl] at hsu
        have hbg := (HA1.out.blk g s HG.out).1
        have k2 : wr.cell? ⟨g, 193 + k, none⟩ = some (ptrV (s.pg k)) := by rw [hbg.cell, sp_pg s k hlt]
        have zg := hbg.lt
        have hpa : a.page k = pageOf hm (s.pg k) := by rw [HA.out]; rfl
        rw [hpa] at hsu
        have hq2 := ptr_neq2
        have hq3 := nil_neq
        clear hc hpa hbg
        cases h1 : s.pg k with
        | none =>
          rw [h1] at k2 hsu
          unfold ptrV at k2
          simp only [Option.map_none] at k2
          have hnx : chL a (k + 1) = L ++ [(k, none)] := hsu
          have HNX := Lib.hid hnx
          clear hnx hsu h1
          have hle2 : L.length ≤ 64 := by omega
          go_wp2_with (at_builtin; refine wpList_append_lies _ rfl (.tmp 37) (.tmp 40) _ rfl w.heap.size 148 i96 _ 3 32 Tryz.underlying145 hi hz0 hz1 hz2 rfl (by omega) (.slice OA L.length oc) L.length (chVals L) rfl (HOWN.out.alloc _) ⟨wr.heap.size, 0, none⟩ 1 1 [.int .i64 (k : Int), .string ⟨#[]⟩, .bool true] rfl rfl (World.news_of_block (t := 148) (fr := (0, 0)) (heap_alloc_new wr _)) (by simp [Value.oneCell']) (by omega) (by unfold maxLen; omega) (by omega) (by simp; omega) (wr.heap.size + 1) (by simp) ?_; intro gg oc4 w4 hown4 hgrow4 hat4 hlt4)
          have h4 := HA1.out.below_own ok hsz1 HOWN.out (.inr (.inr rfl)) _ hgrow4
          have hcv : chVals L ++ [.int .i64 (k : Int), .string ⟨#[]⟩, .bool true] = chVals (L ++ [(k, none)]) := by rw [chVals_append]; rfl
          rw [hcv] at hown4
          go_roundg (64 - (k + 1))
          case measure => omega
          case rel => exact ⟨k + 1, _, _, by go_num, rfl, by omega, by rw [HNX.out, List.length_append]; rfl, by rw [HNX.out, List.length_append]; exact hown4, h4.1, HB1.out.trans (h4.2)⟩
        | some r =>
          obtain ⟨⟨b0, sh0⟩, hmr⟩ := HA1.out.ref g s HG.out k r h1
          have hpn : pageOf hm (some r) = some b0 := by show (hm r).map _ = _; rw [hmr]; rfl
          rw [h1] at k2 hsu
          rw [hpn] at hsu
          unfold ptrV at k2
          simp only [Option.map_some] at k2
          have HNX := Lib.hid hsu
          clear hsu h1 hpn
          obtain ⟨hl, hbr, _⟩ := HA1.out.mem r b0 sh0 hmr
          have hconv : (convert 24 9 (.slice (some ⟨r, 0, none⟩) 64 64)).run Tryz.prog wr = .ok (.string ⟨b0.toArray⟩) wr := by
            refine run_convert_string (B := wr.heap.size) Tryz.underlying24 Tryz.underlying5 Tryz.underlying9 ⟨some ⟨r, 0, none⟩, 64, by rw [hl], by omega, by unfold maxLen; omega, by rw [bs_length]; omega, fun _ => ⟨_, rfl, hbr.lt, fun j u hu => ?_⟩⟩
            rw [add_at0]
            have := held_range wr r b0 sh0 hbr j u hu
            rw [Nat.zero_add] at this
            exact this
          clear hmr hl hbr
          have hle2 : L.length ≤ 64 := by omega
          go_wp2_with (at_builtin; refine wpList_append_lies _ rfl (.tmp 27) (.tmp 35) _ rfl w.heap.size 148 i96 _ 3 32 Tryz.underlying145 hi hz0 hz1 hz2 rfl (by omega) (.slice OA L.length oc) L.length (chVals L) rfl (HOWN.out.alloc _) ⟨wr.heap.size, 0, none⟩ 1 1 [.int .i64 (k : Int), .string ⟨b0.toArray⟩, .bool false] rfl rfl (World.news_of_block (t := 148) (fr := (0, 0)) (heap_alloc_new wr _)) (by simp [Value.oneCell']) (by omega) (by unfold maxLen; omega) (by omega) (by simp; omega) (wr.heap.size + 1) (by simp) ?_; intro gg oc4 w4 hown4 hgrow4 hat4 hlt4)
          have h4 := HA1.out.below_own ok hsz1 HOWN.out (.inr (.inr rfl)) _ hgrow4
          have hcv : chVals L ++ [.int .i64 (k : Int), .string ⟨b0.toArray⟩, .bool false] = chVals (L ++ [(k, some b0)]) := by rw [chVals_append]; rfl
          rw [hcv] at hown4
          go_roundg (64 - (k + 1))
          case measure => omega
          case rel => exact ⟨k + 1, _, _, by go_num, rfl, by omega, by rw [HNX.out, List.length_append]; rfl, by rw [HNX.out, List.length_append]; exact hown4, h4.1, HB1.out.trans (h4.2)⟩
    · obtain rfl : k = 64 := by omega
      have i1 : decide (((64 : Nat) : Int) < 64) = false := by decide
      go_wp2_with fail
      go_ret
      exact ⟨⟨OA, oc, rfl, HOWN.out⟩, HA1.out, HB1.out⟩

end
end Go.Proofs.YtkoomlbnfhdhcaaGreatDoor
