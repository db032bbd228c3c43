/-
  Walks: Word, Page.
-/
import Derived.Test.YtkoomlbnfhdhcaaGreatDoorMSg
import Derived.Lib.EndianBits
namespace Go.Proofs.YtkoomlbnfhdhcaaGreatDoor
open Go.RowKit
set_option linter.unusedVariables false

section
variable {C : Source} {B : Nat} {w w' : World} {sps : Nat → Option Sp} {hm : Pages} {g : Nat} {s : Sp}
theorem load4 (a : AS) (x : Int) : ((loadA a x 4).2.2 = 0 → ∃ b0 b1 b2 b3, (loadA a x 4).2.1 = [b0, b1, b2, b3]) ∧ ((loadA a x 4).2.2 ≠ 0 → (loadA a x 4).2.1 = []) := by
  unfold loadA
  rw [if_neg (by omega)]
  refine ⟨fun h => ?_, fun h => ?_⟩
  · have h' : (accessA a x 4).2 = 0 := h
    show ∃ b0 b1 b2 b3, (if (accessA a x 4).2 = 0 then bytesA (accessA a x 4).1 x.toNat (4 : Int).toNat else []) = _
    rw [if_pos h']
    exact ⟨_, _, _, _, rfl⟩
  · have h' : ¬ (accessA a x 4).2 = 0 := h
    show (if (accessA a x 4).2 = 0 then bytesA (accessA a x 4).1 x.toNat (4 : Int).toNat else []) = _
    rw [if_neg h']
/-- The number in bytes, the least significant one first. -/
def leV : List UInt8 → Nat
  | [] => 0
  | b :: l => b.toNat + 256 * leV l
def WordK (e : Ending) (l : List UInt8) (r : Nat) : Sp → Pages → Prop := fun _ _ => e = .returned (.tuple #[.int .u32 (leV l), .int .i64 r])

set_option maxRecDepth 100000 in
set_option maxHeartbeats 8000000 in
theorem word_all (ok : SourceOk C B) (h : All C B w sps hm) (hg : sps g = some s) (at_ : Int) (ha1 : -9223372036854775808 ≤ at_) (ha2 : at_ ≤ 9223372036854775807) (hB : B ≤ w.heap.size) :
    Calls Tryz.prog 128 #[.pointer (some ⟨g, 0, none⟩), .int .i64 at_] w fun e w' => Stp C B sps hm g (loadA (view C hm s) at_ 4).1 w w' (WordK e (loadA (view C hm s) at_ 4).2.1 (loadA (view C hm s) at_ 4).2.2) := by
  have HL := Lib.hid (load_all ok h hg at_ 4 (by omega) ha1 ha2 hB)
  have HK := Lib.hid (load4 (view C hm s) at_)
  generalize loadA (view C hm s) at_ 4 = R at *
  obtain ⟨a', l, r⟩ := R
  dsimp only at HL HK ⊢
  go_enter Tryz.func128, Tryz.ntmps128
  go_wp2_with fail
  refine HL.out.mono ?_
  rintro e w1 ⟨s1, hm1, hA1, hv1, ho1, hmv1, rfl⟩
  have HA1 := Lib.hid hA1
  have HV1 := Lib.hid hv1
  have HO1 := Lib.hid ho1
  have HMV1 := Lib.hid hmv1
  clear hA1 hv1 ho1 hmv1 HL
  by_cases hr : r = 0
  · subst hr
    obtain ⟨b0, b1, b2, b3, rfl⟩ := HK.out.1 rfl
    dsimp only
    have h0 := b0.toNat_lt
    have h1 := b1.toNat_lt
    have h2 := b2.toNat_lt
    have h3 := b3.toNat_lt
    go_wp2_with fail
    have HA2 := Lib.hid (HA1.out.below ok.keeps (Below.refl w1.heap.size w1).drew)
    have HMV2 : Hid (Mv B C.X w w1.drew) := Lib.hid HMV1.out.drew
    refine wp_region_mixL (fun _ => True) [0, 1, 2, 3, 4, 5, 6, 7, 8, 9, 10, 11, 12, 13, 14, 15, 16, 17] [] [0, 1, 2, 3, 4, 5, 6, 7, 8, 9, 10, 11, 12, 13, 14, 15, 16, 17, 18, 19] (by kernel_rfl) (by kernel_rfl) trivial ?_
    simp only [inOrder, opAt]
    generalize w1.drew = W1 at *
    iterate 20
      (refine wpMixS_read (v := ?_) rfl rfl (fun w' hS => ?_) ?_
       rotate_left
       · ((try clear hS); go_simp; (try with_reducible rfl))
       try simp only [Act.put, List.setIfInBounds_toArray, List.set_cons_zero, List.set_cons_succ])
    refine wpMixS_nil ?_
    go_wp2_with fail
    go_ret2
    refine ⟨s1, hm1, HA2.out, HV1.out, HO1.out, HMV2.out, ?_⟩
    show Ending.returned (.tuple #[.int .u32 (bits BinOp.or IntKind.u32 (bits BinOp.or IntKind.u32 (bits BinOp.or IntKind.u32 (IntKind.u32.wrap (b0.toNat : Int)) (IntKind.u32.wrap (IntKind.u32.wrap (b1.toNat : Int) * 256))) (IntKind.u32.wrap (IntKind.u32.wrap (b2.toNat : Int) * 65536))) (IntKind.u32.wrap (IntKind.u32.wrap (b3.toNat : Int) * 16777216))), .int .i64 ((0 : Nat) : Int)]) = _
    rw [IntWalk.u32_in (b0.toNat : Int) (by omega), IntWalk.u32_in (b1.toNat : Int) (by omega), IntWalk.u32_in (b2.toNat : Int) (by omega), IntWalk.u32_in (b3.toNat : Int) (by omega),
      IntWalk.u32_in ((b1.toNat : Int) * 256) (by omega), IntWalk.u32_in ((b2.toNat : Int) * 65536) (by omega), IntWalk.u32_in ((b3.toNat : Int) * 16777216) (by omega),
      u32_or8 (b0.toNat : Int) ((b1.toNat : Int) * 256) (by omega) (by omega) (by omega) (by omega) (by omega), u32_or16 ((b0.toNat : Int) + (b1.toNat : Int) * 256) ((b2.toNat : Int) * 65536) (by omega) (by omega) (by omega) (by omega) (by omega), u32_or24 ((b0.toNat : Int) + (b1.toNat : Int) * 256 + (b2.toNat : Int) * 65536) ((b3.toNat : Int) * 16777216) (by omega) (by omega) (by omega) (by omega) (by omega)]
    have hle : ((leV [b0, b1, b2, b3] : Nat) : Int) = (b0.toNat : Int) + (b1.toNat : Int) * 256 + (b2.toNat : Int) * 65536 + (b3.toNat : Int) * 16777216 := by
      show ((b0.toNat + 256 * (b1.toNat + 256 * (b2.toNat + 256 * (b3.toNat + 256 * 0))) : Nat) : Int) = _
      omega
    rw [← hle]
  · have hl := HK.out.2 hr
    subst hl
    have e2 : ((r : Int) != 0) = true := bne_iff_ne.2 (by omega)
    have e3 : ((r : Int) == 0) = false := beq_eq_false_iff_ne.2 (by omega)
    clear hr
    dsimp only
    go_wp2_with fail
    go_ret2
    exact ⟨s1, hm1, HA1.out, HV1.out, HO1.out, HMV1.out, rfl⟩
end
end Go.Proofs.YtkoomlbnfhdhcaaGreatDoor
