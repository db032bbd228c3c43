/-
  Walks: SetWord, Word.
-/
import Derived.Test.YtbppafbdmdbdiaaSpR
namespace Go.Proofs.Ytbppafbdmdbdiaa
open Go.RowKit
set_option linter.unusedVariables false
def le4 (n : Nat) : List UInt8 := [UInt8.ofNat n, UInt8.ofNat (n / 256), UInt8.ofNat (n / 65536), UInt8.ofNat (n / 16777216)]
section
variable {C : Source} {B : Nat} {w w' : World} {sps : Nat → Option Sp} {hm : Pages} {g : Nat} {s : Sp}
theorem Stp.after {w1 : World} {a' : AS} {K : Sp → Pages → Prop} (h : Below w.heap.size w w1) (hs : Stp C B sps hm g a' w1 w' K) : Stp C B sps hm g a' w w' K := by
  obtain ⟨s1, hm1, q1, q2, q3, q4, q5⟩ := hs
  exact ⟨s1, hm1, q1, q2, q3, (Mv.of_below h).trans q4, q5⟩
set_option maxRecDepth 100000 in
set_option maxHeartbeats 8000000 in
theorem setWord_all (ok : SourceOk C B) (h : All C B w sps hm) (hg : sps g = some s) (at_ : Int) (n : Nat) (hn : n < 4294967296) (ha1 : -9223372036854775808 ≤ at_) (ha2 : at_ ≤ 9223372036854775807) (hB : B ≤ w.heap.size) :
    Calls Try.prog 22 #[.pointer (some ⟨g, 0, none⟩), .int .i64 at_, .int .u32 n] w fun e w' => Stp C B sps hm g (storeA (view C hm s) at_ (le4 n)).1 w w' (ErrK e (storeA (view C hm s) at_ (le4 n)).2) := by
  have hbs : (#[.int .u8 ((n : Int) % 256), .int .u8 ((n : Int) / 256 % 256), .int .u8 ((n : Int) / 65536 % 256), .int .u8 ((n : Int) / 16777216)] : Array Value) = (bs (le4 n)).toArray := by
    unfold le4 bs
    simp only [List.map_cons, List.map_nil, UInt8.toNat_ofNat']
    rw [show (n : Int) % 256 = ((n % 2 ^ 8 : Nat) : Int) by omega, show (n : Int) / 256 % 256 = ((n / 256 % 2 ^ 8 : Nat) : Int) by omega, show (n : Int) / 65536 % 256 = ((n / 65536 % 2 ^ 8 : Nat) : Int) by omega, show (n : Int) / 16777216 = ((n / 16777216 % 2 ^ 8 : Nat) : Int) by omega]
  obtain ⟨W, hW⟩ : ∃ W, W = w.alloc (.cells #[.int .u8 ((n : Int) % 256), .int .u8 ((n : Int) / 256 % 256), .int .u8 ((n : Int) / 65536 % 256), .int .u8 ((n : Int) / 16777216)] 5) := ⟨_, rfl⟩
  have hbel : Below w.heap.size w W := by rw [hW]; exact (Below.refl _ _).alloc (Nat.le_refl _) _
  have hrd : RdB W (w.heap.size + 1) (.slice (some ⟨w.heap.size, 0, none⟩) 4 4) (le4 n) := by
    refine ⟨_, 4, rfl, by simp [le4], by simp [maxLen], by simp [bs, le4], fun _ => ⟨_, rfl, by simp, fun j u hu => ?_⟩⟩
    rw [add_at0, hW, hbs, World.cell?_alloc_mark]
    simpa using hu
  have hcv := run_convert_string (P := Try.prog) Try.underlying27 Try.underlying5 Try.underlying9 hrd
  have HST := Lib.hid (store_all ok (h.below ok.keeps hbel) hg at_ ⟨(le4 n).toArray⟩ (by show (le4 n).toArray.size ≤ _; simp [le4]) ha1 ha2 (Nat.le_trans hB hbel.size))
  have HB := Lib.hid hbel
  clear hbs hrd hbel
  have HW := Lib.hid hW
  rw [hW] at hcv
  clear hW
  go_enter Try.func22, Try.ntmps22
  go_wp2_with fail
  rw [← HW.out]
  refine HST.out.mono ?_
  rintro e w1 hs
  have HS := Lib.hid (Stp.after HB.out hs)
  obtain ⟨s1, hm1, _, _, _, _, rfl⟩ := hs
  dsimp only
  go_wp2_with fail
  go_ret
  obtain ⟨s1, hm1, q1, q2, q3, q4, _⟩ := HS.out
  exact ⟨s1, hm1, q1, q2, q3, q4, rfl⟩
end
end Go.Proofs.Ytbppafbdmdbdiaa
