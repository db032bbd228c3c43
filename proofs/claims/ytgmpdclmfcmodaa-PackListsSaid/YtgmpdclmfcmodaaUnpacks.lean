/-
  The law PackUnpacks, walked.
-/
import Derived.Test.YtgmpdclmfcmodaaForms
namespace Go.Proofs.Ytgmpdclmfcmodaa
open Go.RowKit

/-- The parts of what unpacking returns. -/
def rat : Except (Nat × Nat) (List UInt8) → Nat
  | .error (a, _) => a
  | .ok _ => 0
def rerr : Except (Nat × Nat) (List UInt8) → Nat
  | .error (_, n) => n
  | .ok _ => 0
def rok : Except (Nat × Nat) (List UInt8) → List UInt8
  | .error _ => []
  | .ok l => l

theorem UnpRet.form {w' : World} {R : Except (Nat × Nat) (List UInt8)} {e : Ending} (h : UnpRet w' R e) :
    ∃ v, e = .returned (.tuple #[v, .int .i64 (rat R), .int .i64 (rerr R)]) ∧ RdB w' w'.heap.size v (rok R) := by
  cases R with
  | error x =>
    obtain ⟨a, n⟩ := x
    exact ⟨_, h, RdB.nil _ _⟩
  | ok l =>
    obtain ⟨v, h1, h2⟩ := h
    exact ⟨v, h1, h2⟩

theorem int_wf {a : Int} (h : (Lit.int .i64 a).wf = true) : -9223372036854775808 ≤ a ∧ a < 9223372036854775808 := by
  simp [Lit.wf, IntKind.min, IntKind.max, IntKind.bits, IntKind.signed] at h
  omega

set_option maxRecDepth 100000 in
set_option maxHeartbeats 8000000 in
theorem unpacks_walk (w : World) (vd vp : Value) (most : Int) (dict p : List UInt8) (hd : RdB w w.heap.size vd dict) (hp : RdB w w.heap.size vp p) (hm : (Lit.int .i64 most).wf = true) :
    Calls Try.prog 5 #[vd, vp, .int .i64 most] w fun e w' => e = .returned (.bool true) ∧ Below w.heap.size w w' := by
  obtain ⟨hm1, hm2⟩ := int_wf hm
  go_enter Try.func5, Try.ntmps5
  go_wp2_with fail
  refine (cut_any w w.heap.size vd dict hd).mono ?_
  rintro e w1 ⟨v1, rfl, hd1, rfl⟩
  dsimp only
  go_wp2_with fail
  refine (cut_any w w.heap.size vp p hp).mono ?_
  rintro e w1 ⟨v2, rfl, hp1, rfl⟩
  dsimp only
  have hdl : (dict.take 400).length ≤ 400 := by rw [List.length_take]; omega
  have hpl : (p.take 400).length ≤ 400 := by rw [List.length_take]; omega
  generalize dict.take 400 = d at *
  generalize p.take 400 = q at *
  go_wp2_with fail
  refine (unpackWith_any w _ v1 v2 d q most hd1 hp1 (Nat.le_refl _) (by omega) hm1 hm2).mono ?_
  rintro e w1 ⟨hu, bl1⟩
  obtain ⟨u1, rfl, k1⟩ := hu.form
  dsimp only
  go_wp2_with fail
  refine (runpack_any w1 _ v1 v2 d q most (hd1.below bl1) (hp1.below bl1) bl1.size (by omega) hm1 hm2).mono ?_
  rintro e w2 ⟨hu2, nb⟩
  obtain ⟨u2, rfl, k2⟩ := hu2.form
  replace k1 := (k1.below nb).more nb.size
  have bl2 := bl1.trans (nb.mono bl1.size)
  clear bl1 nb hu hu2
  dsimp only
  go_wp2_with fail
  refine (unpack_any w2 _ v2 q most (hp1.below bl2) bl2.size (by omega) hm1 hm2).mono ?_
  rintro e w3 ⟨hu3, nb⟩
  obtain ⟨u3, rfl, k3⟩ := hu3.form
  replace k1 := (k1.below nb).more nb.size
  replace k2 := (k2.below nb).more nb.size
  have bl3 := bl2.trans (nb.mono bl2.size)
  clear bl2 nb hu3
  dsimp only
  go_wp2_with fail
  refine (runpack_any w3 _ (.slice none 0 0) v2 [] q most (RdB.nil _ _) (hp1.below bl3) bl3.size (by omega) hm1 hm2).mono ?_
  rintro e w4 ⟨hu4, nb⟩
  obtain ⟨u4, rfl, k4⟩ := hu4.form
  replace k1 := (k1.below nb).more nb.size
  replace k2 := (k2.below nb).more nb.size
  replace k3 := (k3.below nb).more nb.size
  have bl4 := bl3.trans (nb.mono bl3.size)
  clear bl3 nb hu4
  dsimp only
  go_wp2_with fail
  refine (known_any w4).mono ?_
  rintro e w5 ⟨rfl, nb⟩
  have c1 := conv_of (k1.below nb)
  have c2 := conv_of (k2.below nb)
  have c3 := conv_of (k3.below nb)
  have c4 := conv_of (k4.below nb)
  have bl5 := bl4.trans (nb.mono bl4.size)
  dsimp only
  generalize Pk.unpack d q most = R1 at *
  generalize Pk.unpack [] q most = R2 at *
  go_wp2_with fail
  go_ret
  exact ⟨rfl, bl5⟩
end Go.Proofs.Ytgmpdclmfcmodaa
