/-
  Text of a space without a source.
-/
import Derived.Test.YtbppafbdmdbdiaaSpP
namespace Go.Proofs.Ytbppafbdmdbdiaa
open Go.RowKit
variable {B : Nat} {w w' : World} {g : Nat} {a : AS}
theorem text_on (h : On B w g a) (x most : Int) (ha1 : -9223372036854775808 ≤ x) (ha2 : x ≤ 9223372036854775807) :
    Calls Try.prog 16 #[.pointer (some ⟨g, 0, none⟩), .int .i64 x, .int .i64 most] w fun e w' => e = .returned (.tuple #[.string ⟨(textA a x most).2.1.toArray⟩, .int .i64 (textA a x most).2.2]) ∧ On B w' g (textA a x most).1 ∧ Below B w w' := by
  obtain ⟨⟨sps, hm, s, h1, h2, rfl⟩, hB⟩ := h
  refine (text_all (ok0 B) h1 h2 x most hB ha1 ha2 (fun k hk => hk.elim)).mono ?_
  intro e w' hs
  have := On.step hB hs
  obtain ⟨s', hm', _, _, _, _, hK⟩ := hs
  exact ⟨hK, this⟩
end Go.Proofs.Ytbppafbdmdbdiaa
