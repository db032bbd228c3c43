/-
  The law SpaceOperations, walked.
-/
import Derived.Test.YtbppafbdmdbdiaaVwB
import Derived.Test.YtbppafbdmdbdiaaLawAsks
namespace Go.Proofs.Ytbppafbdmdbdiaa
open Go.RowKit
set_option linter.unusedVariables false

set_option maxRecDepth 100000 in
set_option maxHeartbeats 8000000 in
theorem operations_walk (w : World) (v1 v2 : Value) (l : List Fl) (ops : List OpV) (hl : RdF w w.heap.size v1 l) (ho : RdO w w.heap.size v2 ops) :
    Calls Try.prog 8 #[v1, v2] w fun e w' => e = .returned (.bool true) ∧ Below w.heap.size w w' := by
  obtain ⟨OP, opc, rfl, hlen, hops⟩ := id ho
  unfold maxLen at hlen
  have HFL := Lib.hid hl.sizes
  have HL := Lib.hid hl
  have HO := Lib.hid ho
  clear hops hl ho
  go_enter Try.func8, Try.ntmps8
  go_wp2_with fail
  refine (known_any w).mono ?_
  rintro e w1 ⟨rfl, nb⟩
  have HB1 := Lib.hid nb
  have hs1 := nb.size
  have HL1 := Lib.hid ((HL.out.below nb).more hs1)
  have HO1 := Lib.hid ((HO.out.below nb).more hs1)
  clear nb
  dsimp only
  by_cases h30 : 30 < ops.length
  · have e1 : decide ((30 : Int) < (ops.length : Int)) = true := decide_eq_true (by omega)
    clear h30
    go_wp2_with fail
    refine (known_any w1).mono ?_
    rintro e w2 ⟨rfl, nb⟩
    have HB2 := Lib.hid (HB1.out.trans (nb.mono hs1))
    clear nb
    dsimp only
    go_wp2_with fail
    go_ret
    exact ⟨rfl, HB2.out⟩
  · have e1 : decide ((30 : Int) < (ops.length : Int)) = false := decide_eq_false (by omega)
    clear h30
    go_wp2_with fail
    refine (play_any w1 v1 _ l ops HL1.out HO1.out HFL.out).mono ?_
    rintro e w2 ⟨box, ab, cm, root, base, b0, OA, oc, sps, hm, L, rfl, hok, hcm, hpl⟩
    have hrow := RowAt.of_own hpl.own
    generalize askedSrc box ab w1.heap.size cm root (srcL l) = C at *
    have hL4 := hpl.four
    have HOK := Lib.hid hok
    have HPL := Lib.hid hpl
    have HB2 := Lib.hid (HB1.out.trans (hpl.bel.mono hs1))
    have hs2 := hpl.bel.size
    have HROW := Lib.hid hrow
    clear hok hpl hrow
    dsimp only
    go_wp2_with fail
    go_loopg [7, 8] L.length (fun q okv iv wr => ∃ j : Nat, q = L.length - j ∧ j ≤ L.length ∧ okv = .bool true ∧ iv = .int .i64 j ∧ Below w2.heap.size w2 wr)
    case atStart => exact ⟨0, by omega, by omega, rfl, rfl, Below.refl _ _⟩
    case round =>
      obtain ⟨j, rfl, hj, rfl, rfl, hb⟩ := hrel
      have HBW := Lib.hid (HB2.out.trans (hb.mono HB2.out.size))
      by_cases hlt : j < L.length
      · have hrow2 := HROW.out.below hb
        have hplay2 := HPL.out.play.below HOK.out hb
        have hmem : L[j] ∈ L := List.getElem_mem hlt
        obtain ⟨rg2, hOA2, hcell2⟩ := hrow2.cell j (.pointer (some ⟨(L[j]).b, 0, none⟩)) (by unfold prPs; rw [List.getElem?_map, List.getElem?_eq_getElem hlt]; rfl)
        subst hOA2
        obtain ⟨s2, q1, q2, q3, q4⟩ := (hplay2.prs _ hmem).ex
        have HVW := Lib.hid (views_any HOK.out hplay2.all q1 q2 rfl rfl)
        generalize L[j] = pr at *
        have i3 : (j : Int) < (L.length : Int) := by omega
        have i4 : (0 : Int) ≤ (j : Int) := by omega
        have HHB := Lib.hid hb
        clear hrow2 hplay2 hmem q1 q2 q3 q4 hb
        go_wp2_with fail
        refine HVW.out.mono ?_
        rintro e w5 ⟨rfl, nb⟩
        have HB5 := Lib.hid (HHB.out.trans (nb.mono HHB.out.size))
        clear nb
        dsimp only
        go_wp2_with fail
        go_roundg (L.length - (j + 1))
        case measure => omega
        case rel => exact ⟨j + 1, by omega, by omega, rfl, by go_num, HB5.out⟩
      · obtain rfl : j = L.length := by omega
        clear hlt hb hj
        go_wp2_with fail
        go_ret
        exact ⟨rfl, HBW.out⟩
end Go.Proofs.Ytbppafbdmdbdiaa
