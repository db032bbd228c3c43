/-
  The law SpaceAsksOnce, walked.
-/
import Derived.Test.YtbppafbdmdbdiaaPlB
import Derived.Test.YtbppafbdmdbdiaaMSi
namespace Go.Proofs.Ytbppafbdmdbdiaa
open Go.RowKit
set_option linter.unusedVariables false

theorem RdF.more {w : World} {B B' : Nat} {v : Value} {l : List Fl} (h : RdF w B v l) (hB : B ≤ B') : RdF w B' v l := by
  obtain ⟨A, cap, h1, h2, h3⟩ := h
  refine ⟨A, cap, h1, h2, fun i hi => ?_⟩
  obtain ⟨b, off, h4, h5, h6⟩ := h3 i hi
  exact ⟨b, off, h4, Nat.lt_of_lt_of_le h5 hB, h6⟩
theorem RdO.more {w : World} {B B' : Nat} {v : Value} {l : List OpV} (h : RdO w B v l) (hB : B ≤ B') : RdO w B' v l := by
  obtain ⟨A, cap, h1, h2, h3⟩ := h
  refine ⟨A, cap, h1, h2, fun i hi => ?_⟩
  obtain ⟨h4, b, off, h5, h6, h7⟩ := h3 i hi
  exact ⟨h4, b, off, h5, Nat.lt_of_lt_of_le h6 hB, h7⟩
theorem RdF.sizes {w : World} {B : Nat} {v : Value} {l : List Fl} (h : RdF w B v l) : ∀ y ∈ l, y.2.size ≤ maxLen := fun y hy => by
  obtain ⟨i, hi, rfl⟩ := List.mem_iff_getElem.1 hy
  obtain ⟨A, cap, _, _, hc⟩ := h
  obtain ⟨_, _, _, _, _, _, h5⟩ := hc i hi
  exact h5
theorem run_len_MI' {w : World} {r : Nat} {m : List (Int × Value)} {t k e : TypeId} (h : MI w r m) (ht : Try.prog.underlying t = some (.map k e)) (ty : TypeId) : (Builtin.len_ #[t] ty #[.map (some r)]).run Try.prog w = .ok (.int .i64 m.length) w := by
  obtain ⟨_, es, clock, h1, h2⟩ := h
  have hl : es.size = m.length := by have := congrArg List.length h2.1; simpa using this
  unfold Builtin.len_
  simp [run_underlying ht, run_getObj_map (P := Try.prog) w r es clock h1, hl, goInt]
theorem PlS.counts {box a' pm cm root B base a b0 oc : Nat} {M : List (Int × Value)} {w wr : World} {OA : Option Addr} {sps : Nat → Option Sp} {hm : Pages} {L : List Pr}
    (h : PlS (askedSrc box a' pm cm root M) B base a pm cm b0 w wr OA oc sps hm L) : ∃ s r c, sps root = some s ∧ PB wr b0 root r ∧ MI wr cm c ∧ Counts c s.asked := by
  have hmem : (⟨b0, root, .map (some pm)⟩ : Pr) ∈ L := List.mem_of_mem_head? (by rw [h.head]; rfl)
  obtain ⟨s, h1, h2, h3, h4⟩ := (h.play.prs _ hmem).ex
  have hsrc : (view (askedSrc box a' pm cm root M) hm s).src ≠ none := by
    rcases h3 with ⟨h5, _⟩ | ⟨_, _, _, _, _, h5⟩
    · cases h5
    · rw [h5]; simp
  rcases h.play.all.env s h1 with e | ⟨_, _, _, _, c, hc, hcnt⟩
  · refine absurd ?_ hsrc
    show srcOf _ s.fetch = none
    rw [e]
    rfl
  · exact ⟨s, _, c, h1, h2, hc, hcnt⟩
theorem askL_count {c : List (Int × Value)} {a : AS} (hc : Counts c a.asked) (h1 : ∀ p ∈ c, Pg p.1) (h2 : (c.map (·.1)).Nodup) : (askL a 64).length = c.length := by
  rw [← count_map c h1 h2]
  unfold askL
  congr 1
  refine List.filter_congr fun p hp => ?_
  rw [hc p (List.mem_range.1 hp)]
  cases a.asked p <;> rfl
theorem askL_mem {a : AS} {p : Nat} (h : p ∈ askL a 64) : p < 64 ∧ a.asked p = true := by
  unfold askL at h
  rw [List.mem_filter] at h
  exact ⟨List.mem_range.1 h.1, h.2⟩
theorem askL_nil {a : AS} (h : ∀ p, a.asked p = false) : askL a 64 = [] := by
  unfold askL
  rw [List.filter_eq_nil_iff]
  intro p _
  rw [h p]
  simp

set_option maxRecDepth 100000 in
set_option maxHeartbeats 8000000 in
theorem asksOnce_walk (w : World) (v1 v2 : Value) (l : List Fl) (ops : List OpV) (hl : RdF w w.heap.size v1 l) (ho : RdO w w.heap.size v2 ops) :
    Calls Try.prog 6 #[v1, v2] w fun e w' => e = .returned (.bool true) ∧ Below w.heap.size w w' := by
  obtain ⟨OP, opc, rfl, hlen, hops⟩ := id ho
  unfold maxLen at hlen
  have HFL := Lib.hid hl.sizes
  have HL := Lib.hid hl
  have HO := Lib.hid ho
  clear hops hl ho
  go_enter Try.func6, Try.ntmps6
  go_wp2_with fail
  refine (known_any w).mono ?_
  rintro e w1 ⟨rfl, nb⟩
  have HB1 := Lib.hid nb
  have hs1 := nb.size
  have HL1 := Lib.hid ((HL.out.below nb).more hs1)
  have HO1 := Lib.hid ((HO.out.below nb).more hs1)
  clear nb
  dsimp only
  by_cases h30 : 30 < ops.length
  · have e1 : decide ((30 : Int) < (ops.length : Int)) = true := decide_eq_true (by omega)
    clear h30
    go_wp2_with fail
    refine (known_any w1).mono ?_
    rintro e w2 ⟨rfl, nb⟩
    have HB2 := Lib.hid (HB1.out.trans (nb.mono hs1))
    clear nb
    dsimp only
    go_wp2_with fail
    go_ret
    exact ⟨rfl, HB2.out⟩
  · have e1 : decide ((30 : Int) < (ops.length : Int)) = false := decide_eq_false (by omega)
    clear h30
    go_wp2_with fail
    refine (play_any w1 v1 _ l ops HL1.out HO1.out HFL.out).mono ?_
    rintro e w2 ⟨box, ab, cm, root, base, b0, OA, oc, sps, hm, L, rfl, hok, hcm, hpl⟩
    obtain ⟨s, r, c, hg, hpb, hmi, hcnt⟩ := hpl.counts
    have hlc : (askL (view (askedSrc box ab w1.heap.size cm root (srcL l)) hm s) 64).length = c.length := askL_count hcnt hmi.1.1 hmi.1.2
    have hrow := RowAt.of_own hpl.own
    have hhead : L[0]? = some ⟨b0, root, .map (some w1.heap.size)⟩ := by rw [← List.head?_eq_getElem?]; exact hpl.head
    have hroot : (askedSrc box ab w1.heap.size cm root (srcL l)).root = root := rfl
    generalize askedSrc box ab w1.heap.size cm root (srcL l) = C at *
    obtain ⟨rg, hOA, hcell⟩ := hrow.cell 0 (.pointer (some ⟨b0, 0, none⟩)) (by unfold prPs; rw [List.getElem?_map, hhead]; rfl)
    subst hOA
    have hLp := hpl.pos
    have hL4 := hpl.four
    have c1 : w2.cell? ⟨b0, 0, none⟩ = some (.pointer (some ⟨root, 0, none⟩)) := hpb.ptr
    have HOK := Lib.hid hok
    have HPL := Lib.hid hpl
    have HB2 := Lib.hid (HB1.out.trans (hpl.bel.mono hs1))
    have hs2 := hpl.bel.size
    have HAS := Lib.hid (asked_all hok hpl.play.all hg)
    obtain ⟨a, ha⟩ : ∃ a, a = view C hm s := ⟨_, rfl⟩
    have hca : Counts c a.asked := by rw [ha]; exact hcnt
    rw [← ha] at HAS hlc
    obtain ⟨N, hN⟩ : ∃ N, N = askL a 64 := ⟨_, rfl⟩
    rw [← hN] at HAS hlc
    have HN := Lib.hid hN
    have HCA := Lib.hid hca
    have HMI := Lib.hid hmi
    have HROW := Lib.hid hrow
    have HRT := Lib.hid hroot
    have e2 : (0 : Int) < (L.length : Int) := by omega
    have HLC := Lib.hid hlc
    have hn64 := askL_le a 64
    rw [← hN] at hn64
    clear hok hpl hca hcnt hmi hrow hroot ha hN hg hpb hhead hlc
    dsimp only
    go_wp2_with fail
    refine HAS.out.mono ?_
    rintro e w3 ⟨⟨OB, bc, rfl, hown⟩, hall3, nb⟩
    have HB3 := Lib.hid (HB2.out.trans (nb.mono (by omega)))
    have HNB := Lib.hid nb
    have HR3 := Lib.hid (RowAt.of_own hown)
    have HMI3 := Lib.hid (HMI.out.keep (nb.block cm HMI.out.lt))
    clear hown hall3 nb
    have hml := run_len_MI' HMI3.out Try.underlying35 3
    rw [← HLC.out] at hml
    have e3 : ((N.length : Int) != (N.length : Int)) = false := by simp
    dsimp only
    go_wp2_with fail
    clear hml
    go_loopg [9] N.length (fun q iv wr => ∃ i : Nat, q = N.length - i ∧ i ≤ N.length ∧ iv = .int .i64 i ∧ w3 = wr)
    case atStart => exact ⟨0, rfl, Nat.zero_le _, rfl, rfl⟩
    case round =>
      obtain ⟨i, rfl, hi, rfl, rfl⟩ := hrel
      by_cases hlt : i < N.length
      · obtain ⟨p, hp⟩ : ∃ p, p = N[i] := ⟨_, rfl⟩
        have hpm : p ∈ askL a 64 := by rw [hp, ← HN.out]; exact List.getElem_mem hlt
        obtain ⟨hp64, hpa⟩ := askL_mem hpm
        obtain ⟨g3, hOB, hcell3⟩ := HR3.out.cell i (.int .i64 (p : Nat)) (by unfold nums; rw [List.getElem?_map, List.getElem?_eq_getElem hlt, hp]; rfl)
        subst hOB
        have hlk := run_lookup_map (P := Try.prog) keyI Try.underlying35 zero3 HMI3.out (p : Int) (show Pg (p : Int) by unfold Pg; omega) false
        rw [HCA.out p hp64, hpa] at hlk
        simp only [if_true, Option.getD_some] at hlk
        unfold encI at hlk
        have i1 : (i : Int) < (N.length : Int) := by omega
        have i2 : (0 : Int) ≤ (i : Int) := by omega
        clear hp hpm hpa
        go_wp2_with fail
        go_roundg (N.length - (i + 1))
        case measure => omega
        case rel => exact ⟨i + 1, rfl, by omega, by go_num, rfl⟩
      · obtain rfl : i = N.length := by omega
        clear hi hlt
        go_wp2_with fail
        go_loopg [10] L.length (fun q iv wr => ∃ j : Nat, 1 ≤ j ∧ j ≤ L.length ∧ q + j = L.length + 1 ∧ iv = .int .i64 j ∧ Below w3.heap.size w3 wr)
        case atStart => exact ⟨1, Nat.le_refl _, by omega, by omega, rfl, Below.refl _ _⟩
        case round =>
          obtain ⟨j, hj1, hj, hq, rfl, hb⟩ := hrel
          have HBW := Lib.hid (HB3.out.trans (hb.mono HB3.out.size))
          by_cases hlt : j < L.length
          · have hbw2 : Below w2.heap.size w2 wr := HNB.out.trans (hb.mono HNB.out.size)
            have hrow2 := HROW.out.below hbw2
            have hplay2 := HPL.out.play.below HOK.out hbw2
            have hmem : L[j] ∈ L := List.getElem_mem hlt
            have htl : (L[j]).g ≠ C.root := by
              refine HPL.out.tl _ ?_
              rw [List.mem_iff_getElem]
              exact ⟨j - 1, by rw [List.length_tail]; omega, by rw [List.getElem_tail]; congr 1; omega⟩
            obtain ⟨rg2, hOA2, hcell2⟩ := hrow2.cell j (.pointer (some ⟨(L[j]).b, 0, none⟩)) (by unfold prPs; rw [List.getElem?_map, List.getElem?_eq_getElem hlt]; rfl)
            injection hOA2 with hOA2
            injection hOA2 with hOA2
            subst hOA2
            obtain ⟨s2, q1, q2, q3, q4⟩ := (hplay2.prs _ hmem).ex
            have c5 := q2.ptr
            have hnil := askL_nil (q4 htl)
            have HAS2 := Lib.hid (asked_all HOK.out hplay2.all q1)
            rw [hnil] at HAS2
            generalize L[j] = pr at *
            have i3 : (j : Int) < (L.length : Int) := by omega
            have i4 : (0 : Int) ≤ (j : Int) := by omega
            have HHB := Lib.hid hb
            have HHQ := Lib.hid hq
            clear hbw2 hrow2 hplay2 hmem htl q1 q2 q3 q4 hnil hb hq
            go_wp2_with fail
            refine HAS2.out.mono ?_
            rintro e w5 ⟨⟨OC, cc, rfl, _⟩, _, nb⟩
            have HB5 := Lib.hid (HHB.out.trans (nb.mono HHB.out.size))
            clear nb
            dsimp only
            go_wp2_with fail
            go_roundg (L.length - j)
            case measure => have := HHQ.out; omega
            case rel => exact ⟨j + 1, by omega, by omega, by omega, by go_num, HB5.out⟩
          · obtain rfl : j = L.length := by omega
            clear hlt hb hq hj hj1
            go_wp2_with fail
            go_ret
            exact ⟨rfl, HBW.out⟩
end Go.Proofs.Ytbppafbdmdbdiaa
