/-
  Walks: the reference's Clauses.
-/
import Derived.Test.YtemcabepbncicaaDoorClauses
import Derived.Deep.Cut
import Derived.Test.YtemcabepbncicaaDoorMixL
namespace Go.Proofs.YtemcabepbncicaaDoor
open Go.RowKit
set_option linter.unusedVariables false

/-- What Clauses returns. -/
def ClausesRet (w' : World) (R : List Cl × Int) (e : Ending) : Prop :=
  ∃ A cap, e = .returned (.tuple #[.slice A R.1.length cap, .int .i64 R.2]) ∧ R.1.length ≤ cap ∧ cap ≤ maxLen ∧ Reads w' w'.heap.size 5 A R.1.length (allCells R.1)

theorem own_formL {w : World} {base e size n : Nat} {v : Value} {xs : List Value} (h : w.ownsRow base e size v n xs) : ∃ A c, v = .slice A n c := by
  rcases h.2 with ⟨rfl, rfl⟩ | ⟨g, cap, cur, rfl, _⟩
  · exact ⟨_, _, rfl⟩
  · exact ⟨_, _, rfl⟩
theorem own_geL {w : World} {base e size n : Nat} {v : Value} {xs : List Value} (h : w.ownsRow base e size v n xs) : ∀ g, v.ownBlock = some g → base ≤ g := by
  rcases h.2 with ⟨rfl, _⟩ | ⟨g', cap, cur, rfl, hb, _⟩
  · simp [Value.ownBlock]
  · intro g hg
    have : g' = g := by simpa [Value.ownBlock] using hg
    omega
theorem own_capL {w : World} {base e size n : Nat} {v : Value} {xs : List Value} (h : w.ownsRow base e size v n xs) : ∃ A c, v = .slice A n c ∧ n ≤ c ∧ c ≤ maxLen := by
  rcases h.2 with ⟨rfl, rfl⟩ | ⟨g, cap, cur, rfl, _, _, h1, h2, _⟩
  · exact ⟨none, 0, rfl, Nat.le_refl _, by simp [maxLen]⟩
  · exact ⟨_, cap, rfl, h1, h2⟩
theorem clauses_ok {W : World} {base : Nat} {R : List Cl × Int} {v : Value} {l : List Cl} (h : W.ownsRow base 51 5 v l.length (allCells l)) (hr : R = (l, -1)) : ClausesRet W R (.returned (.tuple #[v, .int .i64 (-1)])) := by
  subst hr
  obtain ⟨A, c, rfl, h1, h2⟩ := own_capL h
  exact ⟨A, c, rfl, h1, h2, Reads.of_own h⟩
theorem reads_new (W : World) (g : Nat) (hg : W.heap.size = g) (t : TypeId) (cs : Array Value) (n size : Nat) (hl : cs.size = n * size) : Reads (W.alloc (.cells cs t)) (g + 1) size (some ⟨g, 0, none⟩) n cs.toList := by
  subst hg
  refine ⟨by simpa using hl, fun _ => ⟨_, rfl, by show W.heap.size < _; omega, fun j u hu => ?_⟩⟩
  rw [add_at0, World.cell?_alloc_mark]
  simpa using hu
theorem clCells_one (c : Cl) : ∀ u ∈ clCells c, u.oneCell' = true := by
  intro u hu
  simp only [clCells, List.mem_cons, List.not_mem_nil, or_false] at hu
  rcases hu with rfl | rfl | rfl | rfl | rfl <;> rfl

/-- The block of a clause within the innermost loop. -/
def L3 (wr : World) (g : Nat) (c0 c1 c2 h0 h1 h2 : Bool) : Nat → Prop
  | 0 => Blk wr g 51 #[.bool c0, .bool c1, .bool c2, .int .u8 0, .string ⟨#[]⟩]
  | 1 => Blk wr g 51 #[.bool (c0 || h0), .bool c1, .bool c2, .int .u8 0, .string ⟨#[]⟩]
  | 2 => Blk wr g 51 #[.bool (c0 || h0), .bool (c1 || h1), .bool c2, .int .u8 0, .string ⟨#[]⟩]
  | _ => Blk wr g 51 #[.bool (c0 || h0), .bool (c1 || h1), .bool (c2 || h2), .int .u8 0, .string ⟨#[]⟩]

theorem L3.step0 {wr : World} {g : Nat} {c0 c1 c2 h0 h1 h2 : Bool} (h : L3 wr g c0 c1 c2 h0 h1 h2 0) (v : Bool) (hv : v = (c0 || h0)) : L3 (wr.setCell ⟨g, 0, none⟩ (.bool v)).drew g c0 c1 c2 h0 h1 h2 1 := by
  subst hv
  unfold L3 at *
  have := (h.set_ 0 (.bool (c0 || h0))).drew
  simpa using this
theorem L3.step1 {wr : World} {g : Nat} {c0 c1 c2 h0 h1 h2 : Bool} (h : L3 wr g c0 c1 c2 h0 h1 h2 1) (v : Bool) (hv : v = (c1 || h1)) : L3 (wr.setCell ⟨g, 1, none⟩ (.bool v)).drew g c0 c1 c2 h0 h1 h2 2 := by
  subst hv
  unfold L3 at *
  have := (h.set_ 1 (.bool (c1 || h1))).drew
  simpa using this
theorem L3.step2 {wr : World} {g : Nat} {c0 c1 c2 h0 h1 h2 : Bool} (h : L3 wr g c0 c1 c2 h0 h1 h2 2) (v : Bool) (hv : v = (c2 || h2)) : L3 (wr.setCell ⟨g, 2, none⟩ (.bool v)).drew g c0 c1 c2 h0 h1 h2 3 := by
  subst hv
  unfold L3 at *
  have := (h.set_ 2 (.bool (c2 || h2))).drew
  simpa using this

theorem clauses_err {W : World} {R : List Cl × Int} {c : Int} (hr : R = ([], c)) : ClausesRet W R (.returned (.tuple #[.slice none 0 0, .int .i64 c])) := by
  subst hr
  exact ⟨none, 0, rfl, Nat.le_refl _, by simp [maxLen], Reads.none_⟩

set_option maxRecDepth 100000 in
set_option maxHeartbeats 1000000 in
theorem clauses_any (w : World) (s : ByteArray) (hs : s.size ≤ 1000000) :
    Calls Tryd.prog 22 #[.string s] w fun e w' => ClausesRet w' (clausesV (bl s)) e ∧ Below w.heap.size w w' := by
  obtain ⟨i51, hi, hz0, hz1, hz2⟩ := info_parts info51
  have hlen := bl_length s
  have HLEN := Lib.hid hlen
  have hR : Hid (clausesGo ((bl s).length + 1) 0 (bl s) [] = clausesV (bl s)) := Lib.hid rfl
  generalize clausesV (bl s) = R at *
  clear hlen
  go_enter Tryd.func22, Tryd.ntmps22
  go_wp2_with fail
  go_loopg [4, 5] (s.size + 1) (fun q lv iv wr => ∃ (a f : Nat) (acc : List Cl), iv = .int .i64 a ∧ q = s.size + 1 - a ∧ a ≤ s.size ∧ s.size - a < f ∧ acc.length ≤ a ∧ clausesGo f a ((bl s).drop a) acc = R ∧ wr.ownsRow w.heap.size 51 5 lv acc.length (allCells acc) ∧ Below w.heap.size w wr)
  case atStart => exact ⟨0, (bl s).length + 1, [], rfl, by omega, by omega, by rw [HLEN.out]; omega, Nat.zero_le _, hR.out, ⟨rfl, .inl ⟨rfl, rfl⟩⟩, Below.refl _ _⟩
  case round =>
    obtain ⟨a, f, acc, rfl, rfl, ha, hf, hac, hgo, hown, hbl⟩ := hrel
    obtain ⟨A4, c4, rfl⟩ := own_formL hown
    obtain ⟨wo, rfl⟩ : ∃ wo : World, wo = wr := ⟨_, rfl⟩
    have hszr := hbl.size
    obtain ⟨f, rfl⟩ : ∃ g, f = g + 1 := ⟨f - 1, by omega⟩
    have hrl : ((bl s).drop a).length = s.size - a := by rw [List.length_drop, HLEN.out]
    have hgd : ∀ j, ((bl s).drop a).getD j 0 = (bl s).getD (a + j) 0 := fun j => by rw [List.getD_eq_getElem?_getD, List.getD_eq_getElem?_getD, List.getElem?_drop]
    have hdd : ∀ j, ((bl s).drop a).drop j = (bl s).drop (a + j) := fun j => by rw [List.drop_drop]
    unfold clausesGo at hgo
    clear hR
    generalize (bl s).drop a = rest at *
    have HGO := Lib.hid hgo
    have HGD := Lib.hid hgd
    have HDD := Lib.hid hdd
    have HRL := Lib.hid hrl
    have HOWN := Lib.hid hown
    clear hgo hgd hdd hrl hown
    go_upto_region 5 with (fail)
    go_loopg [5, 7] (s.size + 1 - a) (fun q atv nv wr => ∃ k c : Nat, c = a + k ∧ atv = .int .i64 c ∧ nv = .bool (decide (0 < k)) ∧ q = s.size + 1 - c ∧ c ≤ s.size ∧ (∀ b ∈ rest.take k, isCls b = true) ∧ Blk wr wo.heap.size 51 #[.bool (clsAt (rest.take k) 0), .bool (clsAt (rest.take k) 1), .bool (clsAt (rest.take k) 2), .int .u8 0, .string ⟨#[]⟩] ∧ Below wo.heap.size wo wr)
    case atStart => exact ⟨0, a, rfl, rfl, by simp, rfl, ha, by simp, Blk.new_ _ 51 _ rfl, (Below.refl _ _).alloc (Nat.le_refl _) _⟩
    case round =>
      obtain ⟨k, c, hc, rfl, rfl, rfl, hcs, hall, hblk, hb2⟩ := hrel
      have hsz2 := hb2.size
      have hkl : k ≤ rest.length := by have := HRL.out; omega
      have HC := Lib.hid hc
      have HALL := Lib.hid hall
      have HBLK := Lib.hid hblk
      clear hc hall hblk
      by_cases hlt : c < s.size
      · have i1 : (c : Int) < s.size := by omega
        have hbg := bl_get s c hlt
        have hbr : rest.getD k 0 = s[c] := by rw [HGD.out, ← HC.out]; exact hbg
        have HBR := Lib.hid hbr
        have hklt : k < rest.length := by have := HRL.out; have := HC.out; omega
        clear hbg hbr
        by_cases hcl : isCls s[c] = true
        · have HCL := Lib.hid hcl
          have hnx : ∀ u ∈ rest.take (k + 1), isCls u = true := by
            intro u hu
            rw [List.take_succ_eq_append_getElem hklt, List.mem_append] at hu
            rcases hu with hu | hu
            · exact HALL.out u hu
            · rw [List.mem_singleton.1 hu]
              have := HBR.out
              rw [List.getD_eq_getElem?_getD, List.getElem?_eq_getElem hklt, Option.getD_some] at this
              rw [this]
              exact hcl
          have htk : rest.take (k + 1) = rest.take k ++ [s[c]] := by
            have := HBR.out
            rw [List.getD_eq_getElem?_getD, List.getElem?_eq_getElem hklt, Option.getD_some] at this
            rw [List.take_succ_eq_append_getElem hklt, this]
          have hsn := clsAt_snoc (rest.take k) s[c]
          rw [← htk] at hsn
          have HSN := Lib.hid hsn
          have HNX := Lib.hid hnx
          have hblk := HBLK.out
          clear hnx htk hsn hcl HBLK HALL HGO
          generalize clsAt (rest.take k) 0 = q0 at *
          generalize clsAt (rest.take k) 1 = q1 at *
          generalize clsAt (rest.take k) 2 = q2 at *
          go_wp2_with fail
          with_reducible refine (ridx_cls wr s[c]).mono ?_
          rintro e w3 ⟨⟨n, rfl, g1, g2⟩, rfl⟩
          rw [HCL.out] at g1 g2
          dsimp only
          go_upto_region 7 with (fail)
          obtain ⟨wi, rfl⟩ : ∃ wi : World, wi = wr := ⟨_, rfl⟩
          obtain ⟨hits, hh⟩ : ∃ hits : Bool × Bool × Bool, hits = ((s[c] == 117 || s[c] == 97), (s[c] == 103 || s[c] == 97), (s[c] == 111 || s[c] == 97)) := ⟨_, rfl⟩
          have HH := Lib.hid hh
          have HB3 := Lib.hid hblk
          clear hh hblk g1 g2
          go_loopg [8] 3 (fun q kv wr => ∃ m : Nat, kv = .int .i64 m ∧ q = 3 - m ∧ m ≤ 3 ∧ L3 wr wo.heap.size q0 q1 q2 hits.1 hits.2.1 hits.2.2 m ∧ Below wo.heap.size wo wr)
          case atStart => exact ⟨0, rfl, rfl, by omega, HB3.out, hb2⟩
          case round =>
            obtain ⟨m, rfl, rfl, hm, hl3, hb3⟩ := hrel
            have hsz3 := hb3.size
            clear hb2 hsz2 HB3
            have hmc : m = 0 ∨ m = 1 ∨ m = 2 ∨ m = 3 := by omega
            obtain ⟨x, hx⟩ : ∃ x : UInt8, x = s[c] := ⟨_, rfl⟩
            have HX := Lib.hid hx
            have hu : idx_ugo = idx_ugo := rfl
            have u0 := fun W => (idx_ugo W).1
            have u1 := fun W => (idx_ugo W).2.1
            have u2 := fun W => (idx_ugo W).2.2
            clear hu hx
            rcases hmc with rfl | rfl | rfl | rfl
            · have l3 := hl3
              unfold L3 at l3
              have k0 := l3.cell 0
              have f0 := l3.frozen 0
              have zlt := l3.lt
              simp at k0
              clear l3
              rcases Bool.eq_false_or_eq_true q0 with hq | hq
              focus
                rw [hq] at k0
                have HQ := Lib.hid hq
                clear hq
                go_wp2_with fail
                refine wp_region_mixL (fun W => W.cell? ⟨wo.heap.size, 0, none⟩ = some (.bool true)) [4] [21] [0, 1, 2, 3, 4, 5, 6, 7, 8, 9, 10, 11, 12, 13, 14, 15, 16, 17, 18, 19, 20, 21] (by kernel_rfl) (by kernel_rfl) k0 ?_
                simp only [inOrder, opAt]
                iterate 6
                  (refine wpMixS_read (v := ?_) rfl rfl (fun w' hS => ?_) ?_
                   rotate_left
                   · ((try (have s0 := hS rfl)); (try clear hS); go_simp; (try with_reducible rfl))
                   try simp only [Act.put, List.setIfInBounds_toArray, List.set_cons_zero, List.set_cons_succ])
                iterate 6
                  (refine wpMixS_skip rfl rfl ?_
                   try simp only [Act.put, List.setIfInBounds_toArray, List.set_cons_zero, List.set_cons_succ])
                iterate 2
                  (refine wpMixS_read (v := ?_) rfl rfl (fun w' hS => ?_) ?_
                   rotate_left
                   · ((try (have s0 := hS rfl)); (try clear hS); go_simp; (try with_reducible rfl))
                   try simp only [Act.put, List.setIfInBounds_toArray, List.set_cons_zero, List.set_cons_succ])
                iterate 4
                  (refine wpMixS_skip rfl rfl ?_
                   try simp only [Act.put, List.setIfInBounds_toArray, List.set_cons_zero, List.set_cons_succ])
                iterate 3
                  (refine wpMixS_read (v := ?_) rfl rfl (fun w' hS => ?_) ?_
                   rotate_left
                   · ((try (have s0 := hS rfl)); (try clear hS); go_simp; (try with_reducible rfl))
                   try simp only [Act.put, List.setIfInBounds_toArray, List.set_cons_zero, List.set_cons_succ])
                refine wpMixS_eff rfl rfl (fun K hK => ?_)
                go_simp
                refine hK.out _ _ _ (fun _ h => h) (fun h => by cases h) ?_
                clear hK K
                try simp only [Act.put, List.setIfInBounds_toArray, List.set_cons_zero, List.set_cons_succ]
                refine wpMixS_nil ?_
                go_wp2_with fail
                go_roundg (3 - (0 + 1))
                case measure => omega
                case rel => exact ⟨1, by go_num, rfl, by omega, L3.step0 hl3 true (by rw [HQ.out]; rfl), (hb3.setCell (Nat.le_refl _) _).drew⟩
              focus
                rw [hq] at k0
                have HQ := Lib.hid hq
                clear hq
                rcases Decidable.em (x = 117) with hx | hx
                focus
                  have hv : hits.1 = true := by rw [HH.out]; simp [← HX.out, hx]
                  have HV := Lib.hid hv
                  have e1 : (((s[c]).toNat : Int) == 117) = true := by rw [← HX.out, hx]; rfl
                  clear hv hx
                  go_wp2_with fail
                  refine wp_region_mixL (fun W => W.cell? ⟨wo.heap.size, 0, none⟩ = some (.bool false)) [4] [21] [0, 1, 2, 3, 4, 5, 6, 7, 8, 9, 10, 11, 12, 13, 14, 15, 16, 17, 18, 19, 20, 21] (by kernel_rfl) (by kernel_rfl) k0 ?_
                  simp only [inOrder, opAt]
                  iterate 14
                    (refine wpMixS_read (v := ?_) rfl rfl (fun w' hS => ?_) ?_
                     rotate_left
                     · ((try (have s0 := hS rfl)); (try clear hS); go_simp; (try with_reducible rfl))
                     try simp only [Act.put, List.setIfInBounds_toArray, List.set_cons_zero, List.set_cons_succ])
                  iterate 4
                    (refine wpMixS_skip rfl rfl ?_
                     try simp only [Act.put, List.setIfInBounds_toArray, List.set_cons_zero, List.set_cons_succ])
                  iterate 3
                    (refine wpMixS_read (v := ?_) rfl rfl (fun w' hS => ?_) ?_
                     rotate_left
                     · ((try (have s0 := hS rfl)); (try clear hS); go_simp; (try with_reducible rfl))
                     try simp only [Act.put, List.setIfInBounds_toArray, List.set_cons_zero, List.set_cons_succ])
                  refine wpMixS_eff rfl rfl (fun K hK => ?_)
                  go_simp
                  refine hK.out _ _ _ (fun _ h => h) (fun h => by cases h) ?_
                  clear hK K
                  try simp only [Act.put, List.setIfInBounds_toArray, List.set_cons_zero, List.set_cons_succ]
                  refine wpMixS_nil ?_
                  go_wp2_with fail
                  go_roundg (3 - (0 + 1))
                  case measure => omega
                  case rel => exact ⟨1, by go_num, rfl, by omega, L3.step0 hl3 true (by rw [HQ.out, HV.out]; rfl), (hb3.setCell (Nat.le_refl _) _).drew⟩
                rcases Decidable.em (x = 97) with hx2 | hx2
                focus
                  have hv : hits.1 = true := by rw [HH.out]; simp [← HX.out, hx2]
                  have HV := Lib.hid hv
                  have e1 : (((s[c]).toNat : Int) == 117) = false := by rw [← HX.out]; exact u8_ne (c := 117) (by omega) hx
                  have e2 : (((s[c]).toNat : Int) == 97) = true := by rw [← HX.out, hx2]; rfl
                  clear hv hx hx2
                  go_wp2_with fail
                  refine wp_region_mixL (fun W => W.cell? ⟨wo.heap.size, 0, none⟩ = some (.bool false)) [4] [21] [0, 1, 2, 3, 4, 5, 6, 7, 8, 9, 10, 11, 12, 13, 14, 15, 16, 17, 18, 19, 20, 21] (by kernel_rfl) (by kernel_rfl) k0 ?_
                  simp only [inOrder, opAt]
                  iterate 21
                    (refine wpMixS_read (v := ?_) rfl rfl (fun w' hS => ?_) ?_
                     rotate_left
                     · ((try (have s0 := hS rfl)); (try clear hS); go_simp; (try with_reducible rfl))
                     try simp only [Act.put, List.setIfInBounds_toArray, List.set_cons_zero, List.set_cons_succ])
                  refine wpMixS_eff rfl rfl (fun K hK => ?_)
                  go_simp
                  refine hK.out _ _ _ (fun _ h => h) (fun h => by cases h) ?_
                  clear hK K
                  try simp only [Act.put, List.setIfInBounds_toArray, List.set_cons_zero, List.set_cons_succ]
                  refine wpMixS_nil ?_
                  go_wp2_with fail
                  go_roundg (3 - (0 + 1))
                  case measure => omega
                  case rel => exact ⟨1, by go_num, rfl, by omega, L3.step0 hl3 true (by rw [HQ.out, HV.out]; rfl), (hb3.setCell (Nat.le_refl _) _).drew⟩
                focus
                  have hv : hits.1 = false := by rw [HH.out]; simp [← HX.out, hx, hx2]
                  have HV := Lib.hid hv
                  have e1 : (((s[c]).toNat : Int) == 117) = false := by rw [← HX.out]; exact u8_ne (c := 117) (by omega) hx
                  have e2 : (((s[c]).toNat : Int) == 97) = false := by rw [← HX.out]; exact u8_ne (c := 97) (by omega) hx2
                  clear hv hx hx2
                  go_wp2_with fail
                  refine wp_region_mixL (fun W => W.cell? ⟨wo.heap.size, 0, none⟩ = some (.bool false)) [4] [21] [0, 1, 2, 3, 4, 5, 6, 7, 8, 9, 10, 11, 12, 13, 14, 15, 16, 17, 18, 19, 20, 21] (by kernel_rfl) (by kernel_rfl) k0 ?_
                  simp only [inOrder, opAt]
                  iterate 21
                    (refine wpMixS_read (v := ?_) rfl rfl (fun w' hS => ?_) ?_
                     rotate_left
                     · ((try (have s0 := hS rfl)); (try clear hS); go_simp; (try with_reducible rfl))
                     try simp only [Act.put, List.setIfInBounds_toArray, List.set_cons_zero, List.set_cons_succ])
                  refine wpMixS_eff rfl rfl (fun K hK => ?_)
                  go_simp
                  refine hK.out _ _ _ (fun _ h => h) (fun h => by cases h) ?_
                  clear hK K
                  try simp only [Act.put, List.setIfInBounds_toArray, List.set_cons_zero, List.set_cons_succ]
                  refine wpMixS_nil ?_
                  go_wp2_with fail
                  go_roundg (3 - (0 + 1))
                  case measure => omega
                  case rel => exact ⟨1, by go_num, rfl, by omega, L3.step0 hl3 false (by rw [HQ.out, HV.out]; rfl), (hb3.setCell (Nat.le_refl _) _).drew⟩
            · have l3 := hl3
              unfold L3 at l3
              have k1 := l3.cell 1
              have f1 := l3.frozen 1
              have zlt := l3.lt
              simp at k1
              clear l3
              rcases Bool.eq_false_or_eq_true q1 with hq | hq
              focus
                rw [hq] at k1
                have HQ := Lib.hid hq
                clear hq
                go_wp2_with fail
                refine wp_region_mixL (fun W => W.cell? ⟨wo.heap.size, 1, none⟩ = some (.bool true)) [4] [21] [0, 1, 2, 3, 4, 5, 6, 7, 8, 9, 10, 11, 12, 13, 14, 15, 16, 17, 18, 19, 20, 21] (by kernel_rfl) (by kernel_rfl) k1 ?_
                simp only [inOrder, opAt]
                iterate 6
                  (refine wpMixS_read (v := ?_) rfl rfl (fun w' hS => ?_) ?_
                   rotate_left
                   · ((try (have s0 := hS rfl)); (try clear hS); go_simp; (try with_reducible rfl))
                   try simp only [Act.put, List.setIfInBounds_toArray, List.set_cons_zero, List.set_cons_succ])
                iterate 6
                  (refine wpMixS_skip rfl rfl ?_
                   try simp only [Act.put, List.setIfInBounds_toArray, List.set_cons_zero, List.set_cons_succ])
                iterate 2
                  (refine wpMixS_read (v := ?_) rfl rfl (fun w' hS => ?_) ?_
                   rotate_left
                   · ((try (have s0 := hS rfl)); (try clear hS); go_simp; (try with_reducible rfl))
                   try simp only [Act.put, List.setIfInBounds_toArray, List.set_cons_zero, List.set_cons_succ])
                iterate 4
                  (refine wpMixS_skip rfl rfl ?_
                   try simp only [Act.put, List.setIfInBounds_toArray, List.set_cons_zero, List.set_cons_succ])
                iterate 3
                  (refine wpMixS_read (v := ?_) rfl rfl (fun w' hS => ?_) ?_
                   rotate_left
                   · ((try (have s0 := hS rfl)); (try clear hS); go_simp; (try with_reducible rfl))
                   try simp only [Act.put, List.setIfInBounds_toArray, List.set_cons_zero, List.set_cons_succ])
                refine wpMixS_eff rfl rfl (fun K hK => ?_)
                go_simp
                refine hK.out _ _ _ (fun _ h => h) (fun h => by cases h) ?_
                clear hK K
                try simp only [Act.put, List.setIfInBounds_toArray, List.set_cons_zero, List.set_cons_succ]
                refine wpMixS_nil ?_
                go_wp2_with fail
                go_roundg (3 - (1 + 1))
                case measure => omega
                case rel => exact ⟨2, by go_num, rfl, by omega, L3.step1 hl3 true (by rw [HQ.out]; rfl), (hb3.setCell (Nat.le_refl _) _).drew⟩
              focus
                rw [hq] at k1
                have HQ := Lib.hid hq
                clear hq
                rcases Decidable.em (x = 103) with hx | hx
                focus
                  have hv : hits.2.1 = true := by rw [HH.out]; simp [← HX.out, hx]
                  have HV := Lib.hid hv
                  have e1 : (((s[c]).toNat : Int) == 103) = true := by rw [← HX.out, hx]; rfl
                  clear hv hx
                  go_wp2_with fail
                  refine wp_region_mixL (fun W => W.cell? ⟨wo.heap.size, 1, none⟩ = some (.bool false)) [4] [21] [0, 1, 2, 3, 4, 5, 6, 7, 8, 9, 10, 11, 12, 13, 14, 15, 16, 17, 18, 19, 20, 21] (by kernel_rfl) (by kernel_rfl) k1 ?_
                  simp only [inOrder, opAt]
                  iterate 14
                    (refine wpMixS_read (v := ?_) rfl rfl (fun w' hS => ?_) ?_
                     rotate_left
                     · ((try (have s0 := hS rfl)); (try clear hS); go_simp; (try with_reducible rfl))
                     try simp only [Act.put, List.setIfInBounds_toArray, List.set_cons_zero, List.set_cons_succ])
                  iterate 4
                    (refine wpMixS_skip rfl rfl ?_
                     try simp only [Act.put, List.setIfInBounds_toArray, List.set_cons_zero, List.set_cons_succ])
                  iterate 3
                    (refine wpMixS_read (v := ?_) rfl rfl (fun w' hS => ?_) ?_
                     rotate_left
                     · ((try (have s0 := hS rfl)); (try clear hS); go_simp; (try with_reducible rfl))
                     try simp only [Act.put, List.setIfInBounds_toArray, List.set_cons_zero, List.set_cons_succ])
                  refine wpMixS_eff rfl rfl (fun K hK => ?_)
                  go_simp
                  refine hK.out _ _ _ (fun _ h => h) (fun h => by cases h) ?_
                  clear hK K
                  try simp only [Act.put, List.setIfInBounds_toArray, List.set_cons_zero, List.set_cons_succ]
                  refine wpMixS_nil ?_
                  go_wp2_with fail
                  go_roundg (3 - (1 + 1))
                  case measure => omega
                  case rel => exact ⟨2, by go_num, rfl, by omega, L3.step1 hl3 true (by rw [HQ.out, HV.out]; rfl), (hb3.setCell (Nat.le_refl _) _).drew⟩
                rcases Decidable.em (x = 97) with hx2 | hx2
                focus
                  have hv : hits.2.1 = true := by rw [HH.out]; simp [← HX.out, hx2]
                  have HV := Lib.hid hv
                  have e1 : (((s[c]).toNat : Int) == 103) = false := by rw [← HX.out]; exact u8_ne (c := 103) (by omega) hx
                  have e2 : (((s[c]).toNat : Int) == 97) = true := by rw [← HX.out, hx2]; rfl
                  clear hv hx hx2
                  go_wp2_with fail
                  refine wp_region_mixL (fun W => W.cell? ⟨wo.heap.size, 1, none⟩ = some (.bool false)) [4] [21] [0, 1, 2, 3, 4, 5, 6, 7, 8, 9, 10, 11, 12, 13, 14, 15, 16, 17, 18, 19, 20, 21] (by kernel_rfl) (by kernel_rfl) k1 ?_
                  simp only [inOrder, opAt]
                  iterate 21
                    (refine wpMixS_read (v := ?_) rfl rfl (fun w' hS => ?_) ?_
                     rotate_left
                     · ((try (have s0 := hS rfl)); (try clear hS); go_simp; (try with_reducible rfl))
                     try simp only [Act.put, List.setIfInBounds_toArray, List.set_cons_zero, List.set_cons_succ])
                  refine wpMixS_eff rfl rfl (fun K hK => ?_)
                  go_simp
                  refine hK.out _ _ _ (fun _ h => h) (fun h => by cases h) ?_
                  clear hK K
                  try simp only [Act.put, List.setIfInBounds_toArray, List.set_cons_zero, List.set_cons_succ]
                  refine wpMixS_nil ?_
                  go_wp2_with fail
                  go_roundg (3 - (1 + 1))
                  case measure => omega
                  case rel => exact ⟨2, by go_num, rfl, by omega, L3.step1 hl3 true (by rw [HQ.out, HV.out]; rfl), (hb3.setCell (Nat.le_refl _) _).drew⟩
                focus
                  have hv : hits.2.1 = false := by rw [HH.out]; simp [← HX.out, hx, hx2]
                  have HV := Lib.hid hv
                  have e1 : (((s[c]).toNat : Int) == 103) = false := by rw [← HX.out]; exact u8_ne (c := 103) (by omega) hx
                  have e2 : (((s[c]).toNat : Int) == 97) = false := by rw [← HX.out]; exact u8_ne (c := 97) (by omega) hx2
                  clear hv hx hx2
                  go_wp2_with fail
                  refine wp_region_mixL (fun W => W.cell? ⟨wo.heap.size, 1, none⟩ = some (.bool false)) [4] [21] [0, 1, 2, 3, 4, 5, 6, 7, 8, 9, 10, 11, 12, 13, 14, 15, 16, 17, 18, 19, 20, 21] (by kernel_rfl) (by kernel_rfl) k1 ?_
                  simp only [inOrder, opAt]
                  iterate 21
                    (refine wpMixS_read (v := ?_) rfl rfl (fun w' hS => ?_) ?_
                     rotate_left
                     · ((try (have s0 := hS rfl)); (try clear hS); go_simp; (try with_reducible rfl))
                     try simp only [Act.put, List.setIfInBounds_toArray, List.set_cons_zero, List.set_cons_succ])
                  refine wpMixS_eff rfl rfl (fun K hK => ?_)
                  go_simp
                  refine hK.out _ _ _ (fun _ h => h) (fun h => by cases h) ?_
                  clear hK K
                  try simp only [Act.put, List.setIfInBounds_toArray, List.set_cons_zero, List.set_cons_succ]
                  refine wpMixS_nil ?_
                  go_wp2_with fail
                  go_roundg (3 - (1 + 1))
                  case measure => omega
                  case rel => exact ⟨2, by go_num, rfl, by omega, L3.step1 hl3 false (by rw [HQ.out, HV.out]; rfl), (hb3.setCell (Nat.le_refl _) _).drew⟩
            · have l3 := hl3
              unfold L3 at l3
              have k2 := l3.cell 2
              have f2 := l3.frozen 2
              have zlt := l3.lt
              simp at k2
              clear l3
              rcases Bool.eq_false_or_eq_true q2 with hq | hq
              focus
                rw [hq] at k2
                have HQ := Lib.hid hq
                clear hq
                go_wp2_with fail
                refine wp_region_mixL (fun W => W.cell? ⟨wo.heap.size, 2, none⟩ = some (.bool true)) [4] [21] [0, 1, 2, 3, 4, 5, 6, 7, 8, 9, 10, 11, 12, 13, 14, 15, 16, 17, 18, 19, 20, 21] (by kernel_rfl) (by kernel_rfl) k2 ?_
                simp only [inOrder, opAt]
                iterate 6
                  (refine wpMixS_read (v := ?_) rfl rfl (fun w' hS => ?_) ?_
                   rotate_left
                   · ((try (have s0 := hS rfl)); (try clear hS); go_simp; (try with_reducible rfl))
                   try simp only [Act.put, List.setIfInBounds_toArray, List.set_cons_zero, List.set_cons_succ])
                iterate 6
                  (refine wpMixS_skip rfl rfl ?_
                   try simp only [Act.put, List.setIfInBounds_toArray, List.set_cons_zero, List.set_cons_succ])
                iterate 2
                  (refine wpMixS_read (v := ?_) rfl rfl (fun w' hS => ?_) ?_
                   rotate_left
                   · ((try (have s0 := hS rfl)); (try clear hS); go_simp; (try with_reducible rfl))
                   try simp only [Act.put, List.setIfInBounds_toArray, List.set_cons_zero, List.set_cons_succ])
                iterate 4
                  (refine wpMixS_skip rfl rfl ?_
                   try simp only [Act.put, List.setIfInBounds_toArray, List.set_cons_zero, List.set_cons_succ])
                iterate 3
                  (refine wpMixS_read (v := ?_) rfl rfl (fun w' hS => ?_) ?_
                   rotate_left
                   · ((try (have s0 := hS rfl)); (try clear hS); go_simp; (try with_reducible rfl))
                   try simp only [Act.put, List.setIfInBounds_toArray, List.set_cons_zero, List.set_cons_succ])
                refine wpMixS_eff rfl rfl (fun K hK => ?_)
                go_simp
                refine hK.out _ _ _ (fun _ h => h) (fun h => by cases h) ?_
                clear hK K
                try simp only [Act.put, List.setIfInBounds_toArray, List.set_cons_zero, List.set_cons_succ]
                refine wpMixS_nil ?_
                go_wp2_with fail
                go_roundg (3 - (2 + 1))
                case measure => omega
                case rel => exact ⟨3, by go_num, rfl, by omega, L3.step2 hl3 true (by rw [HQ.out]; rfl), (hb3.setCell (Nat.le_refl _) _).drew⟩
              focus
                rw [hq] at k2
                have HQ := Lib.hid hq
                clear hq
                rcases Decidable.em (x = 111) with hx | hx
                focus
                  have hv : hits.2.2 = true := by rw [HH.out]; simp [← HX.out, hx]
                  have HV := Lib.hid hv
                  have e1 : (((s[c]).toNat : Int) == 111) = true := by rw [← HX.out, hx]; rfl
                  clear hv hx
                  go_wp2_with fail
                  refine wp_region_mixL (fun W => W.cell? ⟨wo.heap.size, 2, none⟩ = some (.bool false)) [4] [21] [0, 1, 2, 3, 4, 5, 6, 7, 8, 9, 10, 11, 12, 13, 14, 15, 16, 17, 18, 19, 20, 21] (by kernel_rfl) (by kernel_rfl) k2 ?_
                  simp only [inOrder, opAt]
                  iterate 14
                    (refine wpMixS_read (v := ?_) rfl rfl (fun w' hS => ?_) ?_
                     rotate_left
                     · ((try (have s0 := hS rfl)); (try clear hS); go_simp; (try with_reducible rfl))
                     try simp only [Act.put, List.setIfInBounds_toArray, List.set_cons_zero, List.set_cons_succ])
                  iterate 4
                    (refine wpMixS_skip rfl rfl ?_
                     try simp only [Act.put, List.setIfInBounds_toArray, List.set_cons_zero, List.set_cons_succ])
                  iterate 3
                    (refine wpMixS_read (v := ?_) rfl rfl (fun w' hS => ?_) ?_
                     rotate_left
                     · ((try (have s0 := hS rfl)); (try clear hS); go_simp; (try with_reducible rfl))
                     try simp only [Act.put, List.setIfInBounds_toArray, List.set_cons_zero, List.set_cons_succ])
                  refine wpMixS_eff rfl rfl (fun K hK => ?_)
                  go_simp
                  refine hK.out _ _ _ (fun _ h => h) (fun h => by cases h) ?_
                  clear hK K
                  try simp only [Act.put, List.setIfInBounds_toArray, List.set_cons_zero, List.set_cons_succ]
                  refine wpMixS_nil ?_
                  go_wp2_with fail
                  go_roundg (3 - (2 + 1))
                  case measure => omega
                  case rel => exact ⟨3, by go_num, rfl, by omega, L3.step2 hl3 true (by rw [HQ.out, HV.out]; rfl), (hb3.setCell (Nat.le_refl _) _).drew⟩
                rcases Decidable.em (x = 97) with hx2 | hx2
                focus
                  have hv : hits.2.2 = true := by rw [HH.out]; simp [← HX.out, hx2]
                  have HV := Lib.hid hv
                  have e1 : (((s[c]).toNat : Int) == 111) = false := by rw [← HX.out]; exact u8_ne (c := 111) (by omega) hx
                  have e2 : (((s[c]).toNat : Int) == 97) = true := by rw [← HX.out, hx2]; rfl
                  clear hv hx hx2
                  go_wp2_with fail
                  refine wp_region_mixL (fun W => W.cell? ⟨wo.heap.size, 2, none⟩ = some (.bool false)) [4] [21] [0, 1, 2, 3, 4, 5, 6, 7, 8, 9, 10, 11, 12, 13, 14, 15, 16, 17, 18, 19, 20, 21] (by kernel_rfl) (by kernel_rfl) k2 ?_
                  simp only [inOrder, opAt]
                  iterate 21
                    (refine wpMixS_read (v := ?_) rfl rfl (fun w' hS => ?_) ?_
                     rotate_left
                     · ((try (have s0 := hS rfl)); (try clear hS); go_simp; (try with_reducible rfl))
                     try simp only [Act.put, List.setIfInBounds_toArray, List.set_cons_zero, List.set_cons_succ])
                  refine wpMixS_eff rfl rfl (fun K hK => ?_)
                  go_simp
                  refine hK.out _ _ _ (fun _ h => h) (fun h => by cases h) ?_
                  clear hK K
                  try simp only [Act.put, List.setIfInBounds_toArray, List.set_cons_zero, List.set_cons_succ]
                  refine wpMixS_nil ?_
                  go_wp2_with fail
                  go_roundg (3 - (2 + 1))
                  case measure => omega
                  case rel => exact ⟨3, by go_num, rfl, by omega, L3.step2 hl3 true (by rw [HQ.out, HV.out]; rfl), (hb3.setCell (Nat.le_refl _) _).drew⟩
                focus
                  have hv : hits.2.2 = false := by rw [HH.out]; simp [← HX.out, hx, hx2]
                  have HV := Lib.hid hv
                  have e1 : (((s[c]).toNat : Int) == 111) = false := by rw [← HX.out]; exact u8_ne (c := 111) (by omega) hx
                  have e2 : (((s[c]).toNat : Int) == 97) = false := by rw [← HX.out]; exact u8_ne (c := 97) (by omega) hx2
                  clear hv hx hx2
                  go_wp2_with fail
                  refine wp_region_mixL (fun W => W.cell? ⟨wo.heap.size, 2, none⟩ = some (.bool false)) [4] [21] [0, 1, 2, 3, 4, 5, 6, 7, 8, 9, 10, 11, 12, 13, 14, 15, 16, 17, 18, 19, 20, 21] (by kernel_rfl) (by kernel_rfl) k2 ?_
                  simp only [inOrder, opAt]
                  iterate 21
                    (refine wpMixS_read (v := ?_) rfl rfl (fun w' hS => ?_) ?_
                     rotate_left
                     · ((try (have s0 := hS rfl)); (try clear hS); go_simp; (try with_reducible rfl))
                     try simp only [Act.put, List.setIfInBounds_toArray, List.set_cons_zero, List.set_cons_succ])
                  refine wpMixS_eff rfl rfl (fun K hK => ?_)
                  go_simp
                  refine hK.out _ _ _ (fun _ h => h) (fun h => by cases h) ?_
                  clear hK K
                  try simp only [Act.put, List.setIfInBounds_toArray, List.set_cons_zero, List.set_cons_succ]
                  refine wpMixS_nil ?_
                  go_wp2_with fail
                  go_roundg (3 - (2 + 1))
                  case measure => omega
                  case rel => exact ⟨3, by go_num, rfl, by omega, L3.step2 hl3 false (by rw [HQ.out, HV.out]; rfl), (hb3.setCell (Nat.le_refl _) _).drew⟩
            · unfold L3 at hl3
              go_wp2_with fail
              go_roundg (s.size + 1 - (c + 1))
              case measure => omega
              case rel =>
                have hs3 := HSN.out
                have h3 := HH.out
                have e1 : clsAt (rest.take (k + 1)) 0 = (q0 || hits.1) := by rw [hs3.1, h3]
                have e2 : clsAt (rest.take (k + 1)) 1 = (q1 || hits.2.1) := by rw [hs3.2.1, h3]
                have e3 : clsAt (rest.take (k + 1)) 2 = (q2 || hits.2.2) := by rw [hs3.2.2, h3]
                exact ⟨k + 1, c + 1, by rw [HC.out]; rfl, by go_num, by simp, rfl, by omega, HNX.out, by rw [e1, e2, e3]; exact hl3, hb3⟩
        · have hcl0 : isCls s[c] = false := by simpa using hcl
          have hld : lead isCls rest = k := lead_eq isCls rest k hkl HALL.out (fun _ => by rw [HBR.out]; exact hcl0)
          have HCL := Lib.hid hcl0
          have HLD := Lib.hid hld
          clear hcl hcl0 hld HALL
          by_cases hk0 : k = 0
          · have hr : R = ([], (c : Int)) := by
              rw [← HGO.out, if_pos (by unfold noClause; rw [HLD.out, hk0]; rfl), HLD.out, ← HC.out]
            have HR := Lib.hid hr
            have e1 : decide (0 < k) = false := decide_eq_false (by omega)
            clear hr hk0 HGO
            go_wp2_with fail
            refine (ridx_cls wr s[c]).mono ?_
            rintro e w3 ⟨⟨n, rfl, g1, g2⟩, rfl⟩
            rw [HCL.out] at g1 g2
            dsimp only
            go_wp2_with fail
            go_ret2
            exact ⟨clauses_err HR.out, hbl.trans (hb2.mono hszr)⟩
          · have e1 : decide (0 < k) = true := decide_eq_true (by omega)
            have e2 : ((c : Int) == s.size) = false := beq_eq_false_iff_ne.2 (by omega)
            by_cases hsg : signB s[c] = true
            · have hno : noClause rest = false := by
                unfold noClause
                rw [HLD.out, HBR.out, hsg]
                simp [hk0]
                omega
              have hgo2 := HGO.out
              rw [if_neg (by rw [hno]; simp)] at hgo2
              have HGO2 := Lib.hid hgo2
              have HNO := Lib.hid hno
              have HSG := Lib.hid hsg
              have hblk := HBLK.out
              have f3 := hblk.frozen 3
              have b4 := hblk.lt
              have c3 := hblk.cell 3
              simp at c3
              clear hno hsg HGO hgo2 hk0
              go_wp2_with fail
              refine (ridx_cls wr s[c]).mono ?_
              rintro e w3 ⟨⟨n, rfl, g1, g2⟩, rfl⟩
              rw [HCL.out] at g1 g2
              dsimp only
              go_wp2_with fail
              refine (ridx_sign wr s[c]).mono ?_
              rintro e w3 ⟨⟨n2, rfl, g3, g4⟩, rfl⟩
              rw [HSG.out] at g3 g4
              dsimp only
              go_upto_region 17 with (fail)
              have hb5 : Below wo.heap.size wo (wr.setCell ⟨wo.heap.size, 3, none⟩ (.int .u8 s[c].toNat)) := hb2.setCell (Nat.le_refl _) _
              have HBLK5 := Lib.hid (hblk.set_ 3 (.int .u8 s[c].toNat))
              clear g1 g2 g3 g4 f3 c3 hblk HBLK hb2 b4 HSG HCL e1 e2
              have y : (c : Int) + 1 = ((c + 1 : Nat) : Int) := by omega
              rw [y]
              obtain ⟨d, hd⟩ : ∃ d : Nat, d = c + 1 := ⟨_, rfl⟩
              rw [← hd]
              have HD := Lib.hid hd
              have hds : d ≤ s.size := by omega
              have hHX : s[c] = s[c] := rfl
              generalize hx : s[c] = x at *
              clear hd y hHX hx i1
              generalize wr.setCell ⟨wo.heap.size, 3, none⟩ (.int .u8 x.toNat) = W4 at *
              clear hsz2
              clear wr
              go_loopg [5] (s.size + 1 - d) (fun q atv wr => wr = W4 ∧ ∃ j b : Nat, b = d + j ∧ atv = .int .i64 b ∧ q = s.size + 1 - b ∧ b ≤ s.size ∧ (∀ u ∈ (rest.drop (k + 1)).take j, isBit u = true))
              case atStart => exact ⟨rfl, 0, d, rfl, rfl, rfl, hds, by simp⟩
              case round =>
                obtain ⟨rfl, j, b, hb, rfl, rfl, hbs, hall4⟩ := hrel
                have HB := Lib.hid hb
                have HALL4 := Lib.hid hall4
                clear hall4 hb
                have hjl : j ≤ (rest.drop (k + 1)).length := by rw [List.length_drop]; have := HRL.out; have := HD.out; have := HC.out; have := HB.out; omega
                have hdr : rest.drop (k + 1) = (bl s).drop d := by rw [HDD.out, HD.out, HC.out]; rfl
                have HDR := Lib.hid hdr
                clear hdr
                by_cases hlt4 : b < s.size
                · have i4 : (b : Int) < s.size := by omega
                  have hbr4 : (rest.drop (k + 1)).getD j 0 = s[b] := by
                    rw [← bl_get s b hlt4, HDR.out, List.getD_eq_getElem?_getD, List.getElem?_drop, ← HB.out, ← List.getD_eq_getElem?_getD]
                  have HBR4 := Lib.hid hbr4
                  clear hbr4
                  by_cases hbt : isBit s[b] = true
                  · have HBT := Lib.hid hbt
                    have hnx : ∀ u ∈ (rest.drop (k + 1)).take (j + 1), isBit u = true := by
                      have hj2 : j < (rest.drop (k + 1)).length := by rw [List.length_drop]; have := HRL.out; have := HD.out; have := HC.out; have := HB.out; omega
                      intro u hu
                      rw [List.take_succ_eq_append_getElem hj2, List.mem_append] at hu
                      rcases hu with hu | hu
                      · exact HALL4.out u hu
                      · rw [List.mem_singleton.1 hu]
                        have := HBR4.out
                        rw [List.getD_eq_getElem?_getD, List.getElem?_eq_getElem hj2, Option.getD_some] at this
                        rw [this]
                        exact hbt
                    have HNX := Lib.hid hnx
                    clear hbt hnx
                    go_wp2_with fail
                    refine (ridx_bit wr s[b]).mono ?_
                    rintro e w3 ⟨⟨n, rfl, g1, g2⟩, rfl⟩
                    rw [HBT.out] at g1 g2
                    dsimp only
                    go_wp2_with fail
                    go_roundg (s.size + 1 - (b + 1))
                    case measure => omega
                    case rel => exact ⟨rfl, j + 1, b + 1, by rw [HB.out]; rfl, by go_num, rfl, by omega, HNX.out⟩
                  · have hbt0 : isBit s[b] = false := by simpa using hbt
                    have hlb : lead isBit (rest.drop (k + 1)) = j := lead_eq isBit _ j hjl HALL4.out (fun h => by rw [HBR4.out]; exact hbt0)
                    have hcl5 : clLen rest = k + 1 + j := by unfold clLen; rw [HLD.out, hlb]
                    have hof : clOf rest = ⟨rest.take k, x, (rest.drop (k + 1)).take j⟩ := by unfold clOf; rw [HLD.out, hlb, HBR.out]
                    have hT : s.extract d b = ⟨((rest.drop (k + 1)).take j).toArray⟩ := by
                      refine ByteArray.ext (Array.ext' ?_)
                      rw [Lib.extract_data, HDR.out, HB.out, Nat.add_sub_cancel_left]
                      rfl
                    have hbk := HBLK5.out
                    simp only [List.setIfInBounds_toArray, List.set_cons_zero, List.set_cons_succ] at hbk
                    have hb6 := (hb5.setCell (p := ⟨wo.heap.size, 4, none⟩) (Nat.le_refl _) (.string (s.extract d b))).alloc (by simpa using hb5.size) (.cells #[.bool (clsAt (rest.take k) 0), .bool (clsAt (rest.take k) 1), .bool (clsAt (rest.take k) 2), .int .u8 x.toNat, .string (s.extract d b)] 51)
                    have own6 := own_fr HOWN.out (Fr.of_below (L := []) hb6) (by simp)
                    have rd6 := reads_new (wr.setCell ⟨wo.heap.size, 4, none⟩ (.string (s.extract d b))) wr.heap.size (by simp) 51 #[.bool (clsAt (rest.take k) 0), .bool (clsAt (rest.take k) 1), .bool (clsAt (rest.take k) 2), .int .u8 x.toNat, .string (s.extract d b)] 1 5 rfl
                    have one6 := clCells_one ⟨rest.take k, x, (rest.drop (k + 1)).take j⟩
                    unfold clCells at one6
                    rw [← hT] at one6
                    dsimp only at one6 rd6
                    have k0 := hbk.cell 0
                    have k1 := hbk.cell 1
                    have k2 := hbk.cell 2
                    have k3 := hbk.cell 3
                    have k4 := hbk.cell 4
                    have f4 := hbk.frozen 4
                    have zlt := hbk.lt
                    simp at k0 k1 k2 k3 k4
                    have e64 : w.heap.size ≤ wr.heap.size := Nat.le_trans hszr hb5.size
                    have hcv : allCells acc ++ [.bool (clsAt (rest.take k) 0), .bool (clsAt (rest.take k) 1), .bool (clsAt (rest.take k) 2), .int .u8 x.toNat, .string (s.extract d b)] = allCells (acc ++ [clOf rest]) := by rw [allCells_snoc, hof]; unfold clCells; rw [hT]
                    have HCV := Lib.hid hcv
                    have GE := Lib.hid (own_geL HOWN.out)
                    have HLC := Lib.hid hcl5
                    have HOF := Lib.hid hof
                    have BTE : d ≤ b := by have := HB.out; omega
                    clear hcv hT hcl5 hof hbk hlb HALL4 HDR hjl
                    generalize clsAt (rest.take k) 0 = q0 at *
                    generalize clsAt (rest.take k) 1 = q1 at *
                    generalize clsAt (rest.take k) 2 = q2 at *
                    have HBT := Lib.hid hbt0
                    clear hbt hbt0
                    have e7 : ((b : Int) == s.size) = false := beq_eq_false_iff_ne.2 (by omega)
                    have hne : ¬ clLen rest = rest.length := by rw [HLC.out]; have := HRL.out; have := HC.out; have := HD.out; have := HB.out; omega
                    have hab : a < b := by have := HC.out; have := HD.out; have := HB.out; omega
                    have hgo3 := HGO2.out
                    have hba : a + clLen rest = b := by rw [HLC.out]; have := HC.out; have := HD.out; have := HB.out; omega
                    have hgb : rest.getD (clLen rest) 0 = s[b] := by rw [HGD.out, hba]; exact bl_get s b hlt4
                    have hdb : rest.drop (clLen rest + 1) = (bl s).drop (b + 1) := by rw [HDD.out, ← hba]; rfl
                    rw [if_neg hne, hgb, hdb, hba] at hgo3
                    have HGO3 := Lib.hid hgo3
                    clear hne hgo3 hgb hdb hba HGO2
                    rcases Decidable.em (s[b] = 44) with h44 | h44
                    focus
                      have hr : clausesGo f (b + 1) ((bl s).drop (b + 1)) (acc ++ [clOf rest]) = R := by rw [← HGO3.out, if_pos h44]
                      have HR := Lib.hid hr
                      have E8 : Hid (((s[b]).toNat : Int) = 44) := Lib.hid (by rw [h44]; rfl)
                      clear h44 hr HGO3
                      go_wp2_with fail
                      with_reducible refine (ridx_bit wr s[b]).mono ?_
                      rintro e w3 ⟨⟨n, rfl, g1, g2⟩, rfl⟩
                      rw [HBT.out] at g1 g2
                      have e8 := E8.out
                      dsimp only
                      go_wp2_with (at_builtin; go_must (refine wpList_append_any _ rfl (.tmp 89) (.tmp 91) _ rfl w.heap.size 51 i51 _ 5 24 Tryd.underlying46 hi hz0 hz1 hz2 rfl (by omega) _ acc.length (allCells acc) rfl own6 (wr.heap.size + 1) (some ⟨wr.heap.size, 0, none⟩) 1 1 _ rfl rd6 one6 (by unfold maxLen; omega) (by omega) (by simp; omega) ?_); intro v1 w1 hown1 hgrow1 hat1)
                      rw [HCV.out] at hown1
                      have hbw := (hbl.trans (hb6.mono hszr)).grown hgrow1 (Nat.le_trans e64 (by simp)) GE.out
                      go_roundg (s.size + 1 - (b + 1))
                      case measure => omega
                      case rel => exact ⟨b + 1, f, acc ++ [clOf rest], by go_num, rfl, by omega, by omega, by rw [List.length_append, List.length_singleton]; have := HC.out; have := HD.out; have := HB.out; omega, HR.out, by rw [List.length_append, List.length_singleton]; exact hown1, hbw⟩
                    focus
                      have hr : R = ([], ((b : Nat) : Int)) := by rw [← HGO3.out, if_neg h44]
                      have HR := Lib.hid hr
                      have e8 : (((s[b]).toNat : Int) == 44) = false := u8_ne (c := 44) (by omega) h44
                      have e9 : (((s[b]).toNat : Int) != 44) = true := by rw [bne, e8]; rfl
                      clear h44 hr HGO3
                      go_wp2_with fail
                      refine (ridx_bit wr s[b]).mono ?_
                      rintro e w3 ⟨⟨n, rfl, g1, g2⟩, rfl⟩
                      rw [HBT.out] at g1 g2
                      dsimp only
                      go_wp2_with (at_builtin; go_must (refine wpList_append_any _ rfl (.tmp 89) (.tmp 91) _ rfl w.heap.size 51 i51 _ 5 24 Tryd.underlying46 hi hz0 hz1 hz2 rfl (by omega) _ acc.length (allCells acc) rfl own6 (wr.heap.size + 1) (some ⟨wr.heap.size, 0, none⟩) 1 1 _ rfl rd6 one6 (by unfold maxLen; omega) (by omega) (by simp; omega) ?_); intro v1 w1 hown1 hgrow1 hat1)
                      have hbw := (hbl.trans (hb6.mono hszr)).grown hgrow1 (Nat.le_trans e64 (by simp)) GE.out
                      go_ret2
                      exact ⟨clauses_err HR.out, hbw⟩
                · obtain rfl : b = s.size := by omega
                  have i4 : decide ((s.size : Int) < s.size) = false := decide_eq_false (by omega)
                  have e7 : ((s.size : Int) == s.size) = true := by simp
                  have hlb : lead isBit (rest.drop (k + 1)) = j := lead_eq isBit _ j hjl HALL4.out (fun h => by rw [List.length_drop] at h; have := HRL.out; have := HC.out; have := HD.out; have := HB.out; omega)
                  have hcl5 : clLen rest = k + 1 + j := by unfold clLen; rw [HLD.out, hlb]
                  have hof : clOf rest = ⟨rest.take k, x, (rest.drop (k + 1)).take j⟩ := by unfold clOf; rw [HLD.out, hlb, HBR.out]
                  have hT : s.extract d s.size = ⟨((rest.drop (k + 1)).take j).toArray⟩ := by
                    refine ByteArray.ext (Array.ext' ?_)
                    rw [Lib.extract_data, HDR.out, HB.out, Nat.add_sub_cancel_left]
                    rfl
                  have hbk := HBLK5.out
                  simp only [List.setIfInBounds_toArray, List.set_cons_zero, List.set_cons_succ] at hbk
                  have hb6 := (hb5.setCell (p := ⟨wo.heap.size, 4, none⟩) (Nat.le_refl _) (.string (s.extract d s.size))).alloc (by simpa using hb5.size) (.cells #[.bool (clsAt (rest.take k) 0), .bool (clsAt (rest.take k) 1), .bool (clsAt (rest.take k) 2), .int .u8 x.toNat, .string (s.extract d s.size)] 51)
                  have own6 := own_fr HOWN.out (Fr.of_below (L := []) hb6) (by simp)
                  have rd6 := reads_new (wr.setCell ⟨wo.heap.size, 4, none⟩ (.string (s.extract d s.size))) wr.heap.size (by simp) 51 #[.bool (clsAt (rest.take k) 0), .bool (clsAt (rest.take k) 1), .bool (clsAt (rest.take k) 2), .int .u8 x.toNat, .string (s.extract d s.size)] 1 5 rfl
                  have one6 := clCells_one ⟨rest.take k, x, (rest.drop (k + 1)).take j⟩
                  unfold clCells at one6
                  rw [← hT] at one6
                  dsimp only at one6 rd6
                  have k0 := hbk.cell 0
                  have k1 := hbk.cell 1
                  have k2 := hbk.cell 2
                  have k3 := hbk.cell 3
                  have k4 := hbk.cell 4
                  have f4 := hbk.frozen 4
                  have zlt := hbk.lt
                  simp at k0 k1 k2 k3 k4
                  have e64 : w.heap.size ≤ wr.heap.size := Nat.le_trans hszr hb5.size
                  have hcv : allCells acc ++ [.bool (clsAt (rest.take k) 0), .bool (clsAt (rest.take k) 1), .bool (clsAt (rest.take k) 2), .int .u8 x.toNat, .string (s.extract d s.size)] = allCells (acc ++ [clOf rest]) := by rw [allCells_snoc, hof]; unfold clCells; rw [hT]
                  have HCV := Lib.hid hcv
                  have GE := Lib.hid (own_geL HOWN.out)
                  have HLC := Lib.hid hcl5
                  have HOF := Lib.hid hof
                  have BTE : d ≤ s.size := by have := HB.out; omega
                  clear hcv hT hcl5 hof hbk hlb HALL4 HDR hjl
                  generalize clsAt (rest.take k) 0 = q0 at *
                  generalize clsAt (rest.take k) 1 = q1 at *
                  generalize clsAt (rest.take k) 2 = q2 at *
                  have heq : clLen rest = rest.length := by rw [HLC.out]; have := HRL.out; have := HC.out; have := HD.out; have := HB.out; omega
                  have hr : R = (acc ++ [clOf rest], -1) := by rw [← HGO2.out, if_pos heq]
                  have HR := Lib.hid hr
                  clear heq hr HGO2
                  go_wp2_with (at_builtin; go_must (refine wpList_append_any _ rfl (.tmp 89) (.tmp 91) _ rfl w.heap.size 51 i51 _ 5 24 Tryd.underlying46 hi hz0 hz1 hz2 rfl (by omega) _ acc.length (allCells acc) rfl own6 (wr.heap.size + 1) (some ⟨wr.heap.size, 0, none⟩) 1 1 _ rfl rd6 one6 (by unfold maxLen; omega) (by omega) (by simp; omega) ?_); intro v1 w1 hown1 hgrow1 hat1)
                  rw [HCV.out] at hown1
                  have hbw := (hbl.trans (hb6.mono hszr)).grown hgrow1 (Nat.le_trans e64 (by simp)) GE.out
                  go_ret2
                  exact ⟨clauses_ok (by rw [List.length_append, List.length_singleton]; exact hown1) HR.out, hbw⟩
            · have hsg0 : signB s[c] = false := by simpa using hsg
              have hr : R = ([], (c : Int)) := by
                rw [← HGO.out, if_pos (by unfold noClause; rw [HLD.out, HBR.out, hsg0]; simp), HLD.out, ← HC.out]
              have HR := Lib.hid hr
              have HSG := Lib.hid hsg0
              clear hr hk0 hsg hsg0 HGO
              go_wp2_with fail
              refine (ridx_cls wr s[c]).mono ?_
              rintro e w3 ⟨⟨n, rfl, g1, g2⟩, rfl⟩
              rw [HCL.out] at g1 g2
              dsimp only
              go_wp2_with fail
              refine (ridx_sign wr s[c]).mono ?_
              rintro e w3 ⟨⟨n2, rfl, g3, g4⟩, rfl⟩
              rw [HSG.out] at g3 g4
              dsimp only
              go_wp2_with fail
              go_ret2
              exact ⟨clauses_err HR.out, hbl.trans (hb2.mono hszr)⟩
      · obtain rfl : c = s.size := by omega
        have i1 : decide ((s.size : Int) < s.size) = false := decide_eq_false (by omega)
        have e2 : ((s.size : Int) == s.size) = true := by simp
        have hkr : k = rest.length := by have := HRL.out; have := HC.out; omega
        have hld : lead isCls rest = k := lead_eq isCls rest k hkl HALL.out (fun h => by omega)
        have hr : R = ([], (s.size : Int)) := by
          rw [← HGO.out, if_pos (by unfold noClause; rw [hld, hkr]; simp), hld, ← HC.out]
        have HR := Lib.hid hr
        have hkc : decide (0 < k) = false ∨ decide (0 < k) = true := by cases decide (0 < k) <;> simp
        clear hr HGO hld hkr HALL
        rcases hkc with e1 | e1
        all_goals
          go_wp2_with fail
          go_ret2
          exact ⟨clauses_err HR.out, hbl.trans (hb2.mono hszr)⟩
end Go.Proofs.YtemcabepbncicaaDoor
