import Derived.Test.YtgmpdclmfcmodaaProg
import Derived.Test.YtgmpdclmfcmodaaMaps
import Derived.WalkKit
import Derived.WalkSpells
import Derived.WalkLawsBesides
import Derived.Deep.QuietTactic
import Derived.BigQuiet
import Derived.Deep.LoopGhost
import Derived.Deep.RegionHeld3
import Derived.StillTailTactics
import Derived.Test.YtgmpdclmfcmodaaPure
import Derived.WideKeyArr
import Derived.Maps.Keyed
namespace Go.Proofs.Ytgmpdclmfcmodaa
open Go.RowKit

theorem arr81 : WideMaps.ArrKey Try.prog 81 5 4 := ⟨Try.underlying81, by kernel_rfl, by kernel_rfl, by kernel_rfl⟩
theorem u8_wf (b : UInt8) : (Lit.int .u8 b.toNat).wf = true := by
  have := b.toNat_lt
  simp [Lit.wf, IntKind.min, IntKind.max, IntKind.signed, IntKind.bits]
  omega
theorem keyLits5 (n : Nat) (b : UInt8) : Try.prog.keyLits (n + 1) 5 [.int .u8 b.toNat] = some [.int .u8 b.toNat] := by
  unfold Program.keyLits
  rw [Try.underlying5]
  simp [u8_wf]
theorem key81 : KeyOk Try.prog 81 encB (fun x => x.length = 4) :=
  keyOk_of_keyed (Maps.Keyed.of_law arr81.law) (fun x hx => by
    match x, hx with
    | [a0, a1, a2, a3], _ =>
      have h1 : Try.prog.keyType 81 = true := by kernel_rfl
      have hs : Try.prog.types.size = 102 := by kernel_rfl
      have c5 : Try.prog.cellsOf 5 = 1 := by kernel_rfl
      have c81 : Try.prog.cellsOf 81 = 4 := by kernel_rfl
      have hl : Try.prog.keyLits (102 + 1) 81 [.int .u8 a0.toNat, .int .u8 a1.toNat, .int .u8 a2.toNat, .int .u8 a3.toNat] = some [.int .u8 a0.toNat, .int .u8 a1.toNat, .int .u8 a2.toNat, .int .u8 a3.toNat] := by
        unfold Program.keyLits
        rw [Try.underlying81]
        simp only [c81, c5, List.length_cons, List.length_nil, List.range_succ]
        simp [keyLits5 101]
      unfold keyOf encB bs
      rw [Try.underlying81, hs, h1]
      simp only [Value.formed, Try.underlying81, c81, Value.cells, List.map_cons, List.map_nil, hl]
      exact ⟨_, rfl⟩)
    (fun x y _ _ h => encB_inj x y h)


/-- What stands in the chain at a place: the place before it with the same four bytes, or -1. -/
def prev (l : List UInt8) (p : Nat) : Int := match Pk.lastOf l (Pk.four l p) p with | some q => (q : Int) | none => -1

/-- The finder: its block g, the text's block tb, the chain's block bb, the map mb; the places below k are entered. -/
def Fin (w : World) (g tb bb mb : Nat) (l : List UInt8) (k : Nat) : Prop :=
  ∃ cap cap2 tc bc m, Blk w g 69 #[.slice (some ⟨tb, 0, none⟩) l.length cap, .map (some mb), .slice (some ⟨bb, 0, none⟩) l.length cap2, .int .i64 k] ∧
    l.length ≤ cap ∧ cap ≤ maxLen ∧ l.length ≤ cap2 ∧ cap2 ≤ maxLen ∧ Blk w tb 5 tc ∧ (∀ i, i < l.length → tc[i]? = some (.int .u8 (l.getD i 0).toNat)) ∧
    Blk w bb 3 bc ∧ l.length ≤ bc.size ∧ (∀ p, p < k → bc[p]? = some (.int .i64 (prev l p))) ∧
    MapIs encB (fun x => x.length = 4) w mb m ∧ (∀ x : List UInt8, x.length = 4 → mget m x = (Pk.lastOf l x k).map fun q => .int .i64 q)

set_option maxHeartbeats 400000 in
/-- common: how many bytes from two places on are the same. -/
theorem common_any (w : World) (g tb cap : Nat) (l : List UInt8) (a b most : Nat)
    (hg : w.cell? ⟨g, 0, none⟩ = some (.slice (some ⟨tb, 0, none⟩) l.length cap)) (hl : l.length ≤ 4000000)
    (ht : ∀ i, i < l.length → w.cell? ⟨tb, i, none⟩ = some (.int .u8 (l.getD i 0).toNat))
    (ha : a < b) (hb : b + most ≤ l.length) :
    Calls Try.prog 40 #[.pointer (some ⟨g, 0, none⟩), .int .i64 a, .int .i64 b, .int .i64 most] w fun e w' =>
      e = .returned (.int .i64 (Pk.comm l a b most)) ∧ ∃ n, w.drewN n = w' := by
  have HT := Lib.hid ht
  clear ht
  go_enter Try.func40, Try.ntmps40
  go_wp2
  go_loopw [9] (fun i wr => ∃ k : Nat, k ≤ most ∧ (∀ j, j < k → l[a + j]? = l[b + j]?) ∧ i = .int .i64 k ∧ (∃ n, w.drewN n = wr)) (fun i _ => most - (intOf i).toNat)
  case atStart => exact ⟨0, by omega, fun j hj => by omega, rfl, 0, rfl⟩
  case round =>
    obtain ⟨k, hk, hsame, rfl, n, rfl⟩ := hrel
    have HS := Lib.hid hsame
    clear hsame
    by_cases hlt : k < most
    · have h1 := HT.out (a + k) (by omega)
      have h2 := HT.out (b + k) (by omega)
      have i1 : (0 : Int) ≤ (a : Int) + k := by omega
      have i2 : (a : Int) + k < l.length := by omega
      have i3 : (0 : Int) ≤ (b : Int) + k := by omega
      have i4 : (b : Int) + k < l.length := by omega
      have e1 : l[a + k]? = some (l.getD (a + k) 0) := by rw [List.getD_eq_getElem?_getD, List.getElem?_eq_getElem (by omega)]; rfl
      have e2 : l[b + k]? = some (l.getD (b + k) 0) := by rw [List.getD_eq_getElem?_getD, List.getElem?_eq_getElem (by omega)]; rfl
      have E1 := Lib.hid e1
      have E2 := Lib.hid e2
      clear e1 e2
      generalize l.getD (a + k) 0 = x at h1 E1
      generalize l.getD (b + k) 0 = y at h2 E2
      by_cases hxy : x = y
      · subst hxy
        go_wp2
        go_quiet (fail)
        go_wp2
        go_roundw
        case rel =>
          refine ⟨k + 1, by omega, fun j hj => ?_, by go_num, _, rfl⟩
          by_cases hj' : j = k
          · rw [hj', E1.out, E2.out]
          · exact HS.out j (by omega)
        case measure => simp [intOf]; omega
      · have hb : ((x.toNat : Int) == (y.toNat : Int)) = false := by
          rw [beq_eq_false_iff_ne]
          exact fun h => hxy (UInt8.toNat_inj.1 (by omega))
        go_wp2
        go_quiet (fail)
        go_wp2
        go_ret
        refine ⟨?_, n + nq, by rw [World.drewN_drewN]⟩
        rw [Pk.comm_eq l most a b k hk HS.out (fun _ => by rw [E1.out, E2.out]; exact fun h => hxy (Option.some.inj h))]
        rfl
    · go_wp2
      go_quiet (fail)
      go_wp2
      go_ret
      refine ⟨?_, n + nq, by rw [World.drewN_drewN]⟩
      obtain rfl : k = most := by omega
      rw [Pk.comm_eq l k a b k hk HS.out (fun h => by omega)]
      rfl

theorem run_arrayAt81 (W : World) (a : Option Addr) (c : Nat) : (Instr.arrayAt 81 (.slice a 4 c)).run Try.prog W = .ok (.pointer a) W := by
  simp [Instr.arrayAt, run_underlying Try.underlying81]

set_option maxHeartbeats 400000 in
theorem next_any (w : World) (g tb : Nat) (cap : Nat) (l : List UInt8) (p : Nat)
   (hg : w.cell? ⟨g, 0, none⟩ = some (.slice (some ⟨tb, 0, none⟩) l.length cap)) (hcap : l.length ≤ cap) (hcap2 : cap ≤ maxLen)
   (ht : ∀ i, i < l.length → w.cell? ⟨tb, i, none⟩ = some (.int .u8 ((l.getD i 0).toNat)))
   (hp : p + 4 ≤ l.length) :
   Calls Try.prog 39 #[.pointer (some ⟨g, 0, none⟩), .int .i64 p] w fun e w' =>
     e = .returned (.agg #[.int .u8 (l.getD p 0).toNat, .int .u8 (l.getD (p+1) 0).toNat, .int .u8 (l.getD (p+2) 0).toNat, .int .u8 (l.getD (p+3) 0).toNat]) ∧
     w.alloc (.cells #[.int .u8 (l.getD p 0).toNat, .int .u8 (l.getD (p+1) 0).toNat, .int .u8 (l.getD (p+2) 0).toNat, .int .u8 (l.getD (p+3) 0).toNat] 81) = w' := by
  unfold maxLen at hcap2
  have h0 := ht p (by omega)
  have h1 := ht (p + 1) (by omega)
  have h2 := ht (p + 2) (by omega)
  have h3 := ht (p + 3) (by omega)
  clear ht
  have lg : g < w.heap.size := World.block_lt_of_cell? w _ hg
  have lt : tb < w.heap.size := World.block_lt_of_cell? w _ h0
  generalize l.getD p 0 = b0 at *
  generalize l.getD (p+1) 0 = b1 at *
  generalize l.getD (p+2) 0 = b2 at *
  generalize l.getD (p+3) 0 = b3 at *
  have harr := run_arrayAt81
  go_enter Try.func39, Try.ntmps39
  go_wp2
  simp [bodyPost, results, Try.results39, go_sem]
end Go.Proofs.Ytgmpdclmfcmodaa

