/-
  Walks: classesOf.
-/
import Derived.Test.YtemcabepbncicaaDoorAccG
namespace Go.Proofs.YtemcabepbncicaaDoor
open Go.RowKit

/-- Which classes letters name. -/
def clsAt (p : List UInt8) : Nat → Bool
  | 0 => p.any fun b => b == 117 || b == 97
  | 1 => p.any fun b => b == 103 || b == 97
  | 2 => p.any fun b => b == 111 || b == 97
  | _ => false
def isCls (b : UInt8) : Bool := b == 117 || b == 103 || b == 111 || b == 97

/-- The bytes of a string. -/
def bl (s : ByteArray) : List UInt8 := s.data.toList
theorem bl_length (s : ByteArray) : (bl s).length = s.size := by simp [bl]
theorem bl_get (s : ByteArray) (k : Nat) (h : k < s.size) : (bl s).getD k 0 = s[k] := by
  have h' : k < (bl s).length := by rw [bl_length]; exact h
  rw [List.getD_eq_getElem?_getD, List.getElem?_eq_getElem h']
  rfl
theorem bl_take (s : ByteArray) (k : Nat) (h : k < s.size) : (bl s).take (k + 1) = (bl s).take k ++ [s[k]] := by
  rw [List.take_succ_eq_append_getElem (by rw [bl_length]; exact h)]
  rfl

theorem u8_ne {x : UInt8} {c : Nat} (hc : c < 256) (h : x ≠ UInt8.ofNat c) : ((x.toNat : Int) == (c : Int)) = false := by
  refine beq_eq_false_iff_ne.2 fun hh => h (UInt8.toNat_inj.1 ?_)
  rw [UInt8.toNat_ofNat']
  omega

theorem clsAt_snoc (p : List UInt8) (b : UInt8) : clsAt (p ++ [b]) 0 = (clsAt p 0 || (b == 117 || b == 97)) ∧ clsAt (p ++ [b]) 1 = (clsAt p 1 || (b == 103 || b == 97)) ∧ clsAt (p ++ [b]) 2 = (clsAt p 2 || (b == 111 || b == 97)) := by
  simp [clsAt]

/-- What classesOf returns. -/
def ClsRet (l : List UInt8) (e : Ending) : Prop :=
  ∃ n : Nat, n ≤ l.length ∧ e = .returned (.tuple #[clsV (clsAt (l.take n)), .int .i64 n]) ∧ (∀ b ∈ l.take n, isCls b = true) ∧ (n < l.length → isCls (l.getD n 0) = false)

set_option maxHeartbeats 4000000 in
theorem classesOf_any (w : World) (s : ByteArray) (hs : s.size ≤ 1000000) :
    Calls Tryd.prog 40 #[.string s] w fun e w' => ClsRet (bl s) e ∧ Below w.heap.size w w' := by
  have hlen := bl_length s
  have HLEN := Lib.hid hlen
  clear hlen
  go_enter Tryd.func40, Tryd.ntmps40
  go_wp2_with fail
  go_loopg [3] s.size (fun q iv wr => ∃ k : Nat, iv = .int .i64 k ∧ q = s.size - k ∧ k ≤ s.size ∧ (∀ b ∈ (bl s).take k, isCls b = true) ∧ Blk wr w.heap.size 49 #[.bool (clsAt ((bl s).take k) 0), .bool (clsAt ((bl s).take k) 1), .bool (clsAt ((bl s).take k) 2)] ∧ Below w.heap.size w wr)
  case atStart => exact ⟨0, rfl, by omega, by omega, by simp, Blk.new_ _ _ _ rfl, (Below.refl _ _).alloc (Nat.le_refl _) _⟩
  case round =>
    obtain ⟨k, rfl, rfl, hk, hall, hblk, hbl⟩ := hrel
    have hszr := hbl.size
    have c0 := hblk.cell 0
    have c1 := hblk.cell 1
    have c2 := hblk.cell 2
    have f0 := hblk.frozen 0
    have f1 := hblk.frozen 1
    have f2 := hblk.frozen 2
    simp at c0 c1 c2
    have HALL := Lib.hid hall
    clear hall
    by_cases hlt : k < s.size
    · have htk := bl_take s k hlt
      have hsn := clsAt_snoc ((bl s).take k) s[k]
      rw [← htk] at hsn
      have HSN := Lib.hid hsn
      have HTK := Lib.hid htk
      have HGD := Lib.hid (bl_get s k hlt)
      have hret : isCls s[k] = false → ClsRet (bl s) (.returned (.tuple #[clsV (clsAt ((bl s).take k)), .int .i64 k])) := fun h => ⟨k, by rw [HLEN.out]; omega, rfl, HALL.out, fun _ => by rw [HGD.out]; exact h⟩
      have HRET := Lib.hid hret
      clear hsn htk hret
      unfold clsV at HRET
      have hnext : isCls s[k] = true → ∀ b ∈ (bl s).take (k + 1), isCls b = true := fun h b hb => by
        rw [HTK.out, List.mem_append] at hb
        rcases hb with hb | hb
        · exact HALL.out b hb
        · rw [List.mem_singleton.1 hb]; exact h
      have HNEXT := Lib.hid hnext
      clear hnext
      generalize clsAt ((bl s).take k) 0 = a at *
      generalize clsAt ((bl s).take k) 1 = b at *
      generalize clsAt ((bl s).take k) 2 = d at *
      rcases Decidable.em (s[k] = 117) with h | h117
      focus
        have e : ((s[k]).toNat : Int) = 117 := by rw [h]; rfl
        have HN := Lib.hid (HNEXT.out (by rw [h]; rfl))
        have HX := HSN.out
        rw [h] at HX
        have HS := Lib.hid HX
        clear h HNEXT HSN HRET HX
        go_wp2_with fail
        go_roundg (s.size - (k + 1))
        case measure => omega
        case rel =>
          refine ⟨k + 1, by go_num, rfl, by omega, HN.out, ?_, hbl.setCell (by simp) _⟩
          rw [HS.out.1, HS.out.2.1, HS.out.2.2]
          simpa using hblk.set_ 0 (.bool true)
      rcases Decidable.em (s[k] = 103) with h | h103
      focus
        have e : ((s[k]).toNat : Int) = 103 := by rw [h]; rfl
        have HN := Lib.hid (HNEXT.out (by rw [h]; rfl))
        have HX := HSN.out
        rw [h] at HX
        have HS := Lib.hid HX
        clear h HNEXT HSN HRET HX h117
        go_wp2_with fail
        go_roundg (s.size - (k + 1))
        case measure => omega
        case rel =>
          refine ⟨k + 1, by go_num, rfl, by omega, HN.out, ?_, hbl.setCell (by simp) _⟩
          rw [HS.out.1, HS.out.2.1, HS.out.2.2]
          simpa using hblk.set_ 1 (.bool true)
      rcases Decidable.em (s[k] = 111) with h | h111
      focus
        have e : ((s[k]).toNat : Int) = 111 := by rw [h]; rfl
        have HN := Lib.hid (HNEXT.out (by rw [h]; rfl))
        have HX := HSN.out
        rw [h] at HX
        have HS := Lib.hid HX
        clear h HNEXT HSN HRET HX h117 h103
        go_wp2_with fail
        go_roundg (s.size - (k + 1))
        case measure => omega
        case rel =>
          refine ⟨k + 1, by go_num, rfl, by omega, HN.out, ?_, hbl.setCell (by simp) _⟩
          rw [HS.out.1, HS.out.2.1, HS.out.2.2]
          simpa using hblk.set_ 2 (.bool true)
      rcases Decidable.em (s[k] = 97) with h | h97
      focus
        have e : ((s[k]).toNat : Int) = 97 := by rw [h]; rfl
        have HN := Lib.hid (HNEXT.out (by rw [h]; rfl))
        have HX := HSN.out
        rw [h] at HX
        have HS := Lib.hid HX
        clear h HNEXT HSN HRET HX h117 h103 h111
        go_wp2_with fail
        go_roundg (s.size - (k + 1))
        case measure => omega
        case rel =>
          refine ⟨k + 1, by go_num, rfl, by omega, HN.out, ?_, ((hbl.setCell (by simp) _).setCell (by simp) _).setCell (by simp) _⟩
          rw [HS.out.1, HS.out.2.1, HS.out.2.2]
          simpa using ((hblk.set_ 0 (.bool true)).set_ 1 (.bool true)).set_ 2 (.bool true)
      have hno : isCls s[k] = false := by unfold isCls; simp [h117, h103, h111, h97]
      have e117 : (((s[k]).toNat : Int) == 117) = false := u8_ne (c := 117) (by omega) h117
      have e103 : (((s[k]).toNat : Int) == 103) = false := u8_ne (c := 103) (by omega) h103
      have e111 : (((s[k]).toNat : Int) == 111) = false := u8_ne (c := 111) (by omega) h111
      have e97 : (((s[k]).toNat : Int) == 97) = false := u8_ne (c := 97) (by omega) h97
      have HR := Lib.hid (HRET.out hno)
      clear HRET HNEXT HSN hno h117 h103 h111 h97
      go_wp2_with fail
      exact bodyPost_ret (v := .tuple #[.agg #[.bool a, .bool b, .bool d], .int .i64 k]) (by simp [results, Tryd.results40, go_sem, c0, c1, c2]) rfl ⟨HR.out, ((hbl.setCell (by simp) _).setCell (by simp) _).setCell (by simp) _⟩
    · obtain rfl : k = s.size := by omega
      have i1 : decide ((s.size : Int) < s.size) = false := decide_eq_false (by omega)
      have hret : ClsRet (bl s) (.returned (.tuple #[clsV (clsAt ((bl s).take s.size)), .int .i64 s.size])) := ⟨s.size, by rw [HLEN.out]; omega, rfl, HALL.out, fun h => by rw [HLEN.out] at h; omega⟩
      have HRET := Lib.hid hret
      clear hret
      unfold clsV at HRET
      generalize clsAt ((bl s).take s.size) 0 = a at *
      generalize clsAt ((bl s).take s.size) 1 = b at *
      generalize clsAt ((bl s).take s.size) 2 = d at *
      go_wp2_with fail
      exact bodyPost_ret (v := .tuple #[.agg #[.bool a, .bool b, .bool d], .int .i64 s.size]) (by simp [results, Tryd.results40, go_sem, c0, c1, c2]) rfl ⟨HRET.out, ((hbl.setCell (by simp) _).setCell (by simp) _).setCell (by simp) _⟩
end Go.Proofs.YtemcabepbncicaaDoor
