/-
  Walks: bitsOf.
-/
import Derived.Test.YtemcabepbncicaaDoorAccH
namespace Go.Proofs.YtemcabepbncicaaDoor
open Go.RowKit

/-- The bits for which a letter stands in classes. -/
def bitN (b : UInt8) (c : Nat → Bool) : Nat :=
  if b = 114 then inC 4 c 3 else if b = 119 then inC 2 c 3 else if b = 120 then inC 1 c 3
  else if b = 115 then (if c 0 then 512 else 0) else if b = 116 then (if c 2 then 1024 else 0) else 0
def isBit (b : UInt8) : Bool := b == 114 || b == 119 || b == 120 || b == 115 || b == 116
/-- .. and letters. -/
def bitsAcc (p : List UInt8) (c : Nat → Bool) : Nat := p.foldl (fun a b => a ||| bitN b c) 0
theorem bitsAcc_snoc (p : List UInt8) (b : UInt8) (c : Nat → Bool) : bitsAcc (p ++ [b]) c = bitsAcc p c ||| bitN b c := by simp [bitsAcc]
theorem bitN_lt (b : UInt8) (c : Nat → Bool) : bitN b c < 2048 := by
  have h4 := inC_lt 4 (by omega) c 3
  have h2 := inC_lt 2 (by omega) c 3
  have h1 := inC_lt 1 (by omega) c 3
  unfold bitN
  repeat' split
  all_goals omega
theorem foldl_bits_lt (c : Nat → Bool) : ∀ (p : List UInt8) (a : Nat), a < 2048 → p.foldl (fun a b => a ||| bitN b c) a < 2048
  | [], _, h => h
  | b :: p, _, h => foldl_bits_lt c p _ (Nat.or_lt_two_pow (n := 11) h (bitN_lt b c))
theorem bitsAcc_lt (p : List UInt8) (c : Nat → Bool) : bitsAcc p c < 2048 := foldl_bits_lt c p 0 (by omega)

/-- What bitsOf returns. -/
def BitsRet (l : List UInt8) (c : Nat → Bool) (e : Ending) : Prop :=
  ∃ n : Nat, n ≤ l.length ∧ e = .returned (.tuple #[.int .i64 (bitsAcc (l.take n) c), .int .i64 n]) ∧ (∀ b ∈ l.take n, isBit b = true) ∧ (n < l.length → isBit (l.getD n 0) = false)

theorem mget_letter (x : UInt8) (h1 : x ≠ 114) (h2 : x ≠ 119) (h3 : x ≠ 120) : mget letterMap x = none := by
  unfold letterMap
  rw [mget_cons, if_neg h1, mget_cons, if_neg h2, mget_cons, if_neg h3, mget_nil]

set_option maxRecDepth 10000 in
set_option maxHeartbeats 8000000 in
theorem bitsOf_any (w : World) (s : ByteArray) (c : Nat → Bool) (hs : s.size ≤ 1000000) (hsh : Sh w) :
    Calls Tryd.prog 42 #[.string s, clsV c] w fun e w' => BitsRet (bl s) c e ∧ Below w.heap.size w w' := by
  have hlen := bl_length s
  have HLEN := Lib.hid hlen
  clear hlen
  unfold clsV
  have ha : Below w.heap.size w (w.alloc (.cells #[.bool (c 0), .bool (c 1), .bool (c 2)] 49)) := (Below.refl _ _).alloc (Nat.le_refl _) _
  go_enter Tryd.func42, Tryd.ntmps42
  go_wp2_with fail
  refine (letters_any _).mono ?_
  rintro e w1 ⟨rfl, hmap, nb⟩
  have hb1 := ha.trans (nb.mono (by simp))
  have hblk : Blk w1 w.heap.size 49 #[.bool (c 0), .bool (c 1), .bool (c 2)] := (Blk.new_ w 49 _ rfl).below nb (by simp)
  obtain ⟨mb, hmb⟩ : ∃ mb : Nat, mb = (w.alloc (.cells #[.bool (c 0), .bool (c 1), .bool (c 2)] 49)).heap.size := ⟨_, rfl⟩
  rw [← hmb] at hmap ⊢
  clear hmb nb ha
  dsimp only
  go_wp2_with fail
  have hsz1 := hb1.size
  go_loopg [4, 5] s.size (fun q bv iv wr => ∃ (k b : Nat), iv = .int .i64 k ∧ bv = .int .i64 b ∧ q = s.size - k ∧ k ≤ s.size ∧ b = bitsAcc ((bl s).take k) c ∧ (∀ b ∈ (bl s).take k, isBit b = true) ∧ Below w1.heap.size w1 wr)
  case atStart => exact ⟨0, 0, rfl, rfl, by omega, by omega, rfl, by simp, Below.refl _ _⟩
  case round =>
    obtain ⟨k, b, rfl, rfl, rfl, hk, hb, hall, hbl⟩ := hrel
    have hszr := hbl.size
    have hblr := hblk.below hbl hblk.lt
    have c0 := hblr.cell 0
    have c1 := hblr.cell 1
    have c2 := hblr.cell 2
    simp at c0 c1 c2
    have hmr : MapIs (fun b : UInt8 => .int .u8 b.toNat) (fun _ => True) wr mb letterMap := hmap.keep (hbl.block mb hmap.lt)
    have hshr : Sh wr := (hsh.belowS hb1).belowS hbl
    have hbw := hb1.trans (hbl.mono hsz1)
    have HALL := Lib.hid hall
    have HB := Lib.hid hb
    have hb2 : b < 2048 := by rw [hb]; exact bitsAcc_lt _ _
    clear hall hb
    by_cases hlt : k < s.size
    · have htk := bl_take s k hlt
      have hsn := bitsAcc_snoc ((bl s).take k) s[k] c
      rw [← htk, ← HB.out] at hsn
      have HSN := Lib.hid hsn
      have HTK := Lib.hid htk
      have HGD := Lib.hid (bl_get s k hlt)
      have hret : isBit s[k] = false → BitsRet (bl s) c (.returned (.tuple #[.int .i64 b, .int .i64 k])) := fun h => ⟨k, by rw [HLEN.out]; omega, by rw [← HB.out], HALL.out, fun _ => by rw [HGD.out]; exact h⟩
      have HRET := Lib.hid hret
      have hnext : isBit s[k] = true → ∀ b ∈ (bl s).take (k + 1), isBit b = true := fun h b hb => by
        rw [HTK.out, List.mem_append] at hb
        rcases hb with hb | hb
        · exact HALL.out b hb
        · rw [List.mem_singleton.1 hb]; exact h
      have HNEXT := Lib.hid hnext
      clear hnext hsn htk hret
      rcases Decidable.em (s[k] = 114) with h | h114
      focus
        have e : ((s[k]).toNat : Int) = 114 := by rw [h]; rfl
        have HN := Lib.hid (HNEXT.out (by rw [h]; rfl))
        have HX := HSN.out
        rw [h] at HX
        have HX2 : bitsAcc ((bl s).take (k + 1)) c = b ||| inC 4 c 3 := HX
        have HS := Lib.hid HX2
        have hlk := run_lookup_map key5 Tryd.underlying83 (z := .int .i64 0) (fun _ => by kernel_rfl) hmr 114 trivial true
        have hlk' : (Instr.lookup 83 (.map (some mb)) (.int .u8 114) true).run Tryd.prog wr = .ok (.tuple #[.int .i64 4, .bool true]) wr := hlk
        have ho := i64_or_nat b (inC 4 c 3) (by omega) (by have := inC_lt 4 (by omega) c 3; omega)
        have HIC := Lib.hid (inClasses_any wr 4 c (by omega) hshr)
        clear h HNEXT HSN HRET HX HX2 hlk
        unfold clsV at HIC
        generalize inC 4 c 3 = z at *
        go_wp2_with fail
        refine HIC.out.mono ?_
        rintro e w2 ⟨rfl, nb⟩
        have hb3 := hbl.trans (nb.mono hszr)
        clear HIC nb
        dsimp only
        go_wp2_with fail
        go_roundg (s.size - (k + 1))
        case measure => omega
        case rel => exact ⟨k + 1, b ||| z, by go_num, rfl, rfl, by omega, HS.out.symm, HN.out, hb3⟩
      rcases Decidable.em (s[k] = 119) with h | h119
      focus
        have e : ((s[k]).toNat : Int) = 119 := by rw [h]; rfl
        have HN := Lib.hid (HNEXT.out (by rw [h]; rfl))
        have HX := HSN.out
        rw [h] at HX
        have HX2 : bitsAcc ((bl s).take (k + 1)) c = b ||| inC 2 c 3 := HX
        have HS := Lib.hid HX2
        have hlk := run_lookup_map key5 Tryd.underlying83 (z := .int .i64 0) (fun _ => by kernel_rfl) hmr 119 trivial true
        have hlk' : (Instr.lookup 83 (.map (some mb)) (.int .u8 119) true).run Tryd.prog wr = .ok (.tuple #[.int .i64 2, .bool true]) wr := hlk
        have ho := i64_or_nat b (inC 2 c 3) (by omega) (by have := inC_lt 2 (by omega) c 3; omega)
        have HIC := Lib.hid (inClasses_any wr 2 c (by omega) hshr)
        clear h HNEXT HSN HRET HX HX2 hlk h114
        unfold clsV at HIC
        generalize inC 2 c 3 = z at *
        go_wp2_with fail
        refine HIC.out.mono ?_
        rintro e w2 ⟨rfl, nb⟩
        have hb3 := hbl.trans (nb.mono hszr)
        clear HIC nb
        dsimp only
        go_wp2_with fail
        go_roundg (s.size - (k + 1))
        case measure => omega
        case rel => exact ⟨k + 1, b ||| z, by go_num, rfl, rfl, by omega, HS.out.symm, HN.out, hb3⟩
      rcases Decidable.em (s[k] = 120) with h | h120
      focus
        have e : ((s[k]).toNat : Int) = 120 := by rw [h]; rfl
        have HN := Lib.hid (HNEXT.out (by rw [h]; rfl))
        have HX := HSN.out
        rw [h] at HX
        have HX2 : bitsAcc ((bl s).take (k + 1)) c = b ||| inC 1 c 3 := HX
        have HS := Lib.hid HX2
        have hlk := run_lookup_map key5 Tryd.underlying83 (z := .int .i64 0) (fun _ => by kernel_rfl) hmr 120 trivial true
        have hlk' : (Instr.lookup 83 (.map (some mb)) (.int .u8 120) true).run Tryd.prog wr = .ok (.tuple #[.int .i64 1, .bool true]) wr := hlk
        have ho := i64_or_nat b (inC 1 c 3) (by omega) (by have := inC_lt 1 (by omega) c 3; omega)
        have HIC := Lib.hid (inClasses_any wr 1 c (by omega) hshr)
        clear h HNEXT HSN HRET HX HX2 hlk h114 h119
        unfold clsV at HIC
        generalize inC 1 c 3 = z at *
        go_wp2_with fail
        refine HIC.out.mono ?_
        rintro e w2 ⟨rfl, nb⟩
        have hb3 := hbl.trans (nb.mono hszr)
        clear HIC nb
        dsimp only
        go_wp2_with fail
        go_roundg (s.size - (k + 1))
        case measure => omega
        case rel => exact ⟨k + 1, b ||| z, by go_num, rfl, rfl, by omega, HS.out.symm, HN.out, hb3⟩
      rcases Decidable.em (s[k] = 115) with h | h115
      focus
        have e : ((s[k]).toNat : Int) = 115 := by rw [h]; rfl
        have HN := Lib.hid (HNEXT.out (by rw [h]; rfl))
        have HX := HSN.out
        rw [h] at HX
        have HX2 : bitsAcc ((bl s).take (k + 1)) c = b ||| (if c 0 then 512 else 0) := HX
        have HS := Lib.hid HX2
        have hlk := run_lookup_map key5 Tryd.underlying83 (z := .int .i64 0) (fun _ => by kernel_rfl) hmr 115 trivial true
        have hlk' : (Instr.lookup 83 (.map (some mb)) (.int .u8 115) true).run Tryd.prog wr = .ok (.tuple #[.int .i64 0, .bool false]) wr := hlk
        have ho : bits .or .i64 (b : Int) 512 = ((b ||| 512 : Nat) : Int) := i64_or_nat b 512 (by omega) (by omega)
        clear h HNEXT HSN HRET HX HX2 hlk h114 h119 h120
        go_wp2_with fail
        · go_roundg (s.size - (k + 1))
          case measure => omega
          case rel => exact ⟨k + 1, b ||| 512, by go_num, rfl, rfl, by omega, by rw [HS.out]; simp [*], HN.out, hbl⟩
        · go_roundg (s.size - (k + 1))
          case measure => omega
          case rel => exact ⟨k + 1, b, by go_num, rfl, rfl, by omega, by rw [HS.out]; simp [*], HN.out, hbl⟩
      rcases Decidable.em (s[k] = 116) with h | h116
      focus
        have e : ((s[k]).toNat : Int) = 116 := by rw [h]; rfl
        have HN := Lib.hid (HNEXT.out (by rw [h]; rfl))
        have HX := HSN.out
        rw [h] at HX
        have HX2 : bitsAcc ((bl s).take (k + 1)) c = b ||| (if c 2 then 1024 else 0) := HX
        have HS := Lib.hid HX2
        have hlk := run_lookup_map key5 Tryd.underlying83 (z := .int .i64 0) (fun _ => by kernel_rfl) hmr 116 trivial true
        have hlk' : (Instr.lookup 83 (.map (some mb)) (.int .u8 116) true).run Tryd.prog wr = .ok (.tuple #[.int .i64 0, .bool false]) wr := hlk
        have ho : bits .or .i64 (b : Int) 1024 = ((b ||| 1024 : Nat) : Int) := i64_or_nat b 1024 (by omega) (by omega)
        clear h HNEXT HSN HRET HX HX2 hlk h114 h119 h120 h115
        go_wp2_with fail
        · go_roundg (s.size - (k + 1))
          case measure => omega
          case rel => exact ⟨k + 1, b ||| 1024, by go_num, rfl, rfl, by omega, by rw [HS.out]; simp [*], HN.out, hbl⟩
        · go_roundg (s.size - (k + 1))
          case measure => omega
          case rel => exact ⟨k + 1, b, by go_num, rfl, rfl, by omega, by rw [HS.out]; simp [*], HN.out, hbl⟩
      have hno : isBit s[k] = false := by unfold isBit; simp [h114, h119, h120, h115, h116]
      have e115 : (((s[k]).toNat : Int) == 115) = false := u8_ne (c := 115) (by omega) h115
      have e116 : (((s[k]).toNat : Int) == 116) = false := u8_ne (c := 116) (by omega) h116
      have n115 : (((s[k]).toNat : Int) != 115) = true := by rw [bne, e115]; rfl
      have n116 : (((s[k]).toNat : Int) != 116) = true := by rw [bne, e116]; rfl
      have hlk := run_lookup_map key5 Tryd.underlying83 (z := .int .i64 0) (fun _ => by kernel_rfl) hmr s[k] trivial true
      rw [mget_letter _ h114 h119 h120] at hlk
      have hlk' : (Instr.lookup 83 (.map (some mb)) (.int .u8 (s[k]).toNat) true).run Tryd.prog wr = .ok (.tuple #[.int .i64 0, .bool false]) wr := hlk
      have HR := Lib.hid (HRET.out hno)
      clear HRET HNEXT HSN hno h114 h119 h120 h115 h116 hlk
      go_wp2_with fail
      go_ret2
      exact ⟨HR.out, hbw⟩
    · obtain rfl : k = s.size := by omega
      have i1 : decide ((s.size : Int) < s.size) = false := decide_eq_false (by omega)
      have hret : BitsRet (bl s) c (.returned (.tuple #[.int .i64 b, .int .i64 s.size])) := ⟨s.size, by rw [HLEN.out]; omega, by rw [← HB.out], HALL.out, fun h => by rw [HLEN.out] at h; omega⟩
      have HRET := Lib.hid hret
      clear hret
      go_wp2_with fail
      go_ret2
      exact ⟨HRET.out, hbw⟩
end Go.Proofs.YtemcabepbncicaaDoor
