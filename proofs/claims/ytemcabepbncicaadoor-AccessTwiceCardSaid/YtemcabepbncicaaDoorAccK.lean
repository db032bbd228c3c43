/-
  Walks: clause.
-/
import Derived.Test.YtemcabepbncicaaDoorAccJ
import Derived.Test.YtemcabepbncicaaDoorMixE
import Derived.Lib.IndexBytes
namespace Go.Proofs.YtemcabepbncicaaDoor
open Go.RowKit

/-- How many letters at the beginning are of a kind. -/
def lead (f : UInt8 → Bool) : List UInt8 → Nat
  | [] => 0
  | b :: l => if f b then lead f l + 1 else 0
theorem lead_le (f : UInt8 → Bool) : ∀ l, lead f l ≤ l.length
  | [] => Nat.le_refl _
  | b :: l => by
    unfold lead
    have := lead_le f l
    split
    · rw [List.length_cons]; omega
    · omega
theorem lead_eq (f : UInt8 → Bool) : ∀ (l : List UInt8) (n : Nat), n ≤ l.length → (∀ b ∈ l.take n, f b = true) → (n < l.length → f (l.getD n 0) = false) → lead f l = n
  | [], n, h, _, _ => by
    have : n = 0 := by simpa using h
    rw [this]; rfl
  | b :: l, 0, _, _, h => by
    have := h (by simp)
    unfold lead
    rw [if_neg (by simpa using this)]
  | b :: l, n + 1, h, ha, hn => by
    have hb : f b = true := ha b (by simp)
    unfold lead
    rw [if_pos hb, lead_eq f l n (by simpa using h) (fun x hx => ha x (by simp [hx])) (fun hlt => by have := hn (by simpa using hlt); simpa using this)]

/-- The function that a clause makes: bits lie in block g, the classes in block h. -/
def signFn (x : UInt8) (g h : Nat) : Value :=
  if x = 43 then .func (.func 43) #[] #[.pointer (some ⟨g, 0, none⟩)]
  else if x = 45 then .func (.func 44) #[] #[.pointer (some ⟨g, 0, none⟩)]
  else .func (.func 45) #[] #[.pointer (some ⟨h, 0, none⟩), .pointer (some ⟨g, 0, none⟩)]
/-- No clause stands at the beginning. -/
def noClause (l : List UInt8) : Bool := lead isCls l == 0 || lead isCls l == l.length || !signB (l.getD (lead isCls l) 0)
/-- The classes that a clause names, its bits, its length. -/
def clCls (l : List UInt8) : Nat → Bool := clsAt (l.take (lead isCls l))
def clBits (l : List UInt8) : Nat := bitsAcc ((l.drop (lead isCls l + 1)).take (lead isBit (l.drop (lead isCls l + 1)))) (clCls l)
def clLen (l : List UInt8) : Nat := lead isCls l + 1 + lead isBit (l.drop (lead isCls l + 1))
/-- What clause returns. -/
def ClauseRet (w' : World) (base : Nat) (l : List UInt8) (e : Ending) : Prop :=
  if noClause l = true then e = .returned (.tuple #[.nilFunc, .int .i64 (lead isCls l)])
  else ∃ g h, base ≤ g ∧ base ≤ h ∧ Blk w' g 3 #[.int .i64 (clBits l)] ∧ Blk w' h 49 #[.bool (clCls l 0), .bool (clCls l 1), .bool (clCls l 2)] ∧ e = .returned (.tuple #[signFn (l.getD (lead isCls l) 0) g h, .int .i64 (clLen l)])

set_option maxRecDepth 10000 in
set_option maxHeartbeats 8000000 in
theorem clause_any (w : World) (s : ByteArray) (hs : s.size ≤ 1000000) (hsh : Sh w) :
    Calls Tryd.prog 34 #[.string s] w fun e w' => ClauseRet w' w.heap.size (bl s) e ∧ Below w.heap.size w w' := by
  have hlen := bl_length s
  have HLEN := Lib.hid hlen
  clear hlen
  go_enter Tryd.func34, Tryd.ntmps34
  go_wp2_with fail
  refine (classesOf_any w s hs).mono ?_
  rintro e w1 ⟨⟨n, hn, rfl, hall, hstop⟩, nb⟩
  have hnc := lead_eq isCls (bl s) n hn hall hstop
  rw [HLEN.out] at hn
  have HNC := Lib.hid hnc
  clear hall hstop hnc
  unfold clsV
  have hb1 : Below w.heap.size w w1 := nb
  have hsz1 := hb1.size
  clear nb
  generalize hc : clsAt ((bl s).take n) = c at *
  have HC := Lib.hid hc
  clear hc
  dsimp only
  have hno : noClause (bl s) = true → ∀ W, ClauseRet W w.heap.size (bl s) (.returned (.tuple #[.nilFunc, .int .i64 n])) := fun h W => by
    unfold ClauseRet; rw [if_pos h, HNC.out]
  have HNO := Lib.hid hno
  clear hno
  by_cases h0 : n = 0
  · have hr := fun W => HNO.out (by unfold noClause; rw [HNC.out, h0]; rfl) W
    have HR := Lib.hid hr
    subst h0
    clear hr
    go_wp2_with fail
    go_ret2
    exact ⟨HR.out _, hb1.alloc hsz1 _⟩
  have e0 : ((n : Int) == 0) = false := beq_eq_false_iff_ne.2 (by omega)
  by_cases hl : n = s.size
  · have hr := fun W => HNO.out (by unfold noClause; rw [HNC.out, HLEN.out, hl]; simp) W
    have HR := Lib.hid hr
    have e1 : ((n : Int) == (s.size : Int)) = true := by rw [hl]; simp
    have e1' : (n == s.size) = true := by rw [hl]; simp
    clear hr hl
    go_wp2_with fail
    go_ret2
    exact ⟨HR.out _, hb1.alloc hsz1 _⟩
  have e1 : ((n : Int) == (s.size : Int)) = false := beq_eq_false_iff_ne.2 (by omega)
  have e1' : (n == s.size) = false := beq_eq_false_iff_ne.2 hl
  have hlt : n < s.size := by omega
  have hx := (s[n]).toNat_lt
  have hxw : IntKind.i32.wrap ((s[n]).toNat : Int) = ((s[n]).toNat : Int) := by
    rw [show IntKind.i32.wrap ((s[n]).toNat : Int) = (((s[n]).toNat : Int) + 2147483648) % 4294967296 - 2147483648 from by simp [IntKind.wrap, IntKind.bits, IntKind.signed]; omega]
    omega
  go_wp2_with fail
  (with_reducible refine (contains_sign _ s[n]).mono ?_)
  rintro e w2 ⟨rfl, nb⟩
  have hgd := bl_get s n hlt
  cases hsg : signB s[n]
  · have hr := fun W => HNO.out (by unfold noClause; rw [HNC.out, hgd, hsg]; simp) W
    have HR := Lib.hid hr
    clear hr hgd
    dsimp only
    go_wp2_with fail
    go_ret2
    exact ⟨HR.out _, (hb1.alloc hsz1 _).trans (nb.mono (by simp; omega))⟩
  · have hb2 : Below w.heap.size w w2 := (hb1.alloc hsz1 _).trans (nb.mono (by simp; omega))
    have hblk : Blk w2 w1.heap.size 49 #[.bool (c 0), .bool (c 1), .bool (c 2)] := (Blk.new_ w1 49 _ rfl).below nb (by simp)
    have hsz2 := hb2.size
    clear nb hb1
    dsimp only
    go_wp2_with fail
    have c0 := hblk.cell 0
    have c1 := hblk.cell 1
    have c2 := hblk.cell 2
    simp at c0 c1 c2
    have key : ∀ W, Below w2.heap.size w2 W → W.cell? ⟨w1.heap.size, 0, none⟩ = some (.bool (c 0)) ∧ W.cell? ⟨w1.heap.size, 1, none⟩ = some (.bool (c 1)) ∧ W.cell? ⟨w1.heap.size, 2, none⟩ = some (.bool (c 2)) := fun W hW =>
      ⟨(hW.cell (p := ⟨w1.heap.size, 0, none⟩) hblk.lt).trans c0, (hW.cell (p := ⟨w1.heap.size, 1, none⟩) hblk.lt).trans c1, (hW.cell (p := ⟨w1.heap.size, 2, none⟩) hblk.lt).trans c2⟩
    have KEY := Lib.hid key
    clear key
    have hshb : Sh w2.drew := hsh.below hb2.drew hsh.1
    have hrs : (s.extract (n + 1) s.size).size ≤ 1000000 := by simp; omega
    have HBO := Lib.hid (fun W h => bitsOf_any W (s.extract (n + 1) s.size) c hrs h)
    unfold clsV at HBO
    have y1 : IntKind.i64.wrap ((n : Int) + 1) = (n : Int) + 1 := IntWalk.i64_in _ (by omega)
    have y2 : (0 : Int) ≤ (n : Int) + 1 := by omega
    have y3 : ((n : Int) + 1).toNat = n + 1 := by omega
    have y4 : (n : Int) + 1 ≤ (s.size : Int) := by omega
    refine wp_region_mixE (fun W => W.cell? ⟨w1.heap.size, 0, none⟩ = some (.bool (c 0)) ∧ W.cell? ⟨w1.heap.size, 1, none⟩ = some (.bool (c 1)) ∧ W.cell? ⟨w1.heap.size, 2, none⟩ = some (.bool (c 2)))
      [0, 1, 2, 3, 4, 5, 6, 7, 8, 9, 10] [5, 9, 10] [0, 1, 2, 3, 4] 5 9 [6, 7, 8, 9, 10, 11] [5, 6, 7, 8, 10, 11] (by kernel_rfl) (by kernel_rfl) ⟨c0, c1, c2⟩ ?_
    simp only [inOrder, opAt]
    iterate 5
      (refine wpMixE_read (v := ?_) rfl rfl (fun w' hS => ?_) ?_
       rotate_left
       · ((try replace hS := hS rfl); (try dsimp only at hS); go_simp; (try with_reducible rfl))
       try simp only [Act.put, List.setIfInBounds_toArray, List.set_cons_zero, List.set_cons_succ])
    refine wpMixE_nil ⟨?_, ?_⟩
    focus
      refine wpMixS_eff rfl rfl (fun K hK => ?_)
      go_simp
      refine (HBO.out w2.drew hshb).mono ?_
      rintro e w3 ⟨⟨k, hk, rfl, hall, hstop⟩, nb⟩
      dsimp only
      have hb3 : Below w2.heap.size w2 w3 := (Below.refl _ _).drew.trans nb
      refine hK.out _ _ _ (fun _ h => h) (fun _ => KEY.out _ hb3) ?_
      clear hK K
      try simp only [Act.put, List.setIfInBounds_toArray, List.set_cons_zero, List.set_cons_succ]
      iterate 3
        (refine wpMixS_read (v := ?_) rfl rfl (fun w' hS => ?_) ?_
         rotate_left
         · ((try replace hS := hS rfl); (try dsimp only at hS); go_simp; (try with_reducible rfl))
         try simp only [Act.put, List.setIfInBounds_toArray, List.set_cons_zero, List.set_cons_succ])
      refine wpMixS_eff rfl rfl (fun K hK => ?_)
      go_simp
      refine hK.out _ _ _ (fun _ h => h) (fun _ => KEY.out _ (hb3.alloc hb3.size _)) ?_
      clear hK K
      try simp only [Act.put, List.setIfInBounds_toArray, List.set_cons_zero, List.set_cons_succ]
      refine wpMixS_eff rfl rfl (fun K hK => ?_)
      go_simp
      refine hK.out _ _ _ (fun _ h => h) (fun _ => KEY.out _ (hb3.alloc hb3.size _)) ?_
      clear hK K
      try simp only [Act.put, List.setIfInBounds_toArray, List.set_cons_zero, List.set_cons_succ]
      iterate 1
        (refine wpMixS_read (v := ?_) rfl rfl (fun w' hS => ?_) ?_
         rotate_left
         · ((try replace hS := hS rfl); (try dsimp only at hS); go_simp; (try with_reducible rfl))
         try simp only [Act.put, List.setIfInBounds_toArray, List.set_cons_zero, List.set_cons_succ])
      refine wpMixS_nil ?_
      generalize hBt : bitsAcc (List.take k (bl (s.extract (n + 1) s.size))) c = Bt at *
      have hB5 : Blk (w3.alloc (.cells #[.int .i64 Bt] 3)) w3.heap.size 3 #[.int .i64 Bt] := Blk.new_ _ _ _ rfl
      have hC5 : Blk (w3.alloc (.cells #[.int .i64 Bt] 3)) w1.heap.size 49 #[.bool (c 0), .bool (c 1), .bool (c 2)] := (hblk.below hb3 hblk.lt).alloc _
      have hb5 : Below w.heap.size w (w3.alloc (.cells #[.int .i64 Bt] 3)) := hb2.trans ((hb3.alloc hb3.size _).mono hsz2)
      have hg5 : w.heap.size ≤ w3.heap.size := by have := hb3.size; omega
      have HBT := Lib.hid hBt
      have HALL := Lib.hid hall
      have HSTOP := Lib.hid hstop
      clear hBt hall hstop
      generalize w3.alloc (.cells #[.int .i64 Bt] 3) = w5 at *
      generalize w3.heap.size = g at *
      clear nb hb3
    rotate_left
    focus
      refine wpMixS_eff rfl rfl (fun K hK => ?_)
      go_simp
      refine hK.out _ _ _ (fun _ h => h) (fun _ => KEY.out _ ((Below.refl _ _).drew.alloc (Nat.le_refl _) _)) ?_
      clear hK K
      try simp only [Act.put, List.setIfInBounds_toArray, List.set_cons_zero, List.set_cons_succ]
      refine wpMixS_eff rfl rfl (fun K hK => ?_)
      go_simp
      refine (HBO.out (w2.drew.alloc (.cells #[.int .i64 0] 3)) (hsh.below (hb2.drew.alloc hsz2 _) hsh.1)).mono ?_
      rintro e w3 ⟨⟨k, hk, rfl, hall, hstop⟩, nb⟩
      dsimp only
      have hb3 : Below w2.heap.size w2 w3 := ((Below.refl _ _).drew.alloc (Nat.le_refl _) _).trans (nb.mono (by simp))
      have hB3 : Blk w3 w2.heap.size 3 #[.int .i64 0] := (Blk.new_ w2.drew 3 #[.int .i64 0] rfl).below nb (by simp)
      have k0 := hB3.cell 0
      have kf := hB3.frozen 0
      simp at k0
      refine hK.out _ _ _ (fun _ h => h) (fun _ => KEY.out _ hb3) ?_
      clear hK K
      try simp only [Act.put, List.setIfInBounds_toArray, List.set_cons_zero, List.set_cons_succ]
      iterate 3
        (refine wpMixS_read (v := ?_) rfl rfl (fun w' hS => ?_) ?_
         rotate_left
         · ((try replace hS := hS rfl); (try dsimp only at hS); go_simp; (try with_reducible rfl))
         try simp only [Act.put, List.setIfInBounds_toArray, List.set_cons_zero, List.set_cons_succ])
      refine wpMixS_eff rfl rfl (fun K hK => ?_)
      go_simp
      refine hK.out _ _ _ (fun _ h => h) (fun _ => KEY.out _ (hb3.setCell (Nat.le_refl _) _)) ?_
      clear hK K
      try simp only [Act.put, List.setIfInBounds_toArray, List.set_cons_zero, List.set_cons_succ]
      iterate 1
        (refine wpMixS_read (v := ?_) rfl rfl (fun w' hS => ?_) ?_
         rotate_left
         · ((try replace hS := hS rfl); (try dsimp only at hS); go_simp; (try with_reducible rfl))
         try simp only [Act.put, List.setIfInBounds_toArray, List.set_cons_zero, List.set_cons_succ])
      refine wpMixS_nil ?_
      generalize hBt : bitsAcc (List.take k (bl (s.extract (n + 1) s.size))) c = Bt at *
      have hB5 : Blk (w3.setCell ⟨w2.heap.size, 0, none⟩ (.int .i64 Bt)) w2.heap.size 3 #[.int .i64 Bt] := by simpa using hB3.set_ 0 (.int .i64 Bt)
      have hC5 : Blk (w3.setCell ⟨w2.heap.size, 0, none⟩ (.int .i64 Bt)) w1.heap.size 49 #[.bool (c 0), .bool (c 1), .bool (c 2)] := (hblk.below hb3 hblk.lt).far (by have := hblk.lt; simp; omega) _
      have hb5 : Below w.heap.size w (w3.setCell ⟨w2.heap.size, 0, none⟩ (.int .i64 Bt)) := hb2.trans ((hb3.setCell (Nat.le_refl _) _).mono hsz2)
      have hg5 : w.heap.size ≤ w2.heap.size := hsz2
      have HBT := Lib.hid hBt
      have HALL := Lib.hid hall
      have HSTOP := Lib.hid hstop
      clear hBt hall hstop
      generalize w3.setCell ⟨w2.heap.size, 0, none⟩ (.int .i64 Bt) = w5 at *
      clear hB3 k0 kf nb hb3
      generalize w2.heap.size = g at *
    rotate_left
    all_goals
      clear c0 c1 c2 HBO KEY hblk y1 y2 y3 y4
      have hbe : bl (s.extract (n + 1) s.size) = (bl s).drop (n + 1) := Lib.extract_to_end s (n + 1)
      have hnb := lead_eq isBit _ k hk HALL.out HSTOP.out
      rw [hbe] at hnb hk
      have hk2 : n + 1 + k ≤ s.size := by rw [List.length_drop, HLEN.out] at hk; omega
      have hcc : clCls (bl s) = c := by unfold clCls; rw [HNC.out]; exact HC.out
      have hcb : clBits (bl s) = Bt := by
        have := HBT.out
        rw [hbe] at this
        unfold clBits
        rw [HNC.out, hnb, hcc]; exact this
      have hcl : clLen (bl s) = n + 1 + k := by unfold clLen; rw [HNC.out, hnb]
      have hret : ∀ W, Blk W g 3 #[.int .i64 Bt] → Blk W w1.heap.size 49 #[.bool (c 0), .bool (c 1), .bool (c 2)] → ClauseRet W w.heap.size (bl s) (.returned (.tuple #[signFn s[n] g w1.heap.size, .int .i64 ((n + 1 + k : Nat) : Int)])) := fun W hB hC => by
        unfold ClauseRet
        have hnc : ¬ noClause (bl s) = true := by
          unfold noClause
          rw [HNC.out, HLEN.out, hgd, hsg]
          simp
          omega
        rw [if_neg hnc, hcb, hcc, hcl, HNC.out, hgd]
        exact ⟨g, _, hg5, hsz1, hB, hC, rfl⟩
      have HRET := Lib.hid (hret w5 hB5 hC5)
      clear hbe hnb hk hcc hcb hcl hret hB5 hC5 hgd hsg hsz2
      rcases Decidable.em (s[n] = 43) with h | h43
      focus
        have e : ((s[n]).toNat : Int) = 43 := by rw [h]; rfl
        have hf : signFn s[n] g w1.heap.size = .func (.func 43) #[] #[.pointer (some ⟨g, 0, none⟩)] := by unfold signFn; rw [if_pos h]
        rw [hf] at HRET
        clear h hf hx
        go_wp2_with fail
        go_ret2
        exact ⟨HRET.out, hb5⟩
      rcases Decidable.em (s[n] = 45) with h | h45
      focus
        have e : ((s[n]).toNat : Int) = 45 := by rw [h]; rfl
        have hf : signFn s[n] g w1.heap.size = .func (.func 44) #[] #[.pointer (some ⟨g, 0, none⟩)] := by unfold signFn; rw [if_neg h43, if_pos h]
        rw [hf] at HRET
        clear h hf hx h43
        go_wp2_with fail
        go_ret2
        exact ⟨HRET.out, hb5⟩
      have hf : signFn s[n] g w1.heap.size = .func (.func 45) #[] #[.pointer (some ⟨w1.heap.size, 0, none⟩), .pointer (some ⟨g, 0, none⟩)] := by unfold signFn; rw [if_neg h43, if_neg h45]
      rw [hf] at HRET
      have e43 : (((s[n]).toNat : Int) == 43) = false := u8_ne (c := 43) (by omega) h43
      have e45 : (((s[n]).toNat : Int) == 45) = false := u8_ne (c := 45) (by omega) h45
      clear hf h43 h45
      go_wp2_with fail
      go_ret2
      exact ⟨HRET.out, hb5⟩
end Go.Proofs.YtemcabepbncicaaDoor
