/-
  A space with a source that counts, made by a law; plain laws of spaces whose pages are all known.
-/
import Derived.Test.YtbppafbdmdbdiaaMSg
import Derived.Test.YtbppafbdmdbdiaaMSh
import Derived.LaidEqlPtr
namespace Go.Proofs.Ytbppafbdmdbdiaa
open Go.RowKit
set_option linter.unusedVariables false

def newS (f : Nat → Option (List UInt8)) : AS := ⟨some f, fun _ => false, fun _ => false, fun _ => false, fun _ => none⟩
def one (g : Nat) (s : Sp) : Nat → Option Sp := upd (fun _ => none) g (some s)
def none_ : Pages := fun _ => none
theorem setup {w2 w5 : World} {pm B : Nat} {M : List (Int × Value)} (hB : B ≤ pm) (hM : MI w2 pm M) (hS : Strs M)
    (h1 : Blk w5 (w2.heap.size + 2) 80 #[getV (w2.heap.size + 1)]) (h2 : Blk w5 (w2.heap.size + 3) 86 (spCells ⟨fetchV (w2.heap.size + 2), fun _ => false, fun _ => false, fun _ => false, fun _ => none⟩))
    (h3 : Below (w2.heap.size + 2) ((w2.alloc (.map #[] 0)).alloc (.cells #[.map (some pm), .map (some w2.heap.size)] 37)) w5) :
    SourceOk (askedSrc (w2.heap.size + 2) (w2.heap.size + 1) pm w2.heap.size (w2.heap.size + 3) M) B ∧
    All (askedSrc (w2.heap.size + 2) (w2.heap.size + 1) pm w2.heap.size (w2.heap.size + 3) M) B w5 (one (w2.heap.size + 3) ⟨fetchV (w2.heap.size + 2), fun _ => false, fun _ => false, fun _ => false, fun _ => none⟩) none_ ∧
    Below w2.heap.size w2 w5 := by
  have hpm := hM.lt
  have hb0 : Below w2.heap.size w2 ((w2.alloc (.map #[] 0)).alloc (.cells #[.map (some pm), .map (some w2.heap.size)] 37)) := ((Below.refl _ _).alloc (Nat.le_refl _) _).alloc (by simp) _
  have hb := hb0.trans (h3.mono (by omega))
  have hc0 : MI ((w2.alloc (.map #[] 0)).alloc (.cells #[.map (some pm), .map (some w2.heap.size)] 37)) w2.heap.size [] := (MapIs.new w2).alloc _
  have ha0 : Blk ((w2.alloc (.map #[] 0)).alloc (.cells #[.map (some pm), .map (some w2.heap.size)] 37)) (w2.heap.size + 1) 37 #[.map (some pm), .map (some w2.heap.size)] := Blk.new_ _ _ _ (by simp)
  refine ⟨asked_ok _ _ _ _ _ M B (by omega) (by omega) hS, ⟨⟨fun k x hx => ?_, fun k b sh hx => (by cases hx), fun k x hx p q hq => ?_, fun k x k' x' p q r b _ _ _ _ hh => (by cases hh)⟩, fun x hx => ?_, fun k x hx hne => ?_, fun k x hx p hp => ?_⟩, hb⟩
  · rcases upd_some _ _ _ _ _ hx with ⟨rfl, rfl⟩ | ⟨_, hx⟩
    · exact ⟨h2, by omega⟩
    · cases hx
  · rcases upd_some _ _ _ _ _ hx with ⟨rfl, rfl⟩ | ⟨_, hx⟩
    · cases hq
    · cases hx
  · rcases upd_some _ _ _ _ _ hx with ⟨_, rfl⟩ | ⟨_, hx⟩
    · refine .inr ⟨rfl, h1, ha0.below h3 (by omega), hM.keep (hb.block pm hpm), [], hc0.keep (h3.block _ (by omega)), fun p _ => by rw [mget_nil]; rfl⟩
    · cases hx
  · rcases upd_some _ _ _ _ _ hx with ⟨rfl, rfl⟩ | ⟨_, hx⟩
    · exact absurd rfl hne
    · cases hx
  · rcases upd_some _ _ _ _ _ hx with ⟨_, rfl⟩ | ⟨_, hx⟩
    · exact ⟨rfl, rfl⟩
    · cases hx
theorem view_new_src (box a pm cm root : Nat) (M : List (Int × Value)) : view (askedSrc box a pm cm root M) none_ ⟨fetchV box, fun _ => false, fun _ => false, fun _ => false, fun _ => none⟩ = newS (srcM M) := by
  unfold view newS srcOf fetchV
  rfl

/-! ### All pages known -/
def Knows (a : AS) : Prop := ∀ p, p < 64 → a.known p = true
theorem needA_id (a : AS) (p : Nat) (h : a.known p = true) : needA a p = a := by unfold needA; rw [if_pos h]
theorem reachA_id (a : AS) (h : Knows a) : ∀ (c p : Nat), c + p ≤ 64 → (reachA c p a).1 = a
  | 0, p, _ => rfl
  | c + 1, p, hp => by
    unfold reachA
    rw [needA_id a p (h p (by omega))]
    split
    · exact reachA_id a h c (p + 1) (by omega)
    · rfl
theorem accessA_id (a : AS) (h : Knows a) (x n : Int) (hn : 0 ≤ n) : (accessA a x n).1 = a := by
  unfold accessA
  split
  · rfl
  · split
    · rfl
    · exact reachA_id a h _ _ (by omega)
theorem storeA_err (a : AS) (h : Knows a) (x : Int) (l : List UInt8) (he : (storeA a x l).2 ≠ 0) : (storeA a x l).1 = a := by
  unfold storeA at *
  rw [if_neg he]
  exact accessA_id a h x _ (by omega)
theorem mapA_err (a : AS) (h : Knows a) (p : Int) (l : List UInt8) (he : (mapA a p l).2 ≠ 0) : (mapA a p l).1 = a := by
  unfold mapA at *
  by_cases h1 : p < 0 ∨ 64 ≤ p
  · rw [if_pos h1]
  · rw [if_neg h1] at he ⊢
    have hk := needA_id a p.toNat (h _ (by omega))
    rw [hk] at he ⊢
    by_cases h2 : 64 < l.length
    · rw [if_pos h2]
    · rw [if_neg h2] at he ⊢
      by_cases h3 : (a.page p.toNat).isSome = true
      · rw [if_pos h3]
      · rw [if_neg h3] at he
        exact absurd rfl he
theorem unmapA_err (a : AS) (h : Knows a) (p : Int) (he : (unmapA a p).2 ≠ 0) : (unmapA a p).1 = a := by
  unfold unmapA at *
  by_cases h1 : p < 0 ∨ 64 ≤ p
  · rw [if_pos h1]
  · rw [if_neg h1] at he ⊢
    have hk := needA_id a p.toNat (h _ (by omega))
    rw [hk] at he ⊢
    by_cases h3 : (a.page p.toNat).isSome = true
    · rw [if_pos h3] at he
      exact absurd rfl he
    · rw [if_neg h3]
theorem needUp_id (a : AS) (h : Knows a) : ∀ k, k ≤ 64 → needUp k a = a
  | 0, _ => rfl
  | k + 1, hk => by
    show needA (needUp k a) k = a
    rw [needUp_id a h k (by omega), needA_id a k (h k (by omega))]
theorem needA_known_mono (a : AS) (p q : Nat) (h : a.known q = true) : (needA a p).known q = true := by
  unfold needA
  split
  · exact h
  · have : upd a.known p true q = true := by
      by_cases e : q = p
      · rw [e, upd_at]
      · rw [upd_ne _ _ _ _ e]; exact h
    split <;> exact this
theorem needUp_known (a : AS) : ∀ k p, p < k → (needUp k a).known p = true
  | k + 1, p, hp => by
    show (needA (needUp k a) k).known p = true
    by_cases e : p = k
    · rw [e]; exact needA_known _ _
    · exact needA_known_mono _ _ _ (needUp_known a k p (by omega))
theorem needUp_knows (a : AS) : Knows (needUp 64 a) := fun p hp => needUp_known a 64 p hp
theorem child_knows (a : AS) : Knows (childA a 64) := fun p hp => by simp [childA, hp]
theorem needA_changed (a : AS) (p : Nat) : (needA a p).changed = a.changed := by
  unfold needA
  split
  · rfl
  · split <;> rfl
theorem needUp_changed (a : AS) : ∀ k, (needUp k a).changed = a.changed
  | 0 => rfl
  | k + 1 => by
    show (needA (needUp k a) k).changed = _
    rw [needA_changed, needUp_changed a k]
theorem eqA_child (a : AS) : eqA a (childA a 64) = true := by
  unfold eqA eqUp
  rw [List.all_eq_true]
  intro p hp
  have := List.mem_range.1 hp
  simp [childA, this]
theorem chL_nil (a : AS) (h : ∀ p, p < 64 → a.changed p = false) : chL a 64 = [] := by
  unfold chL
  rw [List.filter_eq_nil_iff.2 (fun p hp => by rw [h p (List.mem_range.1 hp)]; simp)]
  rfl
end Go.Proofs.Ytbppafbdmdbdiaa

/-
  Walks: Shared.
-/
namespace Go.Proofs.Ytbppafbdmdbdiaa
open Go.RowKit
set_option linter.unusedVariables false

theorem info91 : (Try.prog.info? 91).map (·.size) = some 65 := by kernel_rfl
theorem ptr_same (W : World) (q r : Nat) {ca cb : Array Value} (ha : Blk W q 91 ca) (hb : Blk W r 91 cb) : (binOp BinOp.eql 83 (.pointer (some ⟨q, 0, none⟩)) (.pointer (some ⟨r, 0, none⟩))).run Try.prog W = .ok (.bool (decide (q = r))) W := by
  cases hi : Try.prog.info? 91 with
  | none => have := info91; rw [hi] at this; cases this
  | some j =>
    have hs : j.size = 65 := by have := info91; rw [hi] at this; simpa using this
    by_cases h : q = r
    · subst h
      rw [run_eql_ptr_same W _ Try.underlying83 hi, decide_eq_true rfl]
    · rw [run_eql_ptr_other (a := ⟨q, 0, none⟩) (b := ⟨r, 0, none⟩) W Try.underlying83 hi (by omega) (fun e => h (by injection e)) ha hb, decide_eq_false h]
/-- The pages below k that two spaces share. -/
def shP (s c : Sp) (p : Nat) : Bool := (s.pg p).isSome && decide (s.pg p = c.pg p)
def shN (s c : Sp) (k : Nat) : Nat := ((List.range k).filter (shP s c)).length
theorem shN_succ (s c : Sp) (k : Nat) : shN s c (k + 1) = shN s c k + if shP s c k = true then 1 else 0 := by
  unfold shN
  rw [List.range_succ, List.filter_append, List.length_append]
  congr 1
  by_cases h : shP s c k = true
  · rw [if_pos h]; simp [h]
  · rw [if_neg h]; simp only [Bool.not_eq_true] at h; simp [h]
theorem shN_le (s c : Sp) (k : Nat) : shN s c k ≤ k := by
  unfold shN
  exact Nat.le_trans (List.length_filter_le _ _) (by simp)

section
variable {C : Source} {B : Nat} {w w' : World} {sps : Nat → Option Sp} {hm : Pages} {g f : Nat} {s c : Sp}
set_option maxRecDepth 100000 in
set_option maxHeartbeats 8000000 in
theorem shared_all (h : All C B w sps hm) (hg : sps g = some s) (hf : sps f = some c) :
    Calls Try.prog 19 #[.pointer (some ⟨g, 0, none⟩), .pointer (some ⟨f, 0, none⟩)] w fun e w' => e = .returned (.int .i64 (shN s c 64)) ∧ w = w' := by
  have hq := ptr23_some
  have H0 := Lib.hid h
  have HG := Lib.hid hg
  have HF := Lib.hid hf
  have hrow := Lib.hid (row_range w g s (h.blk g s hg).1)
  clear h hg hf
  go_enter Try.func19, Try.ntmps19
  go_wp2_with (with_reducible refine wpList_load_mid rfl 84 (.tmp 16) rfl g 193 rfl (row ptrV s.pg) _ hrow.out Try.underlying84 rfl (by rw [row_length]; exact info84) ?_)
  have hR : ∀ k, k < 64 → (row ptrV s.pg).toArray[k]? = some (ptrV (s.pg k)) := fun k hk => by rw [List.getElem?_toArray, row_get _ _ k hk]
  generalize (row ptrV s.pg).toArray = R at *
  have HR := Lib.hid hR
  clear hR hrow
  go_loopg [5, 18] 64 (fun q nv iv wr => ∃ k : Nat, iv = .int .i64 k ∧ q = 64 - k ∧ k ≤ 64 ∧ nv = .int .i64 (shN s c k) ∧ wr = w)
  case atStart => exact ⟨0, rfl, rfl, by omega, rfl, rfl⟩
  case round =>
    obtain ⟨k, rfl, rfl, hk, rfl, rfl⟩ := hrel
    by_cases hlt : k < 64
    · have i1 : (k : Int) < 64 := by omega
      have i0 : (0 : Int) ≤ (k : Int) := by omega
      have hsu := shN_succ s c k
      have hle := shN_le s c k
      have hix := fun W => idx_row 84 83 _ R k _ W Try.underlying84 Try.underlying83 rfl info83 hlt (HR.out k hlt)
      have hbf := (H0.out.blk f c HF.out).1
      have k2 : wr.cell? ⟨f, 193 + k, none⟩ = some (ptrV (c.pg k)) := by rw [hbf.cell, sp_pg c k hlt]
      have zf := hbf.lt
      obtain ⟨N, hN⟩ : ∃ N, N = shN s c k := ⟨_, rfl⟩
      rw [← hN] at hsu hle ⊢
      have hq2 := ptr_neq2
      have hq3 := nil_neq
      have hq4 := ptr_eql2
      clear hN hbf
      cases h1 : s.pg k with
      | none =>
        have hz : shP s c k = false := by unfold shP; rw [h1]; rfl
        rw [hz] at hsu
        rw [h1] at hix
        unfold ptrV at hix
        simp only [Option.map_none] at hix
        have HSU := Lib.hid hsu
        clear hsu h1 hz
        go_wp2_with fail
        go_roundg (64 - (k + 1))
        case measure => omega
        case rel => exact ⟨k + 1, by go_num, rfl, by omega, by rw [HSU.out]; rfl, rfl⟩
      | some r1 =>
        rw [h1] at hix
        obtain ⟨⟨b1, sh1⟩, hm1⟩ := H0.out.ref g s HG.out k r1 h1
        obtain ⟨_, hb1, _⟩ := H0.out.mem r1 b1 sh1 hm1
        cases h2 : c.pg k with
        | none =>
          have hz : shP s c k = false := by unfold shP; rw [h1, h2]; rfl
          rw [hz] at hsu
          rw [h2] at k2
          unfold ptrV at hix k2
          simp only [Option.map_none, Option.map_some] at hix k2
          have HSU := Lib.hid hsu
          clear hsu h1 h2 hz hm1 hb1
          go_wp2_with fail
          go_roundg (64 - (k + 1))
          case measure => omega
          case rel => exact ⟨k + 1, by go_num, rfl, by omega, by rw [HSU.out]; rfl, rfl⟩
        | some r2 =>
          obtain ⟨⟨b2, sh2⟩, hm2⟩ := H0.out.ref f c HF.out k r2 h2
          obtain ⟨_, hb2, _⟩ := H0.out.mem r2 b2 sh2 hm2
          have hps := ptr_same wr r1 r2 hb1 hb2
          have hz : shP s c k = decide (r1 = r2) := by unfold shP; rw [h1, h2]; simp
          rw [hz] at hsu
          rw [h2] at k2
          unfold ptrV at hix k2
          simp only [Option.map_some] at hix k2
          have HSU := Lib.hid hsu
          clear hsu h1 h2 hz hm1 hb1 hm2 hb2
          cases hd : decide (r1 = r2) with
          | false =>
            rw [hd] at hps HSU
            clear hd
            go_wp2_with fail
            go_roundg (64 - (k + 1))
            case measure => omega
            case rel => exact ⟨k + 1, by go_num, rfl, by omega, by rw [HSU.out]; rfl, rfl⟩
          | true =>
            rw [hd] at hps HSU
            clear hd
            go_wp2_with fail
            go_roundg (64 - (k + 1))
            case measure => omega
            case rel => exact ⟨k + 1, by go_num, rfl, by omega, by rw [HSU.out]; go_num, rfl⟩
    · obtain rfl : k = 64 := by omega
      have i1 : decide (((64 : Nat) : Int) < 64) = false := by decide
      go_wp2_with fail
      go_ret
      exact ⟨rfl, rfl⟩
end
end Go.Proofs.Ytbppafbdmdbdiaa

/-
  Plain laws for SpaceShares: which pages two spaces share.
-/
namespace Go.Proofs.Ytbppafbdmdbdiaa
open Go.RowKit
set_option linter.unusedVariables false

theorem mget_isSome {κ : Type} [DecidableEq κ] (x : κ) : ∀ m : List (κ × Value), (mget m x).isSome = true ↔ x ∈ m.map (·.1)
  | [] => by simp [mget_nil]
  | p :: m => by
    rw [mget_cons]
    by_cases h : x = p.1
    · rw [if_pos h]; simp [h]
    · rw [if_neg h, mget_isSome x m]; simp [h]
/-- As many pages as entries. -/
theorem count_map (m : List (Int × Value)) (h1 : ∀ p ∈ m, Pg p.1) (h2 : (m.map (·.1)).Nodup) : ((List.range 64).filter fun p : Nat => (mget m (p : Int)).isSome).length = m.length := by
  have hp : (((List.range 64).filter fun p : Nat => (mget m (p : Int)).isSome).map fun p : Nat => (p : Int)).Perm (m.map (·.1)) := by
    refine (List.perm_ext_iff_of_nodup ?_ h2).2 fun x => ?_
    · refine List.Pairwise.map _ (R := fun a b : Nat => a ≠ b) (fun a b h e => h (by exact Int.ofNat.inj e)) ?_
      exact List.Pairwise.sublist List.filter_sublist List.nodup_range
    · rw [List.mem_map]
      constructor
      · rintro ⟨p, hp, rfl⟩
        rw [List.mem_filter] at hp
        exact (mget_isSome _ m).1 hp.2
      · intro hx
        obtain ⟨q, hq, rfl⟩ := List.mem_map.1 hx
        obtain ⟨h3, h4⟩ := h1 q hq
        refine ⟨q.1.toNat, ?_, by omega⟩
        rw [List.mem_filter]
        have he : ((q.1.toNat : Nat) : Int) = q.1 := by omega
        exact ⟨List.mem_range.2 (by omega), by rw [he]; exact (mget_isSome _ m).2 hx⟩
  have := hp.length_eq
  simpa using this

/-- A space whose pages below k have been asked for. -/
def askUp (f : Nat → Option (List UInt8)) (k : Nat) : AS := ⟨some f, fun p => decide (p < k), fun p => decide (p < k), fun _ => false, fun p => if p < k then (f p).map padL else none⟩
theorem needUp_new (f : Nat → Option (List UInt8)) : ∀ k, needUp k (newS f) = askUp f k
  | 0 => rfl
  | k + 1 => by
    show needA (needUp k (newS f)) k = _
    rw [needUp_new f k]
    unfold needA
    rw [if_neg (by simp [askUp])]
    show AS.mk (some f) (upd (fun p => decide (p < k)) k true) (upd (fun p => decide (p < k)) k true) (fun _ => false) (upd (fun p => if p < k then (f p).map padL else none) k ((f k).map padL)) = _
    unfold askUp
    have hu : upd (fun p => decide (p < k)) k true = fun p => decide (p < k + 1) := by
      funext p
      by_cases e : p = k
      · rw [e, upd_at]; simp
      · rw [upd_ne _ _ _ _ e]; simp; omega
    rw [hu]
    congr 1
    funext p
    by_cases e : p = k
    · rw [e, upd_at, if_pos (by omega)]
    · rw [upd_ne _ _ _ _ e]
      by_cases h : p < k
      · rw [if_pos h, if_pos (by omega)]
      · rw [if_neg h, if_neg (by omega)]

/-- What two spaces share, those pages aside that have been touched. -/
structure ShI (tl : List (Int × Value)) (s c : Sp) (hm : Pages) : Prop where
  shr : ∀ p : Nat, p < 64 → mget tl (p : Int) = none → s.pg p = c.pg p ∧ ∀ q, s.pg p = some q → ∃ b, hm q = some (b, true)
  tch : ∀ p : Nat, p < 64 → mget tl (p : Int) ≠ none → s.pg p ≠ c.pg p
theorem ShI.symm {tl : List (Int × Value)} {s c : Sp} {hm : Pages} (h : ShI tl s c hm) : ShI tl c s hm :=
  ⟨fun p hp hn => ⟨(h.shr p hp hn).1.symm, fun q hq => (h.shr p hp hn).2 q ((h.shr p hp hn).1.trans hq)⟩, fun p hp hn e => h.tch p hp hn e.symm⟩
theorem ShI.step {tl : List (Int × Value)} {s c s' : Sp} {hm hm' : Pages} (h : ShI tl s c hm) {P : Nat} (hP : P < 64) (v : Value) (hs : StM s hm (P * 64) 1 s' hm') (href : ∀ p q, c.pg p = some q → ∃ d, hm q = some d) : ShI (mput (P : Int) v tl) s' c hm' := by
  have hPP : (P * 64 + 0) / 64 = P := by omega
  have hout : ∀ p, p ≠ P → s'.pg p = s.pg p := fun p hp => hs.out p fun i hi e => hp (by rw [← e, show i = 0 by omega]; omega)
  refine ⟨fun p hp hn => ?_, fun p hp hn e => ?_⟩
  · rw [mget_mput] at hn
    have hne : p ≠ P := fun e => by rw [if_pos (by omega)] at hn; cases hn
    rw [if_neg (by omega)] at hn
    obtain ⟨h1, h2⟩ := h.shr p hp hn
    rw [hout p hne]
    exact ⟨h1, fun q hq => let ⟨b, hb⟩ := h2 q hq; ⟨b, hs.shr q b hb⟩⟩
  · rw [mget_mput] at hn
    by_cases hne : p = P
    · subst hne
      obtain ⟨q, b, h1, h2⟩ := hs.own 0 (by omega)
      rw [hPP] at h1
      have hcq : c.pg p = some q := by rw [← e, h1]
      cases hmt : mget tl (p : Int) with
      | none =>
        obtain ⟨g1, g2⟩ := h.shr p hp hmt
        obtain ⟨b', hb'⟩ := g2 q (g1.trans hcq)
        have := hs.shr q b' hb'
        rw [h2] at this
        cases this
      | some v' =>
        rcases hs.new p with g | ⟨n, g1, g2⟩
        · exact h.tch p hp (by rw [hmt]; simp) (by rw [← g]; exact e)
        · obtain ⟨d, hd⟩ := href p q hcq
          rw [h1] at g1
          injection g1 with g1
          subst g1
          rw [g2] at hd
          cases hd
    · rw [if_neg (by omega)] at hn
      rw [hout p hne] at e
      exact h.tch p hp hn e
/-- The number of shared pages. -/
theorem ShI.count {tl M : List (Int × Value)} {s c : Sp} {hm : Pages} (h : ShI tl s c hm) (hM1 : ∀ p ∈ M, Pg p.1) (hM2 : (M.map (·.1)).Nodup) (ht1 : ∀ p ∈ tl, Pg p.1) (ht2 : (tl.map (·.1)).Nodup)
    (hp : ∀ p : Nat, p < 64 → (s.pg p).isSome = (mget M (p : Int)).isSome) (hsub : ∀ p : Nat, p < 64 → mget tl (p : Int) ≠ none → (mget M (p : Int)).isSome = true) : shN s c 64 + tl.length = M.length := by
  rw [← count_map M hM1 hM2, ← count_map tl ht1 ht2]
  unfold shN
  have key : ∀ l : List Nat, (∀ p ∈ l, p < 64) → (l.filter (shP s c)).length + (l.filter fun p : Nat => (mget tl (p : Int)).isSome).length = (l.filter fun p : Nat => (mget M (p : Int)).isSome).length := by
    intro l
    induction l with
    | nil => intro _; rfl
    | cons p l ih =>
      intro hl
      have hp64 := hl p List.mem_cons_self
      have ih := ih fun q hq => hl q (List.mem_cons_of_mem _ hq)
      cases ht : mget tl (p : Int) with
      | none =>
        obtain ⟨g1, _⟩ := h.shr p hp64 ht
        have e1 : shP s c p = (mget M (p : Int)).isSome := by unfold shP; rw [hp p hp64, decide_eq_true g1]; simp
        rw [List.filter_cons_of_neg (p := fun p : Nat => (mget tl (p : Int)).isSome) (by simp [ht])]
        cases hM : (mget M (p : Int)).isSome with
        | true => rw [List.filter_cons_of_pos (by rw [e1, hM]), List.filter_cons_of_pos (by exact hM), List.length_cons, List.length_cons]; omega
        | false => rw [List.filter_cons_of_neg (by rw [e1, hM]; simp), List.filter_cons_of_neg (by rw [hM]; simp)]; exact ih
      | some v =>
        have hne : mget tl (p : Int) ≠ none := by rw [ht]; simp
        have e1 : shP s c p = false := by unfold shP; rw [decide_eq_false (h.tch p hp64 hne)]; simp
        rw [List.filter_cons_of_neg (by rw [e1]; simp), List.filter_cons_of_pos (p := fun p : Nat => (mget tl (p : Int)).isSome) (by simp [ht]), List.filter_cons_of_pos (p := fun p : Nat => (mget M (p : Int)).isSome) (hsub p hp64 hne), List.length_cons, List.length_cons]
        omega
  exact key _ fun p hp => List.mem_range.1 hp

/-! ### One byte of a page that is known -/
theorem access_one (a : AS) (h : Knows a) (P : Nat) (hP : P < 64) : accessA a ((P : Int) * 64) 1 = (a, errOf (a.page P).isSome) := by
  unfold accessA
  rw [if_neg (by omega), if_neg (by omega), show ((((P : Int) * 64) + 1 - 1) / 64).toNat = P by omega, show (((P : Int) * 64) / 64).toNat = P by omega, show P + 1 - P = 1 by omega]
  show ((reachA 1 P a).1, errOf (reachA 1 P a).2) = _
  unfold reachA
  rw [needA_id a P (h P hP)]
  cases hp : (a.page P).isSome <;> rfl
theorem load_one (a : AS) (h : Knows a) (P : Nat) (hP : P < 64) : loadA a ((P : Int) * 64) 1 = match a.page P with | none => (a, [], 23) | some b => (a, [b.getD 0 0], 0) := by
  unfold loadA
  rw [if_neg (by omega), access_one a h P hP]
  cases hp : a.page P with
  | none => rfl
  | some b =>
    show (a, (if (0 : Nat) = 0 then bytesA a ((P : Int) * 64).toNat (1 : Int).toNat else []), 0) = _
    rw [if_pos rfl, show ((P : Int) * 64).toNat = P * 64 by omega]
    show (a, [byteA a (P * 64 + 0)], 0) = _
    unfold byteA
    rw [show (P * 64 + 0) / 64 = P by omega, show (P * 64 + 0) % 64 = 0 by omega, hp]
    rfl
theorem store_one (a : AS) (h : Knows a) (P : Nat) (hP : P < 64) (b : List UInt8) (hp : a.page P = some b) : ∃ a', storeA a ((P : Int) * 64) [b.getD 0 0] = (a', 0) ∧ a'.page = a.page ∧ Knows a' := by
  refine ⟨storeStep a (P * 64) (b.getD 0 0), ?_, ?_, h⟩
  · unfold storeA
    have hl : (([b.getD 0 0] : List UInt8).length : Int) = 1 := rfl
    rw [hl, access_one a h P hP, hp]
    show ((if (0 : Nat) = 0 then storeGo a ((P : Int) * 64).toNat [b.getD 0 0] 1 else a), 0) = _
    rw [if_pos rfl, show ((P : Int) * 64).toNat = P * 64 by omega]
    rfl
  · show upd a.page (P * 64 / 64) _ = _
    rw [show P * 64 / 64 = P by omega, show P * 64 % 64 = 0 by omega, hp]
    refine upd_same _ _ _ ?_
    rw [hp]
    cases b with
    | nil => rfl
    | cons x b => rfl
theorem Kn_of_view {C : Source} {hm : Pages} {s : Sp} (h : Knows (view C hm s)) : Kn s := h
end Go.Proofs.Ytbppafbdmdbdiaa
