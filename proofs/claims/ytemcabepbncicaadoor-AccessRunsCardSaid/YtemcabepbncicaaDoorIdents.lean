/-
  What stands in memory behind the first statements of the laws about identities: the identity of the package, that of the reference, the file.
-/
import Derived.Test.YtemcabepbncicaaDoorAccD
import Derived.Test.YtemcabepbncicaaDoorAccR
import Derived.Deep.Cut
namespace Go.Proofs.YtemcabepbncicaaDoor
open Go.RowKit

theorem two_boxes (w : World) (t1 t2 : TypeId) (cs1 cs2 : Array Value) :
    Blk ((w.alloc (.cells cs1 t1)).alloc (.cells cs2 t2)) w.heap.size t1 cs1 ∧ Blk ((w.alloc (.cells cs1 t1)).alloc (.cells cs2 t2)) (w.heap.size + 1) t2 cs2 ∧
    ((w.alloc (.cells cs1 t1)).alloc (.cells cs2 t2)).heap.size = w.heap.size + 1 + 1 ∧ Below w.heap.size w ((w.alloc (.cells cs1 t1)).alloc (.cells cs2 t2)) :=
  ⟨(Blk.new w t1 cs1).alloc _, Blk.new_ _ t2 cs2 (by simp), by simp, ((Below.refl _ _).alloc (Nat.le_refl _) _).alloc (by simp) _⟩

theorem RdI.set_ {w : World} {B : Nat} {v : Value} {l : List Int} {a : Addr} (h : RdI w B v l) {A : Option Addr} {n c : Nat} (hv : v = .slice A n c) (hne : ∀ ad, A = some ad → ad.block ≠ a.block) (u : Value) : RdI (w.setCell a u) B v l := by
  obtain ⟨A', c', rfl, h1, h2, h3, h4⟩ := h
  injection hv with e1 _ _
  subst e1
  refine ⟨A', c', rfl, h1, h2, h3, fun hn => ?_⟩
  obtain ⟨ad, e, hb, hc⟩ := h4 hn
  refine ⟨ad, e, hb, fun j x hx => ?_⟩
  rw [World.cell?_setCell_other _ _ _ _ (by intro e2; have := hne ad e; rw [e2, block_of_add] at this; exact this rfl)]
  exact hc j x hx

structure St (w W : World) (g : Nat) (u : Int) (v1 v2 : Value) (x y z : Int) (g8 : List Int) : Prop where
  k3 : Blk W w.heap.size 24 #[.int .i64 u, v2]
  k4 : Blk W (w.heap.size + 1) 26 #[.int .i64 x, .int .i64 y, .int .i64 z]
  k7 : Blk W g 27 #[.int .i64 u, v1]
  r1 : RdI W W.heap.size v1 g8
  r2 : RdI W W.heap.size v2 g8
  bl : Below w.heap.size w W

section
variable {w W W' : World} {g : Nat} {u : Int} {v0 v1 v2 : Value} {x y z : Int} {g8 : List Int}
theorem St.next (h : St w W g u v1 v2 x y z g8) (hb : Below W.heap.size W W') : St w W' g u v1 v2 x y z g8 :=
  ⟨h.k3.below hb h.k3.lt, h.k4.below hb h.k4.lt, h.k7.below hb h.k7.lt, (h.r1.below hb).more hb.size, (h.r2.below hb).more hb.size, h.bl.trans (hb.mono h.bl.size)⟩
theorem St.drew (h : St w W g u v1 v2 x y z g8) : St w W.drew g u v1 v2 x y z g8 := h.next (Below.refl _ _).drew
theorem St.cells (h : St w W g u v1 v2 x y z g8) : W.cell? ⟨w.heap.size, 0, none⟩ = some (.int .i64 u) ∧ W.cell? ⟨w.heap.size, 1, none⟩ = some v2 ∧
    W.cell? ⟨w.heap.size + 1, 0, none⟩ = some (.int .i64 x) ∧ W.cell? ⟨w.heap.size + 1, 1, none⟩ = some (.int .i64 y) ∧ W.cell? ⟨w.heap.size + 1, 2, none⟩ = some (.int .i64 z) ∧
    W.cell? ⟨g, 0, none⟩ = some (.int .i64 u) ∧ W.cell? ⟨g, 1, none⟩ = some v1 :=
  ⟨h.k3.cell 0, h.k3.cell 1, h.k4.cell 0, h.k4.cell 1, h.k4.cell 2, h.k7.cell 0, h.k7.cell 1⟩

/-- The stores of Who's results. -/
theorem St.made {w1 : World} {A1 A2 : Option Addr} {n1 n2 c1 c2 : Nat} {B : Nat} (hB : w.heap.size < B) (f1 : Far B (.slice A1 n1 c1)) (f2 : Far B (.slice A2 n2 c2)) (k3 : Blk w1 w.heap.size 24 #[.int .i64 u, v0]) (k4 : Blk w1 (w.heap.size + 1) 26 #[.int .i64 x, .int .i64 y, .int .i64 z]) (h1 : RdI w1 w1.heap.size (.slice A1 n1 c1) g8) (h2 : RdI w1 w1.heap.size (.slice A2 n2 c2) g8) (bl : Below w.heap.size w w1) :
    St w (((w1.setCell ⟨w.heap.size, 0, none⟩ (.int .i64 u)).setCell ⟨w.heap.size, 1, none⟩ (.slice A2 n2 c2)).alloc (.cells #[.int .i64 u, .slice A1 n1 c1] 27)) w1.heap.size u (.slice A1 n1 c1) (.slice A2 n2 c2) x y z g8 := by
  have hn : w.heap.size + 1 ≠ w.heap.size := by omega
  have z3 := k3.lt
  refine ⟨?_, ?_, Blk.new_ _ 27 _ (by simp), ?_, ?_, ((bl.setCell (by simp) _).setCell (by simp) _).alloc (by simp; omega) _⟩
  · exact ((k3.set_ 0 (.int .i64 u)).set_ 1 (.slice A2 n2 c2)).alloc _
  · exact ((k4.far (p := ⟨w.heap.size, 0, none⟩) hn _).far (p := ⟨w.heap.size, 1, none⟩) hn _).alloc _
  · exact (((h1.set_ rfl (fun ad h => by have := f1 _ _ _ ad rfl h; show ad.block ≠ w.heap.size; omega) _).set_ rfl (fun ad h => by have := f1 _ _ _ ad rfl h; show ad.block ≠ w.heap.size; omega) _).below ((Below.refl _ _).alloc (by simp) _)).more (by simp)
  · exact (((h2.set_ rfl (fun ad h => by have := f2 _ _ _ ad rfl h; show ad.block ≠ w.heap.size; omega) _).set_ rfl (fun ad h => by have := f2 _ _ _ ad rfl h; show ad.block ≠ w.heap.size; omega) _).below ((Below.refl _ _).alloc (by simp) _)).more (by simp)
end
end Go.Proofs.YtemcabepbncicaaDoor
