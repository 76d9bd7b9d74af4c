/-
  Texts of one claim, joined in build order: Box.
-/
import Derived.Test.YtaofldlidifdcaaMg7
import Derived.Test.YtaofldlidifdcaaProg
import Derived.WalkKit
import Derived.WalkSpells
import Derived.Lib.Hide
import Derived.Lib.BufferMore
/-
  Boxes of two cells: what is in them after a store, what else is kept.
-/
namespace Go.Proofs.Ytaofldlidifdcaa.Box
open Go.RowKit

theorem bx_new (W : World) (vs : Array Value) (T : TypeId) : (W.alloc (.cells vs T)).heap[W.heap.size]? = some (.cells vs T (0, 0)) := heap_alloc_new _ _
theorem bx_two {w : World} {b : Nat} {x y : Value} {t : TypeId} (h : w.heap[b]? = some (.cells #[x, y] t (0, 0))) : w.cell? ⟨b, 0, none⟩ = some x ∧ w.cell? ⟨b, 1, none⟩ = some y := by simp [World.cell?, h]
theorem bx_three {w : World} {b : Nat} {x y z : Value} {t : TypeId} (h : w.heap[b]? = some (.cells #[x, y, z] t (0, 0))) : w.cell? ⟨b, 0, none⟩ = some x ∧ w.cell? ⟨b, 1, none⟩ = some y ∧ w.cell? ⟨b, 2, none⟩ = some z := by simp [World.cell?, h]
theorem bx_free {w : World} {b : Nat} {vs : Array Value} {t : TypeId} (h : w.heap[b]? = some (.cells vs t (0, 0))) (k : Nat) : w.frozen? ⟨b, k, none⟩ = false := by simp [World.frozen?, h]
theorem bx_free_set {w : World} {b : Nat} {vs : Array Value} {t : TypeId} (h : w.heap[b]? = some (.cells vs t (0, 0))) (j : Nat) (v : Value) (k : Nat) : (w.setCell ⟨b, j, none⟩ v).frozen? ⟨b, k, none⟩ = false := by
  have h1 := Lib.heap_setCell_same (i := j) h v
  exact bx_free h1 k
theorem bx_cell_set {w : World} {b : Nat} {x y : Value} {t : TypeId} (h : w.heap[b]? = some (.cells #[x, y] t (0, 0))) (v : Value) : (w.setCell ⟨b, 0, none⟩ v).cell? ⟨b, 1, none⟩ = some y := by
  have h1 := Lib.heap_setCell_same (i := 0) h v
  simp [World.cell?, h1]
theorem bx_set2 {w : World} {b : Nat} {x y : Value} {t : TypeId} (h : w.heap[b]? = some (.cells #[x, y] t (0, 0))) (u v : Value) :
    ((w.setCell ⟨b, 0, none⟩ u).setCell ⟨b, 1, none⟩ v).heap[b]? = some (.cells #[u, v] t (0, 0)) := by
  have h1 := Lib.heap_setCell_same (i := 0) h u
  have h2 := Lib.heap_setCell_same (i := 1) h1 v
  rw [h2]
  simp
theorem bx_set3 {w : World} {b : Nat} {x y z : Value} {t : TypeId} (h : w.heap[b]? = some (.cells #[x, y, z] t (0, 0))) (u v r : Value) :
    (((w.setCell ⟨b, 0, none⟩ u).setCell ⟨b, 1, none⟩ v).setCell ⟨b, 2, none⟩ r).heap[b]? = some (.cells #[u, v, r] t (0, 0)) := by
  have h1 := Lib.heap_setCell_same (i := 0) h u
  have h2 := Lib.heap_setCell_same (i := 1) h1 v
  have h3 := Lib.heap_setCell_same (i := 2) h2 r
  rw [h3]
  simp
theorem bx_below {B : Nat} {w w' : World} (h : Below B w w') (p : Nat) (hp : B ≤ p) (k : Nat) (v : Value) : Below B w (w'.setCell ⟨p, k, none⟩ v) :=
  ⟨h.os, h.tape, h.output, by simpa [World.setCell] using h.size, fun j hj => (Below.heap_setCell _ _ _ _ (by simp; omega)).trans (h.block j hj)⟩
theorem bx_old {B : Nat} {w w' : World} {b : Nat} {o : Obj} (h : w.heap[b]? = some o) (hb : Below B w w') (hB : b < B) : w'.heap[b]? = some o := (hb.block b hB).trans h
theorem bx_lt {w : World} {b : Nat} {o : Obj} (h : w.heap[b]? = some o) : b < w.heap.size := (Array.getElem?_eq_some_iff.1 h).1
theorem bx_other (w : World) (b k j : Nat) (hk : j ≠ b) (x : Value) : (w.setCell ⟨b, k, none⟩ x).heap[j]? = w.heap[j]? := Below.heap_setCell _ _ _ _ hk
end Go.Proofs.Ytaofldlidifdcaa.Box
