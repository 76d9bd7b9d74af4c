/-
  Package bits: And, Minus, Or by words.
-/
import Derived.WalkKit
import Derived.ProofKit
import Derived.Below
import Derived.Lib.BufferMore
import Derived.StillTailTactics
import Derived.Deep.DeepCutAuto
import Derived.Test.YtfejmcoaljelpaaChecked
import Derived.Lib.Hide
import Derived.Deep.LoopGhost
import Derived.Deep.QuietTactic
import Derived.BigQuiet
import Derived.KernelRfl
import Derived.Deep.RegionHeld3
namespace Go.Proofs.Ytfejmcoaljelpaa.Bits
open Go.RowKit

/-- Four words, as a value and as a block. -/
def rowc (a : Nat → Int) : Array Value := #[.int .u64 (a 0), .int .u64 (a 1), .int .u64 (a 2), .int .u64 (a 3)]
def bv (a : Nat → Int) : Value := .agg (rowc a)
def upto (f : Int → Int → Int) (k : Nat) (a b : Nat → Int) : Nat → Int := fun j => if j < k then f (a j) (b j) else a j
theorem upto_zero (f : Int → Int → Int) (a b : Nat → Int) : upto f 0 a b = a := by funext j; simp [upto]
theorem rowc_get (a : Nat → Int) (k : Nat) (hk : k < 4) : (rowc a)[k]? = some (.int .u64 (a k)) := by
  match k, hk with
  | 0, _ => rfl
  | 1, _ => rfl
  | 2, _ => rfl
  | 3, _ => rfl
theorem rowc_set (f : Int → Int → Int) (a b : Nat → Int) (k : Nat) (hk : k < 4) : (rowc (upto f k a b)).setIfInBounds k (.int .u64 (f (a k) (b k))) = rowc (upto f (k + 1) a b) := by
  match k, hk with
  | 0, _ => simp [rowc, upto]
  | 1, _ => simp [rowc, upto]
  | 2, _ => simp [rowc, upto]
  | 3, _ => simp [rowc, upto]
theorem rowc_upto (f : Int → Int → Int) (a b : Nat → Int) : rowc (upto f 4 a b) = rowc (fun j => f (a j) (b j)) := by simp [rowc, upto]
theorem cell_row {w : World} {p : Nat} {a : Nat → Int} {t : TypeId} (h : w.heap[p]? = some (.cells (rowc a) t (0, 0))) (k : Nat) (hk : k < 4) : w.cell? ⟨p, k, none⟩ = some (.int .u64 (a k)) := by
  simp [World.cell?, h, rowc_get a k hk]
theorem frozen_row {w : World} {p : Nat} {a : Nat → Int} {t : TypeId} (h : w.heap[p]? = some (.cells (rowc a) t (0, 0))) (k : Nat) : w.frozen? ⟨p, k, none⟩ = false := by
  simp [World.frozen?, h]

/-- Four stores, one after the other, of the row. -/
theorem set4 {w : World} {p : Nat} {c : Nat → Int} {t : TypeId} (h : w.heap[p]? = some (.cells (rowc c) t (0, 0))) (a : Nat → Int) :
    ((((w.setCell ⟨p, 0, none⟩ (.int .u64 (a 0))).setCell ⟨p, 1, none⟩ (.int .u64 (a 1))).setCell ⟨p, 2, none⟩ (.int .u64 (a 2))).setCell ⟨p, 3, none⟩ (.int .u64 (a 3))).heap[p]? = some (.cells (rowc a) t (0, 0)) := by
  have h1 := Lib.heap_setCell_same (i := 0) h (.int .u64 (a 0))
  have h2 := Lib.heap_setCell_same (i := 1) h1 (.int .u64 (a 1))
  have h3 := Lib.heap_setCell_same (i := 2) h2 (.int .u64 (a 2))
  have h4 := Lib.heap_setCell_same (i := 3) h3 (.int .u64 (a 3))
  rw [h4]
  simp [rowc]
theorem below_set {B : Nat} {w w' : World} (h : Below B w w') (p : Nat) (hp : B ≤ p) (k : Nat) (v : Value) : Below B w (w'.setCell ⟨p, k, none⟩ v) :=
  ⟨h.os, h.tape, h.output, by simpa [World.setCell] using h.size, fun j hj => (Below.heap_setCell _ _ _ _ (by simp; omega)).trans (h.block j hj)⟩
theorem heap_new (w : World) (o : Obj) (n : Nat) (h : n = w.heap.size) : (w.alloc o).heap[n]? = some o := by subst h; exact heap_alloc_new w o

end Go.Proofs.Ytfejmcoaljelpaa.Bits
