/-
  Package bits: And, Minus, Or by words.
-/
import Derived.WalkKit
import Derived.ProofKit
import Derived.Below
import Derived.Lib.BufferMore
import Derived.StillTailTactics
import Derived.Deep.DeepCutAuto
import Derived.Test.YtdmfdgadhobkpaaChecked
import Derived.Lib.Hide
import Derived.Deep.LoopGhost
import Derived.Deep.QuietTactic
import Derived.BigQuiet
import Derived.KernelRfl
import Derived.Deep.RegionHeld3
namespace Go.Proofs.Ytdmfdgadhobkpaa.Bits
open Go.RowKit

/-- Four words, as a value and as a block. -/
def rowc (a : Nat → Int) : Array Value := #[.int .u64 (a 0), .int .u64 (a 1), .int .u64 (a 2), .int .u64 (a 3)]
def bv (a : Nat → Int) : Value := .agg (rowc a)
def upto (f : Int → Int → Int) (k : Nat) (a b : Nat → Int) : Nat → Int := fun j => if j < k then f (a j) (b j) else a j
theorem upto_zero (f : Int → Int → Int) (a b : Nat → Int) : upto f 0 a b = a := by funext j; simp [upto]
theorem rowc_get (a : Nat → Int) (k : Nat) (hk : k < 4) : (rowc a)[k]? = some (.int .u64 (a k)) := by
  match k, hk with
  | 0, _ => rfl
  | 1, _ => rfl
  | 2, _ => rfl
  | 3, _ => rfl
theorem rowc_set (f : Int → Int → Int) (a b : Nat → Int) (k : Nat) (hk : k < 4) : (rowc (upto f k a b)).setIfInBounds k (.int .u64 (f (a k) (b k))) = rowc (upto f (k + 1) a b) := by
  match k, hk with
  | 0, _ => simp [rowc, upto]
  | 1, _ => simp [rowc, upto]
  | 2, _ => simp [rowc, upto]
  | 3, _ => simp [rowc, upto]
theorem rowc_upto (f : Int → Int → Int) (a b : Nat → Int) : rowc (upto f 4 a b) = rowc (fun j => f (a j) (b j)) := by simp [rowc, upto]
theorem cell_row {w : World} {p : Nat} {a : Nat → Int} {t : TypeId} (h : w.heap[p]? = some (.cells (rowc a) t (0, 0))) (k : Nat) (hk : k < 4) : w.cell? ⟨p, k, none⟩ = some (.int .u64 (a k)) := by
  simp [World.cell?, h, rowc_get a k hk]
theorem frozen_row {w : World} {p : Nat} {a : Nat → Int} {t : TypeId} (h : w.heap[p]? = some (.cells (rowc a) t (0, 0))) (k : Nat) : w.frozen? ⟨p, k, none⟩ = false := by
  simp [World.frozen?, h]

/-- Four stores, one after the other, of the row. -/
theorem set4 {w : World} {p : Nat} {c : Nat → Int} {t : TypeId} (h : w.heap[p]? = some (.cells (rowc c) t (0, 0))) (a : Nat → Int) :
    ((((w.setCell ⟨p, 0, none⟩ (.int .u64 (a 0))).setCell ⟨p, 1, none⟩ (.int .u64 (a 1))).setCell ⟨p, 2, none⟩ (.int .u64 (a 2))).setCell ⟨p, 3, none⟩ (.int .u64 (a 3))).heap[p]? = some (.cells (rowc a) t (0, 0)) := by
  have h1 := Lib.heap_setCell_same (i := 0) h (.int .u64 (a 0))
  have h2 := Lib.heap_setCell_same (i := 1) h1 (.int .u64 (a 1))
  have h3 := Lib.heap_setCell_same (i := 2) h2 (.int .u64 (a 2))
  have h4 := Lib.heap_setCell_same (i := 3) h3 (.int .u64 (a 3))
  rw [h4]
  simp [rowc]
theorem below_set {B : Nat} {w w' : World} (h : Below B w w') (p : Nat) (hp : B ≤ p) (k : Nat) (v : Value) : Below B w (w'.setCell ⟨p, k, none⟩ v) :=
  ⟨h.os, h.tape, h.output, by simpa [World.setCell] using h.size, fun j hj => (Below.heap_setCell _ _ _ _ (by simp; omega)).trans (h.block j hj)⟩
theorem heap_new (w : World) (o : Obj) (n : Nat) (h : n = w.heap.size) : (w.alloc o).heap[n]? = some o := by subst h; exact heap_alloc_new w o

set_option maxHeartbeats 4000000 in
set_option maxRecDepth 100000 in
theorem and_any (a b : Nat → Int) (w : World) : Calls Try.prog 26 #[bv a, bv b] w fun e w' => e = .returned (bv fun j => Go.bits .and .u64 (a j) (b j)) ∧ Below w.heap.size w w' := by
  unfold bv rowc
  go_enter Try.func26, Try.ntmps26
  go_wp2
  go_loopg [6] 4 (fun g iv wr => ∃ k : Nat, k ≤ 4 ∧ iv = .int .i64 (k : Int) ∧ Aside (4 - k = g) ∧ Aside (wr.heap[w.heap.size]? = some (.cells (rowc (upto (Go.bits .and .u64) k a b)) 32 (0, 0))) ∧
    Aside (wr.heap[w.heap.size + 1]? = some (.cells (rowc b) 32 (0, 0))) ∧ Aside (wr.heap[w.heap.size + 1 + 1]? = some (.cells (rowc fun _ => 0) 32 (0, 0))) ∧ Aside (Below w.heap.size w wr))
  case atStart =>
    refine ⟨0, Nat.zero_le _, rfl, rfl, ?_, ?_, ?_, ?_⟩
    · rw [Below.heap_alloc _ _ _ (by simp; omega), Below.heap_alloc _ _ _ (by simp), upto_zero]
      exact heap_new w _ _ rfl
    · rw [Below.heap_alloc _ _ _ (by simp)]
      exact heap_new _ _ _ (by simp)
    · exact heap_new _ _ _ (by simp)
    · exact (((Below.refl _ w).alloc (Nat.le_refl _) _).alloc (by simp) _).alloc (by simp; omega) _
  case round =>
    obtain ⟨k, hk4, rfl, hk, h2, h3, h4, hbel⟩ := hrel
    by_cases hlt : k < 4
    · have g1 := cell_row h2.out k hlt
      have g2 := cell_row h3.out k hlt
      have f1 := frozen_row h2.out k
      rw [show upto (Go.bits .and .u64) k a b k = a k by simp [upto]] at g1
      have ki : (k : Int) < 4 := by omega
      go_wp2
      go_still_tail 8, (by kernel_rfl)
      change wpList _ _ _ _ _ wr.drew
      go_wp2
      go_roundg (4 - (k + 1))
      case measure => have := hk.out; omega
      case rel =>
        refine ⟨k + 1, by omega, by go_num, rfl, ?_, ?_, ?_, ?_⟩
        · have := Lib.heap_setCell_same (i := k) h2.out (.int .u64 (Go.bits .and .u64 (a k) (b k)))
          rw [rowc_set _ _ _ _ hlt] at this
          exact this
        · exact (Below.heap_setCell _ _ _ _ (by simp)).trans h3.out
        · exact (Below.heap_setCell _ _ _ _ (by simp; omega)).trans h4.out
        · exact ⟨hbel.out.os, hbel.out.tape, hbel.out.output, by simpa [World.setCell] using hbel.out.size, fun j hj => (Below.heap_setCell _ _ _ _ (by simp; omega)).trans (hbel.out.block j hj)⟩
    · obtain rfl : k = 4 := by omega
      rw [rowc_upto] at h2
      have g0 := cell_row h2.out 0 (by decide)
      have g1 := cell_row h2.out 1 (by decide)
      have g2 := cell_row h2.out 2 (by decide)
      have g3 := cell_row h2.out 3 (by decide)
      have e0 := cell_row h4.out 0 (by decide)
      have e1 := cell_row h4.out 1 (by decide)
      have e2 := cell_row h4.out 2 (by decide)
      have e3 := cell_row h4.out 3 (by decide)
      have f0 := frozen_row h4.out 0
      have f1 := frozen_row h4.out 1
      have f2 := frozen_row h4.out 2
      have f3 := frozen_row h4.out 3
      go_wp2
      have hw := set4 h4.out (fun j => Go.bits .and .u64 (a j) (b j))
      have hbw := below_set (below_set (below_set (below_set hbel.out (w.heap.size + 1 + 1) (by omega) 0 (.int .u64 (Go.bits .and .u64 (a 0) (b 0)))) (w.heap.size + 1 + 1) (by omega) 1 (.int .u64 (Go.bits .and .u64 (a 1) (b 1)))) (w.heap.size + 1 + 1) (by omega) 2 (.int .u64 (Go.bits .and .u64 (a 2) (b 2)))) (w.heap.size + 1 + 1) (by omega) 3 (.int .u64 (Go.bits .and .u64 (a 3) (b 3)))
      generalize (((wr.setCell ⟨w.heap.size + 1 + 1, 0, none⟩ (.int .u64 (Go.bits .and .u64 (a 0) (b 0)))).setCell ⟨w.heap.size + 1 + 1, 1, none⟩ (.int .u64 (Go.bits .and .u64 (a 1) (b 1)))).setCell ⟨w.heap.size + 1 + 1, 2, none⟩ (.int .u64 (Go.bits .and .u64 (a 2) (b 2)))).setCell ⟨w.heap.size + 1 + 1, 3, none⟩ (.int .u64 (Go.bits .and .u64 (a 3) (b 3))) = W9 at *
      have k0 := cell_row hw 0 (by decide)
      have k1 := cell_row hw 1 (by decide)
      have k2 := cell_row hw 2 (by decide)
      have k3 := cell_row hw 3 (by decide)
      refine bodyPost_ret (v := .agg #[.int .u64 (Go.bits .and .u64 (a 0) (b 0)), .int .u64 (Go.bits .and .u64 (a 1) (b 1)), .int .u64 (Go.bits .and .u64 (a 2) (b 2)), .int .u64 (Go.bits .and .u64 (a 3) (b 3))]) ?_ rfl ⟨rfl, hbw⟩
      simp [results, Try.results26, go_sem, k0, k1, k2, k3]
end Go.Proofs.Ytdmfdgadhobkpaa.Bits
