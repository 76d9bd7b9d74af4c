/-
  Package bits: With, Has.
-/
import Derived.Test.YtdmfdgadhobkpaaBits3
namespace Go.Proofs.Ytdmfdgadhobkpaa.Bits
open Go.RowKit

theorem rdB2 (w : World) (a b : Nat → Int) : RdB (w.alloc (.cells #[.int .u64 (a 0), .int .u64 (a 1), .int .u64 (a 2), .int .u64 (a 3), .int .u64 (b 0), .int .u64 (b 1), .int .u64 (b 2), .int .u64 (b 3)] 32)) (some ⟨w.heap.size, 0, none⟩) 2 [a, b] := by
  refine ⟨rfl, by decide, fun _ => ⟨_, _, rfl, fun j hj i hi => ?_⟩⟩
  rw [World.cell?_alloc_at _ _ _ _ (by simp)]
  match j, hj, i, hi with
  | 0, _, 0, _ => rfl
  | 0, _, 1, _ => rfl
  | 0, _, 2, _ => rfl
  | 0, _, 3, _ => rfl
  | 1, _, 0, _ => rfl
  | 1, _, 1, _ => rfl
  | 1, _, 2, _ => rfl
  | 1, _, 3, _ => rfl
theorem alloc_cell {w : World} {b k : Nat} {v : Value} {o : Obj} (h : w.cell? ⟨b, k, none⟩ = some v) : (w.alloc o).cell? ⟨b, k, none⟩ = some v := (World.cell?_alloc_past _ _ _ (World.block_lt_of_cell? _ _ h)).trans h
theorem rdB0 (w : World) : RdB w none 0 [] := ⟨rfl, by decide, fun h => absurd h (by decide)⟩

set_option maxHeartbeats 4000000 in
set_option maxRecDepth 100000 in
theorem with_any (a : Nat → Int) (i : Int) (w : World) :
    Calls Try.prog 41 #[bv a, .int .i64 i] w fun e w' => e = .returned (bv (orw [a, oneW i])) ∧ Below w.heap.size w w' := by
  obtain ⟨W0, hW0⟩ : ∃ W0, (w.alloc (.cells (rowc a) 32)).alloc (.cells (rowc fun _ => 0) 32) = W0 := ⟨_, rfl⟩
  have hA : W0.heap[w.heap.size]? = some (.cells (rowc a) 32 (0, 0)) := by rw [← hW0, Below.heap_alloc _ _ _ (by simp)]; exact heap_new _ _ _ rfl
  have hB : W0.heap[w.heap.size + 1]? = some (.cells (rowc fun _ => 0) 32 (0, 0)) := by rw [← hW0]; exact heap_new _ _ _ (by simp)
  have hbel : Below w.heap.size w W0 := by rw [← hW0]; exact ((Below.refl _ w).alloc (Nat.le_refl _) _).alloc (by simp) _
  have hsz : W0.heap.size = w.heap.size + 2 := by rw [← hW0]; simp
  simp only [rowc] at hW0
  have KA : ∀ w', Hid (Below W0.heap.size W0 w' → w'.heap[w.heap.size]? = some (.cells (rowc a) 32 (0, 0))) := fun w' h => (h.block _ (by omega)).trans hA
  have KB : ∀ w', Hid (Below W0.heap.size W0 w' → w'.heap[w.heap.size + 1]? = some (.cells (rowc fun _ => 0) 32 (0, 0))) := fun w' h => (h.block _ (by omega)).trans hB
  have KL : ∀ w', Hid (Below W0.heap.size W0 w' → Below w.heap.size w w') := fun w' h => hbel.trans (h.mono (by omega))
  have K0 : ∀ n, Hid (Below W0.heap.size W0 (W0.drewN n)) := fun n => ⟨rfl, rfl, rfl, Nat.le_refl _, fun _ _ => rfl⟩
  have a0 := cell_row hA 0 (by decide)
  have a1 := cell_row hA 1 (by decide)
  have a2 := cell_row hA 2 (by decide)
  have a3 := cell_row hA 3 (by decide)
  have hpq : w.heap.size ≠ w.heap.size + 1 := by omega
  clear hA hB hbel hsz
  go_enter Try.func41, Try.ntmps41
  unfold bv rowc
  go_wp2
  go_region_held3 (fun w' => w'.cell? ⟨w.heap.size, 0, none⟩ = some (.int .u64 (a 0)) ∧ w'.cell? ⟨w.heap.size, 1, none⟩ = some (.int .u64 (a 1)) ∧ w'.cell? ⟨w.heap.size, 2, none⟩ = some (.int .u64 (a 2)) ∧ w'.cell? ⟨w.heap.size, 3, none⟩ = some (.int .u64 (a 3)))
    (first | with_reducible exact ⟨alloc_cell b0, alloc_cell b1, alloc_cell b2, alloc_cell b3⟩ | with_reducible exact ⟨b0, b1, b2, b3⟩ | with_reducible exact ⟨c0, c1, c2, c3⟩ | with_reducible exact ⟨set4_cell hpq _ _ _ _ c0, set4_cell hpq _ _ _ _ c1, set4_cell hpq _ _ _ _ c2, set4_cell hpq _ _ _ _ c3⟩ | exact ⟨a0, a1, a2, a3⟩)
    (first
      | (go_at_call 49; refine (one_any i _).mono ?_; rintro e W1 ⟨rfl, hb1⟩; simp only [bv, rowc]; have L1 : Below W0.heap.size W0 W1 := ((K0 _).out.trans hb1); have b0 := cell_row ((KA W1).out L1) 0 (by decide); have b1 := cell_row ((KA W1).out L1) 1 (by decide); have b2 := cell_row ((KA W1).out L1) 2 (by decide); have b3 := cell_row ((KA W1).out L1) 3 (by decide))
      | (go_at_call 34; refine (or_any (some ⟨W1.heap.size, 0, none⟩) 2 2 [a, oneW i] _ (rdB2 W1 a (oneW i))).mono ?_; rintro e W2 ⟨rfl, hb2⟩; simp only [bv, rowc]; have L2 : Below W0.heap.size W0 W2 := (L1.alloc L1.size _).trans (hb2.mono (by have := L1.size; simp; omega)); have c0 := cell_row ((KA W2).out L2) 0 (by decide); have c1 := cell_row ((KA W2).out L2) 1 (by decide); have c2 := cell_row ((KA W2).out L2) 2 (by decide); have c3 := cell_row ((KA W2).out L2) 3 (by decide); have e0 := cell_row ((KB W2).out L2) 0 (by decide); have f0 := frozen_row ((KB W2).out L2) 0; have e1 := cell_row ((KB W2).out L2) 1 (by decide); have f1 := frozen_row ((KB W2).out L2) 1; have e2 := cell_row ((KB W2).out L2) 2 (by decide); have f2 := frozen_row ((KB W2).out L2) 2; have e3 := cell_row ((KB W2).out L2) 3 (by decide); have f3 := frozen_row ((KB W2).out L2) 3))
  have hw := set4 ((KB W2).out L2) (orw [a, oneW i])
  have hbw := below_set (below_set (below_set (below_set ((KL W2).out L2) (w.heap.size + 1) (by omega) 0 (.int .u64 (orw [a, oneW i] 0))) (w.heap.size + 1) (by omega) 1 (.int .u64 (orw [a, oneW i] 1))) (w.heap.size + 1) (by omega) 2 (.int .u64 (orw [a, oneW i] 2))) (w.heap.size + 1) (by omega) 3 (.int .u64 (orw [a, oneW i] 3))
  generalize (((W2.setCell ⟨w.heap.size + 1, 0, none⟩ (.int .u64 (orw [a, oneW i] 0))).setCell ⟨w.heap.size + 1, 1, none⟩ (.int .u64 (orw [a, oneW i] 1))).setCell ⟨w.heap.size + 1, 2, none⟩ (.int .u64 (orw [a, oneW i] 2))).setCell ⟨w.heap.size + 1, 3, none⟩ (.int .u64 (orw [a, oneW i] 3)) = W9 at *
  have q0 := cell_row hw 0 (by decide)
  have q1 := cell_row hw 1 (by decide)
  have q2 := cell_row hw 2 (by decide)
  have q3 := cell_row hw 3 (by decide)
  go_wp2
  refine bodyPost_ret (v := bv (orw [a, oneW i])) ?_ rfl ⟨rfl, hbw⟩
  simp [bv, rowc, results, Try.results41, go_sem, q0, q1, q2, q3]
end Go.Proofs.Ytdmfdgadhobkpaa.Bits
