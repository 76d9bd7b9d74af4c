/-
  Package bits: the set of one number; With, Without, Has.
-/
import Derived.Test.YtdmfdgadhobkpaaBits2
namespace Go.Proofs.Ytdmfdgadhobkpaa.Bits
open Go.RowKit

/-- The words of the set of one number. -/
def oneW (i : Int) : Nat → Int := fun j => if 0 ≤ i ∧ i < 256 ∧ j = (i / 64).toNat then 2 ^ (i % 64).toNat else 0
theorem oneW_in (n : Nat) (hn : n < 256) : rowc (oneW n) = (rowc fun _ => 0).setIfInBounds (n / 64) (.int .u64 (2 ^ (n % 64))) := by
  have h1 : ((n : Int) / 64).toNat = n / 64 := by omega
  have h2 : ((n : Int) % 64).toNat = n % 64 := by omega
  have h3 : (n : Int) < 256 := by omega
  have h0 : (0 : Int) ≤ (n : Int) := by omega
  have hq : n / 64 < 4 := by omega
  unfold rowc oneW
  simp only [h1, h2, h3, h0, true_and]
  generalize n / 64 = q at *
  match q, hq with
  | 0, _ => simp
  | 1, _ => simp
  | 2, _ => simp
  | 3, _ => simp
theorem oneW_out (i : Int) (h : i < 0 ∨ 256 ≤ i) : oneW i = fun _ => 0 := by
  funext j
  unfold oneW
  rw [if_neg (by omega)]

set_option maxHeartbeats 4000000 in
set_option maxRecDepth 100000 in
theorem one_any (i : Int) (w : World) :
    Calls Try.prog 49 #[.int .i64 i] w fun e w' => e = .returned (bv (oneW i)) ∧ Below w.heap.size w w' := by
  obtain ⟨W0, hW0⟩ : ∃ W0, (w.alloc (.cells (rowc fun _ => 0) 32)).alloc (.cells (rowc fun _ => 0) 32) = W0 := ⟨_, rfl⟩
  have hA : W0.heap[w.heap.size + 1]? = some (.cells (rowc fun _ => 0) 32 (0, 0)) := by rw [← hW0]; exact heap_new _ _ _ (by simp)
  have hB : W0.heap[w.heap.size]? = some (.cells (rowc fun _ => 0) 32 (0, 0)) := by rw [← hW0, Below.heap_alloc _ _ _ (by simp)]; exact heap_new _ _ _ rfl
  have hbel : Below w.heap.size w W0 := by rw [← hW0]; exact ((Below.refl _ w).alloc (Nat.le_refl _) _).alloc (by simp) _
  simp only [rowc] at hW0
  have HA := Lib.hid hA
  have HB := Lib.hid hB
  have HL := Lib.hid hbel
  clear hA hB hbel
  by_cases h01 : 0 ≤ i ∧ i < 256
  · obtain ⟨n, rfl⟩ : ∃ n : Nat, i = (n : Int) := ⟨i.toNat, by omega⟩
    have hn : n < 256 := by omega
    have hn' : (n : Int) < 256 := by omega
    clear h01
    have ki : n / 64 < 4 := by omega
    have ki' : ((n / 64 : Nat) : Int) < 4 := by omega
    have kj : n % 64 < 64 := by omega
    have hpow : IntKind.u64.wrap (2 ^ (n % 64)) = 2 ^ (n % 64) := by
      have e : (2 : Int) ^ (n % 64) = ((2 ^ (n % 64) : Nat) : Int) := by simp
      have l : 2 ^ (n % 64) < 18446744073709551616 := (Nat.pow_lt_pow_right (a := 2) (m := n % 64) (n := 64) (by omega) kj : 2 ^ (n % 64) < 2 ^ 64)
      rw [IntKind.wrap_u64, e]
      generalize 2 ^ (n % 64) = m at *
      omega
    obtain ⟨W1, hW1⟩ : ∃ W1, W0.setCell ⟨w.heap.size + 1, n / 64, none⟩ (.int .u64 (2 ^ (n % 64))) = W1 := ⟨_, rfl⟩
    have hA1 : W1.heap[w.heap.size + 1]? = some (.cells (rowc (oneW n)) 32 (0, 0)) := by
      rw [oneW_in n hn, ← hW1]
      exact Lib.heap_setCell_same (i := n / 64) HA.out (.int .u64 (2 ^ (n % 64)))
    have hB1 : W1.heap[w.heap.size]? = some (.cells (rowc fun _ => 0) 32 (0, 0)) := by
      rw [← hW1]
      exact (Below.heap_setCell _ _ _ _ (by simp)).trans HB.out
    have hL1 : Below w.heap.size w W1 := by rw [← hW1]; exact below_set HL.out (w.heap.size + 1) (by omega) _ _
    have f1 := frozen_row HA.out (n / 64)
    have c1 := cell_row HA.out (n / 64) ki
    generalize hC : oneW (n : Int) = C at *
    have g0 : W1.cell? ⟨w.heap.size + 1, 0, none⟩ = some (.int .u64 (C 0)) := cell_row hA1 0 (by decide)
    have g1 : W1.cell? ⟨w.heap.size + 1, 1, none⟩ = some (.int .u64 (C 1)) := cell_row hA1 1 (by decide)
    have g2 : W1.cell? ⟨w.heap.size + 1, 2, none⟩ = some (.int .u64 (C 2)) := cell_row hA1 2 (by decide)
    have g3 : W1.cell? ⟨w.heap.size + 1, 3, none⟩ = some (.int .u64 (C 3)) := cell_row hA1 3 (by decide)
    have e0 := cell_row hB1 0 (by decide)
    have k0 := frozen_row hB1 0
    have e1 := cell_row hB1 1 (by decide)
    have k1 := frozen_row hB1 1
    have e2 := cell_row hB1 2 (by decide)
    have k2 := frozen_row hB1 2
    have e3 := cell_row hB1 3 (by decide)
    have k3 := frozen_row hB1 3
    have hw := set4 hB1 (C)
    have hbw := below_set (below_set (below_set (below_set hL1 w.heap.size (Nat.le_refl _) 0 (.int .u64 (C 0))) w.heap.size (Nat.le_refl _) 1 (.int .u64 (C 1))) w.heap.size (Nat.le_refl _) 2 (.int .u64 (C 2))) w.heap.size (Nat.le_refl _) 3 (.int .u64 (C 3))
    generalize hW9 : (((W1.setCell ⟨w.heap.size, 0, none⟩ (.int .u64 (C 0))).setCell ⟨w.heap.size, 1, none⟩ (.int .u64 (C 1))).setCell ⟨w.heap.size, 2, none⟩ (.int .u64 (C 2))).setCell ⟨w.heap.size, 3, none⟩ (.int .u64 (C 3)) = W9 at *
    have hww := hw
    have HW := Lib.hid hw
    have HBW := Lib.hid hbw
    clear hww hw hbw hA1 hB1 hL1
    go_enter Try.func49, Try.ntmps49
    go_wp2
    have q0 := cell_row HW.out 0 (by decide)
    have q1 := cell_row HW.out 1 (by decide)
    have q2 := cell_row HW.out 2 (by decide)
    have q3 := cell_row HW.out 3 (by decide)
    refine bodyPost_ret (v := bv (C)) ?_ rfl ⟨rfl, HBW.out⟩
    simp [bv, rowc, results, Try.results49, go_sem, q0, q1, q2, q3]
  · rw [oneW_out i (by omega)]
    have hA1 := HA.out
    have hB1 := HB.out
    have hL1 := HL.out
    by_cases h0 : 0 ≤ i
    · have h1 : 256 ≤ i := by omega
      have g0 : W0.cell? ⟨w.heap.size + 1, 0, none⟩ = some (.int .u64 ((fun _ => 0 : Nat → Int) 0)) := cell_row hA1 0 (by decide)
      have g1 : W0.cell? ⟨w.heap.size + 1, 1, none⟩ = some (.int .u64 ((fun _ => 0 : Nat → Int) 1)) := cell_row hA1 1 (by decide)
      have g2 : W0.cell? ⟨w.heap.size + 1, 2, none⟩ = some (.int .u64 ((fun _ => 0 : Nat → Int) 2)) := cell_row hA1 2 (by decide)
      have g3 : W0.cell? ⟨w.heap.size + 1, 3, none⟩ = some (.int .u64 ((fun _ => 0 : Nat → Int) 3)) := cell_row hA1 3 (by decide)
      have e0 := cell_row hB1 0 (by decide)
      have k0 := frozen_row hB1 0
      have e1 := cell_row hB1 1 (by decide)
      have k1 := frozen_row hB1 1
      have e2 := cell_row hB1 2 (by decide)
      have k2 := frozen_row hB1 2
      have e3 := cell_row hB1 3 (by decide)
      have k3 := frozen_row hB1 3
      have hw := set4 hB1 ((fun _ => 0 : Nat → Int))
      have hbw := below_set (below_set (below_set (below_set hL1 w.heap.size (Nat.le_refl _) 0 (.int .u64 ((fun _ => 0 : Nat → Int) 0))) w.heap.size (Nat.le_refl _) 1 (.int .u64 ((fun _ => 0 : Nat → Int) 1))) w.heap.size (Nat.le_refl _) 2 (.int .u64 ((fun _ => 0 : Nat → Int) 2))) w.heap.size (Nat.le_refl _) 3 (.int .u64 ((fun _ => 0 : Nat → Int) 3))
      generalize hW9 : (((W0.setCell ⟨w.heap.size, 0, none⟩ (.int .u64 ((fun _ => 0 : Nat → Int) 0))).setCell ⟨w.heap.size, 1, none⟩ (.int .u64 ((fun _ => 0 : Nat → Int) 1))).setCell ⟨w.heap.size, 2, none⟩ (.int .u64 ((fun _ => 0 : Nat → Int) 2))).setCell ⟨w.heap.size, 3, none⟩ (.int .u64 ((fun _ => 0 : Nat → Int) 3)) = W9 at *
      have hww := hw
      have HW := Lib.hid hw
      have HBW := Lib.hid hbw
      clear hww hw hbw hA1 hB1 hL1
      go_enter Try.func49, Try.ntmps49
      go_wp2
      have q0 := cell_row HW.out 0 (by decide)
      have q1 := cell_row HW.out 1 (by decide)
      have q2 := cell_row HW.out 2 (by decide)
      have q3 := cell_row HW.out 3 (by decide)
      refine bodyPost_ret (v := bv ((fun _ => 0 : Nat → Int))) ?_ rfl ⟨rfl, HBW.out⟩
      simp [bv, rowc, results, Try.results49, go_sem, q0, q1, q2, q3]
    · have h1 : i < 0 := by omega
      have g0 : W0.cell? ⟨w.heap.size + 1, 0, none⟩ = some (.int .u64 ((fun _ => 0 : Nat → Int) 0)) := cell_row hA1 0 (by decide)
      have g1 : W0.cell? ⟨w.heap.size + 1, 1, none⟩ = some (.int .u64 ((fun _ => 0 : Nat → Int) 1)) := cell_row hA1 1 (by decide)
      have g2 : W0.cell? ⟨w.heap.size + 1, 2, none⟩ = some (.int .u64 ((fun _ => 0 : Nat → Int) 2)) := cell_row hA1 2 (by decide)
      have g3 : W0.cell? ⟨w.heap.size + 1, 3, none⟩ = some (.int .u64 ((fun _ => 0 : Nat → Int) 3)) := cell_row hA1 3 (by decide)
      have e0 := cell_row hB1 0 (by decide)
      have k0 := frozen_row hB1 0
      have e1 := cell_row hB1 1 (by decide)
      have k1 := frozen_row hB1 1
      have e2 := cell_row hB1 2 (by decide)
      have k2 := frozen_row hB1 2
      have e3 := cell_row hB1 3 (by decide)
      have k3 := frozen_row hB1 3
      have hw := set4 hB1 ((fun _ => 0 : Nat → Int))
      have hbw := below_set (below_set (below_set (below_set hL1 w.heap.size (Nat.le_refl _) 0 (.int .u64 ((fun _ => 0 : Nat → Int) 0))) w.heap.size (Nat.le_refl _) 1 (.int .u64 ((fun _ => 0 : Nat → Int) 1))) w.heap.size (Nat.le_refl _) 2 (.int .u64 ((fun _ => 0 : Nat → Int) 2))) w.heap.size (Nat.le_refl _) 3 (.int .u64 ((fun _ => 0 : Nat → Int) 3))
      generalize hW9 : (((W0.setCell ⟨w.heap.size, 0, none⟩ (.int .u64 ((fun _ => 0 : Nat → Int) 0))).setCell ⟨w.heap.size, 1, none⟩ (.int .u64 ((fun _ => 0 : Nat → Int) 1))).setCell ⟨w.heap.size, 2, none⟩ (.int .u64 ((fun _ => 0 : Nat → Int) 2))).setCell ⟨w.heap.size, 3, none⟩ (.int .u64 ((fun _ => 0 : Nat → Int) 3)) = W9 at *
      have hww := hw
      have HW := Lib.hid hw
      have HBW := Lib.hid hbw
      clear hww hw hbw hA1 hB1 hL1
      go_enter Try.func49, Try.ntmps49
      go_wp2
      have q0 := cell_row HW.out 0 (by decide)
      have q1 := cell_row HW.out 1 (by decide)
      have q2 := cell_row HW.out 2 (by decide)
      have q3 := cell_row HW.out 3 (by decide)
      refine bodyPost_ret (v := bv ((fun _ => 0 : Nat → Int))) ?_ rfl ⟨rfl, HBW.out⟩
      simp [bv, rowc, results, Try.results49, go_sem, q0, q1, q2, q3]

theorem set4_other (w : World) (p q : Nat) (h : q ≠ p) (x0 x1 x2 x3 : Value) : ((((w.setCell ⟨p, 0, none⟩ x0).setCell ⟨p, 1, none⟩ x1).setCell ⟨p, 2, none⟩ x2).setCell ⟨p, 3, none⟩ x3).heap[q]? = w.heap[q]? :=
  (Below.heap_setCell _ _ _ _ h).trans ((Below.heap_setCell _ _ _ _ h).trans ((Below.heap_setCell _ _ _ _ h).trans (Below.heap_setCell _ _ _ _ h)))
theorem set4_cell {w : World} {p q k : Nat} {v : Value} (h : q ≠ p) (x0 x1 x2 x3 : Value) (hc : w.cell? ⟨q, k, none⟩ = some v) : ((((w.setCell ⟨p, 0, none⟩ x0).setCell ⟨p, 1, none⟩ x1).setCell ⟨p, 2, none⟩ x2).setCell ⟨p, 3, none⟩ x3).cell? ⟨q, k, none⟩ = some v :=
  (World.cell?_of_block (a := ⟨q, k, none⟩) (set4_other w p q h x0 x1 x2 x3)).trans hc
theorem bv_in (a : Nat → Int) : bv a = .agg #[.int .u64 (a 0), .int .u64 (a 1), .int .u64 (a 2), .int .u64 (a 3)] := rfl
end Go.Proofs.Ytdmfdgadhobkpaa.Bits
