/-
  The reference of the sets: With, Without.
-/
import Derived.Test.YtdmfdgadhobkpaaRef1
namespace Go.Proofs.Ytdmfdgadhobkpaa.Bits
open Go.RowKit Go.Shelf

set_option maxHeartbeats 4000000 in
set_option maxRecDepth 100000 in
theorem withr_n {A : Nat → Nat} (hA : Ws A) (i : Int) (w : World) : Calls Try.prog 28 #[bv (iw A), .int .i64 i] w fun e w' => e = .returned (bv (iw (withW A i))) ∧ Below w.heap.size w w' := by
  obtain ⟨W0, hW0⟩ : ∃ W0, (w.alloc (.cells #[.int .u64 (A 0 : Int), .int .u64 (A 1 : Int), .int .u64 (A 2 : Int), .int .u64 (A 3 : Int)] 32)).alloc (.cells #[.int .u64 0, .int .u64 0, .int .u64 0, .int .u64 0] 32) = W0 := ⟨_, rfl⟩
  have nA : W0.heap[w.heap.size]? = some (.cells (rowc (iw A)) 32 (0, 0)) := by rw [← hW0, Below.heap_alloc _ _ _ (by simp)]; exact heap_new _ _ _ rfl
  have nR : W0.heap[w.heap.size + 1]? = some (.cells (rowc (iw noneW)) 32 (0, 0)) := by rw [← hW0]; exact heap_new _ _ _ (by simp)
  have hb0 : Below w.heap.size w W0 := by rw [← hW0]; exact ((Below.refl _ w).alloc (Nat.le_refl _) _).alloc (by simp) _
  have hsz : W0.heap.size = w.heap.size + 2 := by rw [← hW0]; simp
  obtain ⟨a0, a1, a2, a3⟩ := c4 nA
  have KA : ∀ w', Hid (Below W0.heap.size W0 w' → w'.heap[w.heap.size]? = some (.cells (rowc (iw A)) 32 (0, 0))) := fun w' h => old4 nA h (by omega)
  have KR : ∀ w', Hid (Below W0.heap.size W0 w' → w'.heap[w.heap.size + 1]? = some (.cells (rowc (iw noneW)) 32 (0, 0))) := fun w' h => old4 nR h (by omega)
  have KB : ∀ w', Hid (Below W0.heap.size W0 w' → Below w.heap.size w w') := fun w' h => hb0.trans (h.mono (by omega))
  clear nA nR hb0 hsz
  rw [bvl]
  go_enter Try.func28, Try.ntmps28
  go_wp2_with fail
  refine (hasr_n hA i _).mono ?_
  rintro e W1 ⟨rfl, hb1⟩
  have nA := (KA W1).out hb1
  have nR := (KR W1).out hb1
  have hb := (KB W1).out hb1
  clear a0 a1 a2 a3 KA KR KB hb1 hW0
  cases hh : hasI A i with
  | true =>
    have es := with_same hA i (.inr hh)
    have h01 : 0 ≤ i ∧ i < 256 := by
      unfold hasI at hh
      split at hh
      · assumption
      · cases hh
    obtain ⟨h0, h1⟩ := h01
    have h2 : i ≤ 255 := by omega
    clear h1 hh
    have HA1 := Lib.hid nA
    have HR1 := Lib.hid nR
    have HB1 := Lib.hid hb
    clear nA nR hb
    obtain ⟨a0, a1, a2, a3⟩ := c4 (HA1.out)
    have k0 := frozen_row (HR1.out) 0
    have k1 := frozen_row (HR1.out) 1
    have k2 := frozen_row (HR1.out) 2
    have k3 := frozen_row (HR1.out) 3
    obtain ⟨e0, e1, e2, e3⟩ := c4 (HR1.out)
    have hw := set4 (HR1.out) (iw A)
    have hbw := (below_set (below_set (below_set (below_set HB1.out (w.heap.size + 1) (by omega) 0 (.int .u64 (A 0 : Int))) (w.heap.size + 1) (by omega) 1 (.int .u64 (A 1 : Int))) (w.heap.size + 1) (by omega) 2 (.int .u64 (A 2 : Int))) (w.heap.size + 1) (by omega) 3 (.int .u64 (A 3 : Int)))
    simp only [iw] at hw
    generalize hW9 : ((((W1.setCell ⟨w.heap.size + 1, 0, none⟩ (.int .u64 (A 0 : Int))).setCell ⟨w.heap.size + 1, 1, none⟩ (.int .u64 (A 1 : Int))).setCell ⟨w.heap.size + 1, 2, none⟩ (.int .u64 (A 2 : Int))).setCell ⟨w.heap.size + 1, 3, none⟩ (.int .u64 (A 3 : Int))) = W9 at *
    have HBW := Lib.hid hbw
    have HW : Hid (W9.heap[w.heap.size + 1]? = some (.cells (rowc (iw A)) 32 (0, 0))) := hw
    clear hw hbw
    go_wp2
    obtain ⟨q0, q1, q2, q3⟩ := c4 HW.out
    refine bodyPost_ret (v := bv (iw (A))) ?_ rfl ⟨by first | rw [es] | rfl, HBW.out⟩
    simp [bv, rowc, iw, results, Try.results28, go_sem, q0, q1, q2, q3]
  | false =>
    by_cases h01 : 0 ≤ i ∧ i < 256
    · obtain ⟨n, rfl⟩ : ∃ n : Nat, i = (n : Int) := ⟨i.toNat, by omega⟩
      have hn : n < 256 := by omega
      have hn' : (n : Int) ≤ 255 := by omega
      clear h01
      have ki : n / 64 < 4 := by omega
      have kj : n % 64 < 64 := by omega
      have hz := hA (n / 64) ki
      have hbit : (A (n / 64)).testBit (n % 64) = false := by
        unfold hasI hasN at hh
        rw [if_pos (by omega), Int.toNat_natCast] at hh
        exact hh
      have hpow : IntKind.u64.wrap (2 ^ (n % 64)) = 2 ^ (n % 64) := by
        have e : (2 : Int) ^ (n % 64) = ((2 ^ (n % 64) : Nat) : Int) := by simp
        have l : 2 ^ (n % 64) < 18446744073709551616 := (Nat.pow_lt_pow_right (a := 2) (m := n % 64) (n := 64) (by omega) kj : 2 ^ (n % 64) < 2 ^ 64)
        rw [IntKind.wrap_u64, e]
        generalize 2 ^ (n % 64) = m at *
        omega
      have hwrap : IntKind.u64.wrap ((A (n / 64) : Int) + 2 ^ (n % 64)) = ((A (n / 64) : Int) + 2 ^ (n % 64)) := by
        have e : (2 : Int) ^ (n % 64) = ((2 ^ (n % 64) : Nat) : Int) := by simp
        have l : A (n / 64) + 2 ^ (n % 64) < 18446744073709551616 := by
          rw [bit_add _ _ hz kj hbit, w64]
          exact Nat.or_lt_two_pow (by rw [← w64]; exact hz) (Nat.pow_lt_pow_right (by omega) kj)
        rw [IntKind.wrap_u64, e]
        generalize 2 ^ (n % 64) = m at *
        omega
      have hset := rowc_with (A := A) n hn hbit hz
      have c1 := cell_row nA (n / 64) ki
      have f1 := frozen_row nA (n / 64)
      have nA2 : (W1.setCell ⟨w.heap.size, n / 64, none⟩ (.int .u64 ((A (n / 64) : Int) + 2 ^ (n % 64)))).heap[w.heap.size]? = some (.cells (rowc (iw (withW A n))) 32 (0, 0)) := by
        rw [← hset]
        exact Lib.heap_setCell_same (i := n / 64) nA (.int .u64 ((A (n / 64) : Int) + 2 ^ (n % 64)))
      have nR2 : (W1.setCell ⟨w.heap.size, n / 64, none⟩ (.int .u64 ((A (n / 64) : Int) + 2 ^ (n % 64)))).heap[w.heap.size + 1]? = some (.cells (rowc (iw noneW)) 32 (0, 0)) := (Below.heap_setCell _ _ _ _ (by simp)).trans nR
      have hb2 : Below w.heap.size w (W1.setCell ⟨w.heap.size, n / 64, none⟩ (.int .u64 ((A (n / 64) : Int) + 2 ^ (n % 64)))) := below_set hb w.heap.size (Nat.le_refl _) _ _
      simp only [iw] at c1
      clear hset nA nR hb hbit
      generalize hW2 : W1.setCell ⟨w.heap.size, n / 64, none⟩ (.int .u64 ((A (n / 64) : Int) + 2 ^ (n % 64))) = W2 at *
      have HA2 := Lib.hid nA2
      have HR2 := Lib.hid nR2
      have HB2 := Lib.hid hb2
      clear nA2 nR2 hb2
      generalize hX : withW A n = X at *
      have HX := Lib.hid hX
      clear hX
      obtain ⟨a0, a1, a2, a3⟩ := c4 (HA2.out)
      have k0 := frozen_row (HR2.out) 0
      have k1 := frozen_row (HR2.out) 1
      have k2 := frozen_row (HR2.out) 2
      have k3 := frozen_row (HR2.out) 3
      obtain ⟨e0, e1, e2, e3⟩ := c4 (HR2.out)
      have hw := set4 (HR2.out) (iw X)
      have hbw := (below_set (below_set (below_set (below_set HB2.out (w.heap.size + 1) (by omega) 0 (.int .u64 (X 0 : Int))) (w.heap.size + 1) (by omega) 1 (.int .u64 (X 1 : Int))) (w.heap.size + 1) (by omega) 2 (.int .u64 (X 2 : Int))) (w.heap.size + 1) (by omega) 3 (.int .u64 (X 3 : Int)))
      simp only [iw] at hw
      generalize hW9 : ((((W2.setCell ⟨w.heap.size + 1, 0, none⟩ (.int .u64 (X 0 : Int))).setCell ⟨w.heap.size + 1, 1, none⟩ (.int .u64 (X 1 : Int))).setCell ⟨w.heap.size + 1, 2, none⟩ (.int .u64 (X 2 : Int))).setCell ⟨w.heap.size + 1, 3, none⟩ (.int .u64 (X 3 : Int))) = W9 at *
      have HBW := Lib.hid hbw
      have HW : Hid (W9.heap[w.heap.size + 1]? = some (.cells (rowc (iw X)) 32 (0, 0))) := hw
      clear hw hbw
      go_wp2
      obtain ⟨q0, q1, q2, q3⟩ := c4 HW.out
      refine bodyPost_ret (v := bv (iw (X))) ?_ rfl ⟨by rw [HX.out], HBW.out⟩
      simp [bv, rowc, iw, results, Try.results28, go_sem, q0, q1, q2, q3]
    · have es := with_same hA i (.inl h01)
      by_cases h0 : 0 ≤ i
      · have h2 : ¬ i ≤ 255 := by omega
        clear h01 hh
        have HA1 := Lib.hid nA
        have HR1 := Lib.hid nR
        have HB1 := Lib.hid hb
        clear nA nR hb
        obtain ⟨a0, a1, a2, a3⟩ := c4 (HA1.out)
        have k0 := frozen_row (HR1.out) 0
        have k1 := frozen_row (HR1.out) 1
        have k2 := frozen_row (HR1.out) 2
        have k3 := frozen_row (HR1.out) 3
        obtain ⟨e0, e1, e2, e3⟩ := c4 (HR1.out)
        have hw := set4 (HR1.out) (iw A)
        have hbw := (below_set (below_set (below_set (below_set HB1.out (w.heap.size + 1) (by omega) 0 (.int .u64 (A 0 : Int))) (w.heap.size + 1) (by omega) 1 (.int .u64 (A 1 : Int))) (w.heap.size + 1) (by omega) 2 (.int .u64 (A 2 : Int))) (w.heap.size + 1) (by omega) 3 (.int .u64 (A 3 : Int)))
        simp only [iw] at hw
        generalize hW9 : ((((W1.setCell ⟨w.heap.size + 1, 0, none⟩ (.int .u64 (A 0 : Int))).setCell ⟨w.heap.size + 1, 1, none⟩ (.int .u64 (A 1 : Int))).setCell ⟨w.heap.size + 1, 2, none⟩ (.int .u64 (A 2 : Int))).setCell ⟨w.heap.size + 1, 3, none⟩ (.int .u64 (A 3 : Int))) = W9 at *
        have HBW := Lib.hid hbw
        have HW : Hid (W9.heap[w.heap.size + 1]? = some (.cells (rowc (iw A)) 32 (0, 0))) := hw
        clear hw hbw
        go_wp2
        obtain ⟨q0, q1, q2, q3⟩ := c4 HW.out
        refine bodyPost_ret (v := bv (iw (A))) ?_ rfl ⟨by first | rw [es] | rfl, HBW.out⟩
        simp [bv, rowc, iw, results, Try.results28, go_sem, q0, q1, q2, q3]
      · clear h01 hh
        have HA1 := Lib.hid nA
        have HR1 := Lib.hid nR
        have HB1 := Lib.hid hb
        clear nA nR hb
        obtain ⟨a0, a1, a2, a3⟩ := c4 (HA1.out)
        have k0 := frozen_row (HR1.out) 0
        have k1 := frozen_row (HR1.out) 1
        have k2 := frozen_row (HR1.out) 2
        have k3 := frozen_row (HR1.out) 3
        obtain ⟨e0, e1, e2, e3⟩ := c4 (HR1.out)
        have hw := set4 (HR1.out) (iw A)
        have hbw := (below_set (below_set (below_set (below_set HB1.out (w.heap.size + 1) (by omega) 0 (.int .u64 (A 0 : Int))) (w.heap.size + 1) (by omega) 1 (.int .u64 (A 1 : Int))) (w.heap.size + 1) (by omega) 2 (.int .u64 (A 2 : Int))) (w.heap.size + 1) (by omega) 3 (.int .u64 (A 3 : Int)))
        simp only [iw] at hw
        generalize hW9 : ((((W1.setCell ⟨w.heap.size + 1, 0, none⟩ (.int .u64 (A 0 : Int))).setCell ⟨w.heap.size + 1, 1, none⟩ (.int .u64 (A 1 : Int))).setCell ⟨w.heap.size + 1, 2, none⟩ (.int .u64 (A 2 : Int))).setCell ⟨w.heap.size + 1, 3, none⟩ (.int .u64 (A 3 : Int))) = W9 at *
        have HBW := Lib.hid hbw
        have HW : Hid (W9.heap[w.heap.size + 1]? = some (.cells (rowc (iw A)) 32 (0, 0))) := hw
        clear hw hbw
        go_wp2
        obtain ⟨q0, q1, q2, q3⟩ := c4 HW.out
        refine bodyPost_ret (v := bv (iw (A))) ?_ rfl ⟨by first | rw [es] | rfl, HBW.out⟩
        simp [bv, rowc, iw, results, Try.results28, go_sem, q0, q1, q2, q3]
set_option maxHeartbeats 4000000 in
set_option maxRecDepth 100000 in
theorem withoutr_n {A : Nat → Nat} (hA : Ws A) (i : Int) (w : World) : Calls Try.prog 29 #[bv (iw A), .int .i64 i] w fun e w' => e = .returned (bv (iw (withoutW A i))) ∧ Below w.heap.size w w' := by
  obtain ⟨W0, hW0⟩ : ∃ W0, (w.alloc (.cells #[.int .u64 (A 0 : Int), .int .u64 (A 1 : Int), .int .u64 (A 2 : Int), .int .u64 (A 3 : Int)] 32)).alloc (.cells #[.int .u64 0, .int .u64 0, .int .u64 0, .int .u64 0] 32) = W0 := ⟨_, rfl⟩
  have nA : W0.heap[w.heap.size]? = some (.cells (rowc (iw A)) 32 (0, 0)) := by rw [← hW0, Below.heap_alloc _ _ _ (by simp)]; exact heap_new _ _ _ rfl
  have nR : W0.heap[w.heap.size + 1]? = some (.cells (rowc (iw noneW)) 32 (0, 0)) := by rw [← hW0]; exact heap_new _ _ _ (by simp)
  have hb0 : Below w.heap.size w W0 := by rw [← hW0]; exact ((Below.refl _ w).alloc (Nat.le_refl _) _).alloc (by simp) _
  have hsz : W0.heap.size = w.heap.size + 2 := by rw [← hW0]; simp
  obtain ⟨a0, a1, a2, a3⟩ := c4 nA
  have KA : ∀ w', Hid (Below W0.heap.size W0 w' → w'.heap[w.heap.size]? = some (.cells (rowc (iw A)) 32 (0, 0))) := fun w' h => old4 nA h (by omega)
  have KR : ∀ w', Hid (Below W0.heap.size W0 w' → w'.heap[w.heap.size + 1]? = some (.cells (rowc (iw noneW)) 32 (0, 0))) := fun w' h => old4 nR h (by omega)
  have KB : ∀ w', Hid (Below W0.heap.size W0 w' → Below w.heap.size w w') := fun w' h => hb0.trans (h.mono (by omega))
  clear nA nR hb0 hsz
  rw [bvl]
  go_enter Try.func29, Try.ntmps29
  go_wp2_with fail
  refine (hasr_n hA i _).mono ?_
  rintro e W1 ⟨rfl, hb1⟩
  have nA := (KA W1).out hb1
  have nR := (KR W1).out hb1
  have hb := (KB W1).out hb1
  clear a0 a1 a2 a3 KA KR KB hb1 hW0
  cases hh : hasI A i with
  | false =>
    have es := without_same hA i hh
    clear hh
    have HA1 := Lib.hid nA
    have HR1 := Lib.hid nR
    have HB1 := Lib.hid hb
    clear nA nR hb
    obtain ⟨a0, a1, a2, a3⟩ := c4 (HA1.out)
    have k0 := frozen_row (HR1.out) 0
    have k1 := frozen_row (HR1.out) 1
    have k2 := frozen_row (HR1.out) 2
    have k3 := frozen_row (HR1.out) 3
    obtain ⟨e0, e1, e2, e3⟩ := c4 (HR1.out)
    have hw := set4 (HR1.out) (iw A)
    have hbw := (below_set (below_set (below_set (below_set HB1.out (w.heap.size + 1) (by omega) 0 (.int .u64 (A 0 : Int))) (w.heap.size + 1) (by omega) 1 (.int .u64 (A 1 : Int))) (w.heap.size + 1) (by omega) 2 (.int .u64 (A 2 : Int))) (w.heap.size + 1) (by omega) 3 (.int .u64 (A 3 : Int)))
    simp only [iw] at hw
    generalize hW9 : ((((W1.setCell ⟨w.heap.size + 1, 0, none⟩ (.int .u64 (A 0 : Int))).setCell ⟨w.heap.size + 1, 1, none⟩ (.int .u64 (A 1 : Int))).setCell ⟨w.heap.size + 1, 2, none⟩ (.int .u64 (A 2 : Int))).setCell ⟨w.heap.size + 1, 3, none⟩ (.int .u64 (A 3 : Int))) = W9 at *
    have HBW := Lib.hid hbw
    have HW : Hid (W9.heap[w.heap.size + 1]? = some (.cells (rowc (iw A)) 32 (0, 0))) := hw
    clear hw hbw
    go_wp2
    obtain ⟨q0, q1, q2, q3⟩ := c4 HW.out
    refine bodyPost_ret (v := bv (iw (A))) ?_ rfl ⟨by first | rw [es] | rfl, HBW.out⟩
    simp [bv, rowc, iw, results, Try.results29, go_sem, q0, q1, q2, q3]
  | true =>
    have h01 : 0 ≤ i ∧ i < 256 := by
      unfold hasI at hh
      split at hh
      · assumption
      · cases hh
    obtain ⟨n, rfl⟩ : ∃ n : Nat, i = (n : Int) := ⟨i.toNat, by omega⟩
    have hn : n < 256 := by omega
    have hn' : (n : Int) ≤ 255 := by omega
    clear h01
    have ki : n / 64 < 4 := by omega
    have kj : n % 64 < 64 := by omega
    have hz := hA (n / 64) ki
    have hbit : (A (n / 64)).testBit (n % 64) = true := by
      unfold hasI hasN at hh
      rw [if_pos (by omega), Int.toNat_natCast] at hh
      exact hh
    have hpow : IntKind.u64.wrap (2 ^ (n % 64)) = 2 ^ (n % 64) := by
      have e : (2 : Int) ^ (n % 64) = ((2 ^ (n % 64) : Nat) : Int) := by simp
      have l : 2 ^ (n % 64) < 18446744073709551616 := (Nat.pow_lt_pow_right (a := 2) (m := n % 64) (n := 64) (by omega) kj : 2 ^ (n % 64) < 2 ^ 64)
      rw [IntKind.wrap_u64, e]
      generalize 2 ^ (n % 64) = m at *
      omega
    have hwrap : IntKind.u64.wrap ((A (n / 64) : Int) - 2 ^ (n % 64)) = ((A (n / 64) : Int) - 2 ^ (n % 64)) := by
      have e : (2 : Int) ^ (n % 64) = ((2 ^ (n % 64) : Nat) : Int) := by simp
      have l := (bit_sub _ _ hz kj hbit).1
      rw [IntKind.wrap_u64, e]
      generalize 2 ^ (n % 64) = m at *
      omega
    have hset := rowc_without (A := A) n hn hbit hz
    have c1 := cell_row nA (n / 64) ki
    have f1 := frozen_row nA (n / 64)
    have nA2 : (W1.setCell ⟨w.heap.size, n / 64, none⟩ (.int .u64 ((A (n / 64) : Int) - 2 ^ (n % 64)))).heap[w.heap.size]? = some (.cells (rowc (iw (withoutW A n))) 32 (0, 0)) := by
      rw [← hset]
      exact Lib.heap_setCell_same (i := n / 64) nA (.int .u64 ((A (n / 64) : Int) - 2 ^ (n % 64)))
    have nR2 : (W1.setCell ⟨w.heap.size, n / 64, none⟩ (.int .u64 ((A (n / 64) : Int) - 2 ^ (n % 64)))).heap[w.heap.size + 1]? = some (.cells (rowc (iw noneW)) 32 (0, 0)) := (Below.heap_setCell _ _ _ _ (by simp)).trans nR
    have hb2 : Below w.heap.size w (W1.setCell ⟨w.heap.size, n / 64, none⟩ (.int .u64 ((A (n / 64) : Int) - 2 ^ (n % 64)))) := below_set hb w.heap.size (Nat.le_refl _) _ _
    simp only [iw] at c1
    clear hset nA nR hb hbit
    generalize hW2 : W1.setCell ⟨w.heap.size, n / 64, none⟩ (.int .u64 ((A (n / 64) : Int) - 2 ^ (n % 64))) = W2 at *
    have HA2 := Lib.hid nA2
    have HR2 := Lib.hid nR2
    have HB2 := Lib.hid hb2
    clear nA2 nR2 hb2
    generalize hX : withoutW A n = X at *
    have HX := Lib.hid hX
    clear hX
    obtain ⟨a0, a1, a2, a3⟩ := c4 (HA2.out)
    have k0 := frozen_row (HR2.out) 0
    have k1 := frozen_row (HR2.out) 1
    have k2 := frozen_row (HR2.out) 2
    have k3 := frozen_row (HR2.out) 3
    obtain ⟨e0, e1, e2, e3⟩ := c4 (HR2.out)
    have hw := set4 (HR2.out) (iw X)
    have hbw := (below_set (below_set (below_set (below_set HB2.out (w.heap.size + 1) (by omega) 0 (.int .u64 (X 0 : Int))) (w.heap.size + 1) (by omega) 1 (.int .u64 (X 1 : Int))) (w.heap.size + 1) (by omega) 2 (.int .u64 (X 2 : Int))) (w.heap.size + 1) (by omega) 3 (.int .u64 (X 3 : Int)))
    simp only [iw] at hw
    generalize hW9 : ((((W2.setCell ⟨w.heap.size + 1, 0, none⟩ (.int .u64 (X 0 : Int))).setCell ⟨w.heap.size + 1, 1, none⟩ (.int .u64 (X 1 : Int))).setCell ⟨w.heap.size + 1, 2, none⟩ (.int .u64 (X 2 : Int))).setCell ⟨w.heap.size + 1, 3, none⟩ (.int .u64 (X 3 : Int))) = W9 at *
    have HBW := Lib.hid hbw
    have HW : Hid (W9.heap[w.heap.size + 1]? = some (.cells (rowc (iw X)) 32 (0, 0))) := hw
    clear hw hbw
    go_wp2
    obtain ⟨q0, q1, q2, q3⟩ := c4 HW.out
    refine bodyPost_ret (v := bv (iw (X))) ?_ rfl ⟨by rw [HX.out], HBW.out⟩
    simp [bv, rowc, iw, results, Try.results29, go_sem, q0, q1, q2, q3]
end Go.Proofs.Ytdmfdgadhobkpaa.Bits
