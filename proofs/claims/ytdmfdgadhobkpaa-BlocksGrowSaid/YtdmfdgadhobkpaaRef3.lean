/-
  The reference of the sets: And, Minus.
-/
import Derived.Test.YtdmfdgadhobkpaaRef2
namespace Go.Proofs.Ytdmfdgadhobkpaa.Bits
open Go.RowKit Go.Shelf

set_option maxHeartbeats 4000000 in
set_option maxRecDepth 100000 in
theorem andr_n {A B : Nat → Nat} (hA : Ws A) (hB : Ws B) (w : World) : Calls Try.prog 15 #[bv (iw A), bv (iw B)] w fun e w' => e = .returned (bv (iw (andW A B))) ∧ Below w.heap.size w w' := by
  obtain ⟨W0, hW0⟩ : ∃ W0, ((w.alloc (.cells #[.int .u64 (A 0 : Int), .int .u64 (A 1 : Int), .int .u64 (A 2 : Int), .int .u64 (A 3 : Int)] 32)).alloc (.cells #[.int .u64 (B 0 : Int), .int .u64 (B 1 : Int), .int .u64 (B 2 : Int), .int .u64 (B 3 : Int)] 32)).alloc (.cells #[.int .u64 0, .int .u64 0, .int .u64 0, .int .u64 0] 32) = W0 := ⟨_, rfl⟩
  have nA : W0.heap[w.heap.size]? = some (.cells (rowc (iw A)) 32 (0, 0)) := by rw [← hW0, Below.heap_alloc _ _ _ (by simp; omega), Below.heap_alloc _ _ _ (by simp)]; exact heap_new _ _ _ rfl
  have nB : W0.heap[w.heap.size + 1]? = some (.cells (rowc (iw B)) 32 (0, 0)) := by rw [← hW0, Below.heap_alloc _ _ _ (by simp)]; exact heap_new _ _ _ (by simp)
  have nR : W0.heap[w.heap.size + 2]? = some (.cells (rowc (iw noneW)) 32 (0, 0)) := by rw [← hW0]; exact heap_new _ _ _ (by simp)
  have hb0 : Below w.heap.size w W0 := by rw [← hW0]; exact (((Below.refl _ w).alloc (Nat.le_refl _) _).alloc (by simp) _).alloc (by simp; omega) _
  have HA := Lib.hid nA
  have HB := Lib.hid nB
  have HR := Lib.hid nR
  have HL := Lib.hid hb0
  clear nA nB nR hb0
  rw [bvl A, bvl B]
  go_enter Try.func15, Try.ntmps15
  go_wp2
  clear hW0
  go_loopg [5] 256 (fun g iv wr => ∃ (i : Nat) (X : Nat → Nat), i ≤ 256 ∧ iv = .int .i64 (i : Int) ∧ Aside (256 - i = g) ∧ Aside (Ws X) ∧ Aside (∀ m, m < 256 → hasN X m = (hasN A m && (decide (i ≤ m) || hasN B m))) ∧ Aside (wr.heap[w.heap.size]? = some (.cells (rowc (iw X)) 32 (0, 0))) ∧ Aside (wr.heap[w.heap.size + 1]? = some (.cells (rowc (iw B)) 32 (0, 0))) ∧ Aside (wr.heap[w.heap.size + 2]? = some (.cells (rowc (iw noneW)) 32 (0, 0))) ∧ Aside (Below w.heap.size w wr))
  case atStart => exact ⟨0, A, by decide, rfl, rfl, hA, fun m hm => by simp, HA.out, HB.out, HR.out, HL.out⟩
  case round =>
    obtain ⟨i, X, hi, rfl, hk, hX, hin, nX, nB, nR, hbel⟩ := hrel
    clear HA HB HR HL
    by_cases hlt : i < 256
    · obtain ⟨b0, b1, b2, b3⟩ := c4 nB.out
      go_wp2_with fail
      refine (hasr_n hB (i : Int) _).mono ?_
      rintro e W1 ⟨rfl, hb1⟩
      have hI : hasI B (i : Int) = hasN B i := by unfold hasI; rw [if_pos (by omega), Int.toNat_natCast]
      have nX1 := Lib.hid (old4 nX.out hb1 (lt4 nX.out))
      have nB1 := Lib.hid (old4 nB.out hb1 (lt4 nB.out))
      have nR1 := Lib.hid (old4 nR.out hb1 (lt4 nR.out))
      have hbel1 := Lib.hid (hbel.out.trans (hb1.mono hbel.out.size))
      clear hb1 b0 b1 b2 b3
      cases hh : hasN B i with
      | true =>
        have hI2 := hI.trans hh
        go_wp2
        go_roundg (256 - (i + 1))
        case measure => have := hk.out; omega
        case rel =>
          refine ⟨i + 1, X, by omega, by go_num, rfl, hX.out, fun m hm => ?_, nX1.out, nB1.out, nR1.out, hbel1.out⟩
          rw [hin.out m hm]
          by_cases he : m = i
          · subst he; simp [hh]
          · rw [show decide (i + 1 ≤ m) = decide (i ≤ m) from decide_eq_decide.2 (by omega)]
      | false =>
        have hI2 := hI.trans hh
        obtain ⟨a0, a1, a2, a3⟩ := c4 nX1.out
        go_wp2_with fail
        clear a0 a1 a2 a3
        refine (withoutr_n hX.out (i : Int) _).mono ?_
        rintro e W2 ⟨rfl, hb2⟩
        have nX2 := Lib.hid (old4 nX1.out hb2 (lt4 nX1.out))
        have nB2 := Lib.hid (old4 nB1.out hb2 (lt4 nB1.out))
        have nR2 := Lib.hid (old4 nR1.out hb2 (lt4 nR1.out))
        have hbel2 := Lib.hid (hbel1.out.trans (hb2.mono hbel1.out.size))
        have hY : Hid (Ws (withoutW X (i : Int))) := hX.out.min
        have hinY : Hid (∀ m, m < 256 → hasN (withoutW X (i : Int)) m = (hasN X m && !decide ((i : Int) = (m : Int)))) := fun m hm => has_without X i m hm
        clear hb2 nX1 nB1 nR1 hbel1
        generalize withoutW X (i : Int) = Y at *
        simp only [bvl]
        have k0 := frozen_row (nX2.out) 0
        have k1 := frozen_row (nX2.out) 1
        have k2 := frozen_row (nX2.out) 2
        have k3 := frozen_row (nX2.out) 3
        obtain ⟨e0, e1, e2, e3⟩ := c4 (nX2.out)
        have hw := set4 (nX2.out) (iw Y)
        simp only [iw] at hw
        have hbw := (below_set (below_set (below_set (below_set hbel2.out (w.heap.size) (by omega) 0 (.int .u64 (Y 0 : Int))) (w.heap.size) (by omega) 1 (.int .u64 (Y 1 : Int))) (w.heap.size) (by omega) 2 (.int .u64 (Y 2 : Int))) (w.heap.size) (by omega) 3 (.int .u64 (Y 3 : Int)))
        have nB30 := (set4_other W2 (w.heap.size) (w.heap.size + 1) (by omega) (.int .u64 (Y 0 : Int)) (.int .u64 (Y 1 : Int)) (.int .u64 (Y 2 : Int)) (.int .u64 (Y 3 : Int))).trans (nB2.out)
        have nR30 := (set4_other W2 (w.heap.size) (w.heap.size + 2) (by omega) (.int .u64 (Y 0 : Int)) (.int .u64 (Y 1 : Int)) (.int .u64 (Y 2 : Int)) (.int .u64 (Y 3 : Int))).trans (nR2.out)
        generalize hW9 : ((((W2.setCell ⟨w.heap.size, 0, none⟩ (.int .u64 (Y 0 : Int))).setCell ⟨w.heap.size, 1, none⟩ (.int .u64 (Y 1 : Int))).setCell ⟨w.heap.size, 2, none⟩ (.int .u64 (Y 2 : Int))).setCell ⟨w.heap.size, 3, none⟩ (.int .u64 (Y 3 : Int))) = W3 at *
        have HBW := Lib.hid hbw
        have HS : Hid (W3.heap[w.heap.size]? = some (.cells (rowc (iw Y)) 32 (0, 0))) := hw
        have nB3 : Hid (W3.heap[w.heap.size + 1]? = some (.cells (rowc (iw B)) 32 (0, 0))) := nB30
        have nR3 : Hid (W3.heap[w.heap.size + 2]? = some (.cells (rowc (iw noneW)) 32 (0, 0))) := nR30
        clear hw hbw nB30 nR30
        clear nX2 nB2 nR2 hbel2
        go_wp2
        go_roundg (256 - (i + 1))
        case measure => have := hk.out; omega
        case rel =>
          refine ⟨i + 1, Y, by omega, by go_num, rfl, hY.out, fun m hm => ?_, HS.out, nB3.out, nR3.out, HBW.out⟩
          rw [hinY.out m hm, hin.out m hm]
          by_cases he : m = i
          · subst he; simp [hh]
          · rw [show decide (i + 1 ≤ m) = decide (i ≤ m) from decide_eq_decide.2 (by omega)]
            simp [show ¬ (i : Int) = (m : Int) by omega]
    · obtain rfl : i = 256 := by omega
      have es : Hid (bv (iw X) = bv (iw (andW A B))) := bv_ext hX.out (hA.and) fun m hm => by
        rw [hin.out m hm, has_and, decide_eq_false (by omega : ¬ 256 ≤ m), Bool.false_or]
      rw [show ((256 : Nat) : Int) = 256 from rfl]
      obtain ⟨a0, a1, a2, a3⟩ := c4 (nX.out)
      have k0 := frozen_row (nR.out) 0
      have k1 := frozen_row (nR.out) 1
      have k2 := frozen_row (nR.out) 2
      have k3 := frozen_row (nR.out) 3
      obtain ⟨e0, e1, e2, e3⟩ := c4 (nR.out)
      have hw := set4 (nR.out) (iw X)
      have hbw := (below_set (below_set (below_set (below_set hbel.out (w.heap.size + 2) (by omega) 0 (.int .u64 (X 0 : Int))) (w.heap.size + 2) (by omega) 1 (.int .u64 (X 1 : Int))) (w.heap.size + 2) (by omega) 2 (.int .u64 (X 2 : Int))) (w.heap.size + 2) (by omega) 3 (.int .u64 (X 3 : Int)))
      simp only [iw] at hw
      generalize hW9 : ((((wr.setCell ⟨w.heap.size + 2, 0, none⟩ (.int .u64 (X 0 : Int))).setCell ⟨w.heap.size + 2, 1, none⟩ (.int .u64 (X 1 : Int))).setCell ⟨w.heap.size + 2, 2, none⟩ (.int .u64 (X 2 : Int))).setCell ⟨w.heap.size + 2, 3, none⟩ (.int .u64 (X 3 : Int))) = W9 at *
      have HBW := Lib.hid hbw
      have HW : Hid (W9.heap[w.heap.size + 2]? = some (.cells (rowc (iw X)) 32 (0, 0))) := hw
      clear hw hbw
      clear nX nB nR
      go_wp2
      obtain ⟨q0, q1, q2, q3⟩ := c4 HW.out
      refine bodyPost_ret (v := bv (iw (X))) ?_ rfl ⟨by rw [es.out], HBW.out⟩
      simp [bv, rowc, iw, results, Try.results15, go_sem, q0, q1, q2, q3]
end Go.Proofs.Ytdmfdgadhobkpaa.Bits
