/-
  The reference of the sets: Of, Or.
-/
import Derived.Test.YtdmfdgadhobkpaaRef4
import Derived.StillTailTactics
namespace Go.Proofs.Ytdmfdgadhobkpaa.Bits
open Go.RowKit Go.Shelf

theorem ofN_snoc (l : List Int) (x : Int) : ofN (l ++ [x]) = withW (ofN l) x := by simp [ofN, List.foldl_append]
theorem has_orL_take (L : List (Nat → Nat)) (k m : Nat) (h : k < L.length) : hasN (orL (L.take (k + 1))) m = (hasN (orL (L.take k)) m || hasN (L.getD k noneW) m) := by
  rw [has_orL, has_orL, ← List.take_append_getElem h, List.any_append]
  simp [List.getD_eq_getElem?_getD, List.getElem?_eq_getElem h]
set_option maxHeartbeats 4000000 in
set_option maxRecDepth 100000 in
theorem ofr_n (A : Option Addr) (n c : Nat) (zs : List Int) (w : World) (h : RdI w A n zs) :
    Calls Try.prog 23 #[.slice A n c] w fun e w' => e = .returned (bv (iw (ofN zs))) ∧ Below w.heap.size w w' := by
  have H := Lib.hid h
  have hm := h.2.1
  have HZ := Lib.hid h.1
  clear h
  go_enter Try.func23, Try.ntmps23
  go_wp2
  go_loopg [4] n (fun g iv wr => ∃ (i : Nat), i ≤ n ∧ iv = .int .i64 (i : Int) ∧ Aside (n - i = g) ∧ Aside (wr.heap[w.heap.size + 1]? = some (.cells (rowc (iw (ofN (zs.take i)))) 32 (0, 0))) ∧ Aside (wr.heap[w.heap.size]? = some (.cells (rowc (iw noneW)) 32 (0, 0))) ∧ Aside (Below w.heap.size w wr))
  case atStart =>
    refine ⟨0, Nat.zero_le _, rfl, rfl, ?_, ?_, ?_⟩
    · exact heap_new _ _ _ (by simp)
    · rw [Below.heap_alloc _ _ _ (by simp)]
      exact heap_new _ _ _ rfl
    · exact ((Below.refl _ w).alloc (Nat.le_refl _) _).alloc (by simp) _
  case round =>
    obtain ⟨i, hi, rfl, hk, nX, nR, hbel⟩ := hrel
    by_cases hlt : i < n
    · have hR1 := H.out.below hbel.out (Nat.le_refl _)
      obtain ⟨b, o, rfl, hcc⟩ := hR1.2.2 (by omega)
      clear hcc
      have g0 := hR1.atI i hlt
      have q4 : (0 : Int) ≤ (i : Int) := by omega
      have q5 : (i : Int) < (n : Int) := by omega
      have hX : Hid (Ws (ofN (zs.take i))) := Ws.ofN _
      have hsn : Hid (ofN (zs.take (i + 1)) = withW (ofN (zs.take i)) (zs.getD i 0)) := by rw [RowKit.Hid, take_int zs i (by rw [HZ.out]; exact hlt), ofN_snoc]
      clear hR1
      generalize zs.getD i 0 = z at *
      generalize ofN (zs.take i) = X at *
      obtain ⟨a0, a1, a2, a3⟩ := c4 nX.out
      go_wp2_with fail
      go_still_tail 5, (by kernel_rfl)
      change wpList _ _ _ _ _ (World.drew _)
      go_wp2_with fail
      refine (withr_n hX.out z _).mono ?_
      rintro e W2 ⟨rfl, hb2⟩
      have hb2' : Below wr.heap.size wr W2 := ⟨hb2.os, hb2.tape, hb2.output, hb2.size, hb2.block⟩
      have nX2 := Lib.hid (old4 nX.out hb2' (lt4 nX.out))
      have nR2 := Lib.hid (old4 nR.out hb2' (lt4 nR.out))
      have hbel2 := Lib.hid (hbel.out.trans (hb2'.mono hbel.out.size))
      clear a0 a1 a2 a3 g0 hb2 hb2'
      rw [← hsn.out]
      generalize hYY : ofN (zs.take (i + 1)) = Y at *
      have HYY := Lib.hid hYY
      clear hYY
      simp only [bvl]
      have k0 := frozen_row (nX2.out) 0
      have k1 := frozen_row (nX2.out) 1
      have k2 := frozen_row (nX2.out) 2
      have k3 := frozen_row (nX2.out) 3
      obtain ⟨e0, e1, e2, e3⟩ := c4 (nX2.out)
      have hw := set4 (nX2.out) (iw Y)
      simp only [iw] at hw
      have hbw := (below_set (below_set (below_set (below_set hbel2.out (w.heap.size + 1) (by omega) 0 (.int .u64 (Y 0 : Int))) (w.heap.size + 1) (by omega) 1 (.int .u64 (Y 1 : Int))) (w.heap.size + 1) (by omega) 2 (.int .u64 (Y 2 : Int))) (w.heap.size + 1) (by omega) 3 (.int .u64 (Y 3 : Int)))
      have nR30 := (set4_other W2 (w.heap.size + 1) (w.heap.size) (by omega) (.int .u64 (Y 0 : Int)) (.int .u64 (Y 1 : Int)) (.int .u64 (Y 2 : Int)) (.int .u64 (Y 3 : Int))).trans (nR2.out)
      generalize hW9 : ((((W2.setCell ⟨w.heap.size + 1, 0, none⟩ (.int .u64 (Y 0 : Int))).setCell ⟨w.heap.size + 1, 1, none⟩ (.int .u64 (Y 1 : Int))).setCell ⟨w.heap.size + 1, 2, none⟩ (.int .u64 (Y 2 : Int))).setCell ⟨w.heap.size + 1, 3, none⟩ (.int .u64 (Y 3 : Int))) = W3 at *
      have HBW := Lib.hid hbw
      have HS : Hid (W3.heap[w.heap.size + 1]? = some (.cells (rowc (iw Y)) 32 (0, 0))) := hw
      have nR3 : Hid (W3.heap[w.heap.size]? = some (.cells (rowc (iw noneW)) 32 (0, 0))) := nR30
      clear hw hbw nR30
      go_wp2
      go_roundg (n - (i + 1))
      case measure => have := hk.out; omega
      case rel => exact ⟨i + 1, by omega, by go_num, rfl, by rw [HYY.out]; exact HS.out, nR3.out, HBW.out⟩
    · obtain rfl : i = n := by omega
      rw [List.take_of_length_le (by rw [HZ.out]; exact Nat.le_refl _)] at nX
      generalize hY : ofN zs = Y at *
      have HY := Lib.hid hY
      clear hY
      obtain ⟨a0, a1, a2, a3⟩ := c4 (nX.out)
      have k0 := frozen_row (nR.out) 0
      have k1 := frozen_row (nR.out) 1
      have k2 := frozen_row (nR.out) 2
      have k3 := frozen_row (nR.out) 3
      obtain ⟨e0, e1, e2, e3⟩ := c4 (nR.out)
      have hw := set4 (nR.out) (iw Y)
      have hbw := (below_set (below_set (below_set (below_set hbel.out (w.heap.size) (by omega) 0 (.int .u64 (Y 0 : Int))) (w.heap.size) (by omega) 1 (.int .u64 (Y 1 : Int))) (w.heap.size) (by omega) 2 (.int .u64 (Y 2 : Int))) (w.heap.size) (by omega) 3 (.int .u64 (Y 3 : Int)))
      simp only [iw] at hw
      generalize hW9 : ((((wr.setCell ⟨w.heap.size, 0, none⟩ (.int .u64 (Y 0 : Int))).setCell ⟨w.heap.size, 1, none⟩ (.int .u64 (Y 1 : Int))).setCell ⟨w.heap.size, 2, none⟩ (.int .u64 (Y 2 : Int))).setCell ⟨w.heap.size, 3, none⟩ (.int .u64 (Y 3 : Int))) = W9 at *
      have HBW := Lib.hid hbw
      have HW : Hid (W9.heap[w.heap.size]? = some (.cells (rowc (iw Y)) 32 (0, 0))) := hw
      clear hw hbw
      clear nX nR
      go_wp2
      obtain ⟨q0, q1, q2, q3⟩ := c4 HW.out
      refine bodyPost_ret (v := bv (iw (Y))) ?_ rfl ⟨by rw [HY.out], HBW.out⟩
      simp [bv, rowc, iw, results, Try.results23, go_sem, q0, q1, q2, q3]
set_option maxHeartbeats 4000000 in
set_option maxRecDepth 100000 in
theorem orr_n (A : Option Addr) (n c : Nat) (L : List (Nat → Nat)) (hL : ∀ B ∈ L, Ws B) (w : World) (h : RdB w A n (L.map iw)) :
    Calls Try.prog 13 #[.slice A n c] w fun e w' => e = .returned (bv (iw (orL L))) ∧ Below w.heap.size w w' := by
  have H := Lib.hid h
  have hm := h.2.1
  have HZ : Hid (L.length = n) := by have := h.1; simpa [RowKit.Hid] using this
  have HWs := Lib.hid hL
  clear h hL
  go_enter Try.func13, Try.ntmps13
  go_wp2
  go_loopg [4] n (fun g kv wr => ∃ (k : Nat) (X : Nat → Nat), k ≤ n ∧ kv = .int .i64 (k : Int) ∧ Aside (n - k = g) ∧ Aside (Ws X) ∧ Aside (∀ m, m < 256 → hasN X m = hasN (orL (L.take k)) m) ∧ Aside (wr.heap[w.heap.size + 1]? = some (.cells (rowc (iw X)) 32 (0, 0))) ∧ Aside (wr.heap[w.heap.size]? = some (.cells (rowc (iw noneW)) 32 (0, 0))) ∧ Aside (Below w.heap.size w wr))
  case atStart =>
    refine ⟨0, noneW, Nat.zero_le _, rfl, rfl, Ws.none, fun m _ => by simp [orL], ?_, ?_, ?_⟩
    · exact heap_new _ _ _ (by simp)
    · rw [Below.heap_alloc _ _ _ (by simp)]
      exact heap_new _ _ _ rfl
    · exact ((Below.refl _ w).alloc (Nat.le_refl _) _).alloc (by simp) _
  case round =>
    obtain ⟨k, X0, hkn, rfl, hk, hX0, hin0, nX0, nR0, hbel0⟩ := hrel
    by_cases hltk : k < n
    · have hR1 := H.out.below hbel0.out (Nat.le_refl _)
      obtain ⟨b, o, rfl, hcc⟩ := hR1.2.2 (by omega)
      have hbo : Hid (b < w.heap.size) := by
        obtain ⟨b', o', e, hc'⟩ := H.out.2.2 (by omega)
        cases e
        exact World.block_lt_of_cell? _ _ (hc' k hltk 0 (by decide))
      have HB : Hid (Ws (L.getD k noneW)) := by
        rw [RowKit.Hid, List.getD_eq_getElem?_getD, List.getElem?_eq_getElem (by rw [HZ.out]; exact hltk)]
        exact HWs.out _ (List.getElem_mem _)
      have HC : Hid (∀ w2, Below wr.heap.size wr w2 → ∀ j, j < 4 → w2.cell? ⟨b, o + k * 4 + j, none⟩ = some (.int .u64 (((L.getD k noneW) j : Nat) : Int))) := by
        intro w2 hb j hj
        have h1 := hR1.below hb (Nat.le_refl _)
        obtain ⟨b', o', e, hc'⟩ := h1.2.2 (by omega)
        cases e
        rw [hc' k hltk j hj]
        rw [List.getD_eq_getElem?_getD, List.getD_eq_getElem?_getD, List.getElem?_map, List.getElem?_eq_getElem (by rw [HZ.out]; exact hltk)]
        rfl
      have hsn : Hid (∀ m, hasN (orL (L.take (k + 1))) m = (hasN (orL (L.take k)) m || hasN (L.getD k noneW) m)) := fun m => has_orL_take L k m (by rw [HZ.out]; exact hltk)
      clear hcc hR1
      generalize L.getD k noneW = B at *
      have q4 : (0 : Int) ≤ (k : Int) := by omega
      have q5 : (k : Int) < (n : Int) := by omega
      go_wp2
      go_loopg [5] 256 (fun g iv wr2 => ∃ (i : Nat) (X : Nat → Nat), i ≤ 256 ∧ iv = .int .i64 (i : Int) ∧ Aside (256 - i = g) ∧ Aside (Ws X) ∧ Aside (∀ m, m < 256 → hasN X m = (hasN (orL (L.take k)) m || (decide (m < i) && hasN B m))) ∧ Aside (wr2.heap[w.heap.size + 1]? = some (.cells (rowc (iw X)) 32 (0, 0))) ∧ Aside (wr2.heap[w.heap.size]? = some (.cells (rowc (iw noneW)) 32 (0, 0))) ∧ Aside (Below w.heap.size w wr2) ∧ Aside (∀ j, j < 4 → wr2.cell? ⟨b, o + k * 4 + j, none⟩ = some (.int .u64 ((B j : Nat) : Int))))
      case atStart => exact ⟨0, X0, by decide, rfl, rfl, hX0.out, fun m hm => by rw [hin0.out m hm]; simp, nX0.out, nR0.out, hbel0.out, HC.out _ (Below.refl _ _)⟩
      case round =>
        obtain ⟨i, X, hi, rfl, hki, hX, hin, nX, nR, hbel, hcB⟩ := hrel
        clear hX0 hin0 nX0 nR0 hbel0 HC
        by_cases hlt : i < 256
        · have g0 : _ = _ := hcB.out 0 (by decide)
          have g1 := hcB.out 1 (by decide)
          have g2 := hcB.out 2 (by decide)
          have g3 := hcB.out 3 (by decide)
          rw [Nat.add_zero] at g0
          go_wp2_with fail
          refine (hasr_n HB.out (i : Int) _).mono ?_
          rintro e W1 ⟨rfl, hb1⟩
          have hI : hasI B (i : Int) = hasN B i := by unfold hasI; rw [if_pos (by omega), Int.toNat_natCast]
          have hcB1 : Hid (∀ j, j < 4 → W1.cell? ⟨b, o + k * 4 + j, none⟩ = some (.int .u64 ((B j : Nat) : Int))) := fun j hj => cell_old (hcB.out j hj) hb1 (Nat.le_refl _)
          have nX1 := Lib.hid (old4 nX.out hb1 (lt4 nX.out))
          have nR1 := Lib.hid (old4 nR.out hb1 (lt4 nR.out))
          have hbel1 := Lib.hid (hbel.out.trans (hb1.mono hbel.out.size))
          clear hb1 g0 g1 g2 g3 hcB nX nR hbel
          cases hh : hasN B i with
          | false =>
            have hI2 := hI.trans hh
            go_wp2
            go_roundg (256 - (i + 1))
            case measure => have := hki.out; omega
            case rel =>
              refine ⟨i + 1, X, by omega, by go_num, rfl, hX.out, fun m hm => ?_, nX1.out, nR1.out, hbel1.out, hcB1.out⟩
              rw [hin.out m hm]
              by_cases he : m = i
              · subst he; simp [hh]
              · rw [show decide (m < i + 1) = decide (m < i) from decide_eq_decide.2 (by omega)]
          | true =>
            have hI2 := hI.trans hh
            obtain ⟨a0, a1, a2, a3⟩ := c4 nX1.out
            go_wp2_with fail
            clear a0 a1 a2 a3
            refine (withr_n hX.out (i : Int) _).mono ?_
            rintro e W2 ⟨rfl, hb2⟩
            have nX2 := Lib.hid (old4 nX1.out hb2 (lt4 nX1.out))
            have nR2 := Lib.hid (old4 nR1.out hb2 (lt4 nR1.out))
            have hbel2 := Lib.hid (hbel1.out.trans (hb2.mono hbel1.out.size))
            have hY : Hid (Ws (withW X (i : Int))) := hX.out.or (Ws.one _)
            have hinY : Hid (∀ m, m < 256 → hasN (withW X (i : Int)) m = (hasN X m || decide ((i : Int) = (m : Int)))) := fun m hm => has_with X i m hm
            have hcB2 : Hid (∀ j, j < 4 → W2.cell? ⟨b, o + k * 4 + j, none⟩ = some (.int .u64 ((B j : Nat) : Int))) := fun j hj => cell_old (hcB1.out j hj) hb2 (Nat.le_refl _)
            clear hb2 nX1 nR1 hbel1 hcB1
            generalize withW X (i : Int) = Y at *
            simp only [bvl]
            have k0 := frozen_row (nX2.out) 0
            have k1 := frozen_row (nX2.out) 1
            have k2 := frozen_row (nX2.out) 2
            have k3 := frozen_row (nX2.out) 3
            obtain ⟨e0, e1, e2, e3⟩ := c4 (nX2.out)
            have hw := set4 (nX2.out) (iw Y)
            simp only [iw] at hw
            have hbw := (below_set (below_set (below_set (below_set hbel2.out (w.heap.size + 1) (by omega) 0 (.int .u64 (Y 0 : Int))) (w.heap.size + 1) (by omega) 1 (.int .u64 (Y 1 : Int))) (w.heap.size + 1) (by omega) 2 (.int .u64 (Y 2 : Int))) (w.heap.size + 1) (by omega) 3 (.int .u64 (Y 3 : Int)))
            have nR30 := (set4_other W2 (w.heap.size + 1) (w.heap.size) (by omega) (.int .u64 (Y 0 : Int)) (.int .u64 (Y 1 : Int)) (.int .u64 (Y 2 : Int)) (.int .u64 (Y 3 : Int))).trans (nR2.out)
            have hcB30 : ∀ j, j < 4 → (((((W2.setCell ⟨w.heap.size + 1, 0, none⟩ (.int .u64 (Y 0 : Int))).setCell ⟨w.heap.size + 1, 1, none⟩ (.int .u64 (Y 1 : Int))).setCell ⟨w.heap.size + 1, 2, none⟩ (.int .u64 (Y 2 : Int))).setCell ⟨w.heap.size + 1, 3, none⟩ (.int .u64 (Y 3 : Int)))).cell? ⟨b, o + k * 4 + j, none⟩ = some (.int .u64 ((B j : Nat) : Int)) := fun j hj => set4_cell (by have := hbo.out; omega) _ _ _ _ (hcB2.out j hj)
            generalize hW9 : ((((W2.setCell ⟨w.heap.size + 1, 0, none⟩ (.int .u64 (Y 0 : Int))).setCell ⟨w.heap.size + 1, 1, none⟩ (.int .u64 (Y 1 : Int))).setCell ⟨w.heap.size + 1, 2, none⟩ (.int .u64 (Y 2 : Int))).setCell ⟨w.heap.size + 1, 3, none⟩ (.int .u64 (Y 3 : Int))) = W3 at *
            have hcB3 := Lib.hid hcB30
            clear hcB30
            have HBW := Lib.hid hbw
            have HS : Hid (W3.heap[w.heap.size + 1]? = some (.cells (rowc (iw Y)) 32 (0, 0))) := hw
            have nR3 : Hid (W3.heap[w.heap.size]? = some (.cells (rowc (iw noneW)) 32 (0, 0))) := nR30
            clear hw hbw nR30
            clear nX2 nR2 hbel2 hcB2
            go_wp2
            go_roundg (256 - (i + 1))
            case measure => have := hki.out; omega
            case rel =>
              refine ⟨i + 1, Y, by omega, by go_num, rfl, hY.out, fun m hm => ?_, HS.out, nR3.out, HBW.out, hcB3.out⟩
              rw [hinY.out m hm, hin.out m hm]
              by_cases he : m = i
              · subst he; simp [hh]
              · rw [show decide (m < i + 1) = decide (m < i) from decide_eq_decide.2 (by omega)]
                simp [show ¬ (i : Int) = (m : Int) by omega]
        · obtain rfl : i = 256 := by omega
          rw [show ((256 : Nat) : Int) = 256 from rfl]
          go_wp2
          go_roundg (n - (k + 1))
          case measure => have := hk.out; omega
          case rel =>
            refine ⟨k + 1, X, by omega, by go_num, rfl, hX.out, fun m hm => ?_, nX.out, nR.out, hbel.out⟩
            rw [hin.out m hm, hsn.out m, decide_eq_true hm, Bool.true_and]
    · obtain rfl : k = n := by omega
      have es : Hid (bv (iw X0) = bv (iw (orL L))) := bv_ext hX0.out (Ws.orL HWs.out) fun m hm => by
        rw [hin0.out m hm, List.take_of_length_le (by rw [HZ.out]; exact Nat.le_refl _)]
      obtain ⟨a0, a1, a2, a3⟩ := c4 (nX0.out)
      have k0 := frozen_row (nR0.out) 0
      have k1 := frozen_row (nR0.out) 1
      have k2 := frozen_row (nR0.out) 2
      have k3 := frozen_row (nR0.out) 3
      obtain ⟨e0, e1, e2, e3⟩ := c4 (nR0.out)
      have hw := set4 (nR0.out) (iw X0)
      have hbw := (below_set (below_set (below_set (below_set hbel0.out (w.heap.size) (by omega) 0 (.int .u64 (X0 0 : Int))) (w.heap.size) (by omega) 1 (.int .u64 (X0 1 : Int))) (w.heap.size) (by omega) 2 (.int .u64 (X0 2 : Int))) (w.heap.size) (by omega) 3 (.int .u64 (X0 3 : Int)))
      simp only [iw] at hw
      generalize hW9 : ((((wr.setCell ⟨w.heap.size, 0, none⟩ (.int .u64 (X0 0 : Int))).setCell ⟨w.heap.size, 1, none⟩ (.int .u64 (X0 1 : Int))).setCell ⟨w.heap.size, 2, none⟩ (.int .u64 (X0 2 : Int))).setCell ⟨w.heap.size, 3, none⟩ (.int .u64 (X0 3 : Int))) = W9 at *
      have HBW := Lib.hid hbw
      have HW : Hid (W9.heap[w.heap.size]? = some (.cells (rowc (iw X0)) 32 (0, 0))) := hw
      clear hw hbw
      clear nX0 nR0
      go_wp2
      obtain ⟨q0, q1, q2, q3⟩ := c4 HW.out
      refine bodyPost_ret (v := bv (iw (X0))) ?_ rfl ⟨by rw [es.out], HBW.out⟩
      simp [bv, rowc, iw, results, Try.results13, go_sem, q0, q1, q2, q3]
end Go.Proofs.Ytdmfdgadhobkpaa.Bits
