/-
  The reference of the sets: List, Len, Same.
-/
import Derived.Test.YtdmfdgadhobkpaaRef3
import Derived.Test.YtdmfdgadhobkpaaBits19
import Derived.Deep.Onto
namespace Go.Proofs.Ytdmfdgadhobkpaa.Bits
open Go.RowKit Go.Shelf

def preN (A : Nat → Nat) (i : Nat) : List Nat := (List.range i).filter (hasN A)
theorem preN_le (A : Nat → Nat) (i : Nat) : (preN A i).length ≤ i := by
  have := List.length_filter_le (hasN A) (List.range i)
  simpa [preN] using this
theorem preN_yes (A : Nat → Nat) (i : Nat) (h : hasN A i = true) : preN A (i + 1) = preN A i ++ [i] := by
  simp [preN, List.range_succ, List.filter_append, h]
theorem preN_no (A : Nat → Nat) (i : Nat) (h : hasN A i = false) : preN A (i + 1) = preN A i := by
  simp [preN, List.range_succ, List.filter_append, h]
set_option maxHeartbeats 4000000 in
set_option maxRecDepth 100000 in
theorem listr_n {A : Nat → Nat} (hA : Ws A) (w : World) : Calls Try.prog 32 #[bv (iw A)] w fun e w' => ∃ v, e = .returned v ∧ w'.ownsRow w.heap.size 3 1 v (listN A).length ((cast (listN A)).map (.int .i64)) ∧ Below w.heap.size w w' := by
  obtain ⟨W0, hW0⟩ : ∃ W0, w.alloc (.cells #[.int .u64 (A 0 : Int), .int .u64 (A 1 : Int), .int .u64 (A 2 : Int), .int .u64 (A 3 : Int)] 32) = W0 := ⟨_, rfl⟩
  have nA : W0.heap[w.heap.size]? = some (.cells (rowc (iw A)) 32 (0, 0)) := by rw [← hW0]; exact heap_new _ _ _ rfl
  have hb0 : Below w.heap.size w W0 := by rw [← hW0]; exact (Below.refl _ w).alloc (Nat.le_refl _) _
  have hsz : W0.heap.size = w.heap.size + 1 := by rw [← hW0]; simp
  have HA := Lib.hid nA
  have HL := Lib.hid hb0
  have HZ : Hid (w.heap.size + 1 ≤ W0.heap.size) := Nat.le_of_eq hsz.symm
  clear nA hb0 hsz
  obtain ⟨i0, hi0, hz0, hz1, hz2⟩ := info_parts infoI64
  rw [bvl A]
  go_enter Try.func32, Try.ntmps32
  go_wp2
  clear hW0
  go_loopg [3, 4] 256 (fun g v iv wr => ∃ (i : Nat), i ≤ 256 ∧ iv = .int .i64 (i : Int) ∧ Aside (256 - i = g) ∧ Aside (wr.ownsRow (w.heap.size + 1) 3 1 v (preN A i).length ((cast (preN A i)).map (.int .i64))) ∧ Aside (wr.heap[w.heap.size]? = some (.cells (rowc (iw A)) 32 (0, 0))) ∧ Aside (Below w.heap.size w wr) ∧ Aside (w.heap.size + 1 ≤ wr.heap.size))
  case atStart => exact ⟨0, by decide, rfl, rfl, World.ownsRow_nil _ _ _ _, HA.out, HL.out, HZ.out⟩
  case round =>
    obtain ⟨i, hi, rfl, hk, hown, nX, hbel, hsz⟩ := hrel
    clear HA HL HZ
    by_cases hlt : i < 256
    · obtain ⟨b0, b1, b2, b3⟩ := c4 nX.out
      go_wp2_with fail
      refine (hasr_n hA (i : Int) _).mono ?_
      rintro e W1 ⟨rfl, hb1⟩
      have hI : hasI A (i : Int) = hasN A i := by unfold hasI; rw [if_pos (by omega), Int.toNat_natCast]
      have nX1 := Lib.hid (old4 nX.out hb1 (lt4 nX.out))
      have hbel1 := Lib.hid (hbel.out.trans (hb1.mono hbel.out.size))
      have hO1 := Lib.hid (own_below hown.out hb1)
      have hsz1 : Hid (w.heap.size + 1 ≤ W1.heap.size) := Nat.le_trans hsz.out hb1.size
      clear hb1 b0 b1 b2 b3 nX hbel hown hsz
      have hple := preN_le A i
      cases hh : hasN A i with
      | false =>
        have hI2 := hI.trans hh
        have hp := Lib.hid (preN_no A i hh)
        go_wp2
        go_roundg (256 - (i + 1))
        case measure => have := hk.out; omega
        case rel => exact ⟨i + 1, by omega, by go_num, rfl, by rw [hp.out]; exact hO1.out, nX1.out, hbel1.out, hsz1.out⟩
      | true =>
        have hI2 := hI.trans hh
        have hp : Hid ((cast (preN A (i + 1))).map (Value.int .i64) = (cast (preN A i)).map (Value.int .i64) ++ [.int .i64 (i : Int)] ∧ (preN A (i + 1)).length = (preN A i).length + 1) := by
          rw [RowKit.Hid, preN_yes A i hh]
          constructor
          · simp [cast]
          · simp
        go_wp2_with (at_builtin; go_must (refine wpList_append_own _ rfl _ _ 34 rfl (w.heap.size + 1) 3 i0 (.int .i64 0) 1 8 Try.underlying34 hi0 hz0 hz1 hz2 rfl (by decide) _ _ _ rfl (hO1.out.alloc _) ⟨W1.heap.size, 0, none⟩ 1 1 [.int .i64 (i : Int)] rfl rfl (cell_one_new _ _ _) (by simp [Value.oneCell']) (by unfold maxLen; omega) (by omega) (by have := hsz1.out; simp; omega) ?_; intro v' w1 hown' hgrow _))
        have hO2 : Hid (w1.ownsRow (w.heap.size + 1) 3 1 v' (preN A (i + 1)).length ((cast (preN A (i + 1))).map (.int .i64))) := by
          rw [hp.out.1, hp.out.2]; exact hown'
        have hk2 := fun j (e : _ = some j) => (hO1.out.lt j e).1
        have hB2 : Hid (Below (w.heap.size + 1) W1 w1) := ((Below.refl _ W1).alloc hsz1.out _).grown hgrow (by have := hsz1.out; simp; omega) (fun j e => hk2 j e)
        have nX2 := Lib.hid (old4 nX1.out hB2.out (Nat.lt_succ_self _))
        have hL2 := Lib.hid (hbel1.out.trans (hB2.out.mono (Nat.le_succ _)))
        have hs2 : Hid (w.heap.size + 1 ≤ w1.heap.size) := Nat.le_trans hsz1.out hB2.out.size
        clear hown' hgrow hk2
        go_wp2
        go_roundg (256 - (i + 1))
        case measure => have := hk.out; omega
        case rel => exact ⟨i + 1, by omega, by go_num, rfl, hO2.out, nX2.out, hL2.out, hs2.out⟩
    · obtain rfl : i = 256 := by omega
      rw [show ((256 : Nat) : Int) = 256 from rfl]
      go_wp2
      go_ret
      exact ⟨_, rfl, World.ownsRow.mono hown.out (Nat.le_succ _), hbel.out⟩
set_option maxHeartbeats 4000000 in
set_option maxRecDepth 100000 in
theorem lenr_n {A : Nat → Nat} (hA : Ws A) (w : World) : Calls Try.prog 17 #[bv (iw A)] w fun e w' => e = .returned (.int .i64 ((listN A).length : Int)) ∧ Below w.heap.size w w' := by
  obtain ⟨W0, hW0⟩ : ∃ W0, w.alloc (.cells #[.int .u64 (A 0 : Int), .int .u64 (A 1 : Int), .int .u64 (A 2 : Int), .int .u64 (A 3 : Int)] 32) = W0 := ⟨_, rfl⟩
  have nA : W0.heap[w.heap.size]? = some (.cells (rowc (iw A)) 32 (0, 0)) := by rw [← hW0]; exact heap_new _ _ _ rfl
  have hb0 : Below w.heap.size w W0 := by rw [← hW0]; exact (Below.refl _ w).alloc (Nat.le_refl _) _
  have HL := Lib.hid hb0
  obtain ⟨a0, a1, a2, a3⟩ := c4 nA
  clear nA hb0
  have hle := len_le A
  rw [bvl A]
  go_enter Try.func17, Try.ntmps17
  go_wp2_with fail
  clear hW0 a0 a1 a2 a3
  refine (listr_n hA _).mono ?_
  rintro e W1 ⟨v, rfl, ho, hb1⟩
  obtain ⟨A1, c1, rfl, _⟩ := own_rdI ho (by omega)
  have HB1 := Lib.hid hb1
  clear ho hb1
  go_wp2
  go_ret
  exact ⟨rfl, HL.out.trans (HB1.out.mono HL.out.size)⟩
end Go.Proofs.Ytdmfdgadhobkpaa.Bits
