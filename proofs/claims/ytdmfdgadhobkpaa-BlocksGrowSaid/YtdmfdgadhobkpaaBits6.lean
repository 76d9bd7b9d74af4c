/-
  Package bits: Of.
-/
import Derived.Test.YtdmfdgadhobkpaaBits5
namespace Go.Proofs.Ytdmfdgadhobkpaa.Bits
open Go.RowKit

/-- A row of whole numbers, as it is read. -/
def RdI (w : World) (A : Option Addr) (n : Nat) (zs : List Int) : Prop :=
  zs.length = n ∧ n ≤ 9223372036854775807 ∧ (0 < n → ∃ b o, A = some ⟨b, o, none⟩ ∧ ∀ j, j < n → w.cell? ⟨b, o + j, none⟩ = some (.int .i64 (zs.getD j 0)))
theorem RdI.below {w w' : World} {A : Option Addr} {n : Nat} {zs : List Int} (h : RdI w A n zs) {B : Nat} (hb : Below B w w') (hB : w.heap.size ≤ B) : RdI w' A n zs := by
  obtain ⟨h1, h2, h3⟩ := h
  refine ⟨h1, h2, fun hp => ?_⟩
  obtain ⟨b, o, e, hc⟩ := h3 hp
  refine ⟨b, o, e, fun j hj => ?_⟩
  have := hc j hj
  have hlt := World.block_lt_of_cell? w _ this
  exact (World.cell?_of_block (hb.block _ (by simp at hlt ⊢; omega))).trans this
def ofW (zs : List Int) : Nat → Int := zs.foldl (fun a i => orw [a, oneW i]) (fun _ => 0)
theorem ofW_snoc (zs : List Int) (i : Int) : ofW (zs ++ [i]) = orw [ofW zs, oneW i] := by simp [ofW]
theorem take_int (zs : List Int) (i : Nat) (h : i < zs.length) : zs.take (i + 1) = zs.take i ++ [zs.getD i 0] := by
  rw [List.take_add_one, List.getElem?_eq_getElem h, List.getD_eq_getElem?_getD, List.getElem?_eq_getElem h]
  rfl

set_option maxHeartbeats 4000000 in
set_option maxRecDepth 100000 in
theorem of_any (A : Option Addr) (n c : Nat) (zs : List Int) (w : World) (h : RdI w A n zs) :
    Calls Try.prog 33 #[.slice A n c] w fun e w' => e = .returned (bv (ofW zs)) ∧ Below w.heap.size w w' := by
  have hL := h.1
  have hn := h.2.1
  have H := Lib.hid h
  clear h
  go_enter Try.func33, Try.ntmps33
  go_wp2
  go_loopg [8] n (fun g iv wr => ∃ k : Nat, k ≤ n ∧ iv = .int .i64 (k : Int) ∧ Aside (n - k = g) ∧ Aside (wr.heap[w.heap.size + 1]? = some (.cells (rowc (ofW (zs.take k))) 32 (0, 0))) ∧
    Aside (wr.heap[w.heap.size]? = some (.cells (rowc fun _ => 0) 32 (0, 0))) ∧ Aside (Below w.heap.size w wr) ∧ Aside (w.heap.size + 2 ≤ wr.heap.size))
  case atStart =>
    refine ⟨0, Nat.zero_le _, rfl, rfl, ?_, ?_, ?_, ?_⟩
    · exact heap_new _ _ _ (by simp)
    · rw [Below.heap_alloc _ _ _ (by simp)]
      exact heap_new _ _ _ rfl
    · exact ((Below.refl _ w).alloc (Nat.le_refl _) _).alloc (by simp) _
    · simp [Aside]
  case round =>
    obtain ⟨k, hk4, rfl, hk, h2, h3, hbel, hsz⟩ := hrel
    by_cases hlt : k < n
    · have HR := Lib.hid (H.out.below hbel.out (Nat.le_refl _))
      obtain ⟨b, o, rfl, hc⟩ := HR.out.2.2 (by omega)
      have g0 := hc k hlt
      have htk : Hid (ofW (zs.take (k + 1)) = orw [ofW (zs.take k), oneW (zs.getD k 0)]) := by rw [Hid, take_int zs k (by omega), ofW_snoc]
      generalize zs.getD k 0 = z at *
      generalize ofW (zs.take k) = C at *
      have c0 := cell_row h2.out 0 (by decide)
      have c1 := cell_row h2.out 1 (by decide)
      have c2 := cell_row h2.out 2 (by decide)
      have c3 := cell_row h2.out 3 (by decide)
      clear hc HR
      go_wp2_with fail
      clear c0 c1 c2 c3 g0
      refine (with_any C z wr).mono ?_
      rintro e W1 ⟨rfl, hb1⟩
      have hs := hsz.out
      have h2' : W1.heap[w.heap.size + 1]? = some (.cells (rowc C) 32 (0, 0)) := (hb1.block _ (by omega)).trans h2.out
      have h3' : Aside (W1.heap[w.heap.size]? = some (.cells (rowc fun _ => 0) 32 (0, 0))) := (hb1.block _ (by omega)).trans h3.out
      have hbel' : Aside (Below w.heap.size w W1) := hbel.out.trans (hb1.mono hbel.out.size)
      have hsz' : Aside (w.heap.size + 2 ≤ W1.heap.size) := Nat.le_trans hsz.out hb1.size
      rw [← htk.out]
      obtain ⟨D, hD⟩ : ∃ D, ofW (zs.take (k + 1)) = D := ⟨_, rfl⟩
      rw [hD]
      have HDD := Lib.hid hD
      clear hD
      have c0 := cell_row h2' 0 (by decide)
      have c1 := cell_row h2' 1 (by decide)
      have c2 := cell_row h2' 2 (by decide)
      have c3 := cell_row h2' 3 (by decide)
      have f0 := frozen_row h2' 0
      have f1 := frozen_row h2' 1
      have f2 := frozen_row h2' 2
      have f3 := frozen_row h2' 3
      have HS : Aside _ := set4 h2' D
      clear h2' htk hb1
      unfold bv rowc
      go_wp2
      go_roundg (n - (k + 1))
      case measure => have := hk.out; omega
      case rel => exact ⟨k + 1, by omega, by go_num, rfl, by rw [HDD.out]; exact HS.out, (set4_other _ _ _ (by omega) _ _ _ _).trans h3'.out, below_set (below_set (below_set (below_set hbel'.out _ (by omega) _ _) _ (by omega) _ _) _ (by omega) _ _) _ (by omega) _ _, by simpa [Aside, World.setCell] using hsz'.out⟩
    · obtain rfl : k = n := by omega
      have hLt : zs.take k = zs := List.take_of_length_le (by omega)
      rw [hLt] at h2
      have g0 := cell_row h2.out 0 (by decide)
      have g1 := cell_row h2.out 1 (by decide)
      have g2 := cell_row h2.out 2 (by decide)
      have g3 := cell_row h2.out 3 (by decide)
      have e0 := cell_row h3.out 0 (by decide)
      have e1 := cell_row h3.out 1 (by decide)
      have e2 := cell_row h3.out 2 (by decide)
      have e3 := cell_row h3.out 3 (by decide)
      have f0 := frozen_row h3.out 0
      have f1 := frozen_row h3.out 1
      have f2 := frozen_row h3.out 2
      have f3 := frozen_row h3.out 3
      have hw := set4 h3.out (ofW zs)
      obtain ⟨C, hC⟩ : ∃ C, ofW zs = C := ⟨_, rfl⟩
      rw [hC] at hw g0 g1 g2 g3
      have HC := Lib.hid hC
      clear hC h2
      go_wp2
      have hbw := below_set (below_set (below_set (below_set hbel.out w.heap.size (Nat.le_refl _) 0 (.int .u64 (C 0))) w.heap.size (Nat.le_refl _) 1 (.int .u64 (C 1))) w.heap.size (Nat.le_refl _) 2 (.int .u64 (C 2))) w.heap.size (Nat.le_refl _) 3 (.int .u64 (C 3))
      generalize (((wr.setCell ⟨w.heap.size, 0, none⟩ (.int .u64 (C 0))).setCell ⟨w.heap.size, 1, none⟩ (.int .u64 (C 1))).setCell ⟨w.heap.size, 2, none⟩ (.int .u64 (C 2))).setCell ⟨w.heap.size, 3, none⟩ (.int .u64 (C 3)) = W9 at *
      have k0 := cell_row hw 0 (by decide)
      have k1 := cell_row hw 1 (by decide)
      have k2 := cell_row hw 2 (by decide)
      have k3 := cell_row hw 3 (by decide)
      refine bodyPost_ret (v := .agg #[.int .u64 (C 0), .int .u64 (C 1), .int .u64 (C 2), .int .u64 (C 3)]) ?_ rfl ⟨by rw [HC.out]; rfl, hbw⟩
      simp [results, Try.results33, go_sem, k0, k1, k2, k3]
end Go.Proofs.Ytdmfdgadhobkpaa.Bits
