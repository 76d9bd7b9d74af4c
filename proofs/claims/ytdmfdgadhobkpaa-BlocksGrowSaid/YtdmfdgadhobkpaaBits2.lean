/-
  Package bits: Or.
-/
import Derived.Test.YtdmfdgadhobkpaaBits1
namespace Go.Proofs.Ytdmfdgadhobkpaa.Bits
open Go.RowKit

/-- A row of sets, as it is read. -/
def RdB (w : World) (A : Option Addr) (n : Nat) (L : List (Nat → Int)) : Prop :=
  L.length = n ∧ n ≤ 9223372036854775807 ∧ (0 < n → ∃ b o, A = some ⟨b, o, none⟩ ∧ ∀ j, j < n → ∀ i, i < 4 → w.cell? ⟨b, o + j * 4 + i, none⟩ = some (.int .u64 ((L.getD j (fun _ => 0)) i)))
theorem RdB.below {w w' : World} {A : Option Addr} {n : Nat} {L : List (Nat → Int)} (h : RdB w A n L) {B : Nat} (hb : Below B w w') (hB : w.heap.size ≤ B) : RdB w' A n L := by
  obtain ⟨h1, h2, h3⟩ := h
  refine ⟨h1, h2, fun hp => ?_⟩
  obtain ⟨b, o, e, hc⟩ := h3 hp
  refine ⟨b, o, e, fun j hj i hi => ?_⟩
  have := hc j hj i hi
  have hlt := World.block_lt_of_cell? w _ this
  exact (World.cell?_of_block (hb.block _ (by simp at hlt ⊢; omega))).trans this
def orw (L : List (Nat → Int)) : Nat → Int := fun j => L.foldl (fun x b => Go.bits .or .u64 x (b j)) 0
theorem orw_snoc (L : List (Nat → Int)) (b : Nat → Int) : orw (L ++ [b]) = fun j => Go.bits .or .u64 (orw L j) (b j) := by
  funext j; simp [orw]
theorem take_set (L : List (Nat → Int)) (i : Nat) (h : i < L.length) : L.take (i + 1) = L.take i ++ [L.getD i (fun _ => 0)] := by
  rw [List.take_add_one, List.getElem?_eq_getElem h, List.getD_eq_getElem?_getD, List.getElem?_eq_getElem h]
  rfl

theorem below_setd {B : Nat} {w w' : World} (h : Below B w w') (p : Nat) (hp : B ≤ p) (k : Nat) (v : Value) : Below B w (w'.setCell ⟨p, k, none⟩ v).drew :=
  have h := below_set h p hp k v
  ⟨h.os, h.tape, h.output, h.size, h.block⟩
theorem rowc_congr {a b : Nat → Int} (h : a = b) : rowc a = rowc b := by rw [h]
set_option maxHeartbeats 4000000 in
set_option maxRecDepth 100000 in
theorem or_any (A : Option Addr) (n c : Nat) (L : List (Nat → Int)) (w : World) (h : RdB w A n L) :
    Calls Try.prog 34 #[.slice A n c] w fun e w' => e = .returned (bv (orw L)) ∧ Below w.heap.size w w' := by
  have hL := h.1
  have hn := h.2.1
  have H := Lib.hid h
  clear h
  go_enter Try.func34, Try.ntmps34
  go_wp2
  go_loopg [9] n (fun g iv wr => ∃ k : Nat, k ≤ n ∧ iv = .int .i64 (k : Int) ∧ Aside (n - k = g) ∧ Aside (wr.heap[w.heap.size + 1]? = some (.cells (rowc (orw (L.take k))) 32 (0, 0))) ∧
    Aside (wr.heap[w.heap.size]? = some (.cells (rowc fun _ => 0) 32 (0, 0))) ∧ Aside (Below w.heap.size w wr) ∧ Aside (w.heap.size + 2 ≤ wr.heap.size))
  case atStart =>
    refine ⟨0, Nat.zero_le _, rfl, rfl, ?_, ?_, ?_, ?_⟩
    · exact heap_new _ _ _ (by simp)
    · rw [Below.heap_alloc _ _ _ (by simp)]
      exact heap_new _ _ _ rfl
    · exact ((Below.refl _ w).alloc (Nat.le_refl _) _).alloc (by simp) _
    · simp [Aside]
  case round =>
    obtain ⟨k, hk4, rfl, hk, h2, h3, hbel, hsz⟩ := hrel
    by_cases hlt : k < n
    · have HR := Lib.hid (H.out.below hbel.out (Nat.le_refl _))
      obtain ⟨b, o, rfl, hc⟩ := HR.out.2.2 (by omega)
      have hb1 := World.block_lt_of_cell? wr _ (hc k hlt 0 (by decide))
      have g0 : wr.cell? ⟨b, o + k * 4, none⟩ = some (.int .u64 ((L.getD k (fun _ => 0)) 0)) := hc k hlt 0 (by decide)
      have g1 : wr.cell? ⟨b, o + k * 4 + 1, none⟩ = some (.int .u64 ((L.getD k (fun _ => 0)) 1)) := hc k hlt 1 (by decide)
      have g2 : wr.cell? ⟨b, o + k * 4 + 2, none⟩ = some (.int .u64 ((L.getD k (fun _ => 0)) 2)) := hc k hlt 2 (by decide)
      have g3 : wr.cell? ⟨b, o + k * 4 + 3, none⟩ = some (.int .u64 ((L.getD k (fun _ => 0)) 3)) := hc k hlt 3 (by decide)
      have htk : Hid (orw (L.take (k + 1)) = fun j => Go.bits .or .u64 (orw (L.take k) j) (L.getD k (fun _ => 0) j)) := by rw [Hid, take_set L k (by omega), orw_snoc]
      generalize L.getD k (fun _ => 0) = B at *
      generalize orw (L.take k) = C at *
      have hs1 : w.heap.size + 1 < wr.heap.size := by have := hsz.out; omega
      have hs0 : w.heap.size < wr.heap.size := by have := hsz.out; omega
      clear hc HR
      go_wp2
      go_loopg [13] 4 (fun g iv wr2 => ∃ i : Nat, i ≤ 4 ∧ iv = .int .i64 (i : Int) ∧ Aside (4 - i = g) ∧ Aside (wr2.heap[w.heap.size + 1]? = some (.cells (rowc (upto (Go.bits .or .u64) i C B)) 32 (0, 0))) ∧
        Aside (wr2.heap[w.heap.size]? = some (.cells (rowc fun _ => 0) 32 (0, 0))) ∧ Aside (wr2.heap[wr.heap.size]? = some (.cells (rowc B) 32 (0, 0))) ∧ Aside (Below w.heap.size w wr2) ∧ Aside (w.heap.size + 2 ≤ wr2.heap.size))
      case atStart =>
        refine ⟨0, Nat.zero_le _, rfl, rfl, ?_, ?_, ?_, ?_, ?_⟩
        · rw [Below.heap_alloc _ _ _ hs1, upto_zero]
          exact h2.out
        · rw [Below.heap_alloc _ _ _ hs0]
          exact h3.out
        · exact heap_new _ _ _ rfl
        · exact hbel.out.alloc hbel.out.size _
        · exact Nat.le_trans hsz.out (by simp)
      case round =>
        obtain ⟨i, hi4, rfl, hi, h12, h13, h15, hbel2, hsz2⟩ := hrel
        by_cases hlt2 : i < 4
        · have g1 := cell_row h12.out i hlt2
          have g2 := cell_row h15.out i hlt2
          have f1 := frozen_row h12.out i
          rw [show upto (Go.bits .or .u64) i C B i = C i by simp [upto]] at g1
          have ki : (i : Int) < 4 := by omega
          go_wp2
          go_still_tail 8, (by kernel_rfl)
          change wpList _ _ _ _ _ (World.drew _)
          go_wp2
          go_roundg (4 - (i + 1))
          case measure => have := hi.out; omega
          case rel =>
            refine ⟨i + 1, by omega, by go_num, rfl, ?_, ?_, ?_, ?_, ?_⟩
            · have := Lib.heap_setCell_same (i := i) h12.out (.int .u64 (Go.bits .or .u64 (C i) (B i)))
              rw [rowc_set _ _ _ _ hlt2] at this
              exact this
            · exact (Below.heap_setCell _ _ _ _ (by simp)).trans h13.out
            · exact (Below.heap_setCell _ _ _ _ (by simp; omega)).trans h15.out
            · exact below_setd hbel2.out (w.heap.size + 1) (by omega) _ _
            · exact Nat.le_trans hsz2.out (by simp [World.setCell])
        · obtain rfl : i = 4 := by omega
          rw [rowc_upto, ← rowc_congr htk.out] at h12
          go_wp2
          go_roundg (n - (k + 1))
          case measure => have := hk.out; omega
          case rel => exact ⟨k + 1, by omega, by go_num, rfl, h12.out, h13.out, hbel2.out, hsz2.out⟩
    · obtain rfl : k = n := by omega
      have hLt : L.take k = L := List.take_of_length_le (by omega)
      rw [hLt] at h2
      have g0 := cell_row h2.out 0 (by decide)
      have g1 := cell_row h2.out 1 (by decide)
      have g2 := cell_row h2.out 2 (by decide)
      have g3 := cell_row h2.out 3 (by decide)
      have e0 := cell_row h3.out 0 (by decide)
      have e1 := cell_row h3.out 1 (by decide)
      have e2 := cell_row h3.out 2 (by decide)
      have e3 := cell_row h3.out 3 (by decide)
      have f0 := frozen_row h3.out 0
      have f1 := frozen_row h3.out 1
      have f2 := frozen_row h3.out 2
      have f3 := frozen_row h3.out 3
      have hw := set4 h3.out (orw L)
      obtain ⟨C, hC⟩ : ∃ C, orw L = C := ⟨_, rfl⟩
      rw [hC] at hw g0 g1 g2 g3
      have HC := Lib.hid hC
      clear hC h2
      go_wp2
      have hbw := below_set (below_set (below_set (below_set hbel.out w.heap.size (Nat.le_refl _) 0 (.int .u64 (C 0))) w.heap.size (Nat.le_refl _) 1 (.int .u64 (C 1))) w.heap.size (Nat.le_refl _) 2 (.int .u64 (C 2))) w.heap.size (Nat.le_refl _) 3 (.int .u64 (C 3))
      generalize (((wr.setCell ⟨w.heap.size, 0, none⟩ (.int .u64 (C 0))).setCell ⟨w.heap.size, 1, none⟩ (.int .u64 (C 1))).setCell ⟨w.heap.size, 2, none⟩ (.int .u64 (C 2))).setCell ⟨w.heap.size, 3, none⟩ (.int .u64 (C 3)) = W9 at *
      have k0 := cell_row hw 0 (by decide)
      have k1 := cell_row hw 1 (by decide)
      have k2 := cell_row hw 2 (by decide)
      have k3 := cell_row hw 3 (by decide)
      refine bodyPost_ret (v := .agg #[.int .u64 (C 0), .int .u64 (C 1), .int .u64 (C 2), .int .u64 (C 3)]) ?_ rfl ⟨by rw [HC.out]; rfl, hbw⟩
      simp [results, Try.results34, go_sem, k0, k1, k2, k3]
end Go.Proofs.Ytdmfdgadhobkpaa.Bits
