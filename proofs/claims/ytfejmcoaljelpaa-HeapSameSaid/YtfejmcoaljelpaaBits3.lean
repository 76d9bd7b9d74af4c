/-
  Package bits: the set of one number; With, Without, Has.
-/
import Derived.Test.YtfejmcoaljelpaaBits2
namespace Go.Proofs.Ytfejmcoaljelpaa.Bits
open Go.RowKit

/-- The words of the set of one number. -/
def oneW (i : Int) : Nat → Int := fun j => if 0 ≤ i ∧ i < 256 ∧ j = (i / 64).toNat then 2 ^ (i % 64).toNat else 0
theorem oneW_in (n : Nat) (hn : n < 256) : rowc (oneW n) = (rowc fun _ => 0).setIfInBounds (n / 64) (.int .u64 (2 ^ (n % 64))) := by
  have h1 : ((n : Int) / 64).toNat = n / 64 := by omega
  have h2 : ((n : Int) % 64).toNat = n % 64 := by omega
  have h3 : (n : Int) < 256 := by omega
  have h0 : (0 : Int) ≤ (n : Int) := by omega
  have hq : n / 64 < 4 := by omega
  unfold rowc oneW
  simp only [h1, h2, h3, h0, true_and]
  generalize n / 64 = q at *
  match q, hq with
  | 0, _ => simp
  | 1, _ => simp
  | 2, _ => simp
  | 3, _ => simp
theorem oneW_out (i : Int) (h : i < 0 ∨ 256 ≤ i) : oneW i = fun _ => 0 := by
  funext j
  unfold oneW
  rw [if_neg (by omega)]

theorem set4_other (w : World) (p q : Nat) (h : q ≠ p) (x0 x1 x2 x3 : Value) : ((((w.setCell ⟨p, 0, none⟩ x0).setCell ⟨p, 1, none⟩ x1).setCell ⟨p, 2, none⟩ x2).setCell ⟨p, 3, none⟩ x3).heap[q]? = w.heap[q]? :=
  (Below.heap_setCell _ _ _ _ h).trans ((Below.heap_setCell _ _ _ _ h).trans ((Below.heap_setCell _ _ _ _ h).trans (Below.heap_setCell _ _ _ _ h)))
theorem set4_cell {w : World} {p q k : Nat} {v : Value} (h : q ≠ p) (x0 x1 x2 x3 : Value) (hc : w.cell? ⟨q, k, none⟩ = some v) : ((((w.setCell ⟨p, 0, none⟩ x0).setCell ⟨p, 1, none⟩ x1).setCell ⟨p, 2, none⟩ x2).setCell ⟨p, 3, none⟩ x3).cell? ⟨q, k, none⟩ = some v :=
  (World.cell?_of_block (a := ⟨q, k, none⟩) (set4_other w p q h x0 x1 x2 x3)).trans hc
theorem bv_in (a : Nat → Int) : bv a = .agg #[.int .u64 (a 0), .int .u64 (a 1), .int .u64 (a 2), .int .u64 (a 3)] := rfl
end Go.Proofs.Ytfejmcoaljelpaa.Bits
