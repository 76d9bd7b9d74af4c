/-
  Package bits: Len.
-/
import Derived.Test.YtfejmcoaljelpaaBits9
namespace Go.Proofs.Ytfejmcoaljelpaa.Bits
open Go.RowKit

/-- The words, as naturals. -/
def Ws (A : Nat → Nat) : Prop := ∀ j, j < 4 → A j < 18446744073709551616
def iw (A : Nat → Nat) : Nat → Int := fun j => (A j : Int)
def pre (A : Nat → Nat) : Nat → Nat
  | 0 => 0
  | k + 1 => pre A k + ones 64 (A k)
def lenW (A : Nat → Nat) : Nat := pre A 4
theorem ones_le (k : Nat) : ∀ x, ones k x ≤ k := by
  induction k with
  | zero => intro x; exact Nat.le_refl _
  | succ k ih => intro x; have := ih (x / 2); unfold ones; omega
theorem pre_le (A : Nat → Nat) (k : Nat) : pre A k ≤ 64 * k := by
  induction k with
  | zero => exact Nat.le_refl _
  | succ k ih => have := ones_le 64 (A k); unfold pre; omega

end Go.Proofs.Ytfejmcoaljelpaa.Bits
