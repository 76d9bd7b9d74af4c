/-
  Package bits: Len.
-/
import Derived.Test.YtdmfdgadhobkpaaBits9
namespace Go.Proofs.Ytdmfdgadhobkpaa.Bits
open Go.RowKit

/-- The words, as naturals. -/
def Ws (A : Nat → Nat) : Prop := ∀ j, j < 4 → A j < 18446744073709551616
def iw (A : Nat → Nat) : Nat → Int := fun j => (A j : Int)
def pre (A : Nat → Nat) : Nat → Nat
  | 0 => 0
  | k + 1 => pre A k + ones 64 (A k)
def lenW (A : Nat → Nat) : Nat := pre A 4
theorem ones_le (k : Nat) : ∀ x, ones k x ≤ k := by
  induction k with
  | zero => intro x; exact Nat.le_refl _
  | succ k ih => intro x; have := ih (x / 2); unfold ones; omega
theorem pre_le (A : Nat → Nat) (k : Nat) : pre A k ≤ 64 * k := by
  induction k with
  | zero => exact Nat.le_refl _
  | succ k ih => have := ones_le 64 (A k); unfold pre; omega

set_option maxHeartbeats 4000000 in
set_option maxRecDepth 100000 in
theorem len_any (A : Nat → Nat) (hA : Ws A) (w : World) :
    Calls Try.prog 31 #[bv (iw A)] w fun e w' => e = .returned (.int .i64 (lenW A : Nat)) ∧ Below w.heap.size w w' := by
  have l0 := pre_le A 0
  have l1 := pre_le A 1
  have l2 := pre_le A 2
  have l3 := pre_le A 3
  have l4 := pre_le A 4
  have HP := fun k => Lib.hid (show pre A (k + 1) = pre A k + ones 64 (A k) from rfl)
  have HO := fun k => ones_le 64 (A k)
  unfold lenW
  unfold bv rowc iw
  have i0 : ∀ w, (Instr.index 32 (.agg #[.int .u64 (A 0 : Int), .int .u64 (A 1 : Int), .int .u64 (A 2 : Int), .int .u64 (A 3 : Int)]) (.int .i64 0)).run Try.prog w = .ok (.int .u64 (A 0 : Int)) w := fun _ => by kernel_rfl
  have i1 : ∀ w, (Instr.index 32 (.agg #[.int .u64 (A 0 : Int), .int .u64 (A 1 : Int), .int .u64 (A 2 : Int), .int .u64 (A 3 : Int)]) (.int .i64 1)).run Try.prog w = .ok (.int .u64 (A 1 : Int)) w := fun _ => by kernel_rfl
  have i2 : ∀ w, (Instr.index 32 (.agg #[.int .u64 (A 0 : Int), .int .u64 (A 1 : Int), .int .u64 (A 2 : Int), .int .u64 (A 3 : Int)]) (.int .i64 2)).run Try.prog w = .ok (.int .u64 (A 2 : Int)) w := fun _ => by kernel_rfl
  have i3 : ∀ w, (Instr.index 32 (.agg #[.int .u64 (A 0 : Int), .int .u64 (A 1 : Int), .int .u64 (A 2 : Int), .int .u64 (A 3 : Int)]) (.int .i64 3)).run Try.prog w = .ok (.int .u64 (A 3 : Int)) w := fun _ => by kernel_rfl
  go_enter Try.func31, Try.ntmps31
  go_wp2
  go_loopg [3, 7] 4 (fun g nv iv wr => ∃ k : Nat, k ≤ 4 ∧ iv = .int .i64 (k : Int) ∧ nv = .int .i64 (pre A k : Nat) ∧ Aside (4 - k = g) ∧ Aside (Below w.heap.size w wr))
  case atStart => exact ⟨0, Nat.zero_le _, rfl, rfl, rfl, (Below.refl _ w).alloc (Nat.le_refl _) _⟩
  case round =>
    obtain ⟨k, hk4, rfl, rfl, hk, hbel⟩ := hrel
    by_cases hlt : k < 4
    · obtain rfl | rfl | rfl | rfl : k = 0 ∨ k = 1 ∨ k = 2 ∨ k = 3 := by omega
      · have o := HO 0
        go_wp2_with fail
        refine (ones_any _ (hA _ (by decide)) _).mono ?_
        rintro e w' ⟨rfl, rfl⟩
        go_wp2
        go_roundg (4 - (0 + 1))
        case measure => have := hk.out; omega
        case rel => exact ⟨0 + 1, by omega, by go_num, by rw [(HP 0).out]; go_num, rfl, hbel⟩
      · have o := HO 1
        go_wp2_with fail
        refine (ones_any _ (hA _ (by decide)) _).mono ?_
        rintro e w' ⟨rfl, rfl⟩
        go_wp2
        go_roundg (4 - (1 + 1))
        case measure => have := hk.out; omega
        case rel => exact ⟨1 + 1, by omega, by go_num, by rw [(HP 1).out]; go_num, rfl, hbel⟩
      · have o := HO 2
        go_wp2_with fail
        refine (ones_any _ (hA _ (by decide)) _).mono ?_
        rintro e w' ⟨rfl, rfl⟩
        go_wp2
        go_roundg (4 - (2 + 1))
        case measure => have := hk.out; omega
        case rel => exact ⟨2 + 1, by omega, by go_num, by rw [(HP 2).out]; go_num, rfl, hbel⟩
      · have o := HO 3
        go_wp2_with fail
        refine (ones_any _ (hA _ (by decide)) _).mono ?_
        rintro e w' ⟨rfl, rfl⟩
        go_wp2
        go_roundg (4 - (3 + 1))
        case measure => have := hk.out; omega
        case rel => exact ⟨3 + 1, by omega, by go_num, by rw [(HP 3).out]; go_num, rfl, hbel⟩
    · obtain rfl : k = 4 := by omega
      go_wp2
      go_ret
      exact ⟨rfl, hbel.out⟩
end Go.Proofs.Ytdmfdgadhobkpaa.Bits
