/-
  OnesCount64.
-/
import Derived.Test.YtfejmcoaljelpaaBits8
import Derived.Test.YtfejmcoaljelpaaMask
namespace Go.Proofs.Ytfejmcoaljelpaa.Bits
open Go.RowKit

def M1 : Int := 6148914691236517205
theorem st1_lt (x : Nat) (_ : x < 18446744073709551616) : st1 8 x < 18446744073709551616 := by
  have h1 : (x / 2) &&& rep 85 8 ≤ rep 85 8 := Nat.and_le_right
  have h2 : x &&& rep 85 8 ≤ rep 85 8 := Nat.and_le_right
  have h3 : rep 85 8 = 6148914691236517205 := by decide
  unfold st1
  omega
theorem st2_lt (x : Nat) : st2 8 x ≤ 7378697629483820646 := by
  have h1 : (x / 4) &&& rep 51 8 ≤ rep 51 8 := Nat.and_le_right
  have h2 : x &&& rep 51 8 ≤ rep 51 8 := Nat.and_le_right
  have h3 : rep 51 8 = 3689348814741910323 := by decide
  unfold st2
  omega
theorem st3_lt (x : Nat) : st3 8 x ≤ 1085102592571150095 := by
  have h1 : (x / 16 + x) &&& rep 15 8 ≤ rep 15 8 := Nat.and_le_right
  have h3 : rep 15 8 = 1085102592571150095 := by decide
  unfold st3
  omega
def S1 (x : Int) : Int := IntKind.u64.wrap (Go.bits .and .u64 (x / 2) 6148914691236517205 + Go.bits .and .u64 x 6148914691236517205)
def S2 (x : Int) : Int := IntKind.u64.wrap (Go.bits .and .u64 (x / 4) 3689348814741910323 + Go.bits .and .u64 x 3689348814741910323)
def S3 (x : Int) : Int := Go.bits .and .u64 (IntKind.u64.wrap (x / 16 + x)) 1085102592571150095
def S4 (d x : Int) : Int := IntKind.u64.wrap (x + x / d)
theorem S1_eq (x : Nat) (hx : x < 18446744073709551616) : S1 x = (st1 8 x : Nat) := by
  have e := st1_lt x hx
  have a1 := and_u64 (x / 2) 6148914691236517205 (by omega) (by decide)
  have a2 := and_u64 x 6148914691236517205 hx (by decide)
  have h3 : rep 85 8 = 6148914691236517205 := by decide
  unfold st1 at e ⊢
  rw [h3] at e ⊢
  unfold S1
  rw [show ((x : Int) / 2) = ((x / 2 : Nat) : Int) by omega]
  have c : ((6148914691236517205 : Nat) : Int) = 6148914691236517205 := rfl
  rw [c] at a1 a2
  rw [a1, a2, IntKind.wrap_u64]
  omega
theorem S2_eq (x : Nat) (hx : x < 18446744073709551616) : S2 x = (st2 8 x : Nat) := by
  have e := st2_lt x
  have a1 := and_u64 (x / 4) 3689348814741910323 (by omega) (by decide)
  have a2 := and_u64 x 3689348814741910323 hx (by decide)
  have h3 : rep 51 8 = 3689348814741910323 := by decide
  unfold st2 at e ⊢
  rw [h3] at e ⊢
  unfold S2
  rw [show ((x : Int) / 4) = ((x / 4 : Nat) : Int) by omega]
  have c : ((3689348814741910323 : Nat) : Int) = 3689348814741910323 := rfl
  rw [c] at a1 a2
  rw [a1, a2, IntKind.wrap_u64]
  omega
theorem S3_eq (x : Nat) (hx : x ≤ 7378697629483820646) : S3 x = (st3 8 x : Nat) := by
  have e := st3_lt x
  have a1 := and_u64 (x / 16 + x) 1085102592571150095 (by omega) (by decide)
  have h3 : rep 15 8 = 1085102592571150095 := by decide
  unfold st3 at e ⊢
  rw [h3] at e ⊢
  unfold S3
  have c : ((1085102592571150095 : Nat) : Int) = 1085102592571150095 := rfl
  rw [c] at a1
  rw [show IntKind.u64.wrap ((x : Int) / 16 + x) = ((x / 16 + x : Nat) : Int) by rw [IntKind.wrap_u64]; omega, a1]
theorem S4_eq (x d : Nat) (hx : x ≤ 8000000000000000000) : S4 d x = ((x + x / d : Nat) : Int) := by
  unfold S4
  have hd : x / d ≤ x := Nat.div_le_self _ _
  have h : ((x : Int) / (d : Int)) = ((x / d : Nat) : Int) := rfl
  rw [h, IntKind.wrap_u64]
  generalize x / d = q at *
  omega
theorem tail_eq (y : Nat) (hy : y ≤ 1085102592571150095) : Go.bits .and .i64 (wrap64 (S4 4294967296 (S4 65536 (S4 256 y)))) 127 = ((fin y : Nat) : Int) := by
  have e1 := S4_eq y 256 (by omega)
  have h0 : y / 256 ≤ y := Nat.div_le_self _ _
  have e2 := S4_eq (y + y / 256) 65536 (by omega)
  have h1 : (y + y / 256) / 65536 ≤ y + y / 256 := Nat.div_le_self _ _
  have e3 := S4_eq (y + y / 256 + (y + y / 256) / 65536) 4294967296 (by omega)
  have h2 : (y + y / 256 + (y + y / 256) / 65536) / 4294967296 ≤ y + y / 256 + (y + y / 256) / 65536 := Nat.div_le_self _ _
  have c1 : ((256 : Nat) : Int) = 256 := rfl
  have c2 : ((65536 : Nat) : Int) = 65536 := rfl
  have c3 : ((4294967296 : Nat) : Int) = 4294967296 := rfl
  rw [c1] at e1
  rw [c2] at e2
  rw [c3] at e3
  rw [e1, e2, e3, Row0.and_i64 _ 7 (by decide) 127 rfl]
  unfold wrap64
  unfold fin
  generalize (y + y / 256 + (y + y / 256) / 65536) / 4294967296 = q2 at *
  generalize (y + y / 256) / 65536 = q1 at *
  generalize y / 256 = q0 at *
  have c4 : ((2 ^ 7 : Nat) : Int) = 128 := rfl
  rw [c4]
  omega
def popI (x : Int) : Int := Go.bits .and .i64 (wrap64 (S4 4294967296 (S4 65536 (S4 256 (S3 (S2 (S1 x))))))) 127
theorem pop_eq (x : Nat) (hx : x < 18446744073709551616) : popI x = (ones 64 x : Nat) := by
  unfold popI
  rw [S1_eq x hx, S2_eq _ (st1_lt x hx), S3_eq _ (st2_lt _), tail_eq _ (st3_lt _)]
  rw [← pop_all x]
  rfl
theorem ret_i {a b : Int} (h : a = b) : Ending.returned (.int .i64 a) = .returned (.int .i64 b) := by rw [h]
theorem ones_zero (k : Nat) : ones k 0 = 0 := by
  induction k with
  | zero => rfl
  | succ k ih => simp [ones, ih]
end Go.Proofs.Ytfejmcoaljelpaa.Bits
