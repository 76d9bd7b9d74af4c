/-
  Plain facts on numbers of 64 bits: what bits.Mul64 tells is the product's two halves. No program in sight.
-/
import Derived.WalkKit
namespace Go.Proofs.Ytajkckjpfbkpmaa.Ari
open Go.RowKit

def mulHi (a0 a1 : Int) : Int := IntKind.u64.wrap ((IntKind.u64.wrap ((IntKind.u64.wrap ((a0 / 4294967296) * (a1 / 4294967296))) + ((IntKind.u64.wrap ((IntKind.u64.wrap ((a0 / 4294967296) * (Go.bits .and .u64 a1 4294967295))) + ((IntKind.u64.wrap ((Go.bits .and .u64 a0 4294967295) * (Go.bits .and .u64 a1 4294967295))) / 4294967296))) / 4294967296))) + ((IntKind.u64.wrap ((Go.bits .and .u64 (IntKind.u64.wrap ((IntKind.u64.wrap ((a0 / 4294967296) * (Go.bits .and .u64 a1 4294967295))) + ((IntKind.u64.wrap ((Go.bits .and .u64 a0 4294967295) * (Go.bits .and .u64 a1 4294967295))) / 4294967296))) 4294967295) + (IntKind.u64.wrap ((Go.bits .and .u64 a0 4294967295) * (a1 / 4294967296))))) / 4294967296))
def mulLo (a0 a1 : Int) : Int := IntKind.u64.wrap (a0 * a1)
def mulM (a b : Int) : Int × Bool := if mulHi a b = 0 then (mulLo a b, true) else (0, false)

theorem and32 (x : Int) (h0 : 0 ≤ x) (h1 : x < 18446744073709551616) : Go.bits .and .u64 x 4294967295 = x % 4294967296 := by
  rw [u64_and x 4294967295 h0 h1 (by decide) (by decide)]
  have : x.toNat &&& (4294967295 : Int).toNat = x.toNat % 4294967296 := Nat.and_two_pow_sub_one_eq_mod x.toNat 32
  rw [this]
  omega
theorem and31 (x : Int) (h0 : 0 ≤ x) (h1 : x < 18446744073709551616) : Go.bits .and .u64 x 2147483647 = x % 2147483648 := by
  rw [u64_and x 2147483647 h0 h1 (by decide) (by decide)]
  have : x.toNat &&& (2147483647 : Int).toNat = x.toNat % 2147483648 := Nat.and_two_pow_sub_one_eq_mod x.toNat 31
  rw [this]
  omega

theorem le_sq (x y : Int) (h0 : 0 ≤ x) (h1 : x ≤ 4294967295) (h2 : 0 ≤ y) (h3 : y ≤ 4294967295) : 0 ≤ x * y ∧ x * y ≤ 18446744065119617025 := by
  refine ⟨Int.mul_nonneg h0 h2, ?_⟩
  have := Int.mul_le_mul h1 h3 h2 (by decide)
  omega

theorem mulHi_eq (a b : Int) (ha : 0 ≤ a) (ha' : a < 18446744073709551616) (hb : 0 ≤ b) (hb' : b < 18446744073709551616) : mulHi a b = a * b / 18446744073709551616 := by
  unfold mulHi
  rw [and32 a ha ha', and32 b hb hb']
  obtain ⟨x0, hx0⟩ : ∃ x, x = a % 4294967296 := ⟨_, rfl⟩
  obtain ⟨x1, hx1⟩ : ∃ x, x = a / 4294967296 := ⟨_, rfl⟩
  obtain ⟨y0, hy0⟩ : ∃ x, x = b % 4294967296 := ⟨_, rfl⟩
  obtain ⟨y1, hy1⟩ : ∃ x, x = b / 4294967296 := ⟨_, rfl⟩
  have ea : a = x1 * 4294967296 + x0 := by omega
  have eb : b = y1 * 4294967296 + y0 := by omega
  have q00 := le_sq x0 y0 (by omega) (by omega) (by omega) (by omega)
  have q01 := le_sq x0 y1 (by omega) (by omega) (by omega) (by omega)
  have q10 := le_sq x1 y0 (by omega) (by omega) (by omega) (by omega)
  have q11 := le_sq x1 y1 (by omega) (by omega) (by omega) (by omega)
  have e : a * b = x1 * y1 * 18446744073709551616 + (x0 * y1 + x1 * y0) * 4294967296 + x0 * y0 := by rw [ea, eb]; grind
  rw [e, ← hx0, ← hx1, ← hy0, ← hy1]
  clear e ea eb hx0 hx1 hy0 hy1 ha ha' hb hb'
  generalize x0 * y0 = p00 at *
  generalize x0 * y1 = p01 at *
  generalize x1 * y0 = p10 at *
  generalize x1 * y1 = p11 at *
  simp only [IntKind.wrap_u64]
  rw [and32 _ (by omega) (by omega)]
  omega

theorem mulM_eq (a b : Int) (ha : 0 ≤ a) (ha' : a < 18446744073709551616) (hb : 0 ≤ b) (hb' : b < 18446744073709551616) :
    mulM a b = if a * b < 18446744073709551616 then (a * b, true) else (0, false) := by
  have h0 := Int.mul_nonneg ha hb
  unfold mulM mulLo
  rw [mulHi_eq a b ha ha' hb hb', IntKind.wrap_u64]
  by_cases h : a * b < 18446744073709551616
  · rw [if_pos h, if_pos (by omega), Int.emod_eq_of_lt h0 h]
  · rw [if_neg h, if_neg (by omega)]

def ceilM (a b : Int) : Int × Bool := if b = 0 then (0, false) else if Int.tmod a b = 0 then (IntKind.u64.wrap (Int.tdiv a b), true) else (IntKind.u64.wrap (IntKind.u64.wrap (Int.tdiv a b) + 1), true)
/-- What is rounded up is the least that is enough. -/
theorem ceilM_spec (a b : Int) (ha : 0 ≤ a) (ha' : a < 18446744073709551616) (hb : 1 ≤ b) :
    ∃ n, ceilM a b = (n, true) ∧ 0 ≤ n ∧ n < 18446744073709551616 ∧ a ≤ n * b ∧ (n = 0 → a = 0) ∧ (0 < n → (n - 1) * b < a) := by
  unfold ceilM
  rw [if_neg (by omega), Int.tmod_eq_emod_of_nonneg ha, Int.tdiv_eq_ediv_of_nonneg ha]
  have h1 := Int.mul_ediv_add_emod a b
  have h2 := Int.emod_nonneg a (show b ≠ 0 by omega)
  have h3 := Int.emod_lt_of_pos a (show 0 < b by omega)
  have h4 := Int.ediv_nonneg ha (show 0 ≤ b by omega)
  have h5 : a / b ≤ a := Int.ediv_le_self b ha
  generalize a / b = q at *
  generalize a % b = r at *
  have e1 : IntKind.u64.wrap q = q := by rw [IntKind.wrap_u64]; omega
  have e2 : (q - 1) * b = b * q - b := by grind
  have e3 : (q + 1) * b = b * q + b := by grind
  have e4 : q * b = b * q := by grind
  rw [e1]
  by_cases h : r = 0
  · rw [if_pos h]
    refine ⟨q, rfl, h4, by omega, by omega, fun h => by subst h; simp at h1; omega, fun _ => by omega⟩
  · rw [if_neg h]
    have h6 : q + 1 < 18446744073709551616 := by
      by_cases hq : q < 18446744073709551615
      · omega
      · have : b = 1 := by
          by_cases h7 : b = 1
          · exact h7
          · have := Int.mul_le_mul_of_nonneg_right (show 2 ≤ b by omega) h4
            omega
        omega
    have e5 : IntKind.u64.wrap (q + 1) = q + 1 := by rw [IntKind.wrap_u64]; omega
    rw [e5]
    exact ⟨q + 1, rfl, by omega, h6, by omega, fun h => by omega, fun _ => by rw [show q + 1 - 1 = q from by omega]; omega⟩
end Go.Proofs.Ytajkckjpfbkpmaa.Ari
