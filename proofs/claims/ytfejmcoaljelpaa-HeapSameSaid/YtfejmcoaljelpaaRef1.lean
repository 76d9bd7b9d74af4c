/-
  The reference of the sets: Has, With, Without.
-/
import Derived.Test.YtfejmcoaljelpaaBits15
namespace Go.Proofs.Ytfejmcoaljelpaa.Bits
open Go.RowKit Go.Shelf

theorem bit_is (z k : Nat) (hz : z < 18446744073709551616) : (Go.bits .and .u64 ((z : Int) / 2 ^ k) 1 == 1) = z.testBit k := by
  have e : (z : Int) / 2 ^ k = ((z / 2 ^ k : Nat) : Int) := by simp
  have l : z / 2 ^ k < 18446744073709551616 := Nat.lt_of_le_of_lt (Nat.div_le_self _ _) hz
  have h : Go.bits .and .u64 ((z / 2 ^ k : Nat) : Int) 1 = ((z / 2 ^ k &&& 1 : Nat) : Int) := and_u64 (z / 2 ^ k) 1 l (by decide)
  rw [e, h, Nat.and_one_is_mod, Nat.testBit_eq_decide_div_mod_eq]
  rcases Nat.mod_two_eq_zero_or_one (z / 2 ^ k) with h | h <;> rw [h] <;> rfl
theorem bit_add (z k : Nat) (hz : z < 18446744073709551616) (hk : k < 64) (h : z.testBit k = false) : z + 2 ^ k = z ||| 2 ^ k := by
  have e : z &&& 2 ^ k = 0 := by
    apply Nat.eq_of_testBit_eq
    intro i
    rw [Nat.testBit_and, Nat.testBit_two_pow, Nat.zero_testBit]
    by_cases hi : k = i
    · subst hi; simp [h]
    · simp [hi]
  have hp : 2 ^ k < 18446744073709551616 := (Nat.pow_lt_pow_right (a := 2) (m := k) (n := 64) (by omega) hk : 2 ^ k < 2 ^ 64)
  have b := BitVec.add_eq_or_of_and_eq_zero (BitVec.ofNat 65 z) (BitVec.ofNat 65 (2 ^ k)) (by
    apply BitVec.eq_of_toNat_eq
    rw [BitVec.toNat_and, BitVec.toNat_ofNat, BitVec.toNat_ofNat, Nat.mod_eq_of_lt (by omega), Nat.mod_eq_of_lt (by omega), e]
    rfl)
  have c := congrArg BitVec.toNat b
  rw [BitVec.toNat_add, BitVec.toNat_or, BitVec.toNat_ofNat, BitVec.toNat_ofNat, Nat.mod_eq_of_lt (show z < 2 ^ 65 by omega), Nat.mod_eq_of_lt (show 2 ^ k < 2 ^ 65 by omega), Nat.mod_eq_of_lt (by omega)] at c
  exact c
theorem bit_sub (z k : Nat) (hz : z < 18446744073709551616) (hk : k < 64) (h : z.testBit k = true) : 2 ^ k ≤ z ∧ z - 2 ^ k = z ^^^ (z &&& 2 ^ k) := by
  have e : z &&& 2 ^ k = 2 ^ k := by
    apply Nat.eq_of_testBit_eq
    intro i
    rw [Nat.testBit_and, Nat.testBit_two_pow]
    by_cases hi : k = i
    · subst hi; simp [h]
    · simp [hi]
  have hle : 2 ^ k ≤ z := Nat.ge_two_pow_of_testBit h
  refine ⟨hle, ?_⟩
  rw [e]
  have h1 : (z ^^^ 2 ^ k).testBit k = false := by rw [Nat.testBit_xor, Nat.testBit_two_pow_self, h]; rfl
  have hp : 2 ^ k < 18446744073709551616 := (Nat.pow_lt_pow_right (a := 2) (m := k) (n := 64) (by omega) hk : 2 ^ k < 2 ^ 64)
  have h2 := bit_add _ _ (by rw [w64]; exact Nat.xor_lt_two_pow (by rw [← w64]; exact hz) (by rw [← w64]; exact hp)) hk h1
  have h3 : (z ^^^ 2 ^ k) ||| 2 ^ k = z := by
    apply Nat.eq_of_testBit_eq
    intro i
    rw [Nat.testBit_or, Nat.testBit_xor, Nat.testBit_two_pow]
    by_cases hi : k = i
    · subst hi; simp [h]
    · simp [hi]
  omega

theorem rowc_with {A : Nat → Nat} (n : Nat) (hn : n < 256) (h : (A (n / 64)).testBit (n % 64) = false) (hz : A (n / 64) < 18446744073709551616) :
    (rowc (iw A)).setIfInBounds (n / 64) (.int .u64 ((A (n / 64) : Int) + 2 ^ (n % 64))) = rowc (iw (withW A n)) := by
  have e : (A (n / 64) : Int) + 2 ^ (n % 64) = ((A (n / 64) ||| 2 ^ (n % 64) : Nat) : Int) := by
    rw [← bit_add _ _ hz (by omega) h]; simp
  rw [e]
  have h1 : ((n : Int) / 64).toNat = n / 64 := by omega
  have h2 : ((n : Int) % 64).toNat = n % 64 := by omega
  have h3 : (n : Int) < 256 := by omega
  have h0 : (0 : Int) ≤ (n : Int) := by omega
  have hq : n / 64 < 4 := by omega
  unfold rowc iw withW orW oneN
  simp only [h1, h2, h3, h0, true_and]
  clear e h hz
  generalize n / 64 = q at *
  match q, hq with
  | 0, _ => simp
  | 1, _ => simp
  | 2, _ => simp
  | 3, _ => simp
theorem rowc_without {A : Nat → Nat} (n : Nat) (hn : n < 256) (h : (A (n / 64)).testBit (n % 64) = true) (hz : A (n / 64) < 18446744073709551616) :
    (rowc (iw A)).setIfInBounds (n / 64) (.int .u64 ((A (n / 64) : Int) - 2 ^ (n % 64))) = rowc (iw (withoutW A n)) := by
  obtain ⟨hle, hs⟩ := bit_sub _ _ hz (by omega) h
  have e : (A (n / 64) : Int) - 2 ^ (n % 64) = ((A (n / 64) ^^^ (A (n / 64) &&& 2 ^ (n % 64)) : Nat) : Int) := by
    rw [← hs]
    have : ((2 ^ (n % 64) : Nat) : Int) = 2 ^ (n % 64) := by simp
    rw [← this]
    omega
  rw [e]
  have h1 : ((n : Int) / 64).toNat = n / 64 := by omega
  have h2 : ((n : Int) % 64).toNat = n % 64 := by omega
  have h3 : (n : Int) < 256 := by omega
  have h0 : (0 : Int) ≤ (n : Int) := by omega
  have hq : n / 64 < 4 := by omega
  unfold rowc iw withoutW minW oneN
  simp only [h1, h2, h3, h0, true_and]
  clear e h hz hle hs
  generalize n / 64 = q at *
  match q, hq with
  | 0, _ => simp
  | 1, _ => simp
  | 2, _ => simp
  | 3, _ => simp
/-- A number that is there already, one that is out of range. -/
theorem with_same {A : Nat → Nat} (hA : Ws A) (i : Int) (h : ¬ (0 ≤ i ∧ i < 256) ∨ hasI A i = true) : bv (iw (withW A i)) = bv (iw A) := bv_ext (hA.or (Ws.one i)) hA fun k hk => by
  rw [has_with _ _ _ hk]
  by_cases he : i = (k : Int)
  · subst he
    rcases h with h | h
    · omega
    · unfold hasI at h
      rw [if_pos (by omega), Int.toNat_natCast] at h
      simp [h]
  · simp [he]
theorem without_same {A : Nat → Nat} (hA : Ws A) (i : Int) (h : hasI A i = false) : bv (iw (withoutW A i)) = bv (iw A) := bv_ext hA.min hA fun k hk => by
  rw [has_without _ _ _ hk]
  by_cases he : i = (k : Int)
  · subst he
    unfold hasI at h
    rw [if_pos (by omega), Int.toNat_natCast] at h
    simp [h]
  · simp [he]
end Go.Proofs.Ytfejmcoaljelpaa.Bits
