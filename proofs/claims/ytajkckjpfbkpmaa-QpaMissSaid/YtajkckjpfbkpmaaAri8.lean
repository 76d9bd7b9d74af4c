/-
  The statement ArithDivides, walked.
-/
import Derived.Test.YtajkckjpfbkpmaaAri7
namespace Go.Proofs.Ytajkckjpfbkpmaa.Ari
open Go.RowKit Go.Shelf

theorem cs_getD (ns : List Nat) (j : Nat) : (cs ns).getD j 0 = ((ns.getD j 0 : Nat) : Int) := by
  unfold cs
  rw [List.getD_eq_getElem?_getD, List.getD_eq_getElem?_getD, List.getElem?_map]
  cases ns[j]? <;> simp

/-- What the loop asks of each number. -/
theorem divides_facts (ns : List Nat) (hn : ∀ n ∈ ns, n < M64) (i : Nat) (hi : i < ns.length) (v : Nat) (hv : ns.getD i 0 = v) :
    (gcdN ns = 0 → v = 0) ∧ (0 < gcdN ns → v % gcdN ns = 0) ∧ ((lcmM (cs ns)).2 = true → v ≠ 0 ∧ ∃ L : Nat, (lcmM (cs ns)).1 = (L : Int) ∧ L % v = 0) := by
  have hm : v ∈ ns := by
    rw [← hv, List.getD_eq_getElem?_getD, List.getElem?_eq_getElem hi]
    simp
  have h1 := gcdN_dvd ns v hm
  refine ⟨fun h => ?_, fun _ => Nat.mod_eq_zero_of_dvd h1, fun h => ?_⟩
  · rw [h] at h1
    exact Nat.eq_zero_of_zero_dvd h1
  · rw [lcmM_eq ns hn] at h ⊢
    by_cases h0 : 0 ∈ ns
    · rw [if_pos h0] at h; simp at h
    · rw [if_neg h0] at h ⊢
      refine ⟨fun e => h0 (e ▸ hm), lcmN ns, ?_, Nat.mod_eq_zero_of_dvd (lcmN_dvd ns v hm)⟩
      by_cases h2 : lcmN ns < M64
      · rw [if_pos h2]
      · rw [if_neg h2] at h; simp at h
theorem lcmM_pos (ns : List Nat) (hn : ∀ n ∈ ns, n < M64) (h : (lcmM (cs ns)).2 = true) : 0 < (lcmM (cs ns)).1 := by
  rw [lcmM_eq ns hn] at h ⊢
  by_cases h0 : 0 ∈ ns
  · rw [if_pos h0] at h; simp at h
  · rw [if_neg h0] at h ⊢
    by_cases h2 : lcmN ns < M64
    · rw [if_pos h2]
      have := lcmN_pos ns fun n hn' => Nat.pos_of_ne_zero fun e => h0 (e ▸ hn')
      show (0 : Int) < (lcmN ns : Int)
      omega
    · rw [if_neg h2] at h; simp at h

/-- Of two numbers. -/
theorem two_facts (x y : Nat) (hx : 0 < x) (hx' : x ≤ 2147483648) (hy : 0 < y) (hy' : y ≤ 2147483648) :
    ∃ h k q q2 : Nat, gcdM [(x : Int), (y : Int)] = (h : Int) ∧ lcmM [(x : Int), (y : Int)] = ((k : Int), true) ∧ 0 < h ∧ k < M64 ∧ k / h = q ∧ h * q = k ∧ k / x = q2 ∧ q2 * h = y := by
  have e0 : [(x : Int), (y : Int)] = cs [x, y] := rfl
  have hl : Nat.lcm x y ≤ x * y := Nat.le_of_dvd (Nat.mul_pos hx hy) (Nat.lcm_dvd (Nat.dvd_mul_right _ _) (Nat.dvd_mul_left _ _))
  have h2 : x * y ≤ 2147483648 * 2147483648 := Nat.mul_le_mul hx' hy'
  have h3 : Nat.lcm x y < M64 := by unfold M64; omega
  have hg : 0 < Nat.gcd x y := Nat.gcd_pos_of_pos_left y hx
  refine ⟨Nat.gcd x y, Nat.lcm x y, _, _, ?_, ?_, hg, h3, rfl, ?_, rfl, ?_⟩
  · rw [e0, gcdM_eq]; simp [gcdN]
  · rw [e0, lcmM_eq _ (by intro n hn; simp at hn; unfold M64; omega), if_neg (by simp; omega)]
    have : lcmN [x, y] = Nat.lcm x y := by simp [lcmN]
    rw [this, if_pos h3]
  · exact Nat.mul_div_cancel' (Nat.dvd_trans (Nat.gcd_dvd_left x y) (Nat.dvd_lcm_left x y))
  · obtain ⟨c, hc⟩ := Nat.dvd_lcm_left x y
    have h5 := Nat.gcd_mul_lcm x y
    rw [hc] at h5 ⊢
    rw [Nat.mul_div_cancel_left c hx]
    have : x * (c * Nat.gcd x y) = x * y := by rw [← h5]; grind
    exact Nat.eq_of_mul_eq_mul_left hx this
end Go.Proofs.Ytajkckjpfbkpmaa.Ari
