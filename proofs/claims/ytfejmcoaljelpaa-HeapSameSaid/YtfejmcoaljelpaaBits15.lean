/-
  The statement BitsOne, walked.
-/
import Derived.Test.YtfejmcoaljelpaaBits14
import Derived.Test.YtfejmcoaljelpaaCalm
namespace Go.Proofs.Ytfejmcoaljelpaa.Bits
open Go.RowKit Go.Shelf

def eqN (A B : Nat → Nat) : Bool := (A 0 : Int) == B 0 && (A 1 : Int) == B 1 && (A 2 : Int) == B 2 && (A 3 : Int) == B 3
theorem eqN_of {A B : Nat → Nat} (h : ∀ j, j < 4 → A j = B j) : eqN A B = true := by
  simp [eqN, h 0 (by decide), h 1 (by decide), h 2 (by decide), h 3 (by decide)]
theorem of_eqN {A B : Nat → Nat} (h : eqN A B = true) : ∀ j, j < 4 → A j = B j := by
  simp only [eqN, Bool.and_eq_true, beq_iff_eq] at h
  obtain ⟨⟨⟨h0, h1⟩, h2⟩, h3⟩ := h
  intro j hj
  match j, hj with
  | 0, _ => omega
  | 1, _ => omega
  | 2, _ => omega
  | 3, _ => omega
theorem eqN_ext {A B : Nat → Nat} (hA : Ws A) (hB : Ws B) (h : ∀ i, i < 256 → hasN A i = hasN B i) : eqN A B = true := eqN_of (ext_has hA hB h)
theorem bvl (A : Nat → Nat) : bv (iw A) = .agg #[.int .u64 (A 0 : Int), .int .u64 (A 1 : Int), .int .u64 (A 2 : Int), .int .u64 (A 3 : Int)] := rfl
/-- What the statement says of the two sets. -/
theorem one_facts {A : Nat → Nat} (hA : Ws A) (i : Int) : ∃ X Y : Nat → Nat, Ws X ∧ Ws Y ∧ bv (iw (withW A i)) = bv (iw X) ∧ bv (iw (withoutW A i)) = bv (iw Y) ∧ hasI X i = decide (0 ≤ i ∧ i ≤ 255) ∧ hasI Y i = false ∧
    (¬ (0 ≤ i ∧ i ≤ 255) → X = A ∧ Y = A) ∧ (∀ k, k ≠ i → hasI X k = hasI A k ∧ hasI Y k = hasI A k) ∧ eqN (withoutW X i) Y = true ∧ eqN (withW Y i) X = true := by
  have hX : Ws (withW A i) := hA.or (Ws.one i)
  have hY : Ws (withoutW A i) := hA.min
  by_cases hi : 0 ≤ i ∧ i ≤ 255
  · obtain ⟨m, rfl⟩ : ∃ m : Nat, i = (m : Int) := ⟨i.toNat, by omega⟩
    have hm : m < 256 := by omega
    have hm' : (0 : Int) ≤ (m : Int) ∧ (m : Int) < 256 := by omega
    refine ⟨withW A m, withoutW A m, hX, hY, rfl, rfl, ?_, ?_, fun h => absurd hi h, fun k hk => ?_, ?_, ?_⟩
    · unfold hasI
      rw [if_pos hm', Int.toNat_natCast, has_with _ _ _ hm]
      simp
      omega
    · unfold hasI
      rw [if_pos hm', Int.toNat_natCast, has_without _ _ _ hm]
      simp
    · unfold hasI
      by_cases hk2 : 0 ≤ k ∧ k < 256
      · rw [if_pos hk2, if_pos hk2, if_pos hk2, has_with _ _ _ (by omega), has_without _ _ _ (by omega)]
        have : decide ((m : Int) = (k.toNat : Int)) = false := decide_eq_false (by omega)
        rw [this]
        simp
      · rw [if_neg hk2, if_neg hk2, if_neg hk2]
        exact ⟨rfl, rfl⟩
    · refine eqN_ext hX.min hY fun k hk => ?_
      rw [has_without _ _ _ hk, has_with _ _ _ hk, has_without _ _ _ hk]
      cases hasN A k <;> cases decide ((m : Int) = (k : Int)) <;> rfl
    · refine eqN_ext (hY.or (Ws.one _)) hX fun k hk => ?_
      rw [has_with _ _ _ hk, has_with _ _ _ hk, has_without _ _ _ hk]
      cases hasN A k <;> cases decide ((m : Int) = (k : Int)) <;> rfl
  · have no : ∀ k : Nat, k < 256 → decide (i = (k : Int)) = false := fun k hk => by simp; omega
    have eX : eqN (withW A i) A = true := eqN_ext hX hA fun k hk => by rw [has_with _ _ _ hk, no k hk, Bool.or_false]
    have eY : eqN (withoutW A i) A = true := eqN_ext hY hA fun k hk => by rw [has_without _ _ _ hk, no k hk]; simp
    have h0 : hasI A i = false := by unfold hasI; rw [if_neg (by omega)]
    refine ⟨A, A, hA, hA, bv_congr fun j hj => by unfold iw; rw [of_eqN eX j hj], bv_congr fun j hj => by unfold iw; rw [of_eqN eY j hj], by rw [h0]; simp; omega, h0, fun _ => ⟨rfl, rfl⟩, fun k _ => ⟨rfl, rfl⟩, eY, eX⟩

end Go.Proofs.Ytfejmcoaljelpaa.Bits
