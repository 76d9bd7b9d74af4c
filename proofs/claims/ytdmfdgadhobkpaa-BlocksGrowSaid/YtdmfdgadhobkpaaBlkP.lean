/-
  Package blocks: the parts of what is used. Plain.
-/
import Derived.Test.YtdmfdgadhobkpaaBlkS
import Derived.Test.YtdmfdgadhobkpaaBits16
namespace Go.Proofs.Ytdmfdgadhobkpaa.Blk
open Go.RowKit Go.Shelf Go.Proofs.Ytdmfdgadhobkpaa.Sys Go.Proofs.Ytdmfdgadhobkpaa.Box Go.Proofs.Ytdmfdgadhobkpaa.Bits

theorem eq_not {A : Nat → Nat} (hA : Ws A) (h : ∀ i, i < 256 → ¬ hasN A i = true) : eqN A noneW = true := eqN_ext hA Ws.none fun i hi => by
  rw [has_none]
  cases hq : hasN A i
  · rfl
  · exact absurd hq (h i hi)
theorem eq_iff {A B : Nat → Nat} (hA : Ws A) (hB : Ws B) (h : ∀ i, i < 256 → (hasN A i = true ↔ hasN B i = true)) : eqN A B = true := eqN_ext hA hB fun i hi => by
  have := h i hi
  cases ha : hasN A i <;> cases hb : hasN B i <;> simp_all
theorem eq_rfl {A : Nat → Nat} (hA : Ws A) : eqN A A = true := eqN_ext hA hA fun _ _ => rfl
theorem parts_facts9 (x : TaskV) (p : Int) (h0 : 0 ≤ p) :
    eqN (orL [beforeN x p, behindN x p]) (usedN x) = true ∧ eqN (andW (beforeN x p) (behindN x p)) (usefulN x p) = true ∧ eqN (usefulN x 0) noneW = true ∧ eqN (usefulN x x.c) noneW = true ∧
      eqN (beforeN x x.c) (usedN x) = true ∧ eqN (behindN x 0) (usedN x) = true := by
  have hX : Ws (beforeN x p) := Ws.ofN _
  have hY : Ws (behindN x p) := Ws.ofN _
  refine ⟨eq_iff (Ws.orL (ws2 hX hY)) (Ws.ofN _) fun i hi => ?_, eq_rfl hX.and, eq_not (usefulW _ _) fun i hi => ?_, eq_not (usefulW _ _) fun i hi => ?_, eq_rfl (Ws.ofN _), eq_rfl (Ws.ofN _)⟩
  · rw [has_orL]
    simp only [List.any_cons, List.any_nil, Bool.or_false, Bool.or_eq_true]
    cases hm : mayT x
    · have e : ∀ f t, putL x f t = [] := fun f t => by unfold putL; rw [if_neg (by rw [hm]; decide)]
      unfold beforeN behindN usedN
      rw [e, e, e]
      exact or_self_iff
    · have hb : hasN (beforeN x p) i = true ↔ Uses x 0 p i := put_has hm 0 p i hi
      have hd : hasN (behindN x p) i = true ↔ Uses x p x.c i := put_has hm p x.c i hi
      rw [hb, hd, used_has hm i hi]
      constructor
      · rintro (⟨k, a, b, c, d, e⟩ | ⟨k, a, b, c, d, e⟩)
        · exact ⟨k, a, b, d, d, e⟩
        · exact ⟨k, a, a, d, d, e⟩
      · rintro ⟨k, a, b, c, d, e⟩
        by_cases hk : k < p
        · exact .inl ⟨k, a, b, hk, d, e⟩
        · exact .inr ⟨k, a, by omega, d, d, e⟩
  · cases hm : mayT x
    · have e : ∀ f t, putL x f t = [] := fun f t => by unfold putL; rw [if_neg (by rw [hm]; decide)]
      unfold usefulN beforeN behindN
      rw [e, e, has_and]
      have hz : hasN (ofN []) i = false := by rw [show ofN [] = noneW from rfl, has_none]
      rw [hz]; decide
    · rw [useful_has hm 0 i hi]
      rintro ⟨⟨k, a, b, c, d, e⟩, _⟩
      omega
  · cases hm : mayT x
    · have e : ∀ f t, putL x f t = [] := fun f t => by unfold putL; rw [if_neg (by rw [hm]; decide)]
      unfold usefulN beforeN behindN
      rw [e, e, has_and]
      have hz : hasN (ofN []) i = false := by rw [show ofN [] = noneW from rfl, has_none]
      rw [hz]; decide
    · rw [useful_has hm x.c i hi]
      rintro ⟨_, ⟨k, a, b, c, d, e⟩⟩
      omega
end Go.Proofs.Ytdmfdgadhobkpaa.Blk
