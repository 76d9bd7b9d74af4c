/-
  The statement BitsParts, walked.
-/
import Derived.Test.YtfejmcoaljelpaaBits15
namespace Go.Proofs.Ytfejmcoaljelpaa.Bits
open Go.RowKit Go.Shelf

def row8 (X Y : Nat → Nat) : Array Value := #[.int .u64 (X 0 : Int), .int .u64 (X 1 : Int), .int .u64 (X 2 : Int), .int .u64 (X 3 : Int), .int .u64 (Y 0 : Int), .int .u64 (Y 1 : Int), .int .u64 (Y 2 : Int), .int .u64 (Y 3 : Int)]
theorem ws2 {X Y : Nat → Nat} (hX : Ws X) (hY : Ws Y) : ∀ B ∈ [X, Y], Ws B := by
  intro B hB
  simp at hB
  rcases hB with rfl | rfl <;> assumption
theorem ws0 : ∀ B ∈ ([] : List (Nat → Nat)), Ws B := fun B hB => by cases hB
theorem count_or {α : Type} (p q : α → Bool) (l : List α) : (l.filter fun x => p x || q x).length + (l.filter fun x => p x && q x).length = (l.filter p).length + (l.filter q).length := by
  induction l with
  | nil => rfl
  | cons x l ih =>
    simp only [List.filter_cons]
    cases p x <;> cases q x <;> simp <;> omega
theorem listN_congr {A B : Nat → Nat} (h : ∀ i, i < 256 → hasN A i = hasN B i) : listN A = listN B := by
  unfold listN
  apply List.filter_congr
  intro i hi
  exact h i (List.mem_range.1 hi)
/-- What the statement says of two sets. -/
theorem parts_facts {A B : Nat → Nat} (hA : Ws A) (hB : Ws B) :
    eqN (orL [andW A B, minW A B]) A = true ∧ eqN (andW (andW A B) (minW A B)) noneW = true ∧ (((listN (orL [A, B])).length : Int) == (listN A).length + (listN B).length - (listN (andW A B)).length) = true ∧
    eqN (andW A B) (andW B A) = true ∧ eqN (minW (orL [A, B]) B) (minW A B) = true ∧ eqN (orL []) noneW = true := by
  refine ⟨eqN_ext (Ws.orL (ws2 hA.and hA.min)) hA fun i hi => ?_, eqN_ext (Ws.and (Ws.and hA)) Ws.none fun i hi => ?_, ?_, eqN_ext hA.and hB.and fun i hi => ?_, eqN_ext (Ws.min (Ws.orL (ws2 hA hB))) hA.min fun i hi => ?_, eqN_ext (Ws.orL ws0) Ws.none fun i hi => ?_⟩
  · rw [has_orL]
    simp only [List.any_cons, List.any_nil, has_and, has_min]
    cases hasN A i <;> cases hasN B i <;> rfl
  · rw [has_and, has_and, has_min, has_none]
    cases hasN A i <;> cases hasN B i <;> rfl
  · have h1 := count_or (hasN A) (hasN B) (List.range 256)
    have e1 : (listN (orL [A, B])).length = ((List.range 256).filter fun x => hasN A x || hasN B x).length := by
      unfold listN
      congr 1
      apply List.filter_congr
      intro i _
      rw [has_orL]
      simp
    have e2 : (listN (andW A B)).length = ((List.range 256).filter fun x => hasN A x && hasN B x).length := by
      unfold listN
      congr 1
      apply List.filter_congr
      intro i _
      rw [has_and]
    rw [beq_iff_eq, e1, e2]
    unfold listN
    omega
  · rw [has_and, has_and]
    cases hasN A i <;> cases hasN B i <;> rfl
  · rw [has_min, has_min, has_orL]
    simp only [List.any_cons, List.any_nil]
    cases hasN A i <;> cases hasN B i <;> rfl
  · rw [has_orL, has_none]
    rfl

end Go.Proofs.Ytfejmcoaljelpaa.Bits
