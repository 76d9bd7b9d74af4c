/-
  The statement BitsOne, walked.
-/
import Derived.Test.YtdmfdgadhobkpaaBits14
import Derived.Test.YtdmfdgadhobkpaaCalm
namespace Go.Proofs.Ytdmfdgadhobkpaa.Bits
open Go.RowKit Go.Shelf

def eqN (A B : Nat → Nat) : Bool := (A 0 : Int) == B 0 && (A 1 : Int) == B 1 && (A 2 : Int) == B 2 && (A 3 : Int) == B 3
theorem eqN_of {A B : Nat → Nat} (h : ∀ j, j < 4 → A j = B j) : eqN A B = true := by
  simp [eqN, h 0 (by decide), h 1 (by decide), h 2 (by decide), h 3 (by decide)]
theorem of_eqN {A B : Nat → Nat} (h : eqN A B = true) : ∀ j, j < 4 → A j = B j := by
  simp only [eqN, Bool.and_eq_true, beq_iff_eq] at h
  obtain ⟨⟨⟨h0, h1⟩, h2⟩, h3⟩ := h
  intro j hj
  match j, hj with
  | 0, _ => omega
  | 1, _ => omega
  | 2, _ => omega
  | 3, _ => omega
theorem eqN_ext {A B : Nat → Nat} (hA : Ws A) (hB : Ws B) (h : ∀ i, i < 256 → hasN A i = hasN B i) : eqN A B = true := eqN_of (ext_has hA hB h)
@[go_sem] theorem run_eqN (A B : Nat → Nat) (w : World) : (Op.equalIn 10000 32 (bv (iw A)) (bv (iw B))).run Try.prog w = .ok (eqN A B) w := by
  unfold bv rowc iw
  rw [eqB]
  rfl
theorem bvl (A : Nat → Nat) : bv (iw A) = .agg #[.int .u64 (A 0 : Int), .int .u64 (A 1 : Int), .int .u64 (A 2 : Int), .int .u64 (A 3 : Int)] := rfl
/-- A set is read out of its block. -/
theorem opAt_load {o : Oper} {a : Act} {K : Value → World → Prop} {w : World} {x : Operand} (ho : o.op = .load 32 x) {b : Nat} (hx : a.eval x = .pointer (some ⟨b, 0, none⟩)) {A : Nat → Nat}
    (hh : w.heap[b]? = some (.cells (rowc (iw A)) 32 (0, 0))) (hK : K (bv (iw A)) w) : Calm.opAt Try.prog o a K w := by
  have c0 := cell_row hh 0 (by decide)
  have c1 := cell_row hh 1 (by decide)
  have c2 := cell_row hh 2 (by decide)
  have c3 := cell_row hh 3 (by decide)
  obtain ⟨d, op, ty, pos, aft, g⟩ := o
  simp only at ho
  subst ho
  unfold Calm.opAt execOp
  simp only [hx]
  unfold bv rowc at hK
  go_simp
  simpa only [Calm.upon_value] using hK
theorem opAt_eqt {A B : Nat → Nat} (h : eqN A B = true) {o : Oper} {a : Act} {K : Value → World → Prop} {w : World} {x y : Operand} {T' : TypeId} (ho : o.op = .binOp .eql 32 x y T') (hx : a.eval x = bv (iw A)) (hy : a.eval y = bv (iw B))
    (hK : K (.bool true) w) : Calm.opAt Try.prog o a K w := by
  obtain ⟨d, op, ty, pos, aft, g⟩ := o
  simp only at ho
  subst ho
  have e := eqB (A 0) (A 1) (A 2) (A 3) (B 0) (B 1) (B 2) (B 3) w
  have h' : ((A 0 : Int) == B 0 && (A 1 : Int) == B 1 && (A 2 : Int) == B 2 && (A 3 : Int) == B 3) = true := h
  rw [h'] at e
  unfold Calm.opAt execOp
  simp only [hx, hy, bvl]
  go_simp
  simpa only [Calm.upon_value] using hK
theorem opAt_net {A B : Nat → Nat} (h : eqN A B = true) {o : Oper} {a : Act} {K : Value → World → Prop} {w : World} {x y : Operand} {T' : TypeId} (ho : o.op = .binOp .neq 32 x y T') (hx : a.eval x = bv (iw A)) (hy : a.eval y = bv (iw B))
    (hK : K (.bool false) w) : Calm.opAt Try.prog o a K w := by
  obtain ⟨d, op, ty, pos, aft, g⟩ := o
  simp only at ho
  subst ho
  have e := eqB (A 0) (A 1) (A 2) (A 3) (B 0) (B 1) (B 2) (B 3) w
  have h' : ((A 0 : Int) == B 0 && (A 1 : Int) == B 1 && (A 2 : Int) == B 2 && (A 3 : Int) == B 3) = true := h
  rw [h'] at e
  unfold Calm.opAt execOp
  simp only [hx, hy, bvl]
  go_simp
  simpa only [Calm.upon_value] using hK
theorem box_in {W : World} {b : Nat} {A : Nat → Nat} (h : W.heap[b]? = some (.cells (rowc (iw A)) 32 (0, 0))) : ∀ w, Below W.heap.size W w → w.heap[b]? = some (.cells (rowc (iw A)) 32 (0, 0)) :=
  fun _ hB => (hB.block b (Array.getElem?_eq_some_iff.1 h).1).trans h

theorem c4 {w : World} {b : Nat} {A : Nat → Nat} (h : w.heap[b]? = some (.cells (rowc (iw A)) 32 (0, 0))) :
    w.cell? ⟨b, 0, none⟩ = some (.int .u64 (A 0 : Int)) ∧ w.cell? ⟨b, 1, none⟩ = some (.int .u64 (A 1 : Int)) ∧ w.cell? ⟨b, 2, none⟩ = some (.int .u64 (A 2 : Int)) ∧ w.cell? ⟨b, 3, none⟩ = some (.int .u64 (A 3 : Int)) :=
  ⟨cell_row h 0 (by decide), cell_row h 1 (by decide), cell_row h 2 (by decide), cell_row h 3 (by decide)⟩
theorem new4 (w : World) (X : Nat → Nat) : (w.alloc (.cells #[.int .u64 (X 0 : Int), .int .u64 (X 1 : Int), .int .u64 (X 2 : Int), .int .u64 (X 3 : Int)] 32)).heap[w.heap.size]? = some (.cells (rowc (iw X)) 32 (0, 0)) := heap_alloc_new _ _
theorem old4 {w w' : World} {b B : Nat} {A : Nat → Nat} (h : w.heap[b]? = some (.cells (rowc (iw A)) 32 (0, 0))) (hb : Below B w w') (hB : b < B) : w'.heap[b]? = some (.cells (rowc (iw A)) 32 (0, 0)) := (hb.block b hB).trans h
theorem lt4 {w : World} {b : Nat} {A : Nat → Nat} (h : w.heap[b]? = some (.cells (rowc (iw A)) 32 (0, 0))) : b < w.heap.size := (Array.getElem?_eq_some_iff.1 h).1
/-- What the statement says of the two sets. -/
theorem one_facts {A : Nat → Nat} (hA : Ws A) (i : Int) : ∃ X Y : Nat → Nat, Ws X ∧ Ws Y ∧ bv (iw (withW A i)) = bv (iw X) ∧ bv (iw (withoutW A i)) = bv (iw Y) ∧ hasI X i = decide (0 ≤ i ∧ i ≤ 255) ∧ hasI Y i = false ∧
    (¬ (0 ≤ i ∧ i ≤ 255) → X = A ∧ Y = A) ∧ (∀ k, k ≠ i → hasI X k = hasI A k ∧ hasI Y k = hasI A k) ∧ eqN (withoutW X i) Y = true ∧ eqN (withW Y i) X = true := by
  have hX : Ws (withW A i) := hA.or (Ws.one i)
  have hY : Ws (withoutW A i) := hA.min
  by_cases hi : 0 ≤ i ∧ i ≤ 255
  · obtain ⟨m, rfl⟩ : ∃ m : Nat, i = (m : Int) := ⟨i.toNat, by omega⟩
    have hm : m < 256 := by omega
    have hm' : (0 : Int) ≤ (m : Int) ∧ (m : Int) < 256 := by omega
    refine ⟨withW A m, withoutW A m, hX, hY, rfl, rfl, ?_, ?_, fun h => absurd hi h, fun k hk => ?_, ?_, ?_⟩
    · unfold hasI
      rw [if_pos hm', Int.toNat_natCast, has_with _ _ _ hm]
      simp
      omega
    · unfold hasI
      rw [if_pos hm', Int.toNat_natCast, has_without _ _ _ hm]
      simp
    · unfold hasI
      by_cases hk2 : 0 ≤ k ∧ k < 256
      · rw [if_pos hk2, if_pos hk2, if_pos hk2, has_with _ _ _ (by omega), has_without _ _ _ (by omega)]
        have : decide ((m : Int) = (k.toNat : Int)) = false := decide_eq_false (by omega)
        rw [this]
        simp
      · rw [if_neg hk2, if_neg hk2, if_neg hk2]
        exact ⟨rfl, rfl⟩
    · refine eqN_ext hX.min hY fun k hk => ?_
      rw [has_without _ _ _ hk, has_with _ _ _ hk, has_without _ _ _ hk]
      cases hasN A k <;> cases decide ((m : Int) = (k : Int)) <;> rfl
    · refine eqN_ext (hY.or (Ws.one _)) hX fun k hk => ?_
      rw [has_with _ _ _ hk, has_with _ _ _ hk, has_without _ _ _ hk]
      cases hasN A k <;> cases decide ((m : Int) = (k : Int)) <;> rfl
  · have no : ∀ k : Nat, k < 256 → decide (i = (k : Int)) = false := fun k hk => by simp; omega
    have eX : eqN (withW A i) A = true := eqN_ext hX hA fun k hk => by rw [has_with _ _ _ hk, no k hk, Bool.or_false]
    have eY : eqN (withoutW A i) A = true := eqN_ext hY hA fun k hk => by rw [has_without _ _ _ hk, no k hk]; simp
    have h0 : hasI A i = false := by unfold hasI; rw [if_neg (by omega)]
    refine ⟨A, A, hA, hA, bv_congr fun j hj => by unfold iw; rw [of_eqN eX j hj], bv_congr fun j hj => by unfold iw; rw [of_eqN eY j hj], by rw [h0]; simp; omega, h0, fun _ => ⟨rfl, rfl⟩, fun k _ => ⟨rfl, rfl⟩, eY, eX⟩

end Go.Proofs.Ytdmfdgadhobkpaa.Bits
