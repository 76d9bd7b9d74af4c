/-
  Texts of one claim, joined in build order: Bits11.
-/
import Derived.Test.YtaofldlidifdcaaMg14
import Derived.Shelf.Spec.TrailingZeros
/-
  Package bits, by its sets: And, Minus, Or, With, Without, Has, Of, Len; TrailingZeros64.
-/
namespace Go.Proofs.Ytaofldlidifdcaa.Bits
open Go.RowKit

theorem ret_v {a b : Value} (h : a = b) : Ending.returned a = .returned b := by rw [h]
theorem and_n {A B : Nat → Nat} (hA : Ws A) (hB : Ws B) (w : World) : Calls Try.prog 55 #[bv (iw A), bv (iw B)] w fun e w' => e = .returned (bv (iw (andW A B))) ∧ Below w.heap.size w w' :=
  (and_any (iw A) (iw B) w).mono fun _ _ ⟨he, hb⟩ => ⟨he.trans (ret_v (bv_and hA hB)), hb⟩
/-- All that is in one of the sets. -/
def orL (L : List (Nat → Nat)) : Nat → Nat := L.foldl orW noneW
theorem Ws.foldl {L : List (Nat → Nat)} (hL : ∀ B ∈ L, Ws B) : ∀ {A : Nat → Nat}, Ws A → Ws (L.foldl orW A) := by
  induction L with
  | nil => intro A hA; exact hA
  | cons B L ih => intro A hA; exact ih (fun C hC => hL C (List.mem_cons_of_mem _ hC)) (hA.or (hL B List.mem_cons_self))
theorem Ws.orL {L : List (Nat → Nat)} (hL : ∀ B ∈ L, Ws B) : Ws (orL L) := Ws.foldl hL Ws.none
theorem orw_foldl : ∀ (L : List (Nat → Nat)) (A : Nat → Nat), Ws A → (∀ B ∈ L, Ws B) → ∀ j, j < 4 → (L.map iw).foldl (fun x b => Go.bits .or .u64 x (b j)) (iw A j) = iw (L.foldl orW A) j
  | [], _, _, _, _, _ => rfl
  | B :: L, A, hA, hL, j, hj => by
    simp only [List.map_cons, List.foldl_cons]
    rw [show Go.bits .or .u64 (iw A j) (iw B j) = iw (orW A B) j from or_u64 _ _ (hA j hj) (hL B List.mem_cons_self j hj)]
    exact orw_foldl L (orW A B) (hA.or (hL B List.mem_cons_self)) (fun C hC => hL C (List.mem_cons_of_mem _ hC)) j hj
theorem bv_orL (L : List (Nat → Nat)) (hL : ∀ B ∈ L, Ws B) : bv (orw (L.map iw)) = bv (iw (orL L)) := bv_congr fun j hj => orw_foldl L noneW Ws.none hL j hj
theorem or_n (A : Option Addr) (n c : Nat) (L : List (Nat → Nat)) (hL : ∀ B ∈ L, Ws B) (w : World) (h : RdB w A n (L.map iw)) :
    Calls Try.prog 57 #[.slice A n c] w fun e w' => e = .returned (bv (iw (orL L))) ∧ Below w.heap.size w w' :=
  (or_any A n c (L.map iw) w h).mono fun _ _ ⟨he, hb⟩ => ⟨he.trans (ret_v (bv_orL L hL)), hb⟩
theorem has_orL (L : List (Nat → Nat)) (i : Nat) : hasN (orL L) i = L.any (hasN · i) := by
  have : ∀ (L : List (Nat → Nat)) (A : Nat → Nat), hasN (L.foldl orW A) i = (hasN A i || L.any (hasN · i)) := by
    intro L
    induction L with
    | nil => intro A; simp
    | cons B L ih => intro A; simp only [List.foldl_cons, List.any_cons]; rw [ih, has_or, Bool.or_assoc]
  unfold orL
  rw [this, has_none, Bool.false_or]
def withW (A : Nat → Nat) (i : Int) : Nat → Nat := orW A (oneN i)
def withoutW (A : Nat → Nat) (i : Int) : Nat → Nat := minW A (oneN i)
theorem orw_two {A B : Nat → Nat} (hA : Ws A) (hB : Ws B) : bv (orw [iw A, iw B]) = bv (iw (orW A B)) := by
  have := bv_orL [A, B] (by intro C hC; simp at hC; rcases hC with rfl | rfl <;> assumption)
  simp only [List.map_cons, List.map_nil] at this
  rw [this]
  exact bv_congr fun j _ => by simp [iw, orL, orW, noneW]
theorem with_n {A : Nat → Nat} (hA : Ws A) (i : Int) (w : World) : Calls Try.prog 40 #[bv (iw A), .int .i64 i] w fun e w' => e = .returned (bv (iw (withW A i))) ∧ Below w.heap.size w w' :=
  (with_any (iw A) i w).mono fun _ _ ⟨he, hb⟩ => ⟨he.trans (ret_v (by rw [iw_one]; exact orw_two hA (Ws.one i))), hb⟩
theorem hasI_zero {A : Nat → Nat} (hA : Ws A) (i : Int) : hasI A i = false ↔ ∀ j, j < 4 → Go.bits .and .u64 (iw A j) (oneW i j) = 0 := by
  rw [iw_one]
  have e : ∀ j, j < 4 → Go.bits .and .u64 (iw A j) (iw (oneN i) j) = ((A j &&& oneN i j : Nat) : Int) := fun j hj => and_u64 _ _ (hA j hj) (Ws.one i j hj)
  have e2 : (∀ j, j < 4 → Go.bits .and .u64 (iw A j) (iw (oneN i) j) = 0) ↔ ∀ j, j < 4 → A j &&& oneN i j = 0 := by
    constructor
    · intro h j hj; have := h j hj; rw [e j hj] at this; omega
    · intro h j hj; rw [e j hj, h j hj]; rfl
  rw [e2]
  unfold hasI
  by_cases hi : 0 ≤ i ∧ i < 256
  · rw [if_pos hi]
    obtain ⟨k, rfl⟩ : ∃ k : Nat, i = (k : Int) := ⟨i.toNat, by omega⟩
    have hk : k < 256 := by omega
    have z : (∀ j, j < 4 → A j &&& oneN (k : Int) j = 0) ↔ ∀ m, m < 256 → hasN (andW A (oneN (k : Int))) m = hasN noneW m := by
      constructor
      · intro h m hm
        unfold hasN andW
        rw [h _ (by omega)]
        rfl
      · intro h j hj
        exact ext_has (Ws.and hA) Ws.none h j hj
    rw [z, Int.toNat_natCast]
    constructor
    · intro h m hm
      rw [has_and, has_one _ _ hm, has_none]
      by_cases hmk : (k : Int) = (m : Int)
      · have : k = m := by omega
        subst this
        simp [h]
      · simp [hmk]
    · intro h
      have := h k hk
      rw [has_and, has_one _ _ hk, has_none] at this
      simpa using this
  · rw [if_neg hi]
    refine ⟨fun _ j _ => ?_, fun _ => rfl⟩
    unfold oneN
    rw [if_neg (by omega)]
    exact Nat.and_zero _
theorem has_n {A : Nat → Nat} (hA : Ws A) (i : Int) (w : World) : Calls Try.prog 37 #[bv (iw A), .int .i64 i] w fun e w' => e = .returned (.bool (hasI A i)) ∧ Below w.heap.size w w' :=
  (has_any (iw A) i w).mono fun _ _ ⟨⟨h, he, hh⟩, hb⟩ => ⟨he.trans (ret_v (by
    have : h = hasI A i := by
      rw [← hasI_zero hA i] at hh
      cases h <;> cases hx : hasI A i <;> simp_all
    rw [this])), hb⟩
/-- The set of numbers. -/
def ofN (l : List Int) : Nat → Nat := l.foldl withW noneW
theorem Ws.ofl (l : List Int) : ∀ {A : Nat → Nat}, Ws A → Ws (l.foldl withW A) := by
  induction l with
  | nil => intro A hA; exact hA
  | cons i l ih => intro A hA; exact ih (hA.or (Ws.one i))
theorem Ws.ofN (l : List Int) : Ws (ofN l) := Ws.ofl l Ws.none
theorem ofW_foldl (l : List Int) : ∀ (a : Nat → Int) (A : Nat → Nat), Ws A → (∀ j, j < 4 → a j = iw A j) → ∀ j, j < 4 → (l.foldl (fun a i => orw [a, oneW i]) a) j = iw (l.foldl withW A) j := by
  induction l with
  | nil => intro a A _ h j hj; exact h j hj
  | cons i l ih =>
    intro a A hA h j hj
    simp only [List.foldl_cons]
    refine ih _ (withW A i) (hA.or (Ws.one i)) (fun j hj => ?_) j hj
    rw [iw_one]
    show Go.bits .or .u64 (Go.bits .or .u64 0 (a j)) (iw (oneN i) j) = _
    rw [h j hj]
    have h0 := or_u64 0 (A j) (by decide) (hA j hj)
    rw [Nat.zero_or] at h0
    have e0 : Go.bits .or .u64 0 (iw A j) = ((A j : Nat) : Int) := h0
    rw [e0]
    exact or_u64 _ _ (hA j hj) (Ws.one i j hj)
theorem bv_of (l : List Int) : bv (ofW l) = bv (iw (ofN l)) := bv_congr fun j hj => ofW_foldl l (fun _ => 0) noneW Ws.none (fun _ _ => rfl) j hj
theorem of_n (A : Option Addr) (n c : Nat) (zs : List Int) (w : World) (h : RdI w A n zs) :
    Calls Try.prog 64 #[.slice A n c] w fun e w' => e = .returned (bv (iw (ofN zs))) ∧ Below w.heap.size w w' :=
  (of_any A n c zs w h).mono fun _ _ ⟨he, hb⟩ => ⟨he.trans (ret_v (bv_of zs)), hb⟩
theorem has_with (A : Nat → Nat) (i : Int) (k : Nat) (hk : k < 256) : hasN (withW A i) k = (hasN A k || decide (i = (k : Int))) := by unfold withW; rw [has_or, has_one _ _ hk]
theorem has_without (A : Nat → Nat) (i : Int) (k : Nat) (hk : k < 256) : hasN (withoutW A i) k = (hasN A k && !decide (i = (k : Int))) := by unfold withoutW; rw [has_min, has_one _ _ hk]
theorem has_ofN (l : List Int) (k : Nat) (hk : k < 256) : hasN (ofN l) k = l.any (fun i => decide (i = (k : Int))) := by
  have : ∀ (l : List Int) (A : Nat → Nat), hasN (l.foldl withW A) k = (hasN A k || l.any (fun i => decide (i = (k : Int)))) := by
    intro l
    induction l with
    | nil => intro A; simp
    | cons i l ih => intro A; simp only [List.foldl_cons, List.any_cons]; rw [ih, has_with _ _ _ hk, Bool.or_assoc]
  unfold ofN
  rw [this, has_none, Bool.false_or]
theorem len_n {A : Nat → Nat} (hA : Ws A) (w : World) : Calls Try.prog 26 #[bv (iw A)] w fun e w' => e = .returned (.int .i64 ((listN A).length : Nat)) ∧ Below w.heap.size w w' :=
  (len_any A hA w).mono fun _ _ ⟨he, hb⟩ => ⟨he.trans (ret_v (by rw [lenW_list])), hb⟩

/-! TrailingZeros64 -/
theorem TabAt.below {g : Nat} {tab : List Nat} {w w' : World} {B : Nat} (h : TabAt g tab w) (hb : Below B w w') (hg : g < B) : TabAt g tab w' := fun j hj => (hb.cell (p := ⟨g, j, none⟩) hg).trans (h j hj)
theorem TabAt.lt {g : Nat} {w : World} (h : TabAt g Lib.deBruijn64tab w) : g < w.heap.size := World.block_lt_of_cell? w _ (h 0 (by decide))
end Go.Proofs.Ytaofldlidifdcaa.Bits
