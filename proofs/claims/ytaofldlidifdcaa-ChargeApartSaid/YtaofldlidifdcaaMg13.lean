/-
  Texts of one claim, joined in build order: Sets.
-/
import Derived.Test.YtaofldlidifdcaaMg12
import Derived.Lib.TrailingZeros
/-
  Sets of numbers from 0 to 255, as four words: plain.
-/
namespace Go.Proofs.Ytaofldlidifdcaa.Bits
open Go.RowKit

theorem andNot_u64 (a b : Nat) (ha : a < 18446744073709551616) (hb : b < 18446744073709551616) : Go.bits .andNot .u64 (a : Int) (b : Int) = ((a ^^^ (a &&& b) : Nat) : Int) := by
  have h1 : (BitVec.ofInt IntKind.u64.bits (a : Int)).toNat = a := by
    rw [BitVec.toNat_ofInt]; show ((a : Int) % 18446744073709551616).toNat = a; omega
  have h2 : (BitVec.ofInt IntKind.u64.bits (b : Int)).toNat = b := by
    rw [BitVec.toNat_ofInt]; show ((b : Int) % 18446744073709551616).toNat = b; omega
  have h3 : (BitVec.ofInt IntKind.u64.bits (a : Int) &&& ~~~ BitVec.ofInt IntKind.u64.bits (b : Int)).toNat = a ^^^ (a &&& b) := by
    rw [BitVec.toNat_and, BitVec.toNat_not, h1, h2]
    show a &&& (2 ^ 64 - 1 - b) = _
    apply Nat.eq_of_testBit_eq
    intro i
    rw [show 2 ^ 64 - 1 - b = 2 ^ 64 - (b + 1) by omega, Nat.testBit_and, Nat.testBit_two_pow_sub_succ (by simpa using hb), Nat.testBit_xor, Nat.testBit_and]
    by_cases hi : i < 64
    · simp [hi]
      cases a.testBit i <;> cases b.testBit i <;> rfl
    · have : a.testBit i = false := Nat.testBit_lt_two_pow (Nat.lt_of_lt_of_le ha (by rw [show (18446744073709551616 : Nat) = 2 ^ 64 from rfl]; exact Nat.pow_le_pow_right (by decide) (by omega)))
      simp [this]
  simp only [Go.bits, h3]
  have h4 : a ^^^ (a &&& b) < 2 ^ 64 := Nat.xor_lt_two_pow (by simpa using ha) (Nat.lt_of_le_of_lt Nat.and_le_left (by simpa using ha))
  rw [IntKind.wrap_u64]
  have : (2 : Nat) ^ 64 = 18446744073709551616 := by decide
  omega

def andW (A B : Nat → Nat) : Nat → Nat := fun j => A j &&& B j
def orW (A B : Nat → Nat) : Nat → Nat := fun j => A j ||| B j
def minW (A B : Nat → Nat) : Nat → Nat := fun j => A j ^^^ (A j &&& B j)
def noneW : Nat → Nat := fun _ => 0
def oneN (i : Int) : Nat → Nat := fun j => if 0 ≤ i ∧ i < 256 ∧ j = (i / 64).toNat then 2 ^ (i % 64).toNat else 0
/-- Has it this number? -/
def hasN (A : Nat → Nat) (i : Nat) : Bool := (A (i / 64)).testBit (i % 64)
def hasI (A : Nat → Nat) (i : Int) : Bool := if 0 ≤ i ∧ i < 256 then hasN A i.toNat else false
theorem w64 : (18446744073709551616 : Nat) = 2 ^ 64 := rfl
theorem Ws.and {A B : Nat → Nat} (hA : Ws A) : Ws (andW A B) := fun j hj => Nat.lt_of_le_of_lt Nat.and_le_left (hA j hj)
theorem Ws.or {A B : Nat → Nat} (hA : Ws A) (hB : Ws B) : Ws (orW A B) := fun j hj => by
  rw [w64]; exact Nat.or_lt_two_pow (by rw [← w64]; exact hA j hj) (by rw [← w64]; exact hB j hj)
theorem Ws.min {A B : Nat → Nat} (hA : Ws A) : Ws (minW A B) := fun j hj => by
  rw [w64]; exact Nat.xor_lt_two_pow (by rw [← w64]; exact hA j hj) (Nat.lt_of_le_of_lt Nat.and_le_left (by rw [← w64]; exact hA j hj))
theorem Ws.none : Ws noneW := fun j _ => by unfold noneW; decide
theorem Ws.one (i : Int) : Ws (oneN i) := fun j _ => by
  unfold oneN
  split
  · rw [w64]; exact Nat.pow_lt_pow_right (by decide) (by omega)
  · decide
theorem iw_one (i : Int) : oneW i = iw (oneN i) := by
  funext j
  unfold oneW iw oneN
  split
  · simp
  · rfl
theorem bv_congr {a b : Nat → Int} (h : ∀ j, j < 4 → a j = b j) : bv a = bv b := by
  unfold bv rowc
  rw [h 0 (by decide), h 1 (by decide), h 2 (by decide), h 3 (by decide)]
theorem bv_and {A B : Nat → Nat} (hA : Ws A) (hB : Ws B) : bv (fun j => Go.bits .and .u64 (iw A j) (iw B j)) = bv (iw (andW A B)) := bv_congr fun j hj => and_u64 _ _ (hA j hj) (hB j hj)
theorem bv_or {A B : Nat → Nat} (hA : Ws A) (hB : Ws B) : bv (fun j => Go.bits .or .u64 (iw A j) (iw B j)) = bv (iw (orW A B)) := bv_congr fun j hj => or_u64 _ _ (hA j hj) (hB j hj)
theorem bv_min {A B : Nat → Nat} (hA : Ws A) (hB : Ws B) : bv (fun j => Go.bits .andNot .u64 (iw A j) (iw B j)) = bv (iw (minW A B)) := bv_congr fun j hj => andNot_u64 _ _ (hA j hj) (hB j hj)

theorem has_and (A B : Nat → Nat) (i : Nat) : hasN (andW A B) i = (hasN A i && hasN B i) := by simp [hasN, andW, Nat.testBit_and]
theorem has_or (A B : Nat → Nat) (i : Nat) : hasN (orW A B) i = (hasN A i || hasN B i) := by simp [hasN, orW, Nat.testBit_or]
theorem has_min (A B : Nat → Nat) (i : Nat) : hasN (minW A B) i = (hasN A i && !hasN B i) := by
  simp only [hasN, minW, Nat.testBit_xor, Nat.testBit_and]
  cases (A (i / 64)).testBit (i % 64) <;> cases (B (i / 64)).testBit (i % 64) <;> rfl
theorem has_none (i : Nat) : hasN noneW i = false := by simp [hasN, noneW]
theorem has_one (k : Int) (i : Nat) (hi : i < 256) : hasN (oneN k) i = decide (k = (i : Int)) := by
  unfold hasN oneN
  by_cases hk : k = (i : Int)
  · subst hk
    rw [if_pos ⟨by omega, by omega, by omega⟩]
    rw [show ((i : Int) % 64).toNat = i % 64 by omega]
    simp [Nat.testBit_two_pow_self]
  · simp only [hk, decide_false]
    split
    · rename_i h
      rw [Nat.testBit_two_pow]
      have : (k % 64).toNat ≠ i % 64 := by omega
      simp [this]
    · simp
/-- Sets are the same if they have the same numbers. -/
theorem ext_has {A B : Nat → Nat} (hA : Ws A) (hB : Ws B) (h : ∀ i, i < 256 → hasN A i = hasN B i) : ∀ j, j < 4 → A j = B j := by
  intro j hj
  apply Nat.eq_of_testBit_eq
  intro i
  by_cases hi : i < 64
  · have := h (64 * j + i) (by omega)
    unfold hasN at this
    rwa [show (64 * j + i) / 64 = j by omega, show (64 * j + i) % 64 = i by omega] at this
  · have le : (2 : Nat) ^ 64 ≤ 2 ^ i := Nat.pow_le_pow_right (by decide) (by omega)
    rw [Nat.testBit_lt_two_pow (Nat.lt_of_lt_of_le (hA j hj) (by rw [w64]; exact le)), Nat.testBit_lt_two_pow (Nat.lt_of_lt_of_le (hB j hj) (by rw [w64]; exact le))]
theorem bv_ext {A B : Nat → Nat} (hA : Ws A) (hB : Ws B) (h : ∀ i, i < 256 → hasN A i = hasN B i) : bv (iw A) = bv (iw B) := bv_congr fun j hj => by unfold iw; rw [ext_has hA hB h j hj]
theorem hasN_of_bv {A B : Nat → Nat} (h : ∀ j, j < 4 → A j = B j) (i : Nat) (hi : i < 256) : hasN A i = hasN B i := by unfold hasN; rw [h _ (by omega)]

/-! The numbers of a set -/
def listN (A : Nat → Nat) : List Nat := (List.range 256).filter (hasN A)
theorem ones_list (k : Nat) : ∀ x, ones k x = ((List.range k).filter (fun i => x.testBit i)).length := by
  induction k with
  | zero => intro x; rfl
  | succ k ih =>
    intro x
    rw [List.range_succ_eq_map, ones, ih (x / 2), List.filter_cons, List.filter_map]
    have e : ((fun i => x.testBit i) ∘ Nat.succ) = fun i => (x / 2).testBit i := by
      funext i
      simp only [Function.comp, Nat.succ_eq_add_one, Nat.testBit_succ]
    rw [e]
    have h0 : x.testBit 0 = decide (x % 2 = 1) := Nat.testBit_zero x
    rw [h0]
    have : x % 2 = 0 ∨ x % 2 = 1 := by omega
    rcases this with h | h
    · simp [h]
    · simp [h]; omega
def segw (k w : Nat) : List Nat := ((List.range 64).filter (fun i => w.testBit i)).map (64 * k + ·)
def rests (A : Nat → Nat) : Nat → Nat → List Nat
  | 0, _ => []
  | m + 1, k => segw k (A k) ++ rests A m (k + 1)
theorem seg_has (A : Nat → Nat) (k : Nat) : ((List.range 64).map (64 * k + ·)).filter (hasN A) = segw k (A k) := by
  unfold segw
  rw [List.filter_map]
  congr 1
  apply List.filter_congr
  intro i hi
  have := List.mem_range.1 hi
  simp only [Function.comp, hasN]
  rw [show (64 * k + i) / 64 = k by omega, show (64 * k + i) % 64 = i by omega]
theorem listN_rests (A : Nat → Nat) : listN A = rests A 4 0 := by
  have e : List.range 256 = (List.range 64).map (64 * 0 + ·) ++ ((List.range 64).map (64 * 1 + ·) ++ ((List.range 64).map (64 * 2 + ·) ++ (List.range 64).map (64 * 3 + ·))) := by decide +kernel
  unfold listN
  rw [e, List.filter_append, List.filter_append, List.filter_append, seg_has, seg_has, seg_has, seg_has]
  simp [rests]
theorem lenW_list (A : Nat → Nat) : lenW A = (listN A).length := by
  rw [listN_rests]
  simp [rests, segw, lenW, pre, ones_list]
  try omega
theorem len_le (A : Nat → Nat) : (listN A).length ≤ 256 := by
  have := List.length_filter_le (hasN A) (List.range 256)
  simpa [listN] using this
theorem mem_list (A : Nat → Nat) (i : Nat) : i ∈ listN A ↔ i < 256 ∧ hasN A i = true := by simp [listN, List.mem_filter]

theorem low_clear (c m : Nat) : (2 ^ c * (2 * m + 1)) &&& (2 ^ c * (2 * m + 1) - 1) = 2 ^ c * (2 * m) := by
  have hp : 0 < 2 ^ c := Nat.two_pow_pos c
  have e : 2 ^ c * (2 * m + 1) - 1 = 2 ^ c * (2 * m) + (2 ^ c - 1) := by
    rw [Nat.mul_add, Nat.mul_one]; omega
  rw [e]
  apply Nat.eq_of_testBit_eq
  intro j
  rw [Nat.testBit_and, Nat.testBit_two_pow_mul_add _ (by omega : 2 ^ c - 1 < 2 ^ c), Nat.testBit_two_pow_mul, Nat.testBit_two_pow_mul]
  by_cases hj : j < c
  · simp [hj, show ¬ c ≤ j by omega]
  · have hc : c ≤ j := by omega
    simp only [hj, hc, decide_true, Bool.true_and, if_false]
    generalize j - c = i
    cases i with
    | zero => simp [Nat.testBit_zero]
    | succ i =>
      simp only [Nat.testBit_succ]
      rw [show (2 * m + 1) / 2 = m by omega, show 2 * m / 2 = m by omega]
      simp
theorem test_clear (c m j : Nat) : (2 ^ c * (2 * m)).testBit j = ((2 ^ c * (2 * m + 1)).testBit j && decide (j ≠ c)) := by
  rw [Nat.testBit_two_pow_mul, Nat.testBit_two_pow_mul]
  by_cases hc : c ≤ j
  · simp only [hc, decide_true, Bool.true_and]
    obtain ⟨i, rfl⟩ : ∃ i, j = c + i := ⟨j - c, by omega⟩
    rw [show c + i - c = i by omega]
    cases i with
    | zero => simp [Nat.testBit_zero]
    | succ i =>
      simp only [Nat.testBit_succ]
      rw [show (2 * m + 1) / 2 = m by omega, show 2 * m / 2 = m by omega]
      simp
  · simp [hc]
theorem filter_first (p q : Nat → Bool) (c : Nat) (hlow : ∀ j, j < c → p j = false) (hc : p c = true) (hq : ∀ j, q j = (p j && decide (j ≠ c))) :
    ∀ n, (List.range n).filter p = if c < n then c :: (List.range n).filter q else [] := by
  intro n
  induction n with
  | zero => simp
  | succ n ih =>
    rw [List.range_succ, List.filter_append, List.filter_append, ih]
    rcases Nat.lt_trichotomy n c with h | h | h
    · rw [if_neg (by omega), if_neg (by omega)]
      simp [hlow n h]
    · subst h
      rw [if_neg (by omega), if_pos (by omega)]
      have : (List.range n).filter q = [] := by
        apply List.filter_eq_nil_iff.2
        intro j hj
        have := List.mem_range.1 hj
        rw [hq j, hlow j this]
        simp
      rw [this]
      simp [hc, hq]
    · rw [if_pos h, if_pos (by omega)]
      have : q n = p n := by rw [hq n]; simp; omega
      simp only [List.filter_cons, List.filter_nil, this, List.cons_append]
/-- The lowest number comes first; then the others. -/
theorem segw_step (k w : Nat) (h0 : w ≠ 0) (hw : w < 18446744073709551616) : segw k w = (64 * k + Lib.ctz 64 w) :: segw k (w &&& (w - 1)) ∧ Lib.ctz 64 w < 64 := by
  obtain ⟨m, hm, hlt⟩ := Lib.ctzFrom_spec 64 w (by omega) (by rw [← w64]; exact hw)
  have ec : Lib.ctz 64 w = Lib.ctzFrom 64 w := by unfold Lib.ctz; rw [if_neg h0]
  rw [ec]
  refine ⟨?_, hlt⟩
  generalize Lib.ctzFrom 64 w = c at *
  subst hm
  rw [low_clear]
  unfold segw
  rw [filter_first (fun i => (2 ^ c * (2 * m + 1)).testBit i) (fun i => (2 ^ c * (2 * m)).testBit i) c (fun j hj => by simp [Nat.testBit_two_pow_mul, show ¬ c ≤ j by omega]) (by simp [Nat.testBit_two_pow_mul, Nat.testBit_zero]) (fun j => test_clear c m j) 64, if_pos hlt]
  rfl
theorem segw_zero (k : Nat) : segw k 0 = [] := by simp [segw]
theorem segw_ne (k w : Nat) (h0 : w ≠ 0) (hw : w < 18446744073709551616) : segw k w ≠ [] := by rw [(segw_step k w h0 hw).1]; simp
end Go.Proofs.Ytaofldlidifdcaa.Bits
