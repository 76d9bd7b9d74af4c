/-
  Package blocks, plain: what is ahead, behind, useful, most.
-/
import Derived.Test.YtdmfdgadhobkpaaBlk4
namespace Go.Proofs.Ytdmfdgadhobkpaa.Blk
open Go.RowKit Go.Shelf Go.Proofs.Ytdmfdgadhobkpaa.Sys Go.Proofs.Ytdmfdgadhobkpaa.Box Go.Proofs.Ytdmfdgadhobkpaa.Bits

theorem acc_mod {u : List Int} (hu : u ≠ []) {k : Int} (hk : 0 ≤ k) : accI u k = u.getD (k % (u.length : Int)).toNat 0 := by
  have : accB u k = true := decide_eq_true ⟨hu, hk⟩
  simp [accI, this]
theorem acc_rest {u : List Int} (hu : u ≠ []) {k : Int} (hk : 0 ≤ k) : accI u k = accI u (k % (u.length : Int)) := by
  have hl : 0 < u.length := List.length_pos_iff.2 hu
  rw [acc_mod hu hk, acc_mod hu (Int.emod_nonneg _ (by omega)), Int.emod_emod_of_dvd _ (Int.dvd_refl _)]
theorem tick_has (u : List Int) (f : Int) (m i : Nat) (hi : i < 256) : hasN (ofN (tickL u f m)) i = true ↔ ∃ k : Int, f ≤ k ∧ k < f + (m : Int) ∧ accI u k = (i : Int) := by
  rw [has_ofN _ _ hi, List.any_eq_true]
  unfold tickL
  constructor
  · rintro ⟨x, hx, he⟩
    obtain ⟨j, hj, rfl⟩ := List.mem_map.1 hx
    have := List.mem_range.1 hj
    exact ⟨f + (j : Int), by omega, by omega, of_decide_eq_true he⟩
  · rintro ⟨k, h1, h2, h3⟩
    refine ⟨accI u k, List.mem_map.2 ⟨(k - f).toNat, List.mem_range.2 (by omega), ?_⟩, decide_eq_true h3⟩
    congr 1
    omega
/-- Uses a tick from this one on, below another one, this set? -/
def Uses (x : TaskV) (f t : Int) (i : Nat) : Prop := ∃ k : Int, 0 ≤ k ∧ f ≤ k ∧ k < t ∧ k < x.c ∧ accI x.use k = (i : Int)
theorem put_has {x : TaskV} (hm : mayT x = true) (f t : Int) (i : Nat) (hi : i < 256) : hasN (ofN (putL x f t)) i = true ↔ Uses x f t i := by
  have h := of_decide_eq_true hm
  have hu : x.use ≠ [] := by intro e; rw [e] at h; simp at h
  have hl : 0 < x.use.length := List.length_pos_iff.2 hu
  unfold putL
  rw [if_pos hm, tick_has _ _ _ _ hi]
  constructor
  · rintro ⟨k, h1, h2, h3⟩
    exact ⟨k, by omega, by omega, by omega, by omega, h3⟩
  · rintro ⟨k, h1, h2, h3, h4, h5⟩
    -- the tick of the same set within the first turn
    have m0 := Int.emod_nonneg (k - max f 0) (show (x.use.length : Int) ≠ 0 by omega)
    have m1 := Int.emod_lt_of_pos (k - max f 0) (show (0 : Int) < (x.use.length : Int) by omega)
    have m2 : (k - max f 0) % (x.use.length : Int) ≤ k - max f 0 := by
      have e := Int.mul_ediv_add_emod (k - max f 0) (x.use.length : Int)
      have q := Int.ediv_nonneg (show 0 ≤ k - max f 0 by omega) (show (0 : Int) ≤ (x.use.length : Int) by omega)
      have := Int.mul_nonneg (show (0 : Int) ≤ (x.use.length : Int) by omega) q
      omega
    refine ⟨max f 0 + (k - max f 0) % (x.use.length : Int), by omega, by omega, ?_⟩
    rw [← h5, acc_rest hu (by omega), acc_rest hu h1]
    congr 1
    rw [Int.add_emod_emod]
    congr 1
    omega
theorem count_mono {α : Type} {p q : α → Bool} : ∀ (l : List α), (∀ x ∈ l, p x = true → q x = true) → (l.filter p).length ≤ (l.filter q).length
  | [], _ => Nat.le_refl _
  | a :: l, h => by
    have ih := count_mono l fun x hx => h x (List.mem_cons_of_mem _ hx)
    have ha := h a (List.mem_cons_self ..)
    cases hp : p a with
    | false =>
      cases hq : q a with
      | false => simpa [List.filter_cons, hp, hq] using ih
      | true => simp [List.filter_cons, hp, hq]; omega
    | true =>
      have hq := ha hp
      simp [List.filter_cons, hp, hq]; exact ih
theorem len_mono {A B : Nat → Nat} (h : ∀ i, i < 256 → hasN A i = true → hasN B i = true) : (listN A).length ≤ (listN B).length := count_mono _ fun i hi => h i (List.mem_range.1 hi)
theorem useful_has {x : TaskV} (hm : mayT x = true) (p : Int) (i : Nat) (hi : i < 256) : hasN (usefulN x p) i = true ↔ Uses x 0 p i ∧ Uses x p x.c i := by
  unfold usefulN beforeN behindN
  rw [has_and, Bool.and_eq_true, put_has hm _ _ _ hi, put_has hm _ _ _ hi]
theorem used_has {x : TaskV} (hm : mayT x = true) (i : Nat) (hi : i < 256) : hasN (usedN x) i = true ↔ Uses x 0 x.c i := put_has hm _ _ _ hi
/-- How many are useful at a place, of some; how many are used. -/
def cntU (x : TaskV) (O : Nat → Nat) (p : Int) : Nat := (listN (andW (usefulN x p) O)).length
def allU (x : TaskV) (O : Nat → Nat) : Nat := (listN (andW (usedN x) O)).length
theorem cnt_all {x : TaskV} (hm : mayT x = true) (O : Nat → Nat) (p : Int) : cntU x O p ≤ allU x O := len_mono fun i hi h => by
  rw [has_and, Bool.and_eq_true] at h ⊢
  refine ⟨?_, h.2⟩
  obtain ⟨⟨k, a, b, c, d, e⟩, _⟩ := (useful_has hm p i hi).1 h.1
  exact (used_has hm i hi).2 ⟨k, a, b, d, d, e⟩
/-- Behind one turn, with one turn to come, all is useful. -/
theorem cnt_turn {x : TaskV} (hm : mayT x = true) (O : Nat → Nat) (h2 : 2 * (x.use.length : Int) ≤ x.c) : allU x O ≤ cntU x O (x.use.length : Int) := len_mono fun i hi h => by
  have hmt := of_decide_eq_true hm
  have hu : x.use ≠ [] := by intro e; rw [e] at hmt; simp at hmt
  rw [has_and, Bool.and_eq_true] at h ⊢
  refine ⟨?_, h.2⟩
  obtain ⟨k, a, _, _, _, e⟩ := (used_has hm i hi).1 h.1
  have m0 := Int.emod_nonneg k (show (x.use.length : Int) ≠ 0 by omega)
  have m1 := Int.emod_lt_of_pos k (show (0 : Int) < (x.use.length : Int) by omega)
  refine (useful_has hm _ i hi).2 ⟨⟨k % (x.use.length : Int), m0, m0, m1, by omega, by rw [← acc_rest hu a]; exact e⟩, ⟨k % (x.use.length : Int) + (x.use.length : Int), by omega, by omega, by omega, by omega, ?_⟩⟩
  rw [acc_rest hu (by omega), Int.add_emod_right, Int.emod_emod_of_dvd _ (Int.dvd_refl _), ← acc_rest hu a]
  exact e
/-- The most so far, and where first. -/
structure MostR (x : TaskV) (O : Nat → Nat) (m : Nat) (at_ : Int) (e : Int) : Prop where
  le : ∀ p, 1 ≤ p → p < e → cntU x O p ≤ m
  z : m = 0 → at_ = 0
  at1 : 0 < m → 1 ≤ at_ ∧ at_ < e ∧ cntU x O at_ = m ∧ ∀ q, 1 ≤ q → q < at_ → cntU x O q < m
theorem MostR.none (x : TaskV) (O : Nat → Nat) : MostR x O 0 0 1 := ⟨fun p h1 h2 => by omega, fun _ => rfl, fun h => absurd h (by decide)⟩
theorem MostR.up {x : TaskV} {O : Nat → Nat} {m : Nat} {a p : Int} (h : MostR x O m a p) (h1 : 1 ≤ p) (hk : m < cntU x O p) : MostR x O (cntU x O p) p (p + 1) :=
  ⟨fun q q1 q2 => by
    by_cases e : q = p
    · rw [e]; exact Nat.le_refl _
    · have := h.le q q1 (by omega); omega, fun h0 => by omega, fun _ => ⟨h1, by omega, rfl, fun q q1 q2 => by have := h.le q q1 q2; omega⟩⟩
theorem MostR.same {x : TaskV} {O : Nat → Nat} {m : Nat} {a p : Int} (h : MostR x O m a p) (hk : cntU x O p ≤ m) : MostR x O m a (p + 1) :=
  ⟨fun q q1 q2 => by
    by_cases e : q = p
    · rw [e]; exact hk
    · exact h.le q q1 (by omega), h.z, fun h0 => by obtain ⟨a1, a2, a3⟩ := h.at1 h0; exact ⟨a1, by omega, a3⟩⟩
theorem MostR.bd {x : TaskV} {O : Nat → Nat} {m : Nat} {a e : Int} (hm : mayT x = true) (h : MostR x O m a e) : m ≤ allU x O := by
  by_cases h0 : 0 < m
  · obtain ⟨_, _, h3, _⟩ := h.at1 h0
    rw [← h3]; exact cnt_all hm O a
  · omega
/-- Where all are useful nothing more comes. -/
theorem MostR.whole {x : TaskV} {O : Nat → Nat} {m : Nat} {a e : Int} (hm : mayT x = true) (h : MostR x O m a e) (hw : m = allU x O) (C : Int) (hC : e ≤ C) : MostR x O m a C :=
  ⟨fun p _ _ => by rw [hw]; exact cnt_all hm O p, h.z, fun h0 => by obtain ⟨a1, a2, a3⟩ := h.at1 h0; exact ⟨a1, by omega, a3⟩⟩
/-- Behind two turns the most has been met. -/
theorem MostR.turns {x : TaskV} {O : Nat → Nat} {m : Nat} {a p : Int} (hm : mayT x = true) (h : MostR x O m a p) (hp : 2 * (x.use.length : Int) < p) (hC : p < x.c) : m = allU x O := by
  have hmt := of_decide_eq_true hm
  have h1 := h.bd hm
  have h2 := h.le (x.use.length : Int) (by omega) (by omega)
  have h3 := cnt_turn hm O (by omega)
  omega
end Go.Proofs.Ytdmfdgadhobkpaa.Blk
