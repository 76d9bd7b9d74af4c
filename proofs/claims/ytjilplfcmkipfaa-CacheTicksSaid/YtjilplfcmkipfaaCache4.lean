/-
  The statement CacheOwns: awake; the plain laws.
-/
import Derived.Test.YtjilplfcmkipfaaCache3
import Derived.Test.YtjilplfcmkipfaaOpens
namespace Go.Proofs.Ytjilplfcmkipfaa.Cache
open Go.RowKit Go.Shelf Go.Proofs.Ytjilplfcmkipfaa.Bits

set_option maxHeartbeats 4000000 in
set_option maxRecDepth 100000 in
theorem awake8_any (w : World) : Calls Try.prog 8 #[] w fun e w' => e = .returned (.bool true) ∧ Below w.heap.size w w' := by
  have u1 : useB ([0, 0, 0, 0]) 3 1 = false := by decide
  have u2 : useB (useL ([0, 0, 0, 0]) 3 1) 3 1 = true := by decide
  have u3 : useB (useL (useL ([0, 0, 0, 0]) 3 1) 3 1) 3 2 = false := by decide
  have u4 : useB (useL (useL (useL ([0, 0, 0, 0]) 3 1) 3 1) 3 2) 3 1 = false := by decide
  go_enter Try.func8, Try.ntmps8
  go_wp2_with fail
  refine (new_any 4 (by decide) w).mono ?_
  rintro e W0 ⟨p, g, rfl, h0, hb0, hp, hg⟩
  have H0 := Lib.hid h0
  have HB0 := Lib.hid hb0
  have HG := Lib.hid hg
  clear h0 hb0 hp hg
  go_wp2_with fail
  refine (use_any p g _ 3 1 W0 H0.out).mono ?_
  rintro e W1 ⟨rfl, h1, hb1⟩
  have H1 := Lib.hid h1
  have HB1 : Hid (Below w.heap.size w W1) := HB0.out.trans (hb1.below HG.out HB0.out.size)
  clear h1 hb1 HB0 H0
  go_wp2_with fail
  refine (use_any p g _ 3 1 W1 H1.out).mono ?_
  rintro e W2 ⟨rfl, h2, hb2⟩
  have H2 := Lib.hid h2
  have HB2 : Hid (Below w.heap.size w W2) := HB1.out.trans (hb2.below HG.out HB1.out.size)
  clear h2 hb2 HB1 H1
  go_wp2_with fail
  refine (use_any p g _ 3 2 W2 H2.out).mono ?_
  rintro e W3 ⟨rfl, h3, hb3⟩
  have H3 := Lib.hid h3
  have HB3 : Hid (Below w.heap.size w W3) := HB2.out.trans (hb3.below HG.out HB2.out.size)
  clear h3 hb3 HB2 H2
  go_wp2_with fail
  refine (use_any p g _ 3 1 W3 H3.out).mono ?_
  rintro e W4 ⟨rfl, h4, hb4⟩
  have HB4 : Hid (Below w.heap.size w W4) := HB3.out.trans (hb4.below HG.out HB3.out.size)
  clear h4 hb4 HB3 H3
  go_wp2
  go_ret
  exact ⟨rfl, HB4.out⟩

/-! Whose the sets are -/
def Few (L : List Int) : Prop := ∀ j, 0 ≤ L.getD j 0 ∧ L.getD j 0 ≤ 16
theorem Few.rep (n : Nat) : Few (List.replicate n 0) := fun j => by
  simp only [List.getD_eq_getElem?_getD, List.getElem?_replicate]
  split <;> simp
theorem Few.use {L : List Int} (h : Few L) (set owner : Int) (h0 : 0 ≤ owner) (h1 : owner ≤ 16) : Few (useL L set owner) := fun j => by
  unfold useL
  split
  · by_cases e : set.toNat = j
    · subst e
      by_cases hl : set.toNat < L.length
      · simp [List.getD_eq_getElem?_getD, hl, h0, h1]
      · simp [List.getD_eq_getElem?_getD, hl]
    · have : (L.set set.toNat owner).getD j 0 = L.getD j 0 := by simp [List.getD_eq_getElem?_getD, List.getElem?_set_ne e]
      rw [this]
      exact h j
  · exact h j
theorem has_of (L : List Int) (owner : Int) (h0 : 1 ≤ owner) (h1 : owner ≤ 99) (m : Nat) (hm : m < 256) : hasN (ofN (ofL L owner)) m = (decide (m < L.length) && (L.getD m 0 == owner)) := by
  have ho : ownB owner = true := by simp [ownB, h0, h1]
  rw [has_ofN _ _ hm]
  unfold ofL
  rw [ho, if_pos rfl, Bool.eq_iff_iff, List.any_eq_true]
  constructor
  · rintro ⟨x, hx, he⟩
    obtain ⟨j, hj, rfl⟩ := List.mem_map.1 hx
    obtain rfl : j = m := by have := of_decide_eq_true he; omega
    have := List.mem_filter.1 hj
    simp only [List.mem_range] at this
    rw [decide_eq_true this.1, Bool.true_and]
    exact this.2
  · intro h
    rw [Bool.and_eq_true, decide_eq_true_iff] at h
    exact ⟨(m : Int), List.mem_map.2 ⟨m, List.mem_filter.2 ⟨List.mem_range.2 h.1, h.2⟩, rfl⟩, by simp⟩
/-- What the sets of the owners below i are together. -/
def Upto (L : List Int) (i : Nat) (X : Nat → Nat) : Prop := Ws X ∧ ∀ m, m < 256 → hasN X m = (decide (m < L.length) && decide (1 ≤ L.getD m 0 ∧ L.getD m 0 < i))
theorem Upto.none (L : List Int) : Upto L 1 noneW := ⟨Ws.none, fun m _ => by
  rw [has_none, decide_eq_false (by omega : ¬ (1 ≤ L.getD m 0 ∧ L.getD m 0 < ((1 : Nat) : Int))), Bool.and_false]⟩
theorem Upto.apart {L : List Int} {i : Nat} {X : Nat → Nat} (h : Upto L i X) (h1 : 1 ≤ i) (h2 : i ≤ 99) : eqN (andW X (ofN (ofL L (i : Int)))) noneW = true :=
  eqN_ext h.1.and Ws.none fun m hm => by
    rw [has_and, h.2 m hm, has_of L (i : Int) (by omega) (by omega) m hm, has_none]
    cases hd : decide (m < L.length) with
    | false => simp
    | true =>
      simp only [Bool.true_and]
      cases he : L.getD m 0 == (i : Int) with
      | false => simp
      | true =>
        have := beq_iff_eq.1 he
        rw [Bool.and_true, decide_eq_false]
        omega
theorem Upto.step {L : List Int} {i : Nat} {X : Nat → Nat} (h : Upto L i X) (h1 : 1 ≤ i) (h2 : i ≤ 99) : Upto L (i + 1) (orL [X, ofN (ofL L (i : Int))]) :=
  ⟨Ws.orL (ws2 h.1 (Ws.ofN _)), fun m hm => by
    rw [has_orL]
    simp only [List.any_cons, List.any_nil, Bool.or_false]
    rw [h.2 m hm, has_of L (i : Int) (by omega) (by omega) m hm, ← Bool.and_or_distrib_left]
    congr 1
    rw [Bool.eq_iff_iff, Bool.or_eq_true, decide_eq_true_iff, decide_eq_true_iff, beq_iff_eq]
    omega⟩
theorem Upto.all {L : List Int} {X : Nat → Nat} (h : Upto L 17 X) (hF : Few L) (hl : L.length ≤ 256) (m : Nat) (hm : m < L.length) : hasI X (m : Int) = !(L.getD m 0 == 0) := by
  unfold hasI
  rw [if_pos (by omega), Int.toNat_natCast, h.2 m (by omega), decide_eq_true hm, Bool.true_and]
  have := hF m
  rw [Bool.eq_iff_iff, decide_eq_true_iff, Bool.not_eq_true', beq_eq_false_iff_ne]
  omega
theorem Upto.len {L : List Int} {X : Nat → Nat} (h : Upto L 17 X) (hl : L.length ≤ 256) : (listN X).length ≤ L.length := by
  have e : listN X = (List.range L.length).filter (hasN X) := by
    unfold listN
    have e2 : List.range 256 = List.range L.length ++ (List.range (256 - L.length)).map (L.length + ·) := by
      rw [← List.range_add]; congr 1; omega
    rw [e2, List.filter_append]
    have : ((List.range (256 - L.length)).map (L.length + ·)).filter (hasN X) = [] := by
      apply List.filter_eq_nil_iff.2
      intro x hx
      obtain ⟨y, hy, rfl⟩ := List.mem_map.1 hx
      have := List.mem_range.1 hy
      rw [h.2 _ (by omega), decide_eq_false (by omega), Bool.false_and]
      simp
    rw [this, List.append_nil]
  rw [e]
  have := List.length_filter_le (hasN X) (List.range L.length)
  simpa using this
theorem of_rep (n : Nat) : eqN (ofN (ofL (List.replicate n 0) 1)) noneW = true := eqN_ext (Ws.ofN _) Ws.none fun m hm => by
  rw [has_of _ 1 (by omega) (by omega) m hm, has_none]
  have : ((List.replicate n (0 : Int)).getD m 0 == 1) = false := by
    simp only [List.getD_eq_getElem?_getD, List.getElem?_replicate]
    split <;> simp
  rw [this, Bool.and_false]
theorem owner_rep (n : Nat) : ownerI (List.replicate n 0) 0 = 0 := by
  unfold ownerI
  split
  · simp only [List.getD_eq_getElem?_getD, List.getElem?_replicate]
    split <;> simp
  · rfl
end Go.Proofs.Ytjilplfcmkipfaa.Cache
