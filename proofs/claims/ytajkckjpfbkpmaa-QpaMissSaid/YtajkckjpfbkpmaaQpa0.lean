/-
  Blocks, and what is left at the deadlines: plain laws.
-/
import Derived.Test.YtajkckjpfbkpmaaDem11
import Derived.Test.YtajkckjpfbkpmaaDem8
namespace Go.Proofs.Ytajkckjpfbkpmaa.Dem
open Go.RowKit Go.Shelf Go.Proofs.Ytajkckjpfbkpmaa.Ari

/-- Blocks: until when, how much. -/
def OkB (p : Int × Int) : Prop := 1 ≤ p.1 ∧ p.1 ≤ 1048575 ∧ 0 ≤ p.2 ∧ p.2 ≤ 1048576
def OksB (l : List (Int × Int)) : Prop := ∀ p ∈ l, OkB p
def stepH (t m : Int) (p : Int × Int) : Int := if t < p.1 then max m p.2 else m
def heldAt (b : List (Int × Int)) (t : Int) : Int := b.foldl (stepH t) 0
def endI (b : List (Int × Int)) (P : Int) : Int := b.foldl (fun m p => max m p.1) P
theorem getDB {l : List (Int × Int)} (h : OksB l) {i : Nat} (hi : i < l.length) : OkB (l.getD i (0, 0)) := by
  rw [List.getD_eq_getElem?_getD, List.getElem?_eq_getElem hi]
  exact h _ (List.getElem_mem hi)
theorem held_go (b : List (Int × Int)) (t : Int) : ∀ m, m ≤ b.foldl (stepH t) m ∧ (∀ p ∈ b, t < p.1 → p.2 ≤ b.foldl (stepH t) m) ∧ (b.foldl (stepH t) m = m ∨ ∃ p ∈ b, t < p.1 ∧ b.foldl (stepH t) m = p.2) := by
  induction b with
  | nil => intro m; exact ⟨Int.le_refl _, fun p hp => by simp at hp, .inl rfl⟩
  | cons a r ih =>
    intro m
    obtain ⟨h1, h2, h3⟩ := ih (stepH t m a)
    have g : m ≤ stepH t m a := by unfold stepH; split <;> omega
    rw [List.foldl_cons]
    refine ⟨by omega, fun p hp hlt => ?_, ?_⟩
    · rcases List.mem_cons.1 hp with rfl | hp
      · have : p.2 ≤ stepH t m p := by unfold stepH; rw [if_pos hlt]; omega
        omega
      · exact h2 p hp hlt
    · rcases h3 with h3 | ⟨p, hp, hlt, h3⟩
      · rw [h3]
        unfold stepH
        split
        · rename_i hlt
          by_cases hm : a.2 ≤ m
          · exact .inl (by omega)
          · exact .inr ⟨a, List.mem_cons_self .., hlt, by omega⟩
        · exact .inl rfl
      · exact .inr ⟨p, List.mem_cons_of_mem _ hp, hlt, h3⟩
theorem held_nonneg (b : List (Int × Int)) (t : Int) : 0 ≤ heldAt b t := (held_go b t 0).1
theorem held_ge {b : List (Int × Int)} {t : Int} {p : Int × Int} (hp : p ∈ b) (h : t < p.1) : p.2 ≤ heldAt b t := (held_go b t 0).2.1 p hp h
theorem held_le {b : List (Int × Int)} {t M : Int} (h0 : 0 ≤ M) (h : ∀ p ∈ b, t < p.1 → p.2 ≤ M) : heldAt b t ≤ M := by
  rcases (held_go b t 0).2.2 with e | ⟨p, hp, hlt, e⟩
  · unfold heldAt; omega
  · have := h p hp hlt; unfold heldAt; omega
theorem held_bd {b : List (Int × Int)} (h : OksB b) (t : Int) : 0 ≤ heldAt b t ∧ heldAt b t ≤ 1048576 := ⟨held_nonneg b t, held_le (by omega) fun p hp _ => (h p hp).2.2.2⟩
theorem held_anti (b : List (Int × Int)) {s t : Int} (h : s ≤ t) : heldAt b t ≤ heldAt b s := held_le (held_nonneg b s) fun p hp hlt => held_ge hp (by omega)
theorem held_mono {b b' : List (Int × Int)} (h : ∀ p ∈ b, p ∈ b') (t : Int) : heldAt b t ≤ heldAt b' t := held_le (held_nonneg b' t) fun p hp hlt => held_ge (h p hp) hlt
theorem end_go (b : List (Int × Int)) : ∀ m, m ≤ endI b m ∧ (∀ p ∈ b, p.1 ≤ endI b m) ∧ (endI b m = m ∨ ∃ p ∈ b, endI b m = p.1) := by
  induction b with
  | nil => intro m; exact ⟨Int.le_refl _, fun p hp => by simp at hp, .inl rfl⟩
  | cons a r ih =>
    intro m
    obtain ⟨h1, h2, h3⟩ := ih (max m a.1)
    show m ≤ endI r (max m a.1) ∧ _
    refine ⟨by omega, fun p hp => ?_, ?_⟩
    · show p.1 ≤ endI r (max m a.1)
      rcases List.mem_cons.1 hp with rfl | hp
      · omega
      · exact h2 p hp
    · show endI r (max m a.1) = m ∨ _
      rcases h3 with h3 | ⟨p, hp, h3⟩
      · by_cases hm : a.1 ≤ m
        · exact .inl (by omega)
        · exact .inr ⟨a, List.mem_cons_self .., by show endI r (max m a.1) = _; omega⟩
      · exact .inr ⟨p, List.mem_cons_of_mem _ hp, h3⟩
theorem end_bd {b : List (Int × Int)} (h : OksB b) {P : Int} (h1 : 1 ≤ P) (h2 : P ≤ 1048575) : 1 ≤ endI b P ∧ endI b P ≤ 1048575 := by
  obtain ⟨a, _, c⟩ := end_go b P
  refine ⟨by omega, ?_⟩
  rcases c with e | ⟨p, hp, e⟩
  · omega
  · have := (h p hp).2.1; omega
theorem held_end {b : List (Int × Int)} {P t : Int} (h : endI b P < t) : heldAt b t = 0 := by
  have := held_le (b := b) (t := t) (M := 0) (Int.le_refl _) fun p hp hlt => by have := (end_go b P).2.1 p hp; omega
  have := held_nonneg b t
  omega
/-- What is left. -/
def leftI (l : List Dm) (b : List (Int × Int)) (t : Int) : Int := t - work l t - heldAt b t
def pts (l : List Dm) (b : List (Int × Int)) (P : Int) : List Int := if l = [] then [] else dls l (endI b P + 1) (nextI l 0)
theorem mem_pts {l : List Dm} (ho : Oks l) {b : List (Int × Int)} {P t : Int} : t ∈ pts l b P ↔ t ≤ endI b P ∧ IsDl l t := by
  unfold pts
  split
  · rename_i h
    subst h
    constructor
    · intro h; simp at h
    · rintro ⟨_, x, hx, _⟩; simp at hx
  · rename_i h
    rw [mem_dls ho h (endI b P + 1) _ _ (Nat.le_refl _) (isDl_next h ho)]
    constructor
    · rintro ⟨a, b, c⟩; exact ⟨by omega, c⟩
    · rintro ⟨a, c⟩
      have := isDl_pos ho c
      exact ⟨isDl_ge ho c (by omega), by omega, c⟩
/-- Is it all right? -/
def Fine (l : List Dm) (b : List (Int × Int)) (P : Int) : Prop := loadI l P ≤ P ∧ ∀ t ∈ pts l b P, 0 ≤ leftI l b t
/-- The first time at which it is too much. -/
def missOf (l : List Dm) (b : List (Int × Int)) (P : Int) : Option Int := (pts l b P).find? fun t => decide (leftI l b t < 0)
theorem missOf_none {l : List Dm} {b : List (Int × Int)} {P : Int} : missOf l b P = none ↔ ∀ t ∈ pts l b P, 0 ≤ leftI l b t := by
  unfold missOf
  rw [List.find?_eq_none]
  constructor
  · intro h t ht; have := h t ht; simp at this; omega
  · intro h t ht; have := h t ht; simp; omega
def testI (l : List Dm) (b : List (Int × Int)) (P : Int) : Int := if loadI l P ≤ P ∧ missOf l b P = none then 0 else 17
theorem test_fine {l : List Dm} {b : List (Int × Int)} {P : Int} : testI l b P = 0 ↔ Fine l b P := by
  unfold testI Fine
  rw [← missOf_none]
  split <;> simp_all
theorem test_or (l : List Dm) (b : List (Int × Int)) (P : Int) : testI l b P = 0 ∨ testI l b P = 17 := by unfold testI; split <;> simp
theorem work_zero {l : List Dm} {t : Int} (h : ∀ x ∈ l, t < x.d) : work l t = 0 := by
  unfold work
  induction l with
  | nil => rfl
  | cons x r ih =>
    have e : jobs x t = 0 := by unfold jobs; rw [if_pos (h x (List.mem_cons_self ..))]
    simp [e, ih fun y hy => h y (List.mem_cons_of_mem _ hy)]
/-- The last deadline that is not above a time. -/
theorem last_dl {l : List Dm} (ho : Oks l) {t : Int} (h : ∃ x ∈ l, x.d ≤ t) : ∃ u, u ≤ t ∧ IsDl l u ∧ work l u = work l t := by
  obtain ⟨x, hx, hd⟩ := h
  have hj : 0 < jobs x (t + 1 - 1) := by
    rw [show t + 1 - 1 = t by omega]
    have := due_iff (ho x hx) t 0 (Int.le_refl _)
    omega
  have h1 := last_ge hx hj
  have hT : 0 ≤ x.t := by have := (ho x hx).2.2; omega
  have := Int.mul_nonneg (show 0 ≤ jobs x (t + 1 - 1) - 1 by omega) hT
  have := (ho x hx).2.2.1
  have hp : 0 < lastI l (t + 1) := by omega
  have hle := last_lt ho hp
  refine ⟨lastI l (t + 1), by omega, ?_, work_congr l fun y hy => ?_⟩
  · obtain ⟨y, hy, hq, e⟩ := last_mem hp
    exact ⟨y, hy, jobs y (t + 1 - 1) - 1, by omega, e.symm⟩
  · have a := jobs_mono (ho y hy) (show lastI l (t + 1) ≤ t by omega)
    have b := jobs_nonneg (ho y hy) (lastI l (t + 1))
    by_cases hy0 : 0 < jobs y t
    · have c := last_ge hy (t := t + 1) (by rw [show t + 1 - 1 = t by omega]; exact hy0)
      rw [show t + 1 - 1 = t by omega] at c
      have := (due_iff (ho y hy) (lastI l (t + 1)) (jobs y t - 1) (by omega)).1 c
      omega
    · omega
theorem fine_work {l : List Dm} (ho : Oks l) {b : List (Int × Int)} {P : Int} (hP : Per l P) (hf : Fine l b P) : ∀ (k : Nat) (s : Int), s.toNat ≤ k → 0 ≤ s → work l s ≤ s := by
  intro k
  induction k with
  | zero =>
    intro s hs h0
    obtain rfl : s = 0 := by omega
    rw [work_zero fun x hx => by have := (ho x hx).2.2.1; omega]
    exact Int.le_refl _
  | succ k ih =>
    intro s hs h0
    by_cases hd : ∃ x ∈ l, x.d ≤ s
    · obtain ⟨u, hu, hdl, hw⟩ := last_dl ho hd
      have hu1 := isDl_pos ho hdl
      by_cases he : u ≤ endI b P
      · have := hf.2 u ((mem_pts ho).2 ⟨he, hdl⟩)
        have := held_nonneg b u
        unfold leftI at *
        omega
      · have hpe := (end_go b P).1
        have hP1 := hP.pos
        have := work_period ho hP (t := u - P) (by omega)
        rw [show u - P + P = u by omega] at this
        have := ih (u - P) (by omega) (by omega)
        have := hf.1
        omega
    · rw [work_zero fun x hx => by by_cases h : x.d ≤ s; exact absurd ⟨x, hx, h⟩ hd; omega]
      exact h0
/-- What fits is done in time. -/
theorem sound {l : List Dm} (ho : Oks l) {b : List (Int × Int)} {P : Int} (hP : Per l P) (hf : Fine l b P) {t : Int} (h : ∃ x ∈ l, x.d ≤ t) : work l t + heldAt b t ≤ t := by
  obtain ⟨u, hu, hdl, hw⟩ := last_dl ho h
  have hu1 := isDl_pos ho hdl
  have ha := held_anti b hu
  by_cases he : u ≤ endI b P
  · have := hf.2 u ((mem_pts ho).2 ⟨he, hdl⟩)
    unfold leftI at this
    omega
  · have := held_end (b := b) (P := P) (t := t) (by omega)
    have := fine_work ho hP hf u.toNat u (Nat.le_refl _) (by omega)
    omega
theorem isDl_due {l : List Dm} (ho : Oks l) {t : Int} (h : IsDl l t) : ∃ x ∈ l, x.d ≤ t := by
  obtain ⟨x, hx, k, hk, e⟩ := h
  have hT : 0 ≤ x.t := by have := (ho x hx).2.2; omega
  have := Int.mul_nonneg hk hT
  exact ⟨x, hx, by omega⟩
end Go.Proofs.Ytajkckjpfbkpmaa.Dem
