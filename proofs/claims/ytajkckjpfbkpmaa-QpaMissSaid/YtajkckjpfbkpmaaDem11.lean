/-
  Deadlines in a row of times: plain laws; slack.
-/
import Derived.Test.YtajkckjpfbkpmaaDem9
namespace Go.Proofs.Ytajkckjpfbkpmaa.Dem
open Go.RowKit Go.Shelf Go.Proofs.Ytajkckjpfbkpmaa.Ari

/-- The deadlines from X on, below 'to': X is one. -/
def dlsF (l : List Dm) (til : Int) : Nat → Int → List Int
  | 0, _ => []
  | k + 1, x => if x < til then x :: dlsF l til k (nextI l x) else []
theorem dlsF_more (l : List Dm) (ho : Oks l) (hl : l ≠ []) (til : Int) : ∀ (k j : Nat) (x : Int), (til - x).toNat ≤ k → (til - x).toNat ≤ j → dlsF l til k x = dlsF l til j x := by
  intro k
  induction k with
  | zero =>
    intro j x h _
    cases j with
    | zero => rfl
    | succ j => rw [dlsF, dlsF, if_neg (by omega)]
  | succ k ih =>
    intro j x h h'
    have hg := next_gt ho hl x
    cases j with
    | zero => rw [dlsF, dlsF, if_neg (by omega)]
    | succ j =>
      rw [dlsF, dlsF]
      by_cases hx : x < til
      · rw [if_pos hx, if_pos hx, ih j _ (by omega) (by omega)]
      · rw [if_neg hx, if_neg hx]
def dls (l : List Dm) (til x : Int) : List Int := dlsF l til (til - x).toNat x
theorem dls_step {l : List Dm} (ho : Oks l) (hl : l ≠ []) {til x : Int} (h : x < til) : dls l til x = x :: dls l til (nextI l x) := by
  have hg := next_gt ho hl x
  unfold dls
  obtain ⟨k, hk⟩ : ∃ k, (til - x).toNat = k + 1 := ⟨(til - x).toNat - 1, by omega⟩
  rw [hk, dlsF, if_pos h, dlsF_more l ho hl til k _ (nextI l x) (by omega) (Nat.le_refl _)]
theorem dls_end {l : List Dm} {til x : Int} (h : ¬ x < til) : dls l til x = [] := by
  unfold dls
  rw [show (til - x).toNat = 0 by omega]
  rfl
theorem dls_len {l : List Dm} (ho : Oks l) (hl : l ≠ []) (til : Int) : ∀ (k : Nat) (x : Int), (til - x).toNat ≤ k → (dls l til x).length ≤ (til - x).toNat := by
  intro k
  induction k with
  | zero => intro x h; rw [dls_end (by omega)]; simp
  | succ k ih =>
    intro x h
    by_cases hx : x < til
    · have hg := next_gt ho hl x
      have := ih (nextI l x) (by omega)
      rw [dls_step ho hl hx, List.length_cons]
      omega
    · rw [dls_end hx]; simp
/-- Is there a deadline at this time? -/
def IsDl (l : List Dm) (t : Int) : Prop := ∃ x ∈ l, ∃ k, 0 ≤ k ∧ x.d + k * x.t = t
theorem isDl_next {l : List Dm} (hl : l ≠ []) {s : Int} (ho : Oks l) : IsDl l (nextI l s) := by
  obtain ⟨x, hx, e⟩ := next_mem hl s
  exact ⟨x, hx, jobs x s, jobs_nonneg (ho x hx) s, e.symm⟩
theorem isDl_ge {l : List Dm} (ho : Oks l) {s t : Int} (h : IsDl l t) (hs : s < t) : nextI l s ≤ t := by
  obtain ⟨x, hx, k, hk, e⟩ := h
  have a := next_le hx s
  have b := due_iff (ho x hx) s k hk
  have c := due_iff (ho x hx) s (jobs x s) (jobs_nonneg (ho x hx) s)
  have hT : 0 ≤ x.t := by have := (ho x hx).2.2; omega
  have d : jobs x s ≤ k := by omega
  have := Int.mul_le_mul_of_nonneg_right d hT
  unfold dl at a
  omega
theorem mem_dls {l : List Dm} (ho : Oks l) (hl : l ≠ []) (til : Int) : ∀ (k : Nat) (x : Int), (til - x).toNat ≤ k → IsDl l x → ∀ t, t ∈ dls l til x ↔ x ≤ t ∧ t < til ∧ IsDl l t := by
  intro k
  induction k with
  | zero => intro x h _ t; rw [dls_end (by omega)]; simp; omega
  | succ k ih =>
    intro x h hx t
    by_cases hlt : x < til
    · have hg := next_gt ho hl x
      rw [dls_step ho hl hlt, List.mem_cons, ih (nextI l x) (by omega) (isDl_next hl ho) t]
      constructor
      · rintro (rfl | ⟨a, b, c⟩)
        · exact ⟨Int.le_refl _, hlt, hx⟩
        · exact ⟨by omega, b, c⟩
      · rintro ⟨a, b, c⟩
        by_cases e : t = x
        · exact .inl e
        · exact .inr ⟨isDl_ge ho c (by omega), b, c⟩
    · rw [dls_end hlt]; simp; omega
theorem isDl_pos {l : List Dm} (ho : Oks l) {t : Int} (h : IsDl l t) : 1 ≤ t := by
  obtain ⟨x, hx, k, hk, e⟩ := h
  have hT : 0 ≤ x.t := by have := (ho x hx).2.2; omega
  have := Int.mul_nonneg hk hT
  have := (ho x hx).2.2.1
  omega
/-- The deadlines from one time on, below another one. -/
def dlsOf (l : List Dm) (frm til : Int) : List Int := if l = [] then [] else dls l til (nextI l (max frm 1 - 1))
theorem mem_dlsOf {l : List Dm} (ho : Oks l) {frm til t : Int} : t ∈ dlsOf l frm til ↔ frm ≤ t ∧ t < til ∧ IsDl l t := by
  unfold dlsOf
  split
  · rename_i h
    subst h
    constructor
    · intro h; simp at h
    · rintro ⟨_, _, x, hx, _⟩; simp at hx
  · rename_i h
    have hg := next_gt ho h (max frm 1 - 1)
    rw [mem_dls ho h til _ _ (Nat.le_refl _) (isDl_next h ho)]
    constructor
    · rintro ⟨a, b, c⟩; exact ⟨by omega, b, c⟩
    · rintro ⟨a, b, c⟩
      have := isDl_pos ho c
      exact ⟨isDl_ge ho c (by omega), b, c⟩
/-- 'Last' at t + 1 is t just if t is a deadline. -/
theorem last_isDl {l : List Dm} (ho : Oks l) {t : Int} (_ht : 0 ≤ t) : (0 < lastI l (t + 1) ∧ lastI l (t + 1) = t) ↔ IsDl l t := by
  constructor
  · rintro ⟨h, e⟩
    obtain ⟨x, hx, hp, e2⟩ := last_mem h
    exact ⟨x, hx, jobs x (t + 1 - 1) - 1, by omega, by rw [← e2, e]⟩
  · intro h
    have h1 := isDl_pos ho h
    obtain ⟨x, hx, k, hk, e⟩ := h
    have a := due_iff (ho x hx) t k hk
    have hj : k < jobs x (t + 1 - 1) := by rw [show t + 1 - 1 = t by omega]; omega
    have b := last_ge hx (t := t + 1) (by omega)
    have hT : 0 ≤ x.t := by have := (ho x hx).2.2; omega
    have := Int.mul_le_mul_of_nonneg_right (show k ≤ jobs x (t + 1 - 1) - 1 by omega) hT
    have := last_lt ho (t := t + 1) (by omega)
    omega
def slackL (l : List Dm) (frm til : Int) : List Int := (dlsOf l frm til).map fun t => t - work l t
def slackI (l : List Dm) (frm til : Int) : Int := mins (slackL l frm til)
theorem mins_snoc (a : List Int) (y : Int) : mins (a ++ [y]) = if a = [] then y else min (mins a) y := by
  cases a with
  | nil => rfl
  | cons x r => simp [mins]
/-- What the law's own loop has found, as far as t. -/
def anyB (L : List Int) (t : Int) : Bool := L.any fun u => decide (u < t)
def metB (L : List Int) (g : Int → Int) (s t : Int) : Bool := L.any fun u => decide (u < t) && decide (g u = s)
theorem anyB_yes {L : List Int} {t : Int} (h : t ∈ L) : anyB L (t + 1) = true := List.any_eq_true.2 ⟨t, h, by simp; omega⟩
theorem any_congr' {L : List Int} {p q : Int → Bool} (h : ∀ u ∈ L, p u = q u) : L.any p = L.any q := by
  induction L with
  | nil => rfl
  | cons a r ih => simp [h a (List.mem_cons_self ..), ih fun u hu => h u (List.mem_cons_of_mem _ hu)]
theorem anyB_no {L : List Int} {t : Int} (h : t ∉ L) : anyB L (t + 1) = anyB L t := any_congr' fun u hu => by
  have : u ≠ t := fun e => h (e ▸ hu)
  by_cases h1 : u < t
  · simp [h1]; omega
  · simp [h1]; omega
theorem metB_no {L : List Int} {g : Int → Int} {s t : Int} (h : t ∉ L) : metB L g s (t + 1) = metB L g s t := any_congr' fun u hu => by
  have : u ≠ t := fun e => h (e ▸ hu)
  by_cases h1 : u < t
  · simp [h1, show u < t + 1 by omega]
  · simp [h1, show ¬ u < t + 1 by omega]
theorem metB_yes {L : List Int} {g : Int → Int} {s t : Int} (h : t ∈ L) : metB L g s (t + 1) = (metB L g s t || decide (g t = s)) := by
  rw [Bool.eq_iff_iff, Bool.or_eq_true]
  constructor
  · intro h1
    obtain ⟨u, hu, hp⟩ := List.any_eq_true.1 h1
    simp at hp
    by_cases e : u = t
    · right; subst e; simpa using hp.2
    · left; exact List.any_eq_true.2 ⟨u, hu, by simp; exact ⟨by omega, hp.2⟩⟩
  · rintro (h1 | h1)
    · obtain ⟨u, hu, hp⟩ := List.any_eq_true.1 h1
      simp at hp
      exact List.any_eq_true.2 ⟨u, hu, by simp; exact ⟨by omega, hp.2⟩⟩
    · exact List.any_eq_true.2 ⟨t, h, by simp at h1; simp [h1]; omega⟩
theorem anyB_end {L : List Int} {t : Int} (h : ∀ u ∈ L, u < t) : anyB L t = decide (L ≠ []) := by
  cases L with
  | nil => rfl
  | cons a r => simp [anyB, h a (List.mem_cons_self ..)]
theorem metB_end {L : List Int} {g : Int → Int} {t : Int} (h : ∀ u ∈ L, u < t) : metB L g (mins (L.map g)) t = decide (L ≠ []) := by
  cases L with
  | nil => rfl
  | cons a r =>
    rw [show decide (a :: r ≠ []) = true by simp]
    have hm := mins_mem (l := (a :: r).map g) (by simp)
    obtain ⟨u, hu, e⟩ := List.mem_map.1 hm
    exact List.any_eq_true.2 ⟨u, hu, by simp [h u hu]; exact e⟩
theorem anyB_start {L : List Int} {t : Int} (h : ∀ u ∈ L, t ≤ u) : anyB L t = false := List.any_eq_false.2 fun u hu => by have := h u hu; simp; omega
theorem metB_start {L : List Int} {g : Int → Int} {s t : Int} (h : ∀ u ∈ L, t ≤ u) : metB L g s t = false := List.any_eq_false.2 fun u hu => by have := h u hu; simp; omega
end Go.Proofs.Ytajkckjpfbkpmaa.Dem
