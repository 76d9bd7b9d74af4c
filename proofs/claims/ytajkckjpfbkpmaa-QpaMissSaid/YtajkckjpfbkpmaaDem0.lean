/-
  Demands, plain: jobs that are due, their work, next and last deadlines.
-/
import Derived.WalkKit
namespace Go.Proofs.Ytajkckjpfbkpmaa.Dem
structure Dm where
  c : Int
  d : Int
  t : Int
instance : Inhabited Dm := ⟨⟨0, 0, 0⟩⟩
def Dm.Ok (x : Dm) : Prop := 0 ≤ x.c ∧ x.c ≤ 1048576 ∧ 1 ≤ x.d ∧ x.d ≤ x.t ∧ x.t ≤ 1048576
def Oks (l : List Dm) : Prop := ∀ x ∈ l, x.Ok
def jobs (x : Dm) (t : Int) : Int := if t < x.d then 0 else (t - x.d) / x.t + 1
def work (l : List Dm) (t : Int) : Int := (l.map fun x => x.c * jobs x t).sum
def dl (x : Dm) (t : Int) : Int := x.d + jobs x t * x.t
def mins : List Int → Int
  | [] => 0
  | x :: r => r.foldl min x
def nextI (l : List Dm) (t : Int) : Int := mins (l.map (dl · t))
def stepL (t m : Int) (x : Dm) : Int := if 0 < jobs x (t - 1) then max m (x.d + (jobs x (t - 1) - 1) * x.t) else m
def lastI (l : List Dm) (t : Int) : Int := l.foldl (stepL t) 0

theorem getD_ok {l : List Dm} (h : Oks l) {i : Nat} (hi : i < l.length) : (l.getD i default).Ok := by
  rw [List.getD_eq_getElem?_getD, List.getElem?_eq_getElem hi]
  exact h _ (List.getElem_mem hi)
theorem jobs_nonneg {x : Dm} (h : x.Ok) (t : Int) : 0 ≤ jobs x t := by
  unfold jobs
  obtain ⟨_, _, h1, h2, _⟩ := h
  split
  · exact Int.le_refl 0
  · have := Int.ediv_nonneg (show 0 ≤ t - x.d by omega) (show 0 ≤ x.t by omega)
    omega
theorem due_iff {x : Dm} (h : x.Ok) (t k : Int) (hk : 0 ≤ k) : x.d + k * x.t ≤ t ↔ k < jobs x t := by
  obtain ⟨_, _, h1, h2, _⟩ := h
  have hT : 0 < x.t := by omega
  unfold jobs
  split
  · have := Int.mul_nonneg hk (Int.le_of_lt hT)
    constructor <;> intro <;> omega
  · rw [show x.d + k * x.t ≤ t ↔ k * x.t ≤ t - x.d by omega, ← Int.le_ediv_iff_mul_le hT]
    omega
theorem jobs_eq {x : Dm} (h : x.Ok) {s t : Int} (h1 : ∀ k, 0 ≤ k → (x.d + k * x.t ≤ s ↔ x.d + k * x.t ≤ t)) : jobs x s = jobs x t := by
  have a := jobs_nonneg h s
  have b := jobs_nonneg h t
  have p : ∀ k, 0 ≤ k → (k < jobs x s ↔ k < jobs x t) := fun k hk => by rw [← due_iff h _ _ hk, ← due_iff h _ _ hk, h1 k hk]
  have := p (jobs x s) a
  have := p (jobs x t) b
  omega
theorem jobs_mono {x : Dm} (h : x.Ok) {s t : Int} (hs : s ≤ t) : jobs x s ≤ jobs x t := by
  have a := jobs_nonneg h s
  by_cases h0 : jobs x s = 0
  · have := jobs_nonneg h t
    omega
  · have := (due_iff h s (jobs x s - 1) (by omega)).2 (by omega)
    have := (due_iff h t (jobs x s - 1) (by omega)).1 (by omega)
    omega
theorem jobs_le {x : Dm} (h : x.Ok) {t : Int} (ht : 0 ≤ t) : jobs x t ≤ t := by
  have a := jobs_nonneg h t
  by_cases h0 : jobs x t = 0
  · omega
  · have b := (due_iff h t (jobs x t - 1) (by omega)).2 (by omega)
    obtain ⟨_, _, h1, h2, _⟩ := h
    have c : (jobs x t - 1) * 1 ≤ (jobs x t - 1) * x.t := Int.mul_le_mul_of_nonneg_left (by omega) (by omega)
    omega
theorem dl_gt {x : Dm} (h : x.Ok) (t : Int) : t < dl x t := by
  have := due_iff h t (jobs x t) (jobs_nonneg h t)
  unfold dl
  omega
theorem dl_pos {x : Dm} (h : x.Ok) (t : Int) : 1 ≤ dl x t := by
  have := Int.mul_nonneg (jobs_nonneg h t) (show 0 ≤ x.t from by have := h.2.2; omega)
  have := h.2.2.1
  unfold dl
  omega
theorem dl_le {x : Dm} (h : x.Ok) {t : Int} (ht : 0 ≤ t) : dl x t ≤ t + x.t := by
  have a := jobs_nonneg h t
  unfold dl
  by_cases h0 : jobs x t = 0
  · rw [h0]
    have := h.2.2.2.1
    omega
  · have b := (due_iff h t (jobs x t - 1) (by omega)).2 (by omega)
    have e : (jobs x t - 1) * x.t = jobs x t * x.t - x.t := by rw [Int.sub_mul]; omega
    omega
theorem term_bd {x : Dm} (h : x.Ok) {t : Int} (ht : 0 ≤ t) (ht' : t ≤ 4194304) : 0 ≤ x.c * jobs x t ∧ x.c * jobs x t ≤ 4398046511104 := by
  have a := jobs_nonneg h t
  have b := jobs_le h ht
  have c0 := h.1
  have c1 := h.2.1
  refine ⟨Int.mul_nonneg c0 a, ?_⟩
  have := Int.mul_le_mul c1 (show jobs x t ≤ 4194304 by omega) a (by omega)
  omega
theorem work_bd (l : List Dm) (h : Oks l) {t : Int} (ht : 0 ≤ t) (ht' : t ≤ 4194304) : 0 ≤ work l t ∧ work l t ≤ 4398046511104 * l.length := by
  induction l with
  | nil => exact ⟨Int.le_refl 0, Int.le_refl 0⟩
  | cons x r ih =>
    have ⟨a, b⟩ := ih (fun y hy => h y (List.mem_cons_of_mem _ hy))
    have ⟨c, d⟩ := term_bd (h x (List.mem_cons_self ..)) ht ht'
    unfold work at *
    simp only [List.map_cons, List.sum_cons, List.length_cons]
    push_cast
    omega
theorem work_append (a b : List Dm) (t : Int) : work (a ++ b) t = work a t + work b t := by simp [work]
theorem work_congr (l : List Dm) {s t : Int} (h : ∀ x ∈ l, jobs x s = jobs x t) : work l s = work l t := by
  unfold work
  congr 1
  exact List.map_congr_left fun x hx => by rw [h x hx]
theorem foldl_min (r : List Int) : ∀ x, r.foldl min x ≤ x ∧ (∀ y ∈ r, r.foldl min x ≤ y) ∧ (r.foldl min x = x ∨ r.foldl min x ∈ r) := by
  induction r with
  | nil => intro x; exact ⟨Int.le_refl _, fun y hy => by simp at hy, .inl rfl⟩
  | cons a r ih =>
    intro x
    obtain ⟨h1, h2, h3⟩ := ih (min x a)
    rw [List.foldl_cons]
    refine ⟨by omega, fun y hy => ?_, ?_⟩
    · rcases List.mem_cons.1 hy with rfl | hy
      · omega
      · exact h2 y hy
    · rcases h3 with h3 | h3
      · rw [h3]
        by_cases h : x ≤ a
        · exact .inl (by omega)
        · exact .inr (List.mem_cons.2 (.inl (by omega)))
      · exact .inr (List.mem_cons_of_mem _ h3)
theorem mins_le {l : List Int} {y : Int} (h : y ∈ l) : mins l ≤ y := by
  cases l with
  | nil => simp at h
  | cons x r =>
    obtain ⟨h1, h2, _⟩ := foldl_min r x
    rcases List.mem_cons.1 h with rfl | h
    · exact h1
    · exact h2 y h
theorem mins_mem {l : List Int} (h : l ≠ []) : mins l ∈ l := by
  cases l with
  | nil => exact absurd rfl h
  | cons x r =>
    obtain ⟨_, _, h3⟩ := foldl_min r x
    rcases h3 with h3 | h3
    · exact List.mem_cons.2 (.inl h3)
    · exact List.mem_cons_of_mem _ h3
theorem next_le {l : List Dm} {x : Dm} (hx : x ∈ l) (t : Int) : nextI l t ≤ dl x t := mins_le (List.mem_map.2 ⟨x, hx, rfl⟩)
theorem next_mem {l : List Dm} (h : l ≠ []) (t : Int) : ∃ x ∈ l, nextI l t = dl x t := by
  obtain ⟨x, hx, e⟩ := List.mem_map.1 (mins_mem (l := l.map (dl · t)) (by simpa using h))
  exact ⟨x, hx, e.symm⟩
theorem next_gt {l : List Dm} (ho : Oks l) (h : l ≠ []) (t : Int) : t < nextI l t := by
  obtain ⟨x, hx, e⟩ := next_mem h t
  rw [e]
  exact dl_gt (ho x hx) t
theorem next_up {l : List Dm} (ho : Oks l) {t : Int} (ht : 0 ≤ t) : 0 ≤ nextI l t ∧ nextI l t ≤ t + 1048576 := by
  by_cases h : l = []
  · subst h
    exact ⟨Int.le_refl 0, by show (0 : Int) ≤ _; omega⟩
  · obtain ⟨x, hx, e⟩ := next_mem h t
    rw [e]
    have := dl_le (ho x hx) ht
    have := dl_pos (ho x hx) t
    have := (ho x hx).2.2.2.2
    omega
/-- Between a time and the next deadline there is none. -/
theorem jobs_gap {l : List Dm} (ho : Oks l) {x : Dm} (hx : x ∈ l) {t s : Int} (h1 : t ≤ s) (h2 : s < nextI l t) : jobs x s = jobs x t := by
  have a := next_le hx t
  have b := jobs_mono (ho x hx) h1
  have c := due_iff (ho x hx) s (jobs x t) (jobs_nonneg (ho x hx) t)
  unfold dl at a
  omega
theorem stepL_ge (t m : Int) (x : Dm) : m ≤ stepL t m x := by unfold stepL; split <;> omega
theorem lastGo (l : List Dm) (t : Int) : ∀ m, m ≤ l.foldl (stepL t) m ∧ (∀ x ∈ l, 0 < jobs x (t - 1) → x.d + (jobs x (t - 1) - 1) * x.t ≤ l.foldl (stepL t) m) ∧ (l.foldl (stepL t) m = m ∨ ∃ x ∈ l, 0 < jobs x (t - 1) ∧ l.foldl (stepL t) m = x.d + (jobs x (t - 1) - 1) * x.t) := by
  induction l with
  | nil => intro m; exact ⟨Int.le_refl _, fun x hx => by simp at hx, .inl rfl⟩
  | cons a r ih =>
    intro m
    obtain ⟨h1, h2, h3⟩ := ih (stepL t m a)
    rw [List.foldl_cons]
    have g := stepL_ge t m a
    refine ⟨by omega, fun x hx hp => ?_, ?_⟩
    · rcases List.mem_cons.1 hx with rfl | hx
      · have : x.d + (jobs x (t - 1) - 1) * x.t ≤ stepL t m x := by unfold stepL; rw [if_pos hp]; omega
        omega
      · exact h2 x hx hp
    · rcases h3 with h3 | ⟨x, hx, hp, h3⟩
      · rw [h3]
        by_cases hp : 0 < jobs a (t - 1)
        · by_cases hm : m ≤ a.d + (jobs a (t - 1) - 1) * a.t
          · exact .inr ⟨a, List.mem_cons_self .., hp, by unfold stepL; rw [if_pos hp]; omega⟩
          · exact .inl (by unfold stepL; rw [if_pos hp]; omega)
        · exact .inl (by unfold stepL; rw [if_neg hp])
      · exact .inr ⟨x, List.mem_cons_of_mem _ hx, hp, h3⟩
theorem last_ge {l : List Dm} {x : Dm} (hx : x ∈ l) {t : Int} (h : 0 < jobs x (t - 1)) : x.d + (jobs x (t - 1) - 1) * x.t ≤ lastI l t := (lastGo l t 0).2.1 x hx h
theorem last_nonneg (l : List Dm) (t : Int) : 0 ≤ lastI l t := (lastGo l t 0).1
theorem last_mem {l : List Dm} {t : Int} (h : 0 < lastI l t) : ∃ x ∈ l, 0 < jobs x (t - 1) ∧ lastI l t = x.d + (jobs x (t - 1) - 1) * x.t := by
  rcases (lastGo l t 0).2.2 with h0 | h0
  · unfold lastI at h; omega
  · exact h0
theorem last_lt {l : List Dm} (ho : Oks l) {t : Int} (h : 0 < lastI l t) : lastI l t ≤ t - 1 := by
  obtain ⟨x, hx, hp, e⟩ := last_mem h
  rw [e]
  exact (due_iff (ho x hx) (t - 1) _ (by omega)).2 (by omega)
theorem last_up {l : List Dm} (ho : Oks l) {t : Int} (ht : 0 ≤ t) : lastI l t ≤ t := by
  by_cases h : 0 < lastI l t
  · have := last_lt ho h; omega
  · have := last_nonneg l t; omega
/-- The last deadline ahead of the next one. -/
theorem last_next {l : List Dm} (ho : Oks l) {t : Int} (ht : 0 ≤ t) (hl : l ≠ []) : lastI l (nextI l t) ≤ t ∧ nextI l (lastI l (nextI l t)) = nextI l t := by
  have hg := next_gt ho hl t
  have hj : ∀ x ∈ l, jobs x (nextI l t - 1) = jobs x t := fun x hx => jobs_gap ho hx (by omega) (by omega)
  have h0 := last_nonneg l (nextI l t)
  have hle : lastI l (nextI l t) ≤ t := by
    by_cases h : 0 < lastI l (nextI l t)
    · obtain ⟨x, hx, hp, e⟩ := last_mem h
      rw [e]
      rw [hj x hx] at hp ⊢
      exact (due_iff (ho x hx) t _ (by omega)).2 (by omega)
    · omega
  refine ⟨hle, ?_⟩
  have hq : ∀ x ∈ l, jobs x (lastI l (nextI l t)) = jobs x t := by
    intro x hx
    have a := jobs_mono (ho x hx) hle
    have b := jobs_nonneg (ho x hx) (lastI l (nextI l t))
    by_cases h : 0 < jobs x t
    · have c := last_ge hx (t := nextI l t) (by rw [hj x hx]; exact h)
      rw [hj x hx] at c
      have := (due_iff (ho x hx) (lastI l (nextI l t)) (jobs x t - 1) (by omega)).1 c
      omega
    · omega
  generalize lastI l (nextI l t) = y at *
  unfold nextI
  congr 1
  exact List.map_congr_left fun x hx => by show x.d + jobs x y * x.t = x.d + jobs x t * x.t; rw [hq x hx]
theorem mins_append (a b : List Int) (ha : a ≠ []) (hb : b ≠ []) : mins (a ++ b) = min (mins a) (mins b) := by
  have h : a ++ b ≠ [] := by simp [ha]
  rcases List.mem_append.1 (mins_mem h) with m | m
  · have := mins_le m
    have := mins_le (List.mem_append.2 (.inl (mins_mem ha)) : mins a ∈ a ++ b)
    have := mins_le (List.mem_append.2 (.inr (mins_mem hb)) : mins b ∈ a ++ b)
    omega
  · have := mins_le m
    have := mins_le (List.mem_append.2 (.inl (mins_mem ha)) : mins a ∈ a ++ b)
    have := mins_le (List.mem_append.2 (.inr (mins_mem hb)) : mins b ∈ a ++ b)
    omega
theorem next_append (a b : List Dm) (ha : a ≠ []) (hb : b ≠ []) (t : Int) : nextI (a ++ b) t = min (nextI a t) (nextI b t) := by
  unfold nextI
  rw [List.map_append]
  exact mins_append _ _ (by simpa using ha) (by simpa using hb)
/-- A period later. -/
theorem jobs_period {x : Dm} (h : x.Ok) {t p : Int} (ht : 0 ≤ t) (q : Int) (hq : p = q * x.t) (hq1 : 1 ≤ q) : jobs x (t + p) = jobs x t + q := by
  have hT : 0 < x.t := by have := h.2.2; omega
  have hd := h.2.2
  have hqT : 1 * x.t ≤ q * x.t := Int.mul_le_mul_of_nonneg_right hq1 (by omega)
  unfold jobs
  rw [if_neg (by omega)]
  have e : t + p - x.d = (t - x.d) + q * x.t := by omega
  rw [e, Int.add_mul_ediv_right _ _ (by omega)]
  split
  · have : (t - x.d) / x.t = -1 := by
      rw [Int.ediv_eq_iff_of_pos hT]
      omega
    omega
  · omega
end Go.Proofs.Ytajkckjpfbkpmaa.Dem
