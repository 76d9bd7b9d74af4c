/-
  Doubled demands and blocks: plain laws.
-/
import Derived.Test.YtajkckjpfbkpmaaQpa6
import Derived.Test.YtajkckjpfbkpmaaQpa4
namespace Go.Proofs.Ytajkckjpfbkpmaa.Dem
open Go.RowKit Go.Shelf Go.Proofs.Ytajkckjpfbkpmaa.Ari

def dbl (x : Dm) : Dm := ⟨2 * x.c, 2 * x.d, 2 * x.t⟩
def dblB (p : Int × Int) : Int × Int := (2 * p.1, 2 * p.2)
theorem dbl_jobs {x : Dm} (h : x.Ok) (s : Int) : jobs (dbl x) (2 * s) = jobs x s := by
  have hT : 0 < x.t := by have := h.2.2; omega
  unfold jobs dbl
  by_cases hs : s < x.d
  · rw [if_pos (show 2 * s < 2 * x.d by omega), if_pos hs]
  · rw [if_neg (show ¬ 2 * s < 2 * x.d by omega), if_neg hs]
    show (2 * s - 2 * x.d) / (2 * x.t) + 1 = _
    rw [← Int.mul_sub, Int.mul_ediv_mul_of_pos _ _ (by decide)]
theorem dbl_work {l : List Dm} (h : Oks l) (s : Int) : work (l.map dbl) (2 * s) = 2 * work l s := by
  induction l with
  | nil => rfl
  | cons x r ih =>
    have e : ∀ (y : Dm) (u : List Dm) t, work (y :: u) t = y.c * jobs y t + work u t := fun y u t => by simp [work]
    rw [List.map_cons, e, e, ih (fun y hy => h y (List.mem_cons_of_mem _ hy)), dbl_jobs (h x (List.mem_cons_self ..))]
    show 2 * x.c * _ + _ = _
    rw [Int.mul_assoc, ← Int.mul_add]
theorem foldl_min2 (r : List Int) : ∀ x, (r.map (2 * ·)).foldl min (2 * x) = 2 * r.foldl min x := by
  induction r with
  | nil => intro x; rfl
  | cons a r ih =>
    intro x
    rw [List.map_cons, List.foldl_cons, List.foldl_cons, ← ih, show min (2 * x) (2 * a) = 2 * min x a by omega]
theorem mins2 (L : List Int) : mins (L.map (2 * ·)) = 2 * mins L := by
  cases L with
  | nil => rfl
  | cons x r => exact foldl_min2 r x
theorem dbl_next {l : List Dm} (h : Oks l) (s : Int) : nextI (l.map dbl) (2 * s) = 2 * nextI l s := by
  unfold nextI
  rw [← mins2, List.map_map, List.map_map]
  congr 1
  refine List.map_congr_left fun x hx => ?_
  show dl (dbl x) (2 * s) = 2 * dl x s
  unfold dl
  rw [dbl_jobs (h x hx)]
  show 2 * x.d + jobs x s * (2 * x.t) = _
  rw [Int.mul_add, ← Int.mul_assoc, Int.mul_comm (jobs x s) 2, Int.mul_assoc]
theorem dbl_oks {l : List Dm} (h : Smalls l) : Oks (l.map dbl) := fun y hy => by
  obtain ⟨x, hx, rfl⟩ := List.mem_map.1 hy
  obtain ⟨a, b, c, d, e⟩ := h x hx
  unfold IsT at e
  exact ⟨by show 0 ≤ 2 * x.c; omega, by show 2 * x.c ≤ _; omega, by show 1 ≤ 2 * x.d; omega, by show 2 * x.d ≤ 2 * x.t; omega, by show 2 * x.t ≤ _; omega⟩
theorem dbl_oksB {q : List (Int × Int)} (h : SmallsB q) : OksB (q.map dblB) := fun y hy => by
  obtain ⟨p, hp, rfl⟩ := List.mem_map.1 hy
  obtain ⟨a, b, c, d⟩ := h p hp
  exact ⟨by show 1 ≤ 2 * p.1; omega, by show 2 * p.1 ≤ _; omega, by show 0 ≤ 2 * p.2; omega, by show 2 * p.2 ≤ _; omega⟩
theorem dbl_dls {l : List Dm} (h : Oks l) (h2 : Oks (l.map dbl)) (hl : l ≠ []) (E : Int) : ∀ (k : Nat) (x : Int), (E + 1 - x).toNat ≤ k → dls (l.map dbl) (2 * E + 1) (2 * x) = (dls l (E + 1) x).map (2 * ·) := by
  have hl2 : l.map dbl ≠ [] := by simpa using hl
  intro k
  induction k with
  | zero => intro x hk; rw [dls_end (by omega), dls_end (by omega)]; rfl
  | succ k ih =>
    intro x hk
    by_cases hx : x < E + 1
    · have hg := next_gt h hl x
      rw [dls_step h2 hl2 (show 2 * x < 2 * E + 1 by omega), dls_step h hl hx, dbl_next h, ih _ (by omega)]
      rfl
    · rw [dls_end (by omega), dls_end (by omega)]; rfl
theorem dbl_end (q : List (Int × Int)) : ∀ P, endI (q.map dblB) (2 * P) = 2 * endI q P := by
  induction q with
  | nil => intro P; rfl
  | cons p r ih =>
    intro P
    show endI (r.map dblB) (max (2 * P) (2 * p.1)) = 2 * endI r (max P p.1)
    rw [← ih, show max (2 * P) (2 * p.1) = 2 * max P p.1 by omega]
theorem dbl_held (q : List (Int × Int)) (t : Int) : heldAt (q.map dblB) (2 * t) = 2 * heldAt q t := by
  have : ∀ (q : List (Int × Int)) m, (q.map dblB).foldl (stepH (2 * t)) (2 * m) = 2 * q.foldl (stepH t) m := by
    intro q
    induction q with
    | nil => intro m; rfl
    | cons p r ih =>
      intro m
      rw [List.map_cons, List.foldl_cons, List.foldl_cons, ← ih]
      congr 1
      unfold stepH
      by_cases h : t < p.1
      · rw [if_pos (show 2 * t < (dblB p).1 by show 2 * t < 2 * p.1; omega), if_pos h]; show max (2 * m) (2 * p.2) = _; omega
      · rw [if_neg (show ¬ 2 * t < (dblB p).1 by show ¬ 2 * t < 2 * p.1; omega), if_neg h]
  exact this q 0
theorem dbl_left {l : List Dm} (h : Oks l) (q : List (Int × Int)) (t : Int) : leftI (l.map dbl) (q.map dblB) (2 * t) = 2 * leftI l q t := by
  unfold leftI
  rw [dbl_work h, dbl_held]
  omega
theorem dbl_pts {l : List Dm} (h : Oks l) (h2 : Oks (l.map dbl)) (q : List (Int × Int)) (P : Int) : pts (l.map dbl) (q.map dblB) (2 * P) = (pts l q P).map (2 * ·) := by
  unfold pts
  by_cases hl : l = []
  · subst hl; rfl
  · rw [if_neg (by simpa using hl), if_neg hl, dbl_end, ← dbl_dls h h2 hl (endI q P) _ (nextI l 0) (Nat.le_refl _), ← dbl_next h]
    rfl
theorem lcm_two (ns : List Nat) (h : ns ≠ []) : lcmN (ns.map (2 * ·)) = 2 * lcmN ns := by
  induction ns with
  | nil => exact absurd rfl h
  | cons n r ih =>
    have e : ∀ (a : Nat) (u : List Nat), lcmN (a :: u) = Nat.lcm a (lcmN u) := fun a u => rfl
    rw [List.map_cons, e, e]
    by_cases hr : r = []
    · subst hr
      show Nat.lcm (2 * n) 1 = 2 * Nat.lcm n 1
      rw [Nat.lcm_one_right, Nat.lcm_one_right]
    · rw [ih hr, Nat.lcm_mul_left]
theorem dbl_per {l : List Dm} (h : Smalls l) : ∃ P P2, Per l P ∧ Per (l.map dbl) P2 ∧ P ≤ 240 ∧ P2 ≤ 240 ∧ (l ≠ [] → P2 = 2 * P) ∧ (l = [] → P = 1 ∧ P2 = 1) := by
  obtain ⟨P, hP, hle⟩ := small_le h
  by_cases hl : l = []
  · subst hl
    have e : P = 1 := by
      have := hP.lcm
      have e1 : lcmM (pers_ []) = (1, true) := rfl
      rw [e1] at this
      simp at this
      omega
    subst e
    exact ⟨1, 1, hP, hP, by decide, by decide, fun h => absurd rfl h, fun _ => ⟨rfl, rfl⟩⟩
  · obtain ⟨ns, hns, hn⟩ : ∃ ns : List Nat, pers_ l = cs ns ∧ ∀ n ∈ ns, 0 < n ∧ n ≤ 24 := by
      clear hP hle hl
      induction l with
      | nil => exact ⟨[], rfl, by simp⟩
      | cons x r ih =>
        obtain ⟨ns, e, hn⟩ := ih fun y hy => h y (List.mem_cons_of_mem _ hy)
        have hx := (h x (List.mem_cons_self ..)).2.2.2.2
        unfold IsT at hx
        refine ⟨x.t.toNat :: ns, ?_, fun n hn' => ?_⟩
        · show x.t :: pers_ r = (x.t.toNat : Int) :: cs ns
          rw [e]
          congr 1
          omega
        · rcases List.mem_cons.1 hn' with rfl | hn'
          · omega
          · exact hn n hn'
    have hne : ns ≠ [] := by
      rintro rfl
      cases l with
      | nil => exact hl rfl
      | cons x r => simp [pers_, cs] at hns
    have hM : ∀ n ∈ ns, n < M64 := fun n h => by have := (hn n h).2; unfold M64; omega
    have hPv : lcmN ns = P.toNat ∧ lcmN ns < M64 := by
      have := hP.lcm
      rw [hns, lcmM_eq ns hM, if_neg (fun h0 => by have := (hn 0 h0).1; omega)] at this
      split at this
      · rename_i hlt
        simp at this
        exact ⟨by omega, hlt⟩
      · simp at this
    have hpos := hP.pos
    have h2 : pers_ (l.map dbl) = cs (ns.map (2 * ·)) := by
      have : pers_ (l.map dbl) = (pers_ l).map (2 * ·) := by simp only [pers_, List.map_map]; rfl
      rw [this, hns]
      simp [cs]
    refine ⟨P, 2 * P, hP, ⟨?_, by omega, by omega, fun y hy => ?_⟩, by omega, by omega, fun _ => rfl, fun e => absurd e hl⟩
    · have hM2 : ∀ n ∈ ns.map (2 * ·), n < M64 := fun n h => by
        obtain ⟨k, hk, rfl⟩ := List.mem_map.1 h
        have := (hn k hk).2
        unfold M64
        omega
      rw [h2, lcmM_eq _ hM2, if_neg, lcm_two ns hne, if_pos]
      · congr 1
        rw [hPv.1]
        push_cast
        omega
      · rw [hPv.1]; unfold M64; omega
      · intro h0
        obtain ⟨k, hk, e⟩ := List.mem_map.1 h0
        have := (hn k hk).1
        omega
    · obtain ⟨x, hx, rfl⟩ := List.mem_map.1 hy
      obtain ⟨k, hk, hk1⟩ := hP.dvd x hx
      refine ⟨k, ?_, hk1⟩
      show 2 * P = k * (2 * x.t)
      rw [hk, ← Int.mul_assoc, ← Int.mul_assoc, Int.mul_comm 2 k]
theorem dbl_load (l : List Dm) (P : Int) : loadI (l.map dbl) (2 * P) = 2 * loadI l P := by
  induction l with
  | nil => rfl
  | cons x r ih =>
    have e : ∀ (y : Dm) (u : List Dm) Q, loadI (y :: u) Q = y.c * (Q / y.t) + loadI u Q := fun y u Q => by simp [loadI, loads]
    rw [List.map_cons, e, e, ih]
    show 2 * x.c * (2 * P / (2 * x.t)) + _ = _
    rw [Int.mul_ediv_mul_of_pos _ _ (by decide), Int.mul_assoc, ← Int.mul_add]
theorem find2 (L : List Int) (f g : Int → Bool) (h : ∀ t, f (2 * t) = g t) : (L.map (2 * ·)).find? f = (L.find? g).map (2 * ·) := by
  induction L with
  | nil => rfl
  | cons a r ih =>
    rw [List.map_cons, List.find?_cons, List.find?_cons, h a]
    cases g a with
    | true => rfl
    | false => exact ih
theorem dbl_miss {l : List Dm} (h : Oks l) (h2 : Oks (l.map dbl)) (q : List (Int × Int)) (P : Int) : missOf (l.map dbl) (q.map dblB) (2 * P) = (missOf l q P).map (2 * ·) := by
  unfold missOf
  rw [dbl_pts h h2]
  exact find2 _ _ _ fun t => by
    rw [dbl_left h]
    by_cases h : leftI l q t < 0
    · rw [decide_eq_true h, decide_eq_true (by omega)]
    · rw [decide_eq_false h, decide_eq_false (by omega)]
theorem dbl_test {l : List Dm} (h : Oks l) (h2 : Oks (l.map dbl)) (q : List (Int × Int)) (P : Int) : testI (l.map dbl) (q.map dblB) (2 * P) = testI l q P := by
  unfold testI
  rw [dbl_miss h h2, dbl_load]
  have e1 : (2 * loadI l P ≤ 2 * P) ↔ loadI l P ≤ P := by omega
  have e2 : ((missOf l q P).map (2 * ·) = none) ↔ missOf l q P = none := by cases missOf l q P <;> simp
  simp only [e1, e2]
theorem dbl_room {l : List Dm} (h : Oks l) (h2 : Oks (l.map dbl)) (q : List (Int × Int)) (P : Int) : roomV (l.map dbl) (q.map dblB) (2 * P) = 2 * roomV l q P ∧ roomB (l.map dbl) (q.map dblB) (2 * P) = roomB l q P := by
  unfold roomV roomB
  rw [dbl_test h h2, dbl_pts h h2, List.map_map]
  have e : (leftI (l.map dbl) (q.map dblB) ∘ (2 * ·)) = (2 * ·) ∘ leftI l q := by
    funext t
    exact dbl_left h q t
  rw [e, ← List.map_map, mins2]
  refine ⟨by split <;> simp, ?_⟩
  simp
/-- What QpaDouble compares. -/
theorem dbl_all {l : List Dm} (hs : Smalls l) {q : List (Int × Int)} : ∃ P P2, Per l P ∧ Per (l.map dbl) P2 ∧ P ≤ 1048575 ∧ P2 ≤ 1048575 ∧ testI (l.map dbl) (q.map dblB) P2 = testI l q P ∧ roomV (l.map dbl) (q.map dblB) P2 = 2 * roomV l q P ∧ roomB (l.map dbl) (q.map dblB) P2 = roomB l q P ∧
    missT (l.map dbl) (q.map dblB) P2 = 2 * missT l q P ∧ (missOf (l.map dbl) (q.map dblB) P2).isSome = (missOf l q P).isSome := by
  obtain ⟨P, P2, hP, hP2, h1, h2, h3, h4⟩ := dbl_per hs
  have ho := hs.oks
  have ho2 := dbl_oks hs
  refine ⟨P, P2, hP, hP2, by omega, by omega, ?_⟩
  by_cases hl : l = []
  · obtain ⟨rfl, rfl⟩ := h4 hl
    subst hl
    have e : ∀ b : List (Int × Int), pts [] b 1 = [] := fun b => rfl
    have em : ∀ b : List (Int × Int), missOf [] b 1 = none := fun b => rfl
    have et : ∀ b : List (Int × Int), testI [] b 1 = 0 := fun b => by unfold testI; rw [if_pos ⟨by decide, em b⟩]
    simp only [List.map_nil]
    refine ⟨by rw [et, et], ?_, ?_, ?_, by rw [em, em]⟩
    · unfold roomV; rw [et, et, e, e]; rfl
    · unfold roomB; rw [et, et, e, e]
    · unfold missT; rw [em, em]; rfl
  · rw [h3 hl]
    refine ⟨dbl_test ho ho2 q P, (dbl_room ho ho2 q P).1, (dbl_room ho ho2 q P).2, ?_, ?_⟩
    · unfold missT; rw [dbl_miss ho ho2]; cases missOf l q P <;> rfl
    · rw [dbl_miss ho ho2]; cases missOf l q P <;> rfl
end Go.Proofs.Ytajkckjpfbkpmaa.Dem
