/-
  What is held at all times beside blocks: plain laws.
-/
import Derived.Test.YtajkckjpfbkpmaaQpa8
namespace Go.Proofs.Ytajkckjpfbkpmaa.Dem
open Go.RowKit Go.Shelf Go.Proofs.Ytajkckjpfbkpmaa.Ari

/-- Where what is held changes, as far as k. -/
def chg (q : List (Int × Int)) : Nat → List (Int × Int)
  | 0 => []
  | k + 1 => chg q k ++ if (k + 1 = 120 ∨ heldAt q k ≠ heldAt q ((k : Int) + 1)) then [((k : Int) + 1, heldAt q k)] else []
def up (g : Int) (p : Int × Int) : Int × Int := (p.1, p.2 + g)
def plusL (g : Int) (q : List (Int × Int)) : List (Int × Int) := (chg q 120).map (up g) ++ [(16384, g)]
theorem mem_chg (q : List (Int × Int)) (p : Int × Int) : ∀ n : Nat, p ∈ chg q n ↔ ∃ k : Nat, k < n ∧ (k + 1 = 120 ∨ heldAt q k ≠ heldAt q ((k : Int) + 1)) ∧ p = ((k : Int) + 1, heldAt q k) := by
  intro n
  induction n with
  | zero => simp [chg]
  | succ n ih =>
    rw [chg, List.mem_append, ih]
    constructor
    · rintro (⟨k, h1, h2, h3⟩ | h)
      · exact ⟨k, by omega, h2, h3⟩
      · split at h
        · rename_i hc
          simp at h
          exact ⟨n, by omega, hc, h⟩
        · simp at h
    · rintro ⟨k, h1, h2, h3⟩
      by_cases e : k = n
      · subst e
        right
        rw [if_pos h2]
        simp [h3]
      · exact .inl ⟨k, by omega, h2, h3⟩
theorem chg_len (q : List (Int × Int)) : ∀ n : Nat, ((chg q n).length : Int) ≤ heldAt q 0 - heldAt q n + if 120 ≤ n then 1 else 0 := by
  intro n
  induction n with
  | zero => simp [chg]
  | succ n ih =>
    have ha := held_anti q (show (n : Int) ≤ (n : Int) + 1 by omega)
    have e : ((n + 1 : Nat) : Int) = (n : Int) + 1 := by push_cast; rfl
    rw [chg, List.length_append, e]
    obtain ⟨L, hL⟩ : ∃ L : Nat, (if (n + 1 = 120 ∨ heldAt q n ≠ heldAt q ((n : Int) + 1)) then [((n : Int) + 1, heldAt q n)] else []).length = L := ⟨_, rfl⟩
    rw [hL]
    have hLL : (L = 1 ∧ (n + 1 = 120 ∨ heldAt q n ≠ heldAt q ((n : Int) + 1))) ∨ (L = 0 ∧ n + 1 ≠ 120) := by
      by_cases hc : n + 1 = 120 ∨ heldAt q n ≠ heldAt q ((n : Int) + 1)
      · rw [if_pos hc] at hL; exact .inl ⟨by rw [← hL]; rfl, hc⟩
      · rw [if_neg hc] at hL; exact .inr ⟨by rw [← hL]; rfl, fun e => hc (.inl e)⟩
    clear hL
    have e2 : (((chg q n).length + L : Nat) : Int) = ((chg q n).length : Int) + (L : Int) := by push_cast; rfl
    rw [e2]
    generalize ((chg q n).length : Int) = M at *
    generalize heldAt q n = a at *
    generalize heldAt q ((n : Int) + 1) = b at *
    by_cases h1 : 120 ≤ n
    · rw [if_pos h1] at ih; rw [if_pos (by omega)]; omega
    · rw [if_neg h1] at ih
      by_cases h2 : 120 ≤ n + 1
      · rw [if_pos h2]; omega
      · rw [if_neg h2]; omega
theorem small_held {q : List (Int × Int)} (h : SmallsB q) (t : Int) : 0 ≤ heldAt q t ∧ heldAt q t ≤ 15 := ⟨held_nonneg q t, held_le (by decide) fun p hp _ => (h p hp).2.2.2⟩
theorem small_late {q : List (Int × Int)} (h : SmallsB q) {t : Int} (ht : 64 ≤ t) : heldAt q t = 0 := by
  have := held_le (b := q) (t := t) (M := 0) (Int.le_refl _) fun p hp hlt => by have := (h p hp).2.1; omega
  have := held_nonneg q t
  omega
theorem chg_len' {q : List (Int × Int)} (h : SmallsB q) (n : Nat) : (chg q n).length ≤ 16 := by
  have := chg_len q n
  have a := small_held h 0
  have b := small_held h n
  split at this <;> omega
theorem chg_mono (q : List (Int × Int)) {m n : Nat} (h : m ≤ n) : ∀ p ∈ chg q m, p ∈ chg q n := fun p hp => by
  obtain ⟨k, h1, h2, h3⟩ := (mem_chg q p m).1 hp
  exact (mem_chg q p n).2 ⟨k, by omega, h2, h3⟩
/-- The next change at or behind a time has what is held at it. -/
theorem chg_next (q : List (Int × Int)) : ∀ (j : Nat) (u : Nat), u + j = 119 → ∃ k : Nat, u ≤ k ∧ k < 120 ∧ ((k : Int) + 1, heldAt q u) ∈ chg q 120 := by
  intro j
  induction j with
  | zero => intro u hu; exact ⟨u, Nat.le_refl _, by omega, (mem_chg q _ 120).2 ⟨u, by omega, .inl (by omega), rfl⟩⟩
  | succ j ih =>
    intro u hu
    by_cases hc : heldAt q u = heldAt q ((u : Int) + 1)
    · obtain ⟨k, h1, h2, h3⟩ := ih (u + 1) (by omega)
      refine ⟨k, by omega, h2, ?_⟩
      have : ((u + 1 : Nat) : Int) = (u : Int) + 1 := by push_cast; rfl
      rw [this, ← hc] at h3
      exact h3
    · exact ⟨u, Nat.le_refl _, by omega, (mem_chg q _ 120).2 ⟨u, by omega, .inr hc, rfl⟩⟩
theorem plus_held {q : List (Int × Int)} (h : SmallsB q) {g : Int} (hg : 0 ≤ g) {u : Int} (h0 : 0 ≤ u) (h1 : u < 16384) : heldAt (plusL g q) u = heldAt q u + g := by
  have hq := held_nonneg q u
  have a : heldAt (plusL g q) u ≤ heldAt q u + g := by
    refine held_le (by omega) fun p hp hlt => ?_
    rcases List.mem_append.1 hp with hp | hp
    · obtain ⟨r, hr, rfl⟩ := List.mem_map.1 hp
      obtain ⟨k, _, _, rfl⟩ := (mem_chg q r 120).1 hr
      have hlt' : u < (k : Int) + 1 := hlt
      have := held_anti q (show u ≤ (k : Int) by omega)
      show heldAt q k + g ≤ _
      omega
    · simp at hp
      subst hp
      show g ≤ _
      omega
  have b : heldAt q u + g ≤ heldAt (plusL g q) u := by
    by_cases hu : u < 120
    · obtain ⟨k, h2, h3, h4⟩ := chg_next q (119 - u.toNat) u.toNat (by omega)
      rw [show ((u.toNat : Nat) : Int) = u by omega] at h4
      have := held_ge (b := plusL g q) (t := u) (p := up g ((k : Int) + 1, heldAt q u)) (List.mem_append.2 (.inl (List.mem_map.2 ⟨_, h4, rfl⟩))) (show u < (k : Int) + 1 by omega)
      exact this
    · rw [small_late h (by omega)]
      have := held_ge (b := plusL g q) (t := u) (p := (16384, g)) (List.mem_append.2 (.inr (List.mem_singleton.2 rfl))) h1
      show 0 + g ≤ _
      have h5 : g ≤ heldAt (plusL g q) u := this
      omega
  omega
theorem plus_late {q : List (Int × Int)} {g : Int} {u : Int} (h1 : 16384 ≤ u) : heldAt (plusL g q) u = 0 := by
  have a : heldAt (plusL g q) u ≤ 0 := held_le (Int.le_refl 0) fun p hp hlt => by
    exfalso
    rcases List.mem_append.1 hp with hp | hp
    · obtain ⟨r, hr, rfl⟩ := List.mem_map.1 hp
      obtain ⟨k, hk, _, rfl⟩ := (mem_chg q r 120).1 hr
      have hlt' : u < (k : Int) + 1 := hlt
      omega
    · simp at hp
      subst hp
      have hlt' : u < 16384 := hlt
      omega
  have := held_nonneg (plusL g q) u
  omega
theorem plus_oks {q : List (Int × Int)} (h : SmallsB q) {g : Int} (hg : 0 ≤ g) (hg1 : g ≤ 1000) : OksB (plusL g q) := fun p hp => by
  rcases List.mem_append.1 hp with hp | hp
  · obtain ⟨r, hr, rfl⟩ := List.mem_map.1 hp
    obtain ⟨k, hk, _, rfl⟩ := (mem_chg q r 120).1 hr
    have := small_held h k
    exact ⟨by show 1 ≤ (k : Int) + 1; omega, by show (k : Int) + 1 ≤ _; omega, by show 0 ≤ heldAt q k + g; omega, by show heldAt q k + g ≤ _; omega⟩
  · simp at hp
    subst hp
    exact ⟨by show (1 : Int) ≤ 16384; decide, by show (16384 : Int) ≤ 1048575; decide, by show 0 ≤ g; omega, by show g ≤ _; omega⟩
theorem plus_len {q : List (Int × Int)} (h : SmallsB q) (g : Int) : (plusL g q).length ≤ 17 := by
  have := chg_len' h 120
  simp [plusL]
  omega
theorem plus_end {q : List (Int × Int)} {g P : Int} (hP : P ≤ 16384) : endI (plusL g q) P = 16384 := by
  obtain ⟨_, b, c⟩ := end_go (plusL g q) P
  have h1 := b (16384, g) (List.mem_append.2 (.inr (List.mem_singleton.2 rfl)))
  have h2 : (16384 : Int) ≤ endI (plusL g q) P := h1
  rcases c with e | ⟨p, hp, e⟩
  · omega
  · rcases List.mem_append.1 hp with hp | hp
    · obtain ⟨r, hr, rfl⟩ := List.mem_map.1 hp
      obtain ⟨k, hk, _, rfl⟩ := (mem_chg q r 120).1 hr
      have : endI (plusL g q) P = (k : Int) + 1 := e
      omega
    · simp at hp
      subst hp
      exact e
theorem isDl_back {l : List Dm} (ho : Oks l) {P t : Int} (hP : Per l P) (h : IsDl l t) (ht : P < t) : IsDl l (t - P) := by
  obtain ⟨x, hx, k, hk, e⟩ := h
  obtain ⟨m, hm, hm1⟩ := hP.dvd x hx
  have hT : 0 < x.t := by have := (ho x hx).2.2; omega
  have hd := (ho x hx).2.2.2.1
  have hkm : m ≤ k := by
    by_cases h : m ≤ k
    · exact h
    · exfalso
      have h3 : (k + 1) * x.t ≤ m * x.t := Int.mul_le_mul_of_nonneg_right (by omega) (by omega)
      rw [Int.add_mul] at h3
      omega
  refine ⟨x, hx, k - m, by omega, ?_⟩
  rw [Int.sub_mul, hm]
  omega
/-- With what is left held at all times, it still fits; with one more it does not. -/
theorem room_plus {l : List Dm} (ho : Oks l) {q : List (Int × Int)} (hq : SmallsB q) {P : Int} (hP : Per l P) (hP1 : P ≤ 120) (hb : roomB l q P = true) :
    0 ≤ roomV l q P ∧ roomV l q P ≤ 120 ∧ testI l (plusL (roomV l q P) q) P = 0 ∧ testI l (plusL (roomV l q P + 1) q) P = 17 := by
  have ⟨ht, hp⟩ : testI l q P = 0 ∧ pts l q P ≠ [] := by simpa [roomB] using hb
  have hf := test_fine.1 ht
  have hv : roomV l q P = mins ((pts l q P).map (leftI l q)) := by unfold roomV; rw [if_pos ht]
  have hm := mins_mem (l := (pts l q P).map (leftI l q)) (by simpa using hp)
  obtain ⟨u, hu, eu⟩ := List.mem_map.1 hm
  rw [← hv] at eu
  have hmin : ∀ t ∈ pts l q P, roomV l q P ≤ leftI l q t := fun t ht => by rw [hv]; exact mins_le (List.mem_map.2 ⟨t, ht, rfl⟩)
  have hE : endI q P ≤ 120 := by
    rcases (end_go q P).2.2 with e | ⟨p, hp, e⟩
    · omega
    · have := (hq p hp).2.1; omega
  obtain ⟨hu1, hu2⟩ := (mem_pts ho).1 hu
  have hu0 := isDl_pos ho hu2
  have n0 : 0 ≤ roomV l q P := by rw [← eu]; exact hf.2 u hu
  have n1 : roomV l q P ≤ 120 := by
    rw [← eu]
    have := (work_bd l ho (show 0 ≤ u by omega) (show u ≤ 4194304 by omega)).1
    have := held_nonneg q u
    unfold leftI
    omega
  generalize roomV l q P = n at *
  have hall : ∀ (k : Nat) (t : Int), t.toNat ≤ k → IsDl l t → n ≤ t - work l t := by
    intro k
    induction k with
    | zero => intro t ht hd; have := isDl_pos ho hd; omega
    | succ k ih =>
      intro t htk hd
      have h1 := isDl_pos ho hd
      by_cases he : t ≤ endI q P
      · have := hmin t ((mem_pts ho).2 ⟨he, hd⟩)
        have := held_nonneg q t
        unfold leftI at *
        omega
      · have hpe := (end_go q P).1
        have hP0 := hP.pos
        have := ih (t - P) (by omega) (isDl_back ho hP hd (by omega))
        have hw := work_period ho hP (t := t - P) (by omega)
        rw [show t - P + P = t by omega] at hw
        have := hf.1
        omega
  refine ⟨n0, n1, test_fine.2 ⟨hf.1, fun t htp => ?_⟩, ?_⟩
  · obtain ⟨h1, h2⟩ := (mem_pts ho).1 htp
    have h3 := isDl_pos ho h2
    have h4 := hall t.toNat t (Nat.le_refl _) h2
    by_cases hlt : t < 16384
    · have e := plus_held hq n0 (show 0 ≤ t by omega) hlt
      by_cases he : t ≤ endI q P
      · have := hmin t ((mem_pts ho).2 ⟨he, h2⟩)
        unfold leftI at *
        omega
      · have := held_end (b := q) (P := P) (t := t) (by omega)
        unfold leftI
        omega
    · have := plus_late (q := q) (g := n) (u := t) (by omega)
      unfold leftI
      omega
  · rcases test_or l (plusL (n + 1) q) P with h | h
    · exfalso
      have hf2 := test_fine.1 h
      have hin : u ∈ pts l (plusL (n + 1) q) P := (mem_pts ho).2 ⟨by rw [plus_end (by omega)]; omega, hu2⟩
      have := hf2.2 u hin
      have e := plus_held hq (show 0 ≤ n + 1 by omega) (show 0 ≤ u by omega) (show u < 16384 by omega)
      unfold leftI at *
      omega
    · exact h
theorem room_none {l : List Dm} (ho : Oks l) {q : List (Int × Int)} {P : Int} (hP : Per l P) (hb : roomB l q P = false) (hl : l ≠ []) : testI l q P ≠ 0 := by
  intro ht
  have : pts l q P = [] := by
    by_cases h : pts l q P = []
    · exact h
    · exfalso
      have : roomB l q P = true := by unfold roomB; simp [ht, h]
      rw [hb] at this
      cases this
  obtain ⟨x, hx, e⟩ := next_mem hl 0
  have h1 : nextI l 0 ≤ endI q P := by
    have hj : jobs x 0 = 0 := by unfold jobs; rw [if_pos]; have := (ho x hx).2.2.1; omega
    have hd : dl x 0 = x.d := by unfold dl; rw [hj]; omega
    obtain ⟨m, hm, hm1⟩ := hP.dvd x hx
    have hxx := (ho x hx).2.2
    have : 1 * x.t ≤ m * x.t := Int.mul_le_mul_of_nonneg_right hm1 (by omega)
    have := (end_go q P).1
    omega
  have hin : nextI l 0 ∈ pts l q P := (mem_pts ho).2 ⟨h1, isDl_next hl ho⟩
  rw [this] at hin
  simp at hin
theorem own_apart {w : World} {B B' : Nat} {e e' : TypeId} {k k' n n' : Nat} {v v' : Value} {xs xs' : List Value} (h : w.ownsRow B e k v n xs) (h' : w.ownsRow B' e' k' v' n' xs') {a b : Value} (ha : xs[1]? = some a) (hb : xs'[1]? = some b) (hne : a ≠ b) : v.ownBlock = none ∨ v.ownBlock ≠ v'.ownBlock := by
  cases hv : v.ownBlock with
  | none => exact .inl rfl
  | some g =>
    refine .inr fun e => ?_
    have c1 := h.cells hv 1 a ha
    have c2 := h'.cells e.symm 1 b hb
    rw [c1] at c2
    exact hne (by injection c2)
end Go.Proofs.Ytajkckjpfbkpmaa.Dem
