/-
  Plain: with more other sets no fewer are useful; all others' sets and a task's own are all.
-/
import Derived.Test.YtdmfdgadhobkpaaBlk7
import Derived.Test.YtdmfdgadhobkpaaBlkP
namespace Go.Proofs.Ytdmfdgadhobkpaa.Blk
open Go.RowKit Go.Shelf Go.Proofs.Ytdmfdgadhobkpaa.Sys Go.Proofs.Ytdmfdgadhobkpaa.Box Go.Proofs.Ytdmfdgadhobkpaa.Bits

theorem filt_or {α : Type} (p q r : α → Bool) : ∀ (l : List α), (∀ x ∈ l, p x = true → q x = true ∨ r x = true) → (l.filter p).length ≤ (l.filter q).length + (l.filter r).length
  | [], _ => Nat.zero_le _
  | a :: l, h => by
    have ih := filt_or p q r l fun x hx => h x (List.mem_cons_of_mem _ hx)
    have ha := h a (List.mem_cons_self ..)
    cases hp : p a <;> cases hq : q a <;> cases hr : r a <;> simp [hp, hq, hr] at ha <;> simp [List.filter_cons, hp, hq, hr] <;> omega
theorem cnt_up {x : TaskV} {A O : Nat → Nat} (p : Int) (h : ∀ i, i < 256 → hasN A i = true → hasN O i = true) : cntU x A p ≤ cntU x O p := len_mono fun i hi g => by
  rw [has_and, Bool.and_eq_true] at g ⊢
  exact ⟨g.1, h i hi g.2⟩
theorem cnt_sum {x : TaskV} {A B O : Nat → Nat} (p : Int) (h : ∀ i, i < 256 → hasN O i = true → hasN A i = true ∨ hasN B i = true) : cntU x O p ≤ cntU x A p + cntU x B p := filt_or _ _ _ _ fun i hi g => by
  rw [has_and, Bool.and_eq_true] at g
  rcases h i (List.mem_range.1 hi) g.2 with e | e
  · left; rw [has_and, g.1, e]; rfl
  · right; rw [has_and, g.1, e]; rfl
theorem MostR.up2 {x : TaskV} {A O : Nat → Nat} {m k : Nat} {a b e : Int} (hA : MostR x A m a e) (hO : MostR x O k b e) (h : ∀ i, i < 256 → hasN A i = true → hasN O i = true) : m ≤ k := by
  rcases Nat.eq_zero_or_pos m with h0 | h0
  · omega
  · obtain ⟨h1, h2, h3, _⟩ := hA.at1 h0
    rw [← h3]
    exact Nat.le_trans (cnt_up a h) (hO.le a h1 h2)
theorem MostR.sum {x : TaskV} {A B O : Nat → Nat} {m k n : Nat} {a b c e : Int} (hA : MostR x A m a e) (hB : MostR x B n c e) (hO : MostR x O k b e) (h : ∀ i, i < 256 → hasN O i = true → hasN A i = true ∨ hasN B i = true) : k ≤ m + n := by
  rcases Nat.eq_zero_or_pos k with h0 | h0
  · omega
  · obtain ⟨h1, h2, h3, _⟩ := hO.at1 h0
    rw [← h3]
    exact Nat.le_trans (cnt_sum b h) (Nat.add_le_add (hA.le b h1 h2) (hB.le b h1 h2))
theorem has_two (A B : Nat → Nat) (i : Nat) : hasN (orL [A, B]) i = (hasN A i || hasN B i) := by rw [has_orL]; simp
/-- The sets of all others of some tasks. -/
def allT (q : List RT) (id : Int) : Nat → (Nat → Nat)
  | 0 => ofN []
  | i + 1 => if (q.getD i default).x.id = id then allT q id i else orL [allT q id i, usedN (q.getD i default).x]
theorem allW (q : List RT) (id : Int) : ∀ n, Ws (allT q id n)
  | 0 => Ws.ofN _
  | n + 1 => by
    unfold allT
    split
    · exact allW q id n
    · exact Ws.orL fun B h => by
        simp only [List.mem_cons, List.not_mem_nil, or_false] at h
        rcases h with rfl | rfl
        · exact allW q id n
        · exact Ws.ofN _
theorem has_all (q : List RT) (id : Int) (k : Nat) : ∀ n, hasN (allT q id n) k = true ↔ ∃ i, i < n ∧ (q.getD i default).x.id ≠ id ∧ hasN (usedN (q.getD i default).x) k = true
  | 0 => by
    unfold allT
    rw [show ofN [] = noneW from rfl, has_none]
    simp
  | n + 1 => by
    have ih := has_all q id k n
    unfold allT
    split
    · rename_i h
      rw [ih]
      constructor
      · rintro ⟨i, h1, h2⟩; exact ⟨i, by omega, h2⟩
      · rintro ⟨i, h1, h2, h3⟩
        by_cases e : i = n
        · subst e; exact absurd h h2
        · exact ⟨i, by omega, h2, h3⟩
    · rename_i h
      rw [has_two, Bool.or_eq_true, ih]
      constructor
      · rintro (⟨i, h1, h2⟩ | h2)
        · exact ⟨i, by omega, h2⟩
        · exact ⟨n, by omega, h, h2⟩
      · rintro ⟨i, h1, h2, h3⟩
        by_cases e : i = n
        · subst e; exact .inr h3
        · exact .inl ⟨i, by omega, h2, h3⟩
theorem all_own {q : List RT} {n i : Nat} (hid : ∀ j, j < n → (q.getD j default).x.id = (j : Int) + 1) (hi : i < n) : eqN (orL [allT q (q.getD i default).x.id n, usedN (q.getD i default).x]) (allT q 0 n) = true := by
  refine eqN_ext (Ws.orL fun B h => ?_) (allW _ _ _) fun k hk => ?_
  · simp only [List.mem_cons, List.not_mem_nil, or_false] at h
    rcases h with rfl | rfl
    · exact allW q _ n
    · exact Ws.ofN _
  · rw [Bool.eq_iff_iff, has_two, Bool.or_eq_true, has_all, has_all]
    constructor
    · rintro (⟨j, h1, h2, h3⟩ | h3)
      · exact ⟨j, h1, by rw [hid j h1]; omega, h3⟩
      · exact ⟨i, hi, by rw [hid i hi]; omega, h3⟩
    · rintro ⟨j, h1, h2, h3⟩
      by_cases e : j = i
      · subst e; exact .inr h3
      · exact .inl ⟨j, h1, by rw [hid j h1, hid i hi]; omega, h3⟩
theorem MostR.ex (x : TaskV) (O : Nat → Nat) : ∀ k : Nat, ∃ m a, MostR x O m a ((k : Int) + 1)
  | 0 => ⟨0, 0, MostR.none x O⟩
  | k + 1 => by
    obtain ⟨m, a, h⟩ := MostR.ex x O k
    by_cases hk : m < cntU x O ((k : Int) + 1)
    · exact ⟨_, _, h.up (by omega) hk⟩
    · exact ⟨m, a, h.same (by omega)⟩
theorem MostR.any (x : TaskV) (O : Nat → Nat) (c : Int) : ∃ m a, MostR x O m a c := by
  by_cases h : 1 ≤ c
  · obtain ⟨m, a, hm⟩ := MostR.ex x O (c - 1).toNat
    rw [show (((c - 1).toNat : Int) + 1) = c by omega] at hm
    exact ⟨m, a, hm⟩
  · exact ⟨0, 0, fun p h1 h2 => by omega, fun _ => rfl, fun h => absurd h (by decide)⟩
theorem MostR.uniq {x : TaskV} {O : Nat → Nat} {m k : Nat} {a b c : Int} (h : MostR x O m a c) (g : MostR x O k b c) : m = k ∧ a = b := by
  have e : m = k := Nat.le_antisymm (h.up2 g fun _ _ h => h) (g.up2 h fun _ _ h => h)
  subst e
  refine ⟨rfl, ?_⟩
  rcases Nat.eq_zero_or_pos m with h0 | h0
  · rw [h.z h0, g.z h0]
  · obtain ⟨h1, h2, h3, h4⟩ := h.at1 h0
    obtain ⟨g1, g2, g3, g4⟩ := g.at1 h0
    rcases Int.lt_trichotomy a b with e | e | e
    · have := g4 a h1 e; omega
    · exact e
    · have := h4 b g1 e; omega
theorem listN_le (A : Nat → Nat) : (listN A).length ≤ 256 := by
  have := List.length_filter_le (hasN A) (List.range 256)
  rw [List.length_range] at this
  exact this
theorem MostR.small {x : TaskV} {O : Nat → Nat} {m : Nat} {a c : Int} (h : MostR x O m a c) : m ≤ 256 := by
  rcases Nat.eq_zero_or_pos m with h0 | h0
  · omega
  · obtain ⟨_, _, h3, _⟩ := h.at1 h0
    rw [← h3]; exact listN_le _
/-- Its answers: named. -/
theorem most_det (r : RT) (O : Nat → Nat) (hO : Ws O) : ∃ m a, MostR r.x O m a r.x.c ∧ ∀ (w : World), r.Rd w → Calls Try.prog 16 #[.agg #[.int .i64 r.x.id, .int .i64 r.x.c, .int .i64 r.x.d, .int .i64 r.x.t, .int .i64 r.x.prio, .slice r.ca r.cl r.cc, .slice r.ua r.ul r.uc], .agg #[.int .u64 (O 0 : Int), .int .u64 (O 1 : Int), .int .u64 (O 2 : Int), .int .u64 (O 3 : Int)]] w fun e w' => e = .returned (.tuple #[.int .i64 (m : Int), .int .i64 a]) ∧ Below w.heap.size w w' := by
  obtain ⟨m, a, h⟩ := MostR.any r.x O r.x.c
  refine ⟨m, a, h, fun w hr => (most_all r O hO w hr).mono ?_⟩
  rintro e w' ⟨k, b, rfl, g, hb⟩
  obtain ⟨rfl, rfl⟩ := h.uniq g
  exact ⟨rfl, hb⟩
end Go.Proofs.Ytdmfdgadhobkpaa.Blk
