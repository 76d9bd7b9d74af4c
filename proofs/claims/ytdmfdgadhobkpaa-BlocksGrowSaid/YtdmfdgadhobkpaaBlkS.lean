/-
  Package blocks: further on in a job. Plain.
-/
import Derived.Test.YtdmfdgadhobkpaaBlk5
namespace Go.Proofs.Ytdmfdgadhobkpaa.Blk
open Go.RowKit Go.Shelf Go.Proofs.Ytdmfdgadhobkpaa.Sys Go.Proofs.Ytdmfdgadhobkpaa.Box Go.Proofs.Ytdmfdgadhobkpaa.Bits

theorem count_one {p q : Nat → Bool} (k : Nat) : ∀ (l : List Nat), l.Nodup → (∀ x ∈ l, q x = true → p x = true ∨ x = k) → (l.filter q).length ≤ (l.filter p).length + 1
  | [], _, _ => by simp
  | x :: l, hn, h => by
    obtain ⟨hx, hn⟩ := List.nodup_cons.1 hn
    have hl : ∀ y ∈ l, q y = true → p y = true ∨ y = k := fun y hy => h y (List.mem_cons_of_mem _ hy)
    by_cases e : x = k
    · have hm : (l.filter q).length ≤ (l.filter p).length := count_mono l fun y hy hq => by
        rcases hl y hy hq with h1 | h1
        · exact h1
        · subst e; subst h1; exact absurd hy hx
      simp only [List.filter_cons]
      split <;> split <;> simp <;> omega
    · have hi := count_one k l hn hl
      have h0 := h x (List.mem_cons_self ..)
      simp only [List.filter_cons]
      split
      · rename_i hq
        rcases h0 hq with h1 | h1
        · rw [if_pos h1]; simp; omega
        · exact absurd h1 e
      · split <;> simp <;> omega
theorem len_one {A B : Nat → Nat} (k : Nat) (h : ∀ i, i < 256 → hasN B i = true → hasN A i = true ∨ i = k) : (listN B).length ≤ (listN A).length + 1 := count_one k _ List.nodup_range fun i hi => h i (List.mem_range.1 hi)
theorem len_256 (A : Nat → Nat) : (listN A).length ≤ 256 := by
  have := List.length_filter_le (hasN A) (List.range 256)
  rw [List.length_range] at this
  exact this
theorem and_sub {A B : Nat → Nat} (hA : Ws A) (h : ∀ i, i < 256 → hasN A i = true → hasN B i = true) : eqN (andW A B) A = true := eqN_ext hA.and hA fun i hi => by
  rw [has_and]
  cases hq : hasN A i
  · rfl
  · rw [h i hi hq]; rfl
theorem and_sup {A B : Nat → Nat} (hA : Ws A) (hB : Ws B) (h : ∀ i, i < 256 → hasN B i = true → hasN A i = true) : eqN (andW A B) B = true := eqN_ext hA.and hB fun i hi => by
  rw [has_and]
  cases hq : hasN B i
  · cases hasN A i <;> rfl
  · rw [h i hi hq]; rfl
theorem steps_facts (x : TaskV) (p : Int) (h0 : 0 ≤ p) (hc : p < x.c) :
    eqN (andW (beforeN x p) (beforeN x (p + 1))) (beforeN x p) = true ∧ eqN (andW (behindN x p) (behindN x (p + 1))) (behindN x (p + 1)) = true ∧
      (listN (beforeN x (p + 1))).length ≤ (listN (beforeN x p)).length + 1 ∧ (listN (behindN x p)).length ≤ (listN (behindN x (p + 1))).length + 1 := by
  cases hm : mayT x
  · have e : ∀ f t, putL x f t = [] := fun f t => by unfold putL; rw [if_neg (by rw [hm]; decide)]
    unfold beforeN behindN
    rw [e, e, e, e]
    exact ⟨and_sub (Ws.ofN _) fun i _ h => h, and_sub (Ws.ofN _) fun i _ h => h, by omega, by omega⟩
  · have hb : ∀ t i, i < 256 → (hasN (beforeN x t) i = true ↔ Uses x 0 t i) := fun t i hi => put_has hm 0 t i hi
    have hd : ∀ t i, i < 256 → (hasN (behindN x t) i = true ↔ Uses x t x.c i) := fun t i hi => put_has hm t x.c i hi
    refine ⟨and_sub (Ws.ofN _) fun i hi h => ?_, and_sup (Ws.ofN _) (Ws.ofN _) fun i hi h => ?_, len_one (accI x.use p).toNat fun i hi h => ?_, len_one (accI x.use p).toNat fun i hi h => ?_⟩
    · obtain ⟨k, a, b, c, d, e⟩ := (hb _ i hi).1 h
      exact (hb _ i hi).2 ⟨k, a, b, by omega, d, e⟩
    · obtain ⟨k, a, b, c, d, e⟩ := (hd _ i hi).1 h
      exact (hd _ i hi).2 ⟨k, a, by omega, c, d, e⟩
    · obtain ⟨k, a, b, c, d, e⟩ := (hb _ i hi).1 h
      by_cases hk : k = p
      · right; rw [← hk, e]; simp
      · left; exact (hb _ i hi).2 ⟨k, a, b, by omega, d, e⟩
    · obtain ⟨k, a, b, c, d, e⟩ := (hd _ i hi).1 h
      by_cases hk : k = p
      · right; rw [← hk, e]; simp
      · left; exact (hd _ i hi).2 ⟨k, a, by omega, c, d, e⟩
end Go.Proofs.Ytdmfdgadhobkpaa.Blk
