/-
  The statement DemandParts, walked.
-/
import Derived.Test.YtajkckjpfbkpmaaDem5
import Derived.Test.YtajkckjpfbkpmaaMask
namespace Go.Proofs.Ytajkckjpfbkpmaa.Dem
open Go.RowKit Go.Shelf Go.Proofs.Ytajkckjpfbkpmaa.Ari

theorem news3 {w : World} {A : Option Addr} {n : Nat} {q : List Dm} (h : RdD w A n q) : ∀ ad, A = some ad → ∀ j u, (flat3 q)[j]? = some u → w.cell? (ad.add j) = some u := by
  rintro ad rfl j u hu
  have hj : j < q.length * 3 := by have := (List.getElem?_eq_some_iff.1 hu).1; rwa [flat3_length] at this
  obtain ⟨b, o, e, hc⟩ := h.2.2 (by rw [← h.1]; omega)
  cases e
  have hi : j / 3 < q.length := by omega
  obtain ⟨c0, c1, c2⟩ := hc (j / 3) (by rw [← h.1]; exact hi)
  obtain ⟨g0, g1, g2⟩ := flat3_get q (j / 3) hi
  rw [Row0.plain_add']
  rcases (by omega : j = j / 3 * 3 ∨ j = j / 3 * 3 + 1 ∨ j = j / 3 * 3 + 2) with e | e | e
  · rw [e] at hu ⊢; rw [g0] at hu; cases hu; exact c0
  · rw [e] at hu ⊢; rw [g1] at hu; cases hu; exact c1
  · rw [e] at hu ⊢; rw [g2] at hu; cases hu; exact c2
theorem flat3_rd {w : World} {A : Option Addr} {n : Nat} {q : List Dm} (h : RdD w A n q) : (flat3 q).length = n * 3 := by rw [flat3_length, h.1]
theorem of_at {W : World} {A : Option Addr} {n : Nat} {l : List Dm} (hr : RdD W A n l) (c : Nat) (ho : Oks l) {s : Int} (h0 : 0 ≤ s) (h1 : s ≤ 4194304) : ∀ w, Below W.heap.size W w →
    Hid (Calls Try.prog 35 #[.slice A n c, .int .i64 s] w fun e w' => e = .returned (.tuple #[.int .i64 (work l s), .bool true]) ∧ Below w.heap.size w w') :=
  fun w hb => of_any A n c l ho s h0 h1 w (hr.below hb (Nat.le_refl _))
theorem next_at {W : World} {A : Option Addr} {n : Nat} {l : List Dm} (hr : RdD W A n l) (c : Nat) (ho : Oks l) {s : Int} (h0 : 0 ≤ s) (h1 : s ≤ 2097152) : ∀ w, Below W.heap.size W w →
    Hid (Calls Try.prog 34 #[.slice A n c, .int .i64 s] w fun e w' => e = .returned (.tuple #[.int .i64 (nextI l s), .bool (decide (0 < l.length))]) ∧ Below w.heap.size w w') :=
  fun w hb => (next_any A n c l ho s h0 h1 w (hr.below hb (Nat.le_refl _))).mono fun _ _ ⟨he, hb⟩ => ⟨by rw [he, hr.1], hb⟩
/-- What the least of both is. -/
theorem least_of {x y : List Dm} {t : Int} : (nextI (x ++ y) t = nextI y t ∧ (!decide (0 < x.length) || (decide (0 < y.length) && decide (nextI y t < nextI x t))) = true) ∨ (nextI (x ++ y) t = nextI x t ∧ (!decide (0 < x.length) || (decide (0 < y.length) && decide (nextI y t < nextI x t))) = false) := by
  cases x with
  | nil => exact .inl ⟨rfl, by simp⟩
  | cons a r =>
    cases y with
    | nil => exact .inr ⟨by rw [List.append_nil], by simp⟩
    | cons b u =>
      have h := next_append (a :: r) (b :: u) (by simp) (by simp) t
      by_cases hlt : nextI (b :: u) t < nextI (a :: r) t
      · exact .inl ⟨by omega, by simp [hlt]⟩
      · exact .inr ⟨by omega, by simp [hlt]⟩

end Go.Proofs.Ytajkckjpfbkpmaa.Dem
