/-
  The reference of the sets: List, Len, Same.
-/
import Derived.Test.YtfejmcoaljelpaaRef3
import Derived.Test.YtfejmcoaljelpaaBits19
import Derived.Deep.Onto
namespace Go.Proofs.Ytfejmcoaljelpaa.Bits
open Go.RowKit Go.Shelf

def preN (A : Nat → Nat) (i : Nat) : List Nat := (List.range i).filter (hasN A)
theorem preN_le (A : Nat → Nat) (i : Nat) : (preN A i).length ≤ i := by
  have := List.length_filter_le (hasN A) (List.range i)
  simpa [preN] using this
theorem preN_yes (A : Nat → Nat) (i : Nat) (h : hasN A i = true) : preN A (i + 1) = preN A i ++ [i] := by
  simp [preN, List.range_succ, List.filter_append, h]
theorem preN_no (A : Nat → Nat) (i : Nat) (h : hasN A i = false) : preN A (i + 1) = preN A i := by
  simp [preN, List.range_succ, List.filter_append, h]
set_option maxHeartbeats 4000000 in
set_option maxRecDepth 100000 in
/-- Two rows of the same numbers. -/
theorem samer_n (A1 A2 : Option Addr) (n d1 d2 : Nat) (l : List Int) (w : World) (h1 : RdI w A1 n l) (h2 : RdI w A2 n l) : Calls Try.prog 19 #[.slice A1 n d1, .slice A2 n d2] w fun e w' => e = .returned (.bool true) ∧ Below w.heap.size w w' := by
  have H1 := Lib.hid h1
  have H2 := Lib.hid h2
  have hm := h1.2.1
  clear h1 h2
  go_enter Try.func19, Try.ntmps19
  go_wp2
  go_loopg [5] n (fun g iv wr => ∃ (i : Nat), i ≤ n ∧ iv = .int .i64 (i : Int) ∧ Aside (n - i = g) ∧ Aside (Below w.heap.size w wr))
  case atStart => exact ⟨0, Nat.zero_le _, rfl, rfl, Below.refl _ _⟩
  case round =>
    obtain ⟨i, hi, rfl, hk, hbel⟩ := hrel
    by_cases hlt : i < n
    · have hR1 := H1.out.below hbel.out (Nat.le_refl _)
      have hR2 := H2.out.below hbel.out (Nat.le_refl _)
      obtain ⟨b, o, rfl, _⟩ := hR1.2.2 (by omega)
      obtain ⟨b', o', rfl, _⟩ := hR2.2.2 (by omega)
      have HC1 : Hid (∀ w, Below wr.heap.size wr w → w.cell? ⟨b, o + i, none⟩ = some (.int .i64 (l.getD i 0))) := fun w h => (hR1.below h (Nat.le_refl _)).atI i hlt
      have HC2 : Hid (∀ w, Below wr.heap.size wr w → w.cell? ⟨b', o' + i, none⟩ = some (.int .i64 (l.getD i 0))) := fun w h => (hR2.below h (Nat.le_refl _)).atI i hlt
      have q4 : (0 : Int) ≤ (i : Int) := by omega
      have q5 : (i : Int) < (n : Int) := by omega
      clear hR1 hR2
      generalize l.getD i 0 = z at *
      go_wp2_with fail
      refine Calm.wp_region_calm (B := wr.heap.size) (W := wr) (by kernel_rfl) (by kernel_rfl) (by kernel_rfl) (Nat.le_refl _) (Below.refl _ _).drew ?_
      apply Exists.intro
      repeat (first
        | (apply Calm.calm_skip
           · rfl
           intro N hN
           go_simp
           apply hN.out
           clear hN N)
        | (apply Calm.calm_val
           · rfl
           · intro w hB hF K hK
             unfold Calm.opAt
             have c1 := HC1.out w hB
             have c2 := HC2.out w hB
             go_simp
             first
               | (simp only [Calm.upon_value]
                  exact hK.out _ _ rfl (Below.refl _ _))
           intro N hN
           go_simp
           apply hN.out
           clear hN N))
      apply Calm.calm_nil
      intro w9 hB9 _
      go_wp2
      go_roundg (n - (i + 1))
      case measure => have := hk.out; omega
      case rel => exact ⟨i + 1, by omega, by go_num, rfl, hbel.out.trans (hB9.mono hbel.out.size)⟩
    · obtain rfl : i = n := by omega
      go_wp2
      go_ret
      exact ⟨rfl, hbel.out⟩
end Go.Proofs.Ytfejmcoaljelpaa.Bits
