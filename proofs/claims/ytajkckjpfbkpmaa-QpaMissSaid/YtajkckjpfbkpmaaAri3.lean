/-
  The walks of package arith's Sum, Gcd and Lcm, over any row of numbers.
-/
import Derived.Test.YtajkckjpfbkpmaaAri2
namespace Go.Proofs.Ytajkckjpfbkpmaa.Ari
open Go.RowKit Go.Shelf

/-- All are numbers of 64 bits. -/
def Nums (l : List Int) : Prop := ∀ j, j < l.length → 0 ≤ l.getD j 0 ∧ l.getD j 0 < 18446744073709551616

def sumM (l : List Int) : Int × Bool := foldM addM 0 l
def gcdM (l : List Int) : Int := (foldM (fun a b => (gcdI a b, true)) 0 l).1
def hasZ (l : List Int) : Bool := l.any (· == 0)
def lcmM (l : List Int) : Int × Bool := if hasZ l = true then (0, false) else foldM lcmS 1 l

theorem sum_any (A : Option Addr) (n c : Nat) (l : List Int) (w : World) (hr : Rd w .u64 A n l) (hl : Nums l) :
    Calls Try.prog 42 #[.slice A n c] w fun e w' => e = .returned (.tuple #[.int .u64 (sumM l).1, .bool (sumM l).2]) ∧ Dn w w' := by
  have H := fold_any 52 (fun a => 0 ≤ a) (fun a => 0 ≤ a) addM (enters_of Try.func52 (by kernel_rfl) rfl)
    (fun a b w ha hb => (add_any a b ha hb w).mono fun e w' ⟨he, hw⟩ => ⟨he, 0, hw.symm⟩) (fun a b ha hb _ => addM_pos a b ha hb) 0 A n c l w hr (Int.le_refl 0) (fun j hj => (hl j hj).1)
  have HH := Lib.hid H
  clear H
  unfold sumM
  go_enter Try.func42, Try.ntmps42
  go_wp2_with fail
  refine HH.out.mono ?_
  rintro e w' ⟨rfl, nd, rfl⟩
  go_wp2
  go_ret2
  exact ⟨rfl, nd, rfl⟩

theorem gcdI_ne (a b : Int) (hb : b ≠ 0) : gcdI a b ≠ 0 := by
  suffices ∀ n : Nat, ∀ a b : Int, b.natAbs ≤ n → (a ≠ 0 ∨ b ≠ 0) → gcdI a b ≠ 0 from this _ a b (Nat.le_refl _) (.inr hb)
  intro n
  induction n with
  | zero =>
    intro a b h1 h2
    have : b = 0 := by omega
    subst this
    rw [gcdI_zero]
    simpa using h2
  | succ n ih =>
    intro a b h1 h2
    by_cases h : b = 0
    · subst h; rw [gcdI_zero]; simpa using h2
    · rw [gcdI_step _ _ h]
      exact ih _ _ (by have := tmod_lt a b h; omega) (.inl h)

theorem any_take (l : List Int) (i : Nat) (h : i < l.length) : hasZ (l.take (i + 1)) = (hasZ (l.take i) || (l.getD i 0 == 0)) := by
  unfold hasZ
  rw [List.take_add_one, List.getElem?_eq_getElem h, List.any_append]
  simp [List.getD_eq_getElem?_getD, List.getElem?_eq_getElem h]

set_option maxHeartbeats 1000000 in
theorem lcm_row (A : Option Addr) (n c : Nat) (l : List Int) (w : World) (hr : Rd w .u64 A n l) :
    Calls Try.prog 50 #[.slice A n c] w fun e w' => e = .returned (.tuple #[.int .u64 (lcmM l).1, .bool (lcmM l).2]) ∧ Dn w w' := by
  have hn := hr.2.1
  have HR : Aside (Rd w .u64 A n l) := hr
  clear hr
  go_enter Try.func50, Try.ntmps50
  go_wp2
  go_loopg [4, 9] l.length (fun k zv iv wr => ∃ (z : Bool) (i : Nat), i ≤ n ∧ zv = .bool z ∧ iv = .int .i64 (i : Int) ∧ Aside (z = hasZ (l.take i)) ∧ Aside (l.length - i = k) ∧ Dn w wr)
  case atStart => exact ⟨false, 0, Nat.zero_le _, rfl, rfl, rfl, rfl, Dn.refl _⟩
  case round =>
    obtain ⟨z, i, hi, rfl, rfl, hf, hk, m, rfl⟩ := hrel
    by_cases hlt : i < n
    · have h1 : decide ((i : Int) < (n : Int)) = true := by simpa using hlt
      obtain ⟨ad, rfl, hc⟩ := HR.out.2.2 (by omega)
      have hcell := hc i hlt
      have HL : Aside (l.length = n) := HR.out.1
      clear hc
      have hd : Aside (hasZ (l.take (i + 1)) = (hasZ (l.take i) || (l.getD i 0 == 0))) := any_take l i (by rw [HL.out]; exact hlt)
      generalize hy : l.getD i 0 = y at *
      clear hy
      cases z
      · by_cases h0 : y = 0
        · have h2 : (y == 0) = true := beq_iff_eq.2 h0
          have H0 : Aside (y = 0) := h0
          clear h0
          go_wp2
          go_roundg (l.length - (i + 1))
          case measure => have := hk.out; have := HL.out; omega
          case rel => exact ⟨true, i + 1, by omega, rfl, by go_num, by rw [Aside, hd.out, H0.out]; simp, rfl, _, rfl⟩
        · have h2 : (y == 0) = false := beq_eq_false_iff_ne.2 h0
          have H2 : Aside ((y == 0) = false) := h2
          clear h0
          go_wp2
          go_roundg (l.length - (i + 1))
          case measure => have := hk.out; have := HL.out; omega
          case rel => exact ⟨false, i + 1, by omega, rfl, by go_num, by rw [Aside, hd.out, H2.out, ← hf.out]; rfl, rfl, _, rfl⟩
      · go_wp2
        go_roundg (l.length - (i + 1))
        case measure => have := hk.out; have := HL.out; omega
        case rel => exact ⟨true, i + 1, by omega, rfl, by go_num, by rw [Aside, hd.out, ← hf.out]; rfl, rfl, _, rfl⟩
    · have h1 : decide ((i : Int) < (n : Int)) = false := by simpa using hlt
      have hz : Aside (z = hasZ l) := by
        have := hf.out
        rwa [List.take_of_length_le (by have := HR.out.1; omega)] at this
      cases z
      · go_wp2_with fail
        have H := fold_any 56 (fun _ => True) (fun b => b ≠ 0) lcmS (enters_of Try.func56 (by kernel_rfl) rfl)
          (fun a b w _ hb => lcmLit_any a b (gcdI_ne a b hb) w) (fun a b _ _ _ => trivial) 1 A n c l (w.drewN m) HR.out trivial (fun j hj => by
            have hz' := hz.out
            unfold hasZ at hz'
            have := List.any_eq_false.1 hz'.symm (l.getD j 0) (by rw [List.getD_eq_getElem?_getD, List.getElem?_eq_getElem hj]; simp)
            simpa using this)
        refine H.mono ?_
        clear H
        rintro e w' ⟨rfl, nd, rfl⟩
        go_wp2
        go_ret2
        exact ⟨by unfold lcmM; rw [if_neg (by rw [← hz.out]; simp)]; rfl, _, rfl⟩
      · go_wp2
        go_ret2
        exact ⟨by unfold lcmM; rw [if_pos hz.out.symm]; rfl, _, rfl⟩
end Go.Proofs.Ytajkckjpfbkpmaa.Ari
