/-
  The walks of package arith's functions over rows: fold, by the contract of the step that is handed over; Sum, Gcd, Lcm.
-/
import Derived.Test.YtajkckjpfbkpmaaAri1
import Derived.Laws.Externs
import Derived.Shelf.Abstract
namespace Go.Proofs.Ytajkckjpfbkpmaa.Ari
open Go.RowKit Go.Shelf

/-- A slice of numbers that is read: nil, empty and other slices alike. -/
def Rd (w : World) (k : IntKind) (A : Option Addr) (n : Nat) (xs : List Int) : Prop :=
  xs.length = n ∧ n ≤ 9223372036854775807 ∧ (0 < n → ∃ ad, A = some ad ∧ ∀ j, j < n → w.cell? (ad.add j) = some (.int k (xs.getD j 0)))
theorem Rd.drewN {w : World} {k : IntKind} {A : Option Addr} {n : Nat} {xs : List Int} (h : Rd w k A n xs) (m : Nat) : Rd (w.drewN m) k A n xs := h
theorem Rd.dn {w w' : World} {k : IntKind} {A : Option Addr} {n : Nat} {xs : List Int} (h : Rd w k A n xs) (d : Dn w w') : Rd w' k A n xs := by
  obtain ⟨m, rfl⟩ := d
  exact h
theorem Rd.below {w w1 : World} {k : IntKind} {A : Option Addr} {n : Nat} {xs : List Int} (h : Rd w k A n xs) (hb : Below w.heap.size w w1) : Rd w1 k A n xs :=
  ⟨h.1, h.2.1, fun hn => by
    obtain ⟨ad, e, hc⟩ := h.2.2 hn
    exact ⟨ad, e, fun j hj => (hb.cell (World.block_lt_of_cell? w _ (hc j hj))).trans (hc j hj)⟩⟩

def foldM (st : Int → Int → Int × Bool) (x : Int) : List Int → Int × Bool
  | [] => (x, true)
  | n :: l => if (st x n).2 = true then foldM st (st x n).1 l else ((st x n).1, false)
theorem foldM_drop (st : Int → Int → Int × Bool) (x : Int) (l : List Int) (k : Nat) (h : k < l.length) :
    foldM st x (l.drop k) = if (st x (l.getD k 0)).2 = true then foldM st (st x (l.getD k 0)).1 (l.drop (k + 1)) else ((st x (l.getD k 0)).1, false) := by
  rw [List.drop_eq_getElem_cons h]
  simp [foldM, List.getD_eq_getElem?_getD, List.getElem?_eq_getElem h]

set_option maxHeartbeats 1000000 in
theorem fold_any (g : Nat) (Px Pl : Int → Prop) (st : Int → Int → Int × Bool) (eg : ∀ args w, (callFunc g args).run Try.prog w = .ok (.enter g args) w)
    (hst : ∀ a b w, Px a → Pl b → Calls Try.prog g #[.int .u64 a, .int .u64 b] w fun e w' => e = .returned (.tuple #[.int .u64 (st a b).1, .bool (st a b).2]) ∧ Dn w w')
    (hpos : ∀ a b, Px a → Pl b → (st a b).2 = true → Px (st a b).1)
    (x : Int) (A : Option Addr) (n c : Nat) (l : List Int) (w : World) (hr : Rd w .u64 A n l) (hx : Px x) (hl : ∀ j, j < l.length → Pl (l.getD j 0)) :
    Calls Try.prog 51 #[.int .u64 x, .slice A n c, .func (.func g) #[] #[]] w fun e w' =>
      e = .returned (.tuple #[.int .u64 (foldM st x l).1, .bool (foldM st x l).2]) ∧ Dn w w' := by
  have hn := hr.2.1
  have HR : Aside (Rd w .u64 A n l) := hr
  have HS : Aside (∀ a b w, Px a → Pl b → Calls Try.prog g #[.int .u64 a, .int .u64 b] w fun e w' => e = .returned (.tuple #[.int .u64 (st a b).1, .bool (st a b).2]) ∧ Dn w w') := hst
  have HP : Aside (∀ a b, Px a → Pl b → (st a b).2 = true → Px (st a b).1) := hpos
  have HE : Aside (∀ j, j < l.length → Pl (l.getD j 0)) := hl
  clear hr hst hpos hl
  go_enter Try.func51, Try.ntmps51
  go_wp2
  go_step3
  go_wp2
  go_step3
  go_wp2
  go_loopg [8, 9, 15] l.length (fun k xv okv iv wr => ∃ (y : Int) (i : Nat), i ≤ n ∧ Aside (Px y) ∧ xv = .int .u64 y ∧ okv = .bool true ∧ iv = .int .i64 (i : Int) ∧ Aside (foldM st y (l.drop i) = foldM st x l) ∧ Aside (l.length - i = k) ∧ Dn w wr)
  case atStart => exact ⟨x, 0, Nat.zero_le _, hx, rfl, rfl, rfl, rfl, rfl, Dn.refl _⟩
  case round =>
    obtain ⟨y, i, hi, hy, rfl, rfl, rfl, hf, hk, m, rfl⟩ := hrel
    by_cases hlt : i < n
    · have h1 : decide ((i : Int) < (n : Int)) = true := by simpa using hlt
      obtain ⟨ad, rfl, hc⟩ := HR.out.2.2 (by omega)
      have hcell := hc i hlt
      have HL : Aside (l.length = n) := HR.out.1
      clear hc
      have hd : Aside (foldM st y (l.drop i) = if (st y (l.getD i 0)).2 = true then foldM st (st y (l.getD i 0)).1 (l.drop (i + 1)) else ((st y (l.getD i 0)).1, false)) := foldM_drop st y l i (by rw [HL.out]; exact hlt)
      have hz0 : Aside (Pl (l.getD i 0)) := HE.out i (by rw [HL.out]; exact hlt)
      generalize hz : l.getD i 0 = z at *
      have HZ : Aside (l.getD i 0 = z) := hz
      clear hz
      cases hs : (st y z).2
      · have HSS : Aside ((st y z).2 = false) := hs
        clear hs
        go_wp2_with fail
        refine (HS.out _ _ _ hy.out hz0.out).mono ?_
        rintro e w' ⟨rfl, nd, rfl⟩
        rw [HSS.out]
        go_wp2
        rw [Exit.noGoto_ret]
        go_ret2
        have hq := hf.out
        rw [hd.out, if_neg (by rw [HSS.out]; simp)] at hq
        exact ⟨by rw [← hq]; rfl, _, rfl⟩
      · have HSS : Aside ((st y z).2 = true) := hs
        clear hs
        go_wp2_with fail
        refine (HS.out _ _ _ hy.out hz0.out).mono ?_
        rintro e w' ⟨rfl, nd, rfl⟩
        rw [HSS.out]
        go_wp2
        go_roundg (l.length - (i + 1))
        case measure => have := hk.out; have := HL.out; omega
        case rel => exact ⟨(st y z).1, i + 1, by omega, HP.out _ _ hy.out hz0.out HSS.out, rfl, rfl, by go_num, by have := hf.out; rw [hd.out, if_pos HSS.out] at this; exact this, rfl, _, rfl⟩
    · have h1 : decide ((i : Int) < (n : Int)) = false := by simpa using hlt
      go_wp2
      rw [Exit.noGoto_ret]
      go_ret2
      have hq := hf.out
      rw [List.drop_eq_nil_of_le (by have := HR.out.1; omega)] at hq
      exact ⟨by rw [← hq]; rfl, _, rfl⟩

/-! ### Add -/
theorem add64_0 (x y : Int) (hx : 0 ≤ x) (hy : 0 ≤ y) (w : World) : (callFunc 58 #[.int .u64 x, .int .u64 y, .int .u64 0]).run Try.prog w =
    .ok (.value (.tuple #[.int .u64 ((x + y) % 18446744073709551616), .int .u64 ((x + y) / 18446744073709551616)])) w := by
  rw [run_callFunc_extern Try.func58 (by kernel_rfl) (by kernel_rfl) (by kernel_rfl) (e := add64Entry) (by kernel_rfl), run_add64 x y 0 hx hy (by decide) (by decide)]
  simp [Result.andThen]

def addM (a b : Int) : Int × Bool := if (a + b) / 18446744073709551616 = 0 then ((a + b) % 18446744073709551616, true) else (0, false)
theorem add_any (a b : Int) (ha : 0 ≤ a) (hb : 0 ≤ b) (w : World) :
    Calls Try.prog 52 #[.int .u64 a, .int .u64 b] w fun e w' => e = .returned (.tuple #[.int .u64 (addM a b).1, .bool (addM a b).2]) ∧ w = w' := by
  unfold addM
  have hadd := add64_0 a b ha hb
  by_cases h : (a + b) / 18446744073709551616 = 0
  · have h1 : ((a + b) / 18446744073709551616 != 0) = false := bne_eq_false_iff_eq.2 h
    rw [if_pos h]
    clear h
    go_enter Try.func52, Try.ntmps52
    go_wp2_with (simp only [hadd])
    go_ret2
    exact ⟨rfl, rfl⟩
  · have h1 : ((a + b) / 18446744073709551616 != 0) = true := bne_iff_ne.2 h
    rw [if_neg h]
    clear h
    go_enter Try.func52, Try.ntmps52
    go_wp2_with (simp only [hadd])
    go_ret2
    exact ⟨rfl, rfl⟩
theorem addM_pos (a b : Int) (_ : 0 ≤ a) (_ : 0 ≤ b) : 0 ≤ (addM a b).1 := by unfold addM; split <;> simp <;> omega
theorem gcdI_nat (a b : Nat) : gcdI a b = (Nat.gcd b a : Nat) := by
  induction b using Nat.strongRecOn generalizing a with
  | ind b ih =>
    by_cases h : b = 0
    · subst h; simp [gcdI_zero]
    · rw [gcdI_step _ _ (by omega), ← Int.ofNat_tmod, ih (a % b) (Nat.mod_lt _ (by omega)), Nat.gcd_rec b a]
theorem gcdI_pos (a b : Int) (ha : 0 ≤ a) (hb : 0 ≤ b) : 0 ≤ gcdI a b := by
  obtain ⟨x, rfl⟩ := Int.eq_ofNat_of_zero_le ha
  obtain ⟨y, rfl⟩ := Int.eq_ofNat_of_zero_le hb
  rw [gcdI_nat]; omega
theorem mulM_pos (a b : Int) : 0 ≤ (mulM a b).1 := by
  unfold mulM mulLo; split <;> simp [IntKind.wrap_u64] <;> omega

/-! ### the step of Lcm -/
def lcmS (a b : Int) : Int × Bool := mulM (IntKind.u64.wrap (a.tdiv (gcdI a b))) b
theorem lcmLit_any (a b : Int) (hg : gcdI a b ≠ 0) (w : World) :
    Calls Try.prog 56 #[.int .u64 a, .int .u64 b] w fun e w' => e = .returned (.tuple #[.int .u64 (lcmS a b).1, .bool (lcmS a b).2]) ∧ Dn w w' := by
  have h0 : (gcdI a b == 0) = false := beq_eq_false_iff_ne.2 hg
  unfold lcmS
  go_enter Try.func56, Try.ntmps56
  go_wp2_with (first | (go_at_call 57; refine (gcd_any _ _ _).mono ?_; rintro e w' ⟨rfl, ⟨n, rfl⟩⟩) | (go_at_call 46; refine (mul_any _ _ _).mono ?_; rintro e w' ⟨rfl, rfl⟩))

  go_ret2
  exact ⟨rfl, n, rfl⟩
end Go.Proofs.Ytajkckjpfbkpmaa.Ari
