/-
  The walks of package arith's functions: what each returns, for every argument, as plain functions of whole numbers.
-/
import Derived.Test.YtajkckjpfbkpmaaProg
import Derived.Test.YtajkckjpfbkpmaaAri0
import Derived.WalkKit
import Derived.WalkSpells
import Derived.WalkLawsBesides
import Derived.KernelRfl
import Derived.Lib.Hide
import Derived.Deep.LoopGhost
import Derived.Deep.QuietTactic
import Derived.BigQuiet
namespace Go.Proofs.Ytajkckjpfbkpmaa.Ari
open Go.RowKit

/-- gcd's loop, as it goes. -/
def gcdI (a b : Int) : Int := if _h : b = 0 then a else gcdI b (a.tmod b)
termination_by b.natAbs
decreasing_by
  have := Int.natAbs_tmod a b
  rw [this]
  exact Nat.mod_lt _ (by omega)

theorem gcdI_zero (a : Int) : gcdI a 0 = a := by rw [gcdI]; simp
theorem gcdI_step (a b : Int) (h : b ≠ 0) : gcdI a b = gcdI b (a.tmod b) := by rw [gcdI]; simp [h]
theorem tmod_lt (a b : Int) (h : b ≠ 0) : (a.tmod b).natAbs < b.natAbs := by
  rw [Int.natAbs_tmod a b]
  exact Nat.mod_lt _ (by omega)

/-- The world is the old one, but for some draws. -/
def Dn (w w' : World) : Prop := ∃ n, w' = w.drewN n
theorem Dn.refl (w : World) : Dn w w := ⟨0, rfl⟩
theorem Dn.trans {w w1 w2 : World} (h : Dn w w1) (h' : Dn w1 w2) : Dn w w2 := by
  obtain ⟨n, rfl⟩ := h
  obtain ⟨m, rfl⟩ := h'
  exact ⟨n + m, World.drewN_drewN ..⟩
theorem Dn.step {w w1 : World} (h : Dn w w1) (m : Nat) : Dn w (w1.drewN m) := h.trans ⟨m, rfl⟩

set_option maxHeartbeats 400000 in
theorem gcd_any (a b : Int) (w : World) :
    Calls Try.prog 57 #[.int .u64 a, .int .u64 b] w fun e w' => e = .returned (.int .u64 (gcdI a b)) ∧ Dn w w' := by
  go_enter Try.func57, Try.ntmps57
  go_wp2
  go_loopg [0, 1] b.natAbs (fun k x y wr => ∃ (p q : Int), x = .int .u64 p ∧ y = .int .u64 q ∧ Aside (gcdI p q = gcdI a b) ∧ Aside (q.natAbs ≤ k) ∧ Dn w wr)
  case atStart => exact ⟨a, b, rfl, rfl, rfl, Nat.le_refl _, Dn.refl _⟩
  case round =>
    obtain ⟨p, q, rfl, rfl, hg, hk, hd⟩ := hrel
    by_cases hq : q = 0
    · subst hq
      go_wp2
      go_ret
      exact ⟨by rw [← hg.out, gcdI_zero]; rfl, hd⟩
    · have h1 : (q == 0) = false := beq_eq_false_iff_ne.2 hq
      have h2 : (q != 0) = true := bne_iff_ne.2 hq
      have hs : Aside (gcdI p q = gcdI q (p.tmod q)) := gcdI_step p q hq
      have hl : Aside ((p.tmod q).natAbs < q.natAbs) := tmod_lt p q hq
      go_wp2
      go_quiet (fail)
      go_wp2
      go_roundg (p.tmod q).natAbs
      case measure => have := hl.out; have := hk.out; omega
      case rel => exact ⟨q, p.tmod q, rfl, rfl, by rw [← hg.out, hs.out]; rfl, Nat.le_refl _, hd.step _⟩

set_option maxHeartbeats 400000 in
theorem mul64_any (a b : Int) (w : World) :
    Calls Try.prog 55 #[.int .u64 a, .int .u64 b] w fun e w' => e = .returned (.tuple #[.int .u64 (mulHi a b), .int .u64 (mulLo a b)]) ∧ w = w' := by
  go_enter Try.func55, Try.ntmps55
  go_wp2
  go_ret2
  exact ⟨rfl, rfl⟩

set_option maxHeartbeats 400000 in
theorem mul_any (a b : Int) (w : World) :
    Calls Try.prog 46 #[.int .u64 a, .int .u64 b] w fun e w' => e = .returned (.tuple #[.int .u64 (mulM a b).1, .bool (mulM a b).2]) ∧ w = w' := by
  unfold mulM
  by_cases h : mulHi a b = 0
  · have h1 : (mulHi a b == 0) = true := beq_iff_eq.2 h
    have h2 : (mulHi a b != 0) = false := bne_eq_false_iff_eq.2 h
    rw [if_pos h]
    clear h
    go_enter Try.func46, Try.ntmps46
    go_wp2_with (go_at_call 55; refine (mul64_any _ _ _).mono ?_; rintro e w' ⟨rfl, rfl⟩)
    go_ret2
    exact ⟨rfl, rfl⟩
  · have h1 : (mulHi a b == 0) = false := beq_eq_false_iff_ne.2 h
    have h2 : (mulHi a b != 0) = true := bne_iff_ne.2 h
    rw [if_neg h]
    clear h
    go_enter Try.func46, Try.ntmps46
    go_wp2_with (go_at_call 55; refine (mul64_any _ _ _).mono ?_; rintro e w' ⟨rfl, rfl⟩)
    go_ret2
    exact ⟨rfl, rfl⟩

def subM (a b : Int) : Int × Bool := if a < b then (0, false) else (IntKind.u64.wrap (a - b), true)
/-! ### the closures -/
end Go.Proofs.Ytajkckjpfbkpmaa.Ari
