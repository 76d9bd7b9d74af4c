/-
  The statement ArithCeil, walked.
-/
import Derived.Test.YtpdckjfjhhdcdaaAri4
import Derived.Test.YtpdckjfjhhdcdaaRow0
namespace Go.Proofs.Ytpdckjfjhhdcdaa.Ari
open Go.RowKit Go.Shelf

theorem u64_bd {a : Int} (h : (Lit.int .u64 a).wf = true) : 0 ≤ a ∧ a < 18446744073709551616 := by
  have := h
  simp [Lit.wf, IntKind.min, IntKind.max, IntKind.signed, IntKind.bits] at this
  omega

set_option maxHeartbeats 1000000 in
theorem ArithCeil_walk (a0 a1 : Int) (W : World) (w0 : (Lit.int .u64 a0).wf = true) (w1 : (Lit.int .u64 a1).wf = true) :
    Calls Try.prog 3 #[.int .u64 a0, .int .u64 a1] W fun e w' => e = .returned (.bool true) ∧ Below W.heap.size W w' := by
  obtain ⟨p0, p1⟩ := u64_bd w0
  obtain ⟨r0, r1⟩ := u64_bd w1
  clear w0 w1
  have hm := and32 a1 r0 r1
  obtain ⟨m, hmm, m0, m1⟩ : ∃ m, a1 % 4294967296 = m ∧ 0 ≤ m ∧ m ≤ 4294967295 := ⟨_, rfl, by omega, by omega⟩
  rw [hmm] at hm
  clear hmm
  obtain ⟨n, hc, n0, n1, c1, c2, c3⟩ := ceilM_spec a0 (1 + m) p0 p1 (by omega)
  have hA := fun w => Lib.hid (awake_any w)
  have hC := fun w => Lib.hid (ceil_any a0 (1 + m) w)
  rw [hc] at hC
  clear hc
  by_cases hn : n = 0
  · have ha : (a0 == 0) = true := beq_iff_eq.2 (c2 hn)
    subst hn
    clear c1 c2 c3
    go_enter Try.func3, Try.ntmps3
    go_wp2_with (first | (go_at_call 9; refine (hA _).out.mono ?_; rintro e w1 ⟨rfl, hb⟩) | (go_at_call 10; refine (hC _).out.mono ?_; rintro e w' ⟨rfl, rfl⟩))
    go_ret
    exact ⟨rfl, hb⟩
  · have h1 : (n == 0) = false := beq_eq_false_iff_ne.2 hn
    have n2 : 1 ≤ n := by omega
    have h2 := c3 (by omega)
    have hM1 := fun w => Lib.hid (mul_any (n - 1) (1 + m) w)
    rw [mulM_eq (n - 1) (1 + m) (by omega) (by omega) (by omega) (by omega), if_pos (by omega)] at hM1
    have h3 : decide ((n - 1) * (1 + m) < a0) = true := decide_eq_true h2
    have hM2 := fun w => Lib.hid (mul_any n (1 + m) w)
    rw [mulM_eq n (1 + m) (by omega) (by omega) (by omega) (by omega)] at hM2
    clear c2 c3 hn
    by_cases h4 : n * (1 + m) < 18446744073709551616
    · rw [if_pos h4] at hM2
      have h5 : decide (a0 ≤ n * (1 + m)) = true := decide_eq_true c1
      clear h4 c1 h2
      generalize n * (1 + m) = P2 at *
      generalize (n - 1) * (1 + m) = P1 at *
      go_enter Try.func3, Try.ntmps3
      go_wp2_with (first | (go_at_call 9; refine (hA _).out.mono ?_; rintro e w1 ⟨rfl, hb⟩) | (go_at_call 10; refine (hC _).out.mono ?_; rintro e w' ⟨rfl, rfl⟩))
      refine (hM1 _).out.mono ?_
      rintro e w' ⟨rfl, rfl⟩
      go_wp2_with fail
      refine (hM2 _).out.mono ?_
      rintro e w' ⟨rfl, rfl⟩
      go_wp2
      go_ret
      exact ⟨rfl, hb⟩
    · rw [if_neg h4] at hM2
      clear h4 c1 h2
      generalize (n - 1) * (1 + m) = P1 at *
      go_enter Try.func3, Try.ntmps3
      go_wp2_with (first | (go_at_call 9; refine (hA _).out.mono ?_; rintro e w1 ⟨rfl, hb⟩) | (go_at_call 10; refine (hC _).out.mono ?_; rintro e w' ⟨rfl, rfl⟩))
      refine (hM1 _).out.mono ?_
      rintro e w' ⟨rfl, rfl⟩
      go_wp2_with fail
      refine (hM2 _).out.mono ?_
      rintro e w' ⟨rfl, rfl⟩
      go_wp2
      go_ret
      exact ⟨rfl, hb⟩
end Go.Proofs.Ytpdckjfjhhdcdaa.Ari
