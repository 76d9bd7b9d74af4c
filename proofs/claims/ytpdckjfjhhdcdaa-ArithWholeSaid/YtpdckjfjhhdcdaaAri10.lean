/-
  MulDiv, over what Div64 tells; and the statement ArithWhole, walked.
-/
import Derived.Test.YtpdckjfjhhdcdaaAri7
namespace Go.Proofs.Ytpdckjfjhhdcdaa.Ari
open Go.RowKit Go.Shelf

set_option maxHeartbeats 1000000 in
/-- bits.Div64, where there is no upper half. -/
theorem div64_lo (lo z : Int) (h0 : 0 ≤ lo) (h1 : 1 ≤ z) (h2 : lo ≤ 18446744073709551615) (w : World) :
    Calls Try.prog 32 #[.int .u64 0, .int .u64 lo, .int .u64 z] w fun e w' => e = .returned (.tuple #[.int .u64 (lo / z), .int .u64 (lo % z)]) ∧ Dn w w' := by
  have g1 : (z == 0) = false := beq_eq_false_iff_ne.2 (by omega)
  have g2 : decide (z ≤ 0) = false := decide_eq_false (by omega)
  have g3 : lo / z ≤ lo := Int.ediv_le_self z h0
  have g4 : 0 ≤ lo / z := Int.ediv_nonneg h0 (by omega)
  have g5 : IntKind.u64.wrap (lo / z) = lo / z := by rw [IntKind.wrap_u64]; omega
  go_enter Try.func32, Try.ntmps32
  go_wp2
  go_quiet (fail)
  go_wp2
  go_ret2
  exact ⟨rfl, _, rfl⟩

set_option maxHeartbeats 1000000 in
theorem muldiv_of (a b c q r : Int) (hlt : mulHi a b < c) (hD : ∀ w, Calls Try.prog 32 #[.int .u64 (mulHi a b), .int .u64 (mulLo a b), .int .u64 c] w fun e w' => e = .returned (.tuple #[.int .u64 q, .int .u64 r]) ∧ Dn w w') (w : World) :
    Calls Try.prog 16 #[.int .u64 a, .int .u64 b, .int .u64 c] w fun e w' => e = .returned (.tuple #[.int .u64 q, .int .u64 r, .bool true]) ∧ Dn w w' := by
  have HD := fun w => Lib.hid (hD w)
  clear hD
  have h1 : decide (c ≤ mulHi a b) = false := decide_eq_false (by omega)
  clear hlt
  have HM := fun w => Lib.hid (mul64_any a b w)
  generalize mulHi a b = hi at *
  generalize mulLo a b = lo at *
  go_enter Try.func16, Try.ntmps16
  go_wp2_with (first | (go_at_call 27; refine (HM _).out.mono ?_; rintro e w' ⟨rfl, rfl⟩) | (go_at_call 32; refine (HD _).out.mono ?_; rintro e w' ⟨rfl, nd, rfl⟩))
  go_ret3
  exact ⟨rfl, _, rfl⟩

set_option maxHeartbeats 1000000 in
theorem muldiv_no (a b c : Int) (hge : c ≤ mulHi a b) (w : World) :
    Calls Try.prog 16 #[.int .u64 a, .int .u64 b, .int .u64 c] w fun e w' => e = .returned (.tuple #[.int .u64 0, .int .u64 0, .bool false]) ∧ Dn w w' := by
  have h1 : decide (c ≤ mulHi a b) = true := decide_eq_true (by omega)
  clear hge
  have HM := fun w => Lib.hid (mul64_any a b w)
  generalize mulHi a b = hi at *
  generalize mulLo a b = lo at *
  go_enter Try.func16, Try.ntmps16
  go_wp2_with (go_at_call 27; refine (HM _).out.mono ?_; rintro e w' ⟨rfl, rfl⟩)
  go_ret3
  exact ⟨rfl, Dn.refl _⟩

set_option maxHeartbeats 1000000 in
theorem ArithWhole_walk (a0 a1 a2 : Int) (W : World) (w0 : (Lit.int .u64 a0).wf = true) (w1 : (Lit.int .u64 a1).wf = true) (w2 : (Lit.int .u64 a2).wf = true) :
    Calls Try.prog 6 #[.int .u64 a0, .int .u64 a1, .int .u64 a2] W fun e w' => e = .returned (.bool true) ∧ Below W.heap.size W w' := by
  obtain ⟨p0, p1⟩ := u64_bd w0
  obtain ⟨q0, q1⟩ := u64_bd w1
  obtain ⟨r0, r1⟩ := u64_bd w2
  clear w0 w1 w2
  have hx := and31 a0 p0 p1
  have hy := and31 a1 q0 q1
  have hz := and32 a2 r0 r1
  obtain ⟨x, ex, x0, x1⟩ : ∃ m, a0 % 2147483648 = m ∧ 0 ≤ m ∧ m ≤ 2147483647 := ⟨_, rfl, by omega, by omega⟩
  obtain ⟨y, ey, y0, y1⟩ : ∃ m, a1 % 2147483648 = m ∧ 0 ≤ m ∧ m ≤ 2147483647 := ⟨_, rfl, by omega, by omega⟩
  obtain ⟨z, ez, z0, z1⟩ : ∃ m, a2 % 4294967296 = m ∧ 0 ≤ m ∧ m ≤ 4294967295 := ⟨_, rfl, by omega, by omega⟩
  rw [ex] at hx
  rw [ey] at hy
  rw [ez] at hz
  clear ex ey ez p0 p1 q0 q1 r0 r1
  have b0 : 0 ≤ x * y := Int.mul_nonneg x0 y0
  have b1 : x * y ≤ 4611686014132420609 := by
    have := Int.mul_le_mul x1 y1 y0 (by decide)
    omega
  have e1 : mulHi x y = 0 := by rw [mulHi_eq x y x0 (by omega) y0 (by omega)]; omega
  have e2 : mulLo x y = x * y := by unfold mulLo; rw [IntKind.wrap_u64]; omega
  have hM := fun w => muldiv_of x y (1 + z) (x * y / (1 + z)) (x * y % (1 + z)) (by omega) (by rw [e1, e2]; exact fun w => div64_lo (x * y) (1 + z) b0 (by omega) (by omega) w) w
  have d1 := Int.emod_lt_of_pos (x * y) (show 0 < 1 + z by omega)
  have d2 := Int.mul_ediv_add_emod (x * y) (1 + z)
  have d3 := Int.ediv_nonneg b0 (show 0 ≤ 1 + z by omega)
  have d4 := Int.emod_nonneg (x * y) (show 1 + z ≠ 0 by omega)
  generalize x * y / (1 + z) = q at *
  generalize x * y % (1 + z) = r at *
  have g1 : decide (r < 1 + z) = true := decide_eq_true d1
  have g2 : IntKind.u64.wrap (q * (1 + z)) = q * (1 + z) := by
    have : q * (1 + z) = (1 + z) * q := Int.mul_comm _ _
    have := Int.mul_nonneg d3 (show 0 ≤ 1 + z by omega)
    rw [IntKind.wrap_u64]; omega
  have g3 : IntKind.u64.wrap (q * (1 + z) + r) = x * y := by
    have : q * (1 + z) = (1 + z) * q := Int.mul_comm _ _
    have := Int.mul_nonneg d3 (show 0 ≤ 1 + z by omega)
    rw [IntKind.wrap_u64]; omega
  have g4 : IntKind.u64.wrap (x * y) = x * y := by rw [IntKind.wrap_u64]; omega
  have HM := fun w => Lib.hid (hM w)
  have hA := fun w => Lib.hid (awake_any w)
  clear hM d1 d2 e1 e2 b1 b0
  go_enter Try.func6, Try.ntmps6
  go_wp2_with (first | (go_at_call 9; refine (hA _).out.mono ?_; rintro e w1 ⟨rfl, hb⟩) | (go_at_call 16; refine (HM _).out.mono ?_; rintro e w' ⟨rfl, nd, rfl⟩))
  go_ret
  exact ⟨rfl, below_dn hb _⟩
end Go.Proofs.Ytpdckjfjhhdcdaa.Ari
