/-
  Texts of one claim, joined in build order: Sys1.
-/
import Derived.Test.YtaofldlidifdcaaMg5
import Derived.WalkKit
import Derived.ProofKit
import Derived.Below
import Derived.Test.YtaofldlidifdcaaChecked
/-
  Systems by numbers: rest.
-/
namespace Go.Proofs.Ytaofldlidifdcaa.Sys
open Go.RowKit

set_option maxHeartbeats 4000000 in
set_option maxRecDepth 100000 in
theorem rest_any (n : Int) (by_ : Nat) (h0 : 0 < by_) (h1 : by_ ≤ 4611686018427387904) (w : World) : Calls Try.prog 41 #[.int .i64 n, .int .i64 (by_ : Int)] w fun e w' => e = .returned (.int .i64 (n % (by_ : Int))) ∧ w' = w := by
  have hnz : ((by_ : Int) == 0) = false := by simp; omega
  have ht := Int.tmod_lt_of_pos n (show (0 : Int) < (by_ : Int) by omega)
  have ht' := Int.lt_tmod_of_pos n (show (0 : Int) < (by_ : Int) by omega)
  have hE : Hid (n.tmod (by_ : Int) % (by_ : Int) = n % (by_ : Int)) := by
    rw [RowKit.Hid]
    have := Int.mul_tdiv_add_tmod n (by_ : Int)
    have e : n.tmod (by_ : Int) = n - (by_ : Int) * n.tdiv (by_ : Int) := by omega
    rw [e, Int.sub_mul_emod_self_left]
  obtain ⟨t, hT, t1, t2⟩ : ∃ t, n.tmod (by_ : Int) = t ∧ -(by_ : Int) < t ∧ t < (by_ : Int) := ⟨_, rfl, by omega, ht⟩
  rw [hT] at hE
  clear ht ht'
  have ek : (t + (by_ : Int)).tmod (by_ : Int) = (t + (by_ : Int)) % (by_ : Int) := Int.tmod_eq_emod_of_nonneg (by omega)
  have hw : IntKind.i64.wrap (t + (by_ : Int)) = t + (by_ : Int) := by rw [IntKind.wrap_i64]; omega
  have l0 := Int.emod_nonneg (t + (by_ : Int)) (show (by_ : Int) ≠ 0 by omega)
  have l1 := Int.emod_lt_of_pos (t + (by_ : Int)) (show (0 : Int) < (by_ : Int) by omega)
  have hw2 : IntKind.i64.wrap ((t + (by_ : Int)) % (by_ : Int)) = (t + (by_ : Int)) % (by_ : Int) := by rw [IntKind.wrap_i64]; omega
  go_enter Try.func41, Try.ntmps41
  go_wp2
  go_ret
  exact ⟨by rw [← hE.out]; rfl, rfl⟩
end Go.Proofs.Ytaofldlidifdcaa.Sys
