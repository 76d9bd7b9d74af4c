/-
  The statement BlocksGrow: its row, over its walk.
-/
import Derived.Test.YtdmfdgadhobkpaaRows
import Derived.Test.YtdmfdgadhobkpaaGrow9
import Derived.Test.YtdmfdgadhobkpaaAggs
import Derived.Test.YtdmfdgadhobkpaaNums
import Derived.WalkKit
import Derived.ProofKit
import Derived.OpenShut
import Derived.ShutString
import Derived.ChangeOld
import Derived.Below
import Derived.SizedLaws
namespace Go.Proofs.Ytdmfdgadhobkpaa.blocksGrowRow
open Go.ChangeShapes Go.WideShapes Go.ChangeAt Go.RowKit
theorem own : ownKnob Try.prog.godebug = none := by kernel_rfl
theorem laidOut : laidOutB Try.prog = true := by kernel_rfl
set_option maxRecDepth 100000 in
theorem lifted (os : Os) (started : os.Started) (H : Type) (enc : TypeId × Value → H) :
    ReturnsInHanded {} Try.checked os 6 .any (Rows.blocksGrowSpec.pre6 enc Try.prog Try.f6 Rows.blocksGrowRow.domain false) (Rows.blocksGrowSpec.post enc Try.prog Try.f6 false true false false) := by
  refine returnsInHanded_of_change_sized (C := Try.checked) own started (by kernel_rfl) Try.func6
    (ChangeSpec.witness6 (enc := enc) (C := Try.checked) false ⟨#[], #[.agg #[.int .i64 0, .int .i64 0, .slice none 0 0], .agg #[.int .u64 0, .int .u64 0, .int .u64 0, .int .u64 0], .agg #[.int .u64 0, .int .u64 0, .int .u64 0, .int .u64 0]], []⟩ 8 (by kernel_rfl) (by kernel_rfl) (by kernel_rfl) (by kernel_rfl)) ?_
  intro W base args ds gs before hval0 hW hcnd hsz0 _
  have hval : ∀ (j : Nat) t v, Try.f6.params[j]? = some t → args[j]? = some v → Value.okWide Try.prog W .any base t v := hval0
  have hW' := hW
  obtain ⟨p, q, hA0, hV, rfl, hfz, hnd⟩ := hW
  have hA : DataW.TrodAll enc Try.prog W 0 (fun _ => true) true Try.f6.params.toList args.toList ds p := hA0
  rw [Try.params6] at hA hval
  obtain ⟨v0, vs0, d0, ds0, p0, q0, hargs, rfl, rfl, h0, r0⟩ := trodAll_cons hA
  obtain ⟨v1, vs1, d1, ds1, p1, q1, rfl, rfl, rfl, h1, r1⟩ := trodAll_cons r0
  obtain ⟨v2, vs2, d2, ds2, p2, q2, rfl, rfl, rfl, h2, r2⟩ := trodAll_cons r1
  obtain ⟨rfl, rfl, rfl⟩ := trodAll_nil r2
  obtain rfl : args = #[v0, v1, v2] := by cases args; simp_all
  obtain ⟨rfl, rfl⟩ := trodVars_none hV
  have k0 := h0
  have lt0 : ∀ x ∈ p0, x.block < W.heap.size := by obtain ⟨m, hm⟩ := k0; exact DataW.trod_lt m _ _ _ hm
  obtain ⟨a0, b0, x0, len0, cap0, q0, rfl, _, _, w0⟩ := Row0.open_sys Try.underlying24 (by kernel_rfl) (by kernel_rfl) Try.underlying3 Try.underlying3 Try.underlying22 Try.underlying64 (by kernel_rfl) (by kernel_rfl) Try.underlying3 Try.underlying3 Try.underlying3 Try.underlying3 Try.underlying3 Try.underlying34 Try.underlying3 (by kernel_rfl) (fun _ => rfl) (hval 0 24 v0 rfl rfl) h0
  have k1 := h1
  have lt1 : ∀ x ∈ p1, x.block < W.heap.size := by obtain ⟨m, hm⟩ := k1; exact DataW.trod_lt m _ _ _ hm
  obtain ⟨a1x0, a1x1, a1x2, a1x3, rfl, w1x0, w1x1, w1x2, w1x3⟩ := Row0.open_arr4 Try.underlying32 (by kernel_rfl) (by kernel_rfl) Try.underlying30 (hval 1 32 v1 rfl rfl) h1
  obtain ⟨b1, hb1, e1⟩ := Blk.bits_of w1x0 w1x1 w1x2 w1x3
  have k2 := h2
  have lt2 : ∀ x ∈ p2, x.block < W.heap.size := by obtain ⟨m, hm⟩ := k2; exact DataW.trod_lt m _ _ _ hm
  obtain ⟨a2x0, a2x1, a2x2, a2x3, rfl, w2x0, w2x1, w2x2, w2x3⟩ := Row0.open_arr4 Try.underlying32 (by kernel_rfl) (by kernel_rfl) Try.underlying30 (hval 2 32 v2 rfl rfl) h2
  obtain ⟨b2, hb2, e2⟩ := Blk.bits_of w2x0 w2x1 w2x2 w2x3
  clear hA0 hval0 hsz0
  have walk : Calls Try.prog 6 #[.agg #[.int .i64 a0, .int .i64 b0, .slice x0 len0 cap0], .agg #[.int .u64 a1x0, .int .u64 a1x1, .int .u64 a1x2, .int .u64 a1x3], .agg #[.int .u64 a2x0, .int .u64 a2x1, .int .u64 a2x2, .int .u64 a2x3]] W fun e w' => e = .returned (.bool true) ∧ Below W.heap.size W w' := by
    rw [e1]
    rw [e2]
    exact Blk.BlocksGrow_walk a0 b0 x0 len0 cap0 q0 b1 hb1 b2 hb2 W w0
  refine walk.mono fun e W' ⟨he, bel⟩ => ?_
  subst he
  exact ⟨_, rfl, _, _, _, [], _, [], hW', trodAll_mk1 (shut_bool Try.underlying4 _), (trodAll_cons_mk (Below.trod laidOut (by kernel_rfl) (of_decide_eq_true (by kernel_rfl)) k0 bel lt0) (trodAll_cons_mk (Below.trod laidOut (by kernel_rfl) (of_decide_eq_true (by kernel_rfl)) k1 bel lt1) (trodAll_cons_mk (Below.trod laidOut (by kernel_rfl) (of_decide_eq_true (by kernel_rfl)) k2 bel lt2) trodAll_mk0))), rfl, bel.frame _, fun h => by cases h⟩
theorem proved : Rows.BlocksGrowSaid :=
  OpenClaim.holds_of_wide 6 Try.f6 rfl rfl rfl rfl rfl rfl rfl ⟨rfl, rfl, rfl, rfl, rfl⟩ rfl rfl rfl rfl rfl (by kernel_rfl) Try.func6 (by kernel_rfl)
    (of_decide_eq_true (by kernel_rfl)) (by unfold Func.isWrapper; first | (rw [if_pos (by decide +kernel)]; kernel_rfl) | (rw [if_neg (by decide +kernel)]; exact ⟨rfl, rfl⟩))
    (fun os started H enc _ => lifted os started H enc)
#print axioms proved
end Go.Proofs.Ytdmfdgadhobkpaa.blocksGrowRow
namespace Go.Proofs.Ytdmfdgadhobkpaa
/-- The statement, as it is given. -/
theorem blocksGrow_holds : Rows.BlocksGrowSaid := blocksGrowRow.proved
end Go.Proofs.Ytdmfdgadhobkpaa
