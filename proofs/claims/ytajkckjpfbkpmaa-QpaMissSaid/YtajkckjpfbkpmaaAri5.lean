/-
  The statement ArithCeil, walked.
-/
import Derived.Test.YtajkckjpfbkpmaaAri4
import Derived.Test.YtajkckjpfbkpmaaRow0
namespace Go.Proofs.Ytajkckjpfbkpmaa.Ari
open Go.RowKit Go.Shelf

theorem u64_bd {a : Int} (h : (Lit.int .u64 a).wf = true) : 0 ≤ a ∧ a < 18446744073709551616 := by
  have := h
  simp [Lit.wf, IntKind.min, IntKind.max, IntKind.signed, IntKind.bits] at this
  omega

end Go.Proofs.Ytajkckjpfbkpmaa.Ari
