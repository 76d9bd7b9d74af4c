/-
  Texts of one claim, joined in build order: Row0.
-/
import Derived.Test.YtaofldlidifdcaaMg1
import Derived.WalkKit
/-
  A slice of whole numbers that came in: what the rows hand over of it.
-/
namespace Go.Proofs.Ytaofldlidifdcaa.Row0
open Go.RowKit
def IsRow (k : IntKind) (w : World) (a : Option Addr) (len cap : Nat) (zs : List Int) : Prop :=
  (a = none ∧ len = 0 ∧ cap = 0 ∧ zs = []) ∨
  ∃ x, a = some x ∧ len ≤ cap ∧ cap ≤ maxLen ∧ zs.length = cap ∧ (∀ i, i < zs.length → w.cell? (x.add i) = some (.int k (zs.getD i 0))) ∧ ∀ n ∈ zs, (Lit.int k n).wf = true
end Go.Proofs.Ytaofldlidifdcaa.Row0
