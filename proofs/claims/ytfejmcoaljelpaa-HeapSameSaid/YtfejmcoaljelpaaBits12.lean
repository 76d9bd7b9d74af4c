/-
  Package bits: the iterator over a set's numbers.
-/
import Derived.Test.YtfejmcoaljelpaaBits11
import Derived.RangeFuncBox
import Derived.RangeFuncNested
import Derived.RangeFuncBound
import Derived.RangeFuncCalls
import Derived.RangeFuncLeaves
import Derived.Shelf.Abstract
import Derived.Shelf.RegionOpen
import Derived.OwnWalkIn
import Derived.TacticsInMore
import Derived.LoopNIn
import Derived.LoopIn
import Derived.Maps.AppendAt
namespace Go.Proofs.Ytfejmcoaljelpaa.Bits
open Go.RowKit Go.Shelf
attribute [local go_sem] Oper.semAt_some

def cast (l : List Nat) : List Int := l.map fun (i : Nat) => (i : Int)
theorem cast_append (a b : List Nat) : cast (a ++ b) = cast a ++ cast b := by simp [cast]
theorem cast_cons (a : Nat) (b : List Nat) : cast (a :: b) = (a : Int) :: cast b := rfl
theorem clear_u64 (x : Nat) (hx : x < 18446744073709551616) (h0 : x ≠ 0) : Go.bits .and .u64 (x : Int) ((x : Int) - 1) = ((x &&& (x - 1) : Nat) : Int) := by
  have := and_u64 x (x - 1) hx (by omega)
  rwa [show ((x - 1 : Nat) : Int) = (x : Int) - 1 by omega] at this

end Go.Proofs.Ytfejmcoaljelpaa.Bits
