/-
  The reference of the sets: And, Minus.
-/
import Derived.Test.YtfejmcoaljelpaaRef2
namespace Go.Proofs.Ytfejmcoaljelpaa.Bits
open Go.RowKit Go.Shelf

end Go.Proofs.Ytfejmcoaljelpaa.Bits
