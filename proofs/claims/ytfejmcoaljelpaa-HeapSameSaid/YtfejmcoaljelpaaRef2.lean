/-
  The reference of the sets: With, Without.
-/
import Derived.Test.YtfejmcoaljelpaaRef1
namespace Go.Proofs.Ytfejmcoaljelpaa.Bits
open Go.RowKit Go.Shelf

end Go.Proofs.Ytfejmcoaljelpaa.Bits
