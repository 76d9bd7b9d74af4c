/-
  Package bits: Has.
-/
import Derived.Test.YtfejmcoaljelpaaBits4
namespace Go.Proofs.Ytfejmcoaljelpaa.Bits
open Go.RowKit

end Go.Proofs.Ytfejmcoaljelpaa.Bits
