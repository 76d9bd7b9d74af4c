/-
  The statement ArithDivides, walked.
-/
import Derived.Test.YtcgfaddegglnkaaAri8
namespace Go.Proofs.Ytcgfaddegglnkaa.Ari
open Go.RowKit Go.Shelf

end Go.Proofs.Ytcgfaddegglnkaa.Ari
