/-
  The statement ArithDivides, walked.
-/
import Derived.Test.YtajkckjpfbkpmaaAri8
namespace Go.Proofs.Ytajkckjpfbkpmaa.Ari
open Go.RowKit Go.Shelf

end Go.Proofs.Ytajkckjpfbkpmaa.Ari
