/-
  Package bits: List.
-/
import Derived.Test.YtfejmcoaljelpaaBits12
namespace Go.Proofs.Ytfejmcoaljelpaa.Bits
open Go.RowKit Go.Shelf
attribute [local go_sem] Oper.semAt_some

theorem infoI64 : (Try.prog.info? 3).map (fun i => (i.zero, i.size, i.bytes)) = some (some (.int .i64 0), 1, 8) := by kernel_rfl
end Go.Proofs.Ytfejmcoaljelpaa.Bits
