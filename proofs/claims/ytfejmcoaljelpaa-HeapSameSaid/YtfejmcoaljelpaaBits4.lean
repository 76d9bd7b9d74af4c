/-
  Package bits: With, Has.
-/
import Derived.Test.YtfejmcoaljelpaaBits3
namespace Go.Proofs.Ytfejmcoaljelpaa.Bits
open Go.RowKit

theorem alloc_cell {w : World} {b k : Nat} {v : Value} {o : Obj} (h : w.cell? ⟨b, k, none⟩ = some v) : (w.alloc o).cell? ⟨b, k, none⟩ = some v := (World.cell?_alloc_past _ _ _ (World.block_lt_of_cell? _ _ h)).trans h
theorem rdB0 (w : World) : RdB w none 0 [] := ⟨rfl, by decide, fun h => absurd h (by decide)⟩

end Go.Proofs.Ytfejmcoaljelpaa.Bits
