/-
  The statements' few; OnesCount64.
-/
import Derived.Test.YtdmfdgadhobkpaaBits6
namespace Go.Proofs.Ytdmfdgadhobkpaa.Bits
open Go.RowKit

theorem rdI_take {w : World} {A : Option Addr} {n : Nat} {zs : List Int} (h : RdI w A n zs) (m : Nat) : RdI w A (min n m) (zs.take m) := by
  obtain ⟨h1, h2, h3⟩ := h
  refine ⟨by rw [List.length_take]; omega, by omega, fun hp => ?_⟩
  obtain ⟨b, o, e, hc⟩ := h3 (by omega)
  refine ⟨b, o, e, fun j hj => ?_⟩
  have := hc j (by omega)
  rw [show (zs.take m).getD j 0 = zs.getD j 0 by simp [List.getD_eq_getElem?_getD, show j < m by omega]]
  exact this

end Go.Proofs.Ytdmfdgadhobkpaa.Bits
