/-
  Package bits: Of.
-/
import Derived.Test.YtfejmcoaljelpaaBits5
namespace Go.Proofs.Ytfejmcoaljelpaa.Bits
open Go.RowKit

/-- A row of whole numbers, as it is read. -/
def RdI (w : World) (A : Option Addr) (n : Nat) (zs : List Int) : Prop :=
  zs.length = n ∧ n ≤ 9223372036854775807 ∧ (0 < n → ∃ b o, A = some ⟨b, o, none⟩ ∧ ∀ j, j < n → w.cell? ⟨b, o + j, none⟩ = some (.int .i64 (zs.getD j 0)))
theorem RdI.below {w w' : World} {A : Option Addr} {n : Nat} {zs : List Int} (h : RdI w A n zs) {B : Nat} (hb : Below B w w') (hB : w.heap.size ≤ B) : RdI w' A n zs := by
  obtain ⟨h1, h2, h3⟩ := h
  refine ⟨h1, h2, fun hp => ?_⟩
  obtain ⟨b, o, e, hc⟩ := h3 hp
  refine ⟨b, o, e, fun j hj => ?_⟩
  have := hc j hj
  have hlt := World.block_lt_of_cell? w _ this
  exact (World.cell?_of_block (hb.block _ (by simp at hlt ⊢; omega))).trans this
def ofW (zs : List Int) : Nat → Int := zs.foldl (fun a i => orw [a, oneW i]) (fun _ => 0)
theorem ofW_snoc (zs : List Int) (i : Int) : ofW (zs ++ [i]) = orw [ofW zs, oneW i] := by simp [ofW]
theorem take_int (zs : List Int) (i : Nat) (h : i < zs.length) : zs.take (i + 1) = zs.take i ++ [zs.getD i 0] := by
  rw [List.take_add_one, List.getElem?_eq_getElem h, List.getD_eq_getElem?_getD, List.getElem?_eq_getElem h]
  rfl

end Go.Proofs.Ytfejmcoaljelpaa.Bits
