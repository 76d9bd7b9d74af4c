/-
  Package bits: Or.
-/
import Derived.Test.YtfejmcoaljelpaaBits1
namespace Go.Proofs.Ytfejmcoaljelpaa.Bits
open Go.RowKit

/-- A row of sets, as it is read. -/
def RdB (w : World) (A : Option Addr) (n : Nat) (L : List (Nat → Int)) : Prop :=
  L.length = n ∧ n ≤ 9223372036854775807 ∧ (0 < n → ∃ b o, A = some ⟨b, o, none⟩ ∧ ∀ j, j < n → ∀ i, i < 4 → w.cell? ⟨b, o + j * 4 + i, none⟩ = some (.int .u64 ((L.getD j (fun _ => 0)) i)))
theorem RdB.below {w w' : World} {A : Option Addr} {n : Nat} {L : List (Nat → Int)} (h : RdB w A n L) {B : Nat} (hb : Below B w w') (hB : w.heap.size ≤ B) : RdB w' A n L := by
  obtain ⟨h1, h2, h3⟩ := h
  refine ⟨h1, h2, fun hp => ?_⟩
  obtain ⟨b, o, e, hc⟩ := h3 hp
  refine ⟨b, o, e, fun j hj i hi => ?_⟩
  have := hc j hj i hi
  have hlt := World.block_lt_of_cell? w _ this
  exact (World.cell?_of_block (hb.block _ (by simp at hlt ⊢; omega))).trans this
def orw (L : List (Nat → Int)) : Nat → Int := fun j => L.foldl (fun x b => Go.bits .or .u64 x (b j)) 0
theorem orw_snoc (L : List (Nat → Int)) (b : Nat → Int) : orw (L ++ [b]) = fun j => Go.bits .or .u64 (orw L j) (b j) := by
  funext j; simp [orw]
theorem take_set (L : List (Nat → Int)) (i : Nat) (h : i < L.length) : L.take (i + 1) = L.take i ++ [L.getD i (fun _ => 0)] := by
  rw [List.take_add_one, List.getElem?_eq_getElem h, List.getD_eq_getElem?_getD, List.getElem?_eq_getElem h]
  rfl

theorem below_setd {B : Nat} {w w' : World} (h : Below B w w') (p : Nat) (hp : B ≤ p) (k : Nat) (v : Value) : Below B w (w'.setCell ⟨p, k, none⟩ v).drew :=
  have h := below_set h p hp k v
  ⟨h.os, h.tape, h.output, h.size, h.block⟩
theorem rowc_congr {a b : Nat → Int} (h : a = b) : rowc a = rowc b := by rw [h]
end Go.Proofs.Ytfejmcoaljelpaa.Bits
