/-
  The walks of the statements' own small functions over package arith: the example, and 'at most 8 numbers'.
-/
import Derived.Test.YtajkckjpfbkpmaaAri3
namespace Go.Proofs.Ytajkckjpfbkpmaa.Ari
open Go.RowKit Go.Shelf

theorem gcdI_of (a b g : Nat) (h : Nat.gcd b a = g) : gcdI (a : Int) (b : Int) = (g : Int) := by rw [gcdI_nat, h]
theorem ex1 : gcdI 1 4 = 1 := gcdI_of 1 4 1 (by decide)
theorem ex2 : gcdI 4 6 = 2 := gcdI_of 4 6 2 (by decide)
theorem ex3 : gcdI 12 10 = 2 := gcdI_of 12 10 2 (by decide)
theorem lcm_ex : lcmM [4, 6, 10] = (60, true) := by
  have a1 : lcmS 1 4 = (4, true) := by unfold lcmS; rw [ex1]; decide +kernel
  have a2 : lcmS 4 6 = (12, true) := by unfold lcmS; rw [ex2]; decide +kernel
  have a3 : lcmS 12 10 = (60, true) := by unfold lcmS; rw [ex3]; decide +kernel
  have h : hasZ [4, 6, 10] = false := by decide
  unfold lcmM
  rw [h]
  simp [foldM, a1, a2, a3]
theorem ceil_ex : ceilM 7 3 = (3, true) := by decide +kernel

theorem below_dn {B : Nat} {w w1 : World} (h : Below B w w1) (n : Nat) : Below B w (w1.drewN n) := ⟨h.os, h.tape, h.output, h.size, h.block⟩
theorem rd_new (w : World) (k : IntKind) (T : TypeId) (l : List Int) (vs : Array Value) (n : Nat) (h : vs = (l.map (Value.int k)).toArray) (hn : l.length = n) (hb : n ≤ 9223372036854775807) :
    Rd (w.alloc (.cells vs T)) k (some ⟨w.heap.size, 0, none⟩) n l := by
  subst h
  refine ⟨hn, hb, fun _ => ⟨_, rfl, fun j hj => ?_⟩⟩
  have ha : (⟨w.heap.size, 0, none⟩ : Addr).add j = ⟨w.heap.size, j, none⟩ := by unfold Addr.add; split <;> simp_all
  rw [ha, World.cell?_alloc_at _ _ _ _ rfl]
  simp [List.getElem?_eq_getElem (show j < l.length by omega)]

theorem rd_new' (w : World) (b : Nat) (k : IntKind) (T : TypeId) (l : List Int) (vs : Array Value) (n : Nat) (he : b = w.heap.size) (h : vs = (l.map (Value.int k)).toArray) (hn : l.length = n) (hb : n ≤ 9223372036854775807) :
    Rd (w.alloc (.cells vs T)) k (some ⟨b, 0, none⟩) n l := by
  subst he
  exact rd_new w k T l vs n h hn hb

end Go.Proofs.Ytajkckjpfbkpmaa.Ari
