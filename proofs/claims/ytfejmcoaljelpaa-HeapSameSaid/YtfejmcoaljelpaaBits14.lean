/-
  The chapter's example.
-/
import Derived.Test.YtfejmcoaljelpaaBits13
namespace Go.Proofs.Ytfejmcoaljelpaa.Bits
open Go.RowKit Go.Shelf

/-- A row that the call made, as it is read. -/
theorem own_rdI {w : World} {base n : Nat} {v : Value} {l : List Int} {t : TypeId} (h : w.ownsRow base t 1 v n (l.map (Value.int .i64))) (hn : n ≤ 9223372036854775807) :
    ∃ A c, v = .slice A n c ∧ RdI w A n l ∧ n ≤ c ∧ (A = none → n = 0 ∧ c = 0) := by
  have hl : l.length = n := by have := h.1; simpa using this
  rcases h.2 with ⟨rfl, rfl⟩ | ⟨g, cap, cur, rfl, hb, hh, hnc, hcm, hcs, htk⟩
  · exact ⟨none, 0, rfl, ⟨hl, hn, fun h => absurd h (by decide)⟩, Nat.le_refl _, fun _ => ⟨rfl, rfl⟩⟩
  · refine ⟨_, _, rfl, ⟨hl, hn, fun _ => ⟨_, _, rfl, fun j hj => ?_⟩⟩, hnc, fun e => by cases e⟩
    rw [Nat.zero_add, h.cellAt j (by omega)]
    simp [List.getElem?_map, List.getD_eq_getElem?_getD, List.getElem?_eq_getElem (show j < l.length by omega)]
/-- A row that was just laid. -/
theorem rdI_blk {w : World} {b : Nat} {l : List Int} {t : TypeId} (h : w.heap[b]? = some (.cells (l.map (Value.int .i64)).toArray t (0, 0))) (hn : l.length ≤ 9223372036854775807) : RdI w (some ⟨b, 0, none⟩) l.length l := by
  refine ⟨rfl, hn, fun _ => ⟨b, 0, rfl, fun j hj => ?_⟩⟩
  simp [World.cell?, h, List.getD_eq_getElem?_getD, List.getElem?_eq_getElem hj]
theorem rdI_new (w : World) (b : Nat) (l : List Int) (vs : Array Value) (t : TypeId) (n : Nat) (he : b = w.heap.size) (h : vs = (l.map (Value.int .i64)).toArray) (hn : l.length = n) (hb : n ≤ 9223372036854775807) : RdI (w.alloc (.cells vs t)) (some ⟨b, 0, none⟩) n l := by
  subst he h hn
  exact rdI_blk (heap_alloc_new _ _) hb
theorem RdI.drewN {w : World} {A : Option Addr} {n : Nat} {zs : List Int} (h : RdI w A n zs) (m : Nat) : RdI (w.drewN m) A n zs := h
theorem below_dn {B : Nat} {w w1 : World} (h : Below B w w1) (n : Nat) : Below B w (w1.drewN n) := ⟨h.os, h.tape, h.output, h.size, h.block⟩
theorem ex_list : cast (listN (ofN [5, 3, 300, 3])) = [3, 5] := by decide +kernel
theorem ex_has : hasI (ofN [3]) 3 = true := by decide +kernel

end Go.Proofs.Ytfejmcoaljelpaa.Bits
