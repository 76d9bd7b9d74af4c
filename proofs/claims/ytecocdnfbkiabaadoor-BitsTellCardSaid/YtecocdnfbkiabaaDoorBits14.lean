/-
  The chapter's example.
-/
import Derived.Test.YtecocdnfbkiabaaDoorBits13
namespace Go.Proofs.YtecocdnfbkiabaaDoor.Bits
open Go.RowKit Go.Shelf

/-- A row that the call made, as it is read. -/
theorem own_rdI {w : World} {base n : Nat} {v : Value} {l : List Int} {t : TypeId} (h : w.ownsRow base t 1 v n (l.map (Value.int .i64))) (hn : n ≤ 9223372036854775807) :
    ∃ A c, v = .slice A n c ∧ RdI w A n l ∧ n ≤ c ∧ (A = none → n = 0 ∧ c = 0) := by
  have hl : l.length = n := by have := h.1; simpa using this
  rcases h.2 with ⟨rfl, rfl⟩ | ⟨g, cap, cur, rfl, hb, hh, hnc, hcm, hcs, htk⟩
  · exact ⟨none, 0, rfl, ⟨hl, hn, fun h => absurd h (by decide)⟩, Nat.le_refl _, fun _ => ⟨rfl, rfl⟩⟩
  · refine ⟨_, _, rfl, ⟨hl, hn, fun _ => ⟨_, _, rfl, fun j hj => ?_⟩⟩, hnc, fun e => by cases e⟩
    rw [Nat.zero_add, h.cellAt j (by omega)]
    simp [List.getElem?_map, List.getD_eq_getElem?_getD, List.getElem?_eq_getElem (show j < l.length by omega)]
/-- A row that was just laid. -/
theorem rdI_blk {w : World} {b : Nat} {l : List Int} {t : TypeId} (h : w.heap[b]? = some (.cells (l.map (Value.int .i64)).toArray t (0, 0))) (hn : l.length ≤ 9223372036854775807) : RdI w (some ⟨b, 0, none⟩) l.length l := by
  refine ⟨rfl, hn, fun _ => ⟨b, 0, rfl, fun j hj => ?_⟩⟩
  simp [World.cell?, h, List.getD_eq_getElem?_getD, List.getElem?_eq_getElem hj]
theorem rdI_new (w : World) (b : Nat) (l : List Int) (vs : Array Value) (t : TypeId) (n : Nat) (he : b = w.heap.size) (h : vs = (l.map (Value.int .i64)).toArray) (hn : l.length = n) (hb : n ≤ 9223372036854775807) : RdI (w.alloc (.cells vs t)) (some ⟨b, 0, none⟩) n l := by
  subst he h hn
  exact rdI_blk (heap_alloc_new _ _) hb
theorem RdI.drewN {w : World} {A : Option Addr} {n : Nat} {zs : List Int} (h : RdI w A n zs) (m : Nat) : RdI (w.drewN m) A n zs := h
theorem below_dn {B : Nat} {w w1 : World} (h : Below B w w1) (n : Nat) : Below B w (w1.drewN n) := ⟨h.os, h.tape, h.output, h.size, h.block⟩
theorem ex_list : cast (listN (ofN [5, 3, 300, 3])) = [3, 5] := by decide +kernel
theorem ex_has : hasI (ofN [3]) 3 = true := by decide +kernel

set_option maxHeartbeats 4000000 in
set_option maxRecDepth 100000 in
theorem awake_any (w : World) (hT : TabAt 0 Lib.deBruijn64tab w) :
    Calls Tryd.prog 9 #[] w fun e w' => e = .returned (.bool true) ∧ Below w.heap.size w w' := by
  have hlt := TabAt.lt hT
  have HT : Hid (TabAt 0 Lib.deBruijn64tab w) := hT
  clear hT
  go_enter Tryd.func9, Tryd.ntmps9
  go_wp2_with fail
  refine (of_n _ 4 4 [5, 3, 300, 3] _ (rdI_new w _ [5, 3, 300, 3] _ _ 4 rfl rfl rfl (by decide))).mono ?_
  rintro e W1 ⟨rfl, hb1⟩
  have hB1 : Below w.heap.size w W1 := ((Below.refl _ w).alloc (Nat.le_refl _) _).trans (hb1.mono (by simp))
  clear hb1
  go_wp2_with fail
  refine (list_any _ (Ws.ofN _) W1 (TabAt.below HT.out hB1 hlt)).mono ?_
  rintro e W2 ⟨v, rfl, hown, hnil, hb2⟩
  rw [ex_list] at hown
  have hll : (listN (ofN [5, 3, 300, 3])).length = 2 := by have := congrArg List.length ex_list; simpa [cast] using this
  rw [hll] at hown
  have hB2 : Below w.heap.size w W2 := hB1.trans (hb2.mono hB1.size)
  obtain ⟨A, c, rfl, hr, _, _⟩ := own_rdI hown (by decide)
  have HR := Lib.hid hr
  clear hown hnil hb2 hr hll hB1
  go_wp2_with fail
  have r1 : Hid (RdI (W2.alloc (.cells #[.int .i64 3, .int .i64 5] 3)) A 2 [3, 5]) := HR.out.below ((Below.refl _ W2).alloc (Nat.le_refl _) _) (Nat.le_refl _)
  have r2 : Hid (RdI (W2.alloc (.cells #[.int .i64 3, .int .i64 5] 3)) (some ⟨W2.heap.size, 0, none⟩) 2 [3, 5]) := rdI_new W2 _ [3, 5] _ _ 2 rfl rfl rfl (by decide)
  refine (same_any A (some ⟨W2.heap.size, 0, none⟩) 2 c 2 [3, 5] _ r1.out r2.out).mono ?_
  rintro e w' ⟨rfl, m, rfl⟩
  have hB3 : Below w.heap.size w ((W2.alloc (.cells #[.int .i64 3, .int .i64 5] 3)).drewN m) := below_dn (hB2.alloc hB2.size _) m
  generalize (W2.alloc (.cells #[.int .i64 3, .int .i64 5] 3)).drewN m = W3 at *
  go_wp2_with fail
  refine (of_n _ 1 1 [3] _ (rdI_new W3 _ [3] _ _ 1 rfl rfl rfl (by decide))).mono ?_
  rintro e W4 ⟨rfl, hb4⟩
  have hB4 : Below w.heap.size w W4 := (hB3.alloc hB3.size (.cells #[.int .i64 3] 3)).trans (hb4.mono (by have := hB3.size; simp; omega))
  clear hb4
  go_wp2_with fail
  refine (has_n (Ws.ofN [3]) 3 W4).mono ?_
  rintro e W5 ⟨rfl, hb5⟩
  rw [ex_has]
  have hB5 : Below w.heap.size w W5 := hB4.trans (hb5.mono hB4.size)
  go_wp2
  go_ret
  exact ⟨rfl, hB5⟩
end Go.Proofs.YtecocdnfbkiabaaDoor.Bits
