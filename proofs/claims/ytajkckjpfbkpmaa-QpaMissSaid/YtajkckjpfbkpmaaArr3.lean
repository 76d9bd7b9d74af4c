/-
  Arguments that are slices of arrays of three whole numbers: laid open to cells.
-/
import Derived.Test.YtajkckjpfbkpmaaOpens
import Derived.Test.YtajkckjpfbkpmaaAggs
import Derived.Below
namespace Go.Proofs.Ytajkckjpfbkpmaa.Row0
open Go.ChangeShapes Go.WideShapes Go.Deep Go.RowKit

/-- What a row hands over of a slice of arrays of three whole numbers. -/
structure IsTrips (k : IntKind) (w : World) (a : Option Addr) (len cap : Nat) (q : List (Int × Int × Int)) : Prop where
  le : len ≤ cap
  mx : cap ≤ 9223372036854775807
  ad : 0 < len → ∃ b o, a = some ⟨b, o, none⟩
  ln : q.length = len
  wf : ∀ p ∈ q, (Lit.int k p.1).wf = true ∧ (Lit.int k p.2.1).wf = true ∧ (Lit.int k p.2.2).wf = true
  at_ : ∀ b o, a = some ⟨b, o, none⟩ → ∀ j, j < len → w.cell? ⟨b, o + j * 3, none⟩ = some (.int k (q.getD j (0, 0, 0)).1) ∧ w.cell? ⟨b, o + j * 3 + 1, none⟩ = some (.int k (q.getD j (0, 0, 0)).2.1) ∧ w.cell? ⟨b, o + j * 3 + 2, none⟩ = some (.int k (q.getD j (0, 0, 0)).2.2)
theorem IsTrips.wfD {k : IntKind} {w : World} {a : Option Addr} {len cap : Nat} {q : List (Int × Int × Int)} (h : IsTrips k w a len cap q) {j : Nat} (hj : j < len) :
    (Lit.int k (q.getD j (0, 0, 0)).1).wf = true ∧ (Lit.int k (q.getD j (0, 0, 0)).2.1).wf = true ∧ (Lit.int k (q.getD j (0, 0, 0)).2.2).wf = true := by
  have hl := h.ln
  rw [List.getD_eq_getElem?_getD, List.getElem?_eq_getElem (by omega)]
  exact h.wf _ (List.getElem_mem _)
theorem IsTrips.below {k : IntKind} {w w1 : World} {a : Option Addr} {len cap : Nat} {q : List (Int × Int × Int)} (h : IsTrips k w a len cap q) {B : Nat} (hb : Below B w w1) (hB : w.heap.size ≤ B) : IsTrips k w1 a len cap q :=
  ⟨h.le, h.mx, h.ad, h.ln, h.wf, fun b o e j hj => by
    obtain ⟨c0, c1, c2⟩ := h.at_ b o e j hj
    have hb' : Below w.heap.size w w1 := ⟨hb.os, hb.tape, hb.output, hb.size, fun k hk => hb.block k (Nat.lt_of_lt_of_le hk hB)⟩
    exact ⟨(hb'.cell (World.block_lt_of_cell? w _ c0)).trans c0, (hb'.cell (World.block_lt_of_cell? w _ c1)).trans c1, (hb'.cell (World.block_lt_of_cell? w _ c2)).trans c2⟩⟩
section
variable {H : Type} {enc : TypeId × Value → H} {P : Program} {w : World} {base : Nat} {spare : Nat → Bool} {held : Bool}
theorem open_isArr3 {t e el : TypeId} {k : IntKind} {a : Option Addr} {len cap : Nat} {d : DataW H} {ps : List MemPlace} (ht : P.underlying t = some (.slice e)) (he : P.underlying e = some (.array 3 el))
    (hce : P.cellsOf el = 1) (hC : P.cellsOf e = 3) (hk : P.underlying el = some (.int k))
    (h : DataW.Trod enc P w base spare held t (.slice a len cap) d ps) : ∃ q, IsTrips k w a len cap q := by
  obtain ⟨fuel, hf⟩ := h
  rcases open_slice ht hf with ⟨hcs, _⟩ | ⟨x, l, c, m, n, D, Pl, hcs, _, hl, hm, hmm, _, hi⟩
  · simp [Value.cells] at hcs
    obtain ⟨rfl, rfl, rfl⟩ := hcs
    exact ⟨[], Nat.le_refl _, by decide, fun h => absurd h (by decide), rfl, by simp, fun b o e => by cases e⟩
  · simp [Value.cells] at hcs
    obtain ⟨rfl, rfl, rfl⟩ := hcs
    have hlm : len ≤ m := by rw [hmm]; split <;> omega
    have hcell : ∀ i, i < len → ∃ p : Int × Int × Int, w.cell? (x.add (i * 3)) = some (.int k p.1) ∧ w.cell? (x.add (i * 3 + 1)) = some (.int k p.2.1) ∧ w.cell? (x.add (i * 3 + 2)) = some (.int k p.2.2) ∧ (Lit.int k p.1).wf = true ∧ (Lit.int k p.2.1).wf = true ∧ (Lit.int k p.2.2).wf = true := by
      intro i hil
      obtain ⟨cs', hc, ht'⟩ := hi i (by omega)
      rw [hC] at hc
      obtain ⟨_, hcl, hat⟩ := World.cells?_some hc
      obtain ⟨c0, c1, c2, rfl⟩ : ∃ c0 c1 c2, cs' = [c0, c1, c2] := by
        match cs', hcl with
        | [c0, c1, c2], _ => exact ⟨c0, c1, c2, rfl⟩
      obtain ⟨y0, y1, y2, n', _, t0, t1, t2⟩ := trod_array3 he hce ht'
      obtain ⟨z0, e0, _, w0⟩ := DataW.trod_int hk t0
      obtain ⟨z1, e1, _, w1⟩ := DataW.trod_int hk t1
      obtain ⟨z2, e2, _, w2⟩ := DataW.trod_int hk t2
      simp at e0 e1 e2
      subst e0 e1 e2
      have a0 := hat 0 (by decide)
      have a1 := hat 1 (by decide)
      have a2 := hat 2 (by decide)
      rw [show (x.add (i * 3)).add 0 = x.add (i * 3) from rfl] at a0
      have e1 : ∀ m, x.add (i * 3 + m) = (x.add (i * 3)).add m := fun m => by first | exact Go.Deep.add_add _ _ _ | exact (Go.Deep.add_add _ _ _).symm
      refine ⟨(z0, z1, z2), by simpa using a0, ?_, ?_, w0, w1, w2⟩
      · rw [e1]; simpa using a1
      · rw [e1]; simpa using a2
    refine ⟨(List.range len).map fun i => if hil : i < len then Classical.choose (hcell i hil) else (0, 0, 0), hl, by unfold maxLen at hm; omega, fun hp => ?_, by simp, ?_, ?_⟩
    · obtain ⟨p, c0, _⟩ := hcell 0 hp
      obtain ⟨b, o, s⟩ := x
      cases s with
      | none => exact ⟨b, o, rfl⟩
      | some s =>
        exfalso
        simp only [World.cell?, Addr.add] at c0
        split at c0 <;> simp at c0
    · intro p hp
      obtain ⟨i, hir, rfl⟩ := List.mem_map.1 hp
      have hil := List.mem_range.1 hir
      rw [dif_pos hil]
      exact (Classical.choose_spec (hcell i hil)).2.2.2
    · intro b o e j hj
      injection e with e
      subst e
      have hs := Classical.choose_spec (hcell j hj)
      have eg : ((List.range len).map fun i => if hil : i < len then Classical.choose (hcell i hil) else (0, 0, 0)).getD j (0, 0, 0) = Classical.choose (hcell j hj) := by
        rw [List.getD_eq_getElem?_getD, List.getElem?_map, List.getElem?_range hj]
        simp [hj]
      rw [eg]
      generalize Classical.choose (hcell j hj) = p at hs ⊢
      rw [plain_add, plain_add, plain_add] at hs
      exact ⟨hs.1, by rw [Nat.add_assoc]; exact hs.2.1, by rw [Nat.add_assoc]; exact hs.2.2.1⟩
end
end Go.Proofs.Ytajkckjpfbkpmaa.Row0
