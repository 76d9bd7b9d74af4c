/-
  Arguments that are slices of arrays of two whole numbers: laid open to cells.
-/
import Derived.Test.YtjilplfcmkipfaaOpens
import Derived.Test.YtjilplfcmkipfaaAggs
namespace Go.Proofs.Ytjilplfcmkipfaa.Row0
open Go.ChangeShapes Go.WideShapes Go.Deep Go.RowKit

theorem isPairs_of {w : World} {k0 k1 : IntKind} {x : Addr} {len cap : Nat} (hl : len ≤ cap) (hm : cap ≤ 9223372036854775807)
    (hcell : ∀ i, i < len → ∃ p : Int × Int, w.cell? (x.add (i * 2)) = some (.int k0 p.1) ∧ w.cell? (x.add (i * 2 + 1)) = some (.int k1 p.2) ∧ (Lit.int k0 p.1).wf = true ∧ (Lit.int k1 p.2).wf = true) :
    ∃ q, IsPairs k0 k1 w (some x) len cap q := by
  refine ⟨(List.range len).map fun i => if hil : i < len then Classical.choose (hcell i hil) else (0, 0), hl, hm, fun hp => ?_, by simp, ?_, ?_⟩
  · obtain ⟨p, c0, _⟩ := hcell 0 hp
    obtain ⟨b, o, s⟩ := x
    cases s with
    | none => exact ⟨b, o, rfl⟩
    | some s =>
      exfalso
      simp only [World.cell?, Addr.add] at c0
      split at c0 <;> simp at c0
  · intro p hp
    obtain ⟨i, hir, rfl⟩ := List.mem_map.1 hp
    have hil := List.mem_range.1 hir
    rw [dif_pos hil]
    exact (Classical.choose_spec (hcell i hil)).2.2
  · intro b o e j hj
    injection e with e
    subst e
    have hs := Classical.choose_spec (hcell j hj)
    have eg : ((List.range len).map fun i => if hil : i < len then Classical.choose (hcell i hil) else (0, 0)).getD j (0, 0) = Classical.choose (hcell j hj) := by
      rw [List.getD_eq_getElem?_getD, List.getElem?_map, List.getElem?_range hj]
      simp [hj]
    rw [eg]
    generalize Classical.choose (hcell j hj) = p at hs ⊢
    rw [plain_add, plain_add] at hs
    exact ⟨hs.1, by rw [Nat.add_assoc]; exact hs.2.1⟩
section
variable {H : Type} {enc : TypeId × Value → H} {P : Program} {w : World} {base : Nat} {spare : Nat → Bool} {held : Bool}
theorem open_isArr2 {t e el : TypeId} {k : IntKind} {a : Option Addr} {len cap : Nat} {d : DataW H} {ps : List MemPlace} (ht : P.underlying t = some (.slice e)) (he : P.underlying e = some (.array 2 el))
    (hce : P.cellsOf el = 1) (hC : P.cellsOf e = 2) (hk : P.underlying el = some (.int k))
    (h : DataW.Trod enc P w base spare held t (.slice a len cap) d ps) : ∃ q, IsPairs k k w a len cap q := by
  obtain ⟨fuel, hf⟩ := h
  rcases open_slice ht hf with ⟨hcs, _⟩ | ⟨x, l, c, m, n, D, Pl, hcs, _, hl, hm, hmm, _, hi⟩
  · simp [Value.cells] at hcs
    obtain ⟨rfl, rfl, rfl⟩ := hcs
    exact ⟨[], Nat.le_refl _, by decide, fun h => absurd h (by decide), rfl, by simp, fun b o e => by cases e⟩
  · simp [Value.cells] at hcs
    obtain ⟨rfl, rfl, rfl⟩ := hcs
    have hlm : len ≤ m := by rw [hmm]; split <;> omega
    refine isPairs_of hl (by unfold maxLen at hm; omega) fun i hil => ?_
    obtain ⟨cs', hc, ht'⟩ := hi i (by omega)
    rw [hC] at hc
    obtain ⟨_, hcl, hat⟩ := World.cells?_some hc
    obtain ⟨c0, c1, rfl⟩ : ∃ c0 c1, cs' = [c0, c1] := by
      match cs', hcl with
      | [c0, c1], _ => exact ⟨c0, c1, rfl⟩
    obtain ⟨y0, y1, n', _, t0, t1⟩ := trod_array2 he hce ht'
    obtain ⟨z0, e0, _, w0⟩ := DataW.trod_int hk t0
    obtain ⟨z1, e1, _, w1⟩ := DataW.trod_int hk t1
    simp at e0 e1
    subst e0 e1
    have a0 := hat 0 (by decide)
    have a1 := hat 1 (by decide)
    rw [show (x.add (i * 2)).add 0 = x.add (i * 2) from rfl] at a0
    have e1 : x.add (i * 2 + 1) = (x.add (i * 2)).add 1 := by first | exact Go.Deep.add_add _ _ _ | exact (Go.Deep.add_add _ _ _).symm
    refine ⟨(z0, z1), by simpa using a0, ?_, w0, w1⟩
    rw [e1]
    simpa using a1
end
end Go.Proofs.Ytjilplfcmkipfaa.Row0
