/-
  Texts of one claim, joined in build order: Aggs.
-/
import Derived.Test.YtaofldlidifdcaaMg10
import Derived.WalkKit
import Derived.ProofKit
import Derived.OpenShut
import Derived.Lib.SmallJoins
import Derived.Laws.IdiomArrays
import Derived.ChangeSame
import Derived.Below
import Derived.Carry
import Derived.Deep.Slices
import Derived.Deep.Fields
/-
  Arguments that are structs or arrays of whole numbers, laid open.
-/
namespace Go.Proofs.Ytaofldlidifdcaa.Row0
open Go.ChangeShapes Go.WideShapes Go.Deep Go.RowKit

section
variable {H : Type} {enc : TypeId × Value → H} {P : Program} {w : World} {base : Nat} {spare : Nat → Bool} {held : Bool}
theorem open_struct2 {r : Reach} {b0 : Nat} {t : TypeId} {f0 f1 : Field} {k0 k1 : IntKind} {v : Value} {d : DataW H} {p : List MemPlace} (hs : P.underlying t = some (.struct #[f0, f1])) (hone : oneCellFields P #[f0, f1] = true) (hC : P.cellsOf t = 2)
    (h0 : P.underlying f0.type = some (.int k0)) (h1 : P.underlying f1.type = some (.int k1)) (hv : Value.okWide P w r b0 t v) (h : DataW.Trod enc P w base spare held t v d p) :
    ∃ x y, v = .agg #[.int k0 x, .int k1 y] ∧ (Lit.int k0 x).wf = true ∧ (Lit.int k1 y).wf = true := by
  obtain ⟨v0, v1, y0, y1, n, rfl, _, _, t0, t1⟩ := Joins.open_agg2 hs hone hC hv h
  obtain ⟨z0, e0, _, w0⟩ := DataW.trod_int h0 t0
  obtain ⟨z1, e1, _, w1⟩ := DataW.trod_int h1 t1
  simp at e0 e1
  subst e0 e1
  exact ⟨z0, z1, rfl, w0, w1⟩
theorem okWide_array {r : Reach} {b0 : Nat} {t e : TypeId} {n : Nat} {v : Value} (ht : P.underlying t = some (.array n e)) (hv : Value.okWide P w r b0 t v) : ∃ cs, v = .agg cs ∧ cs.size = P.cellsOf t := by
  simp only [Value.okWide, ht] at hv
  obtain ⟨cs, h1, h2, _⟩ := hv
  exact ⟨cs, h1, h2⟩
theorem trod_array2 {t e : TypeId} {fuel : Nat} {c0 c1 : Value} {x : DataW H × List MemPlace} (ht : P.underlying t = some (.array 2 e)) (hce : P.cellsOf e = 1)
    (h : DataW.trod enc P w base spare held fuel t [c0, c1] = some x) :
    ∃ y0 y1 n, x = (.agg [y0.1, y1.1], y0.2 ++ y1.2) ∧ DataW.trod enc P w base spare held n e [c0] = some y0 ∧ DataW.trod enc P w base spare held n e [c1] = some y1 := by
  cases fuel with
  | zero => simp [DataW.trod] at h
  | succ n =>
    unfold DataW.trod at h
    rw [ht] at h
    have r3 : List.range 2 = [0, 1] := rfl
    simp [r3, hce] at h
    obtain ⟨_, h⟩ := h
    cases h0 : DataW.trod enc P w base spare held n e [c0] with
    | none => simp [h0] at h
    | some y0 =>
      cases h1 : DataW.trod enc P w base spare held n e [c1] with
      | none => simp [h0, h1] at h
      | some y1 =>
        simp [h0, h1] at h
        exact ⟨y0, y1, n, h.symm, h0, h1⟩
theorem open_arr2 {r : Reach} {b0 : Nat} {t e : TypeId} {k : IntKind} {v : Value} {d : DataW H} {p : List MemPlace} (ht : P.underlying t = some (.array 2 e)) (hce : P.cellsOf e = 1) (hC : P.cellsOf t = 2) (he : P.underlying e = some (.int k))
    (hv : Value.okWide P w r b0 t v) (h : DataW.Trod enc P w base spare held t v d p) :
    ∃ x y, v = .agg #[.int k x, .int k y] ∧ (Lit.int k x).wf = true ∧ (Lit.int k y).wf = true := by
  obtain ⟨cs, rfl, hn⟩ := okWide_array ht hv
  obtain ⟨c0, c1, rfl⟩ := Joins.array2 (hn.trans hC)
  obtain ⟨fuel, hf⟩ := h
  obtain ⟨y0, y1, n, _, t0, t1⟩ := trod_array2 ht hce hf
  obtain ⟨z0, e0, _, w0⟩ := DataW.trod_int he t0
  obtain ⟨z1, e1, _, w1⟩ := DataW.trod_int he t1
  simp at e0 e1
  subst e0 e1
  exact ⟨z0, z1, rfl, w0, w1⟩
theorem open_arr3 {r : Reach} {b0 : Nat} {t e : TypeId} {k : IntKind} {v : Value} {d : DataW H} {p : List MemPlace} (ht : P.underlying t = some (.array 3 e)) (hce : P.cellsOf e = 1) (hC : P.cellsOf t = 3) (he : P.underlying e = some (.int k))
    (hv : Value.okWide P w r b0 t v) (h : DataW.Trod enc P w base spare held t v d p) :
    ∃ x y z, v = .agg #[.int k x, .int k y, .int k z] ∧ (Lit.int k x).wf = true ∧ (Lit.int k y).wf = true ∧ (Lit.int k z).wf = true := by
  obtain ⟨cs, rfl, hn⟩ := okWide_array ht hv
  obtain ⟨c0, c1, c2, rfl⟩ := Joins.array3 (hn.trans hC)
  obtain ⟨fuel, hf⟩ := h
  obtain ⟨y0, y1, y2, n, _, t0, t1, t2⟩ := trod_array3 ht hce hf
  obtain ⟨z0, e0, _, w0⟩ := DataW.trod_int he t0
  obtain ⟨z1, e1, _, w1⟩ := DataW.trod_int he t1
  obtain ⟨z2, e2, _, w2⟩ := DataW.trod_int he t2
  simp at e0 e1 e2
  subst e0 e1 e2
  exact ⟨z0, z1, z2, rfl, w0, w1, w2⟩
theorem open_arr4 {r : Reach} {b0 : Nat} {t e : TypeId} {k : IntKind} {v : Value} {d : DataW H} {p : List MemPlace} (ht : P.underlying t = some (.array 4 e)) (hce : P.cellsOf e = 1) (hC : P.cellsOf t = 4) (he : P.underlying e = some (.int k))
    (hv : Value.okWide P w r b0 t v) (h : DataW.Trod enc P w base spare held t v d p) :
    ∃ x y z u, v = .agg #[.int k x, .int k y, .int k z, .int k u] ∧ (Lit.int k x).wf = true ∧ (Lit.int k y).wf = true ∧ (Lit.int k z).wf = true ∧ (Lit.int k u).wf = true := by
  obtain ⟨cs, rfl, hn⟩ := okWide_array ht hv
  obtain ⟨⟨l⟩, hl⟩ : ∃ cs', cs' = cs := ⟨cs, rfl⟩
  match l, hl, hn.trans hC with
  | [c0, c1, c2, c3], hl, _ =>
    subst hl
    obtain ⟨fuel, hf⟩ := h
    obtain ⟨y0, y1, y2, y3, n, _, t0, t1, t2, t3⟩ := trod_array4 ht hce hf
    obtain ⟨z0, e0, _, w0⟩ := DataW.trod_int he t0
    obtain ⟨z1, e1, _, w1⟩ := DataW.trod_int he t1
    obtain ⟨z2, e2, _, w2⟩ := DataW.trod_int he t2
    obtain ⟨z3, e3, _, w3⟩ := DataW.trod_int he t3
    simp at e0 e1 e2 e3
    subst e0 e1 e2 e3
    exact ⟨z0, z1, z2, z3, rfl, w0, w1, w2, w3⟩
end
end Go.Proofs.Ytaofldlidifdcaa.Row0
