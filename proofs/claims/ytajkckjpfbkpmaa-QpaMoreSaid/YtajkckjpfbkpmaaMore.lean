/-
  An argument More (a demand and a block, by numbers) by value, laid open.
-/
import Derived.Test.YtajkckjpfbkpmaaAggs
import Derived.Test.YtajkckjpfbkpmaaDem1
namespace Go.Proofs.Ytajkckjpfbkpmaa.Dem
open Go.ChangeShapes Go.WideShapes Go.Deep Go.RowKit Go.Proofs.Ytajkckjpfbkpmaa.Row0
section
variable {H : Type} {enc : TypeId × Value → H} {w : World} {base : Nat} {spare : Nat → Bool} {held : Bool}
theorem open_more {r : Reach} {b0 : Nat} {v : Value} {d : DataW H} {p : List MemPlace}
    (hv : Value.okWide Try.prog w r b0 46 v) (h : DataW.Trod enc Try.prog w base spare held 46 v d p) :
    ∃ a b c e x, v = .agg #[.int .i64 a, .int .i64 b, .int .i64 c, .int .i64 e, .int .i64 x] ∧
      (Lit.int .i64 a).wf = true ∧ (Lit.int .i64 b).wf = true ∧ (Lit.int .i64 c).wf = true ∧ (Lit.int .i64 e).wf = true ∧ (Lit.int .i64 x).wf = true := by
  have hC : Try.prog.cellsOf 46 = 5 := by kernel_rfl
  have c3 : Try.prog.cellsOf 43 = 3 := by kernel_rfl
  have c2 : Try.prog.cellsOf 44 = 2 := by kernel_rfl
  have c1 : Try.prog.cellsOf 3 = 1 := by kernel_rfl
  obtain ⟨cs, rfl, hsz⟩ := okWide_struct Try.underlying46 hv
  obtain ⟨⟨l⟩, hl⟩ : ∃ cs', cs' = cs := ⟨cs, rfl⟩
  match l, hl, hsz.trans hC with
  | [k0, k1, k2, k3, k4], hl, _ =>
    subst hl
    obtain ⟨fuel, hf⟩ := h
    obtain ⟨xs, n, _, _, _, hlen, hff⟩ := DataW.trod_struct Try.underlying46 hf
    have t0 : DataW.trod enc Try.prog w base spare held n 43 ((List.drop 0 [k0, k1, k2, k3, k4]).take (Try.prog.cellsOf 43)) = xs[0]? := hff 0 _ rfl
    rw [c3] at t0
    have t1 : DataW.trod enc Try.prog w base spare held n 44 ((List.drop 3 [k0, k1, k2, k3, k4]).take (Try.prog.cellsOf 44)) = xs[1]? := hff 1 _ rfl
    rw [c2] at t1
    have hl5 : xs.length = 2 := hlen
    rw [List.getElem?_eq_getElem (by omega)] at t0 t1
    obtain ⟨y0, y1, y2, n', _, s0, s1, s2⟩ := trod_array3 Try.underlying43 c1 t0
    obtain ⟨u0, u1, n'', _, s3, s4⟩ := trod_array2 Try.underlying44 c1 t1
    obtain ⟨z0, e0, _, w0⟩ := DataW.trod_int Try.underlying3 s0
    obtain ⟨z1, e1, _, w1⟩ := DataW.trod_int Try.underlying3 s1
    obtain ⟨z2, e2, _, w2⟩ := DataW.trod_int Try.underlying3 s2
    obtain ⟨z3, e3, _, w3⟩ := DataW.trod_int Try.underlying3 s3
    obtain ⟨z4, e4, _, w4⟩ := DataW.trod_int Try.underlying3 s4
    simp at e0 e1 e2 e3 e4
    subst e0 e1 e2 e3 e4
    exact ⟨z0, z1, z2, z3, z4, rfl, w0, w1, w2, w3, w4⟩
end
end Go.Proofs.Ytajkckjpfbkpmaa.Dem
