/-
  An argument api.Work by value, laid open; two of them compared.
-/
import Derived.Test.YtjilplfcmkipfaaAggs
import Derived.Test.YtjilplfcmkipfaaCache4
namespace Go.Proofs.Ytjilplfcmkipfaa.Cache
open Go.ChangeShapes Go.WideShapes Go.Deep Go.RowKit
section
variable {H : Type} {enc : TypeId × Value → H} {w : World} {base : Nat} {spare : Nat → Bool} {held : Bool}
theorem open_work {r : Reach} {b0 : Nat} {v : Value} {d : DataW H} {p : List MemPlace}
    (hv : Value.okWide Try.prog w r b0 47 v) (h : DataW.Trod enc Try.prog w base spare held 47 v d p) :
    ∃ a b c e x y z u, v = .agg #[.int .i64 a, .int .i64 b, .int .i64 c, .int .i64 e, .int .u64 x, .int .u64 y, .int .u64 z, .int .u64 u] ∧
      (Lit.int .i64 a).wf = true ∧ (Lit.int .i64 b).wf = true ∧ (Lit.int .i64 c).wf = true ∧ (Lit.int .i64 e).wf = true ∧ (Lit.int .u64 x).wf = true ∧ (Lit.int .u64 y).wf = true ∧ (Lit.int .u64 z).wf = true ∧ (Lit.int .u64 u).wf = true := by
  have hC : Try.prog.cellsOf 47 = 8 := by kernel_rfl
  have c2 : Try.prog.cellsOf 2 = 1 := by kernel_rfl
  have c30 : Try.prog.cellsOf 30 = 4 := by kernel_rfl
  have c25 : Try.prog.cellsOf 28 = 1 := by kernel_rfl
  obtain ⟨cs, rfl, hsz⟩ := okWide_struct Try.underlying47 hv
  obtain ⟨⟨l⟩, hl⟩ : ∃ cs', cs' = cs := ⟨cs, rfl⟩
  match l, hl, hsz.trans hC with
  | [k0, k1, k2, k3, k4, k5, k6, k7], hl, _ =>
    subst hl
    obtain ⟨fuel, hf⟩ := h
    obtain ⟨xs, n, _, _, _, hlen, hff⟩ := DataW.trod_struct Try.underlying47 hf
    have t0 : DataW.trod enc Try.prog w base spare held n 2 ((List.drop 0 [k0, k1, k2, k3, k4, k5, k6, k7]).take (Try.prog.cellsOf 2)) = xs[0]? := hff 0 _ rfl
    rw [c2] at t0
    have t1 : DataW.trod enc Try.prog w base spare held n 2 ((List.drop 1 [k0, k1, k2, k3, k4, k5, k6, k7]).take (Try.prog.cellsOf 2)) = xs[1]? := hff 1 _ rfl
    rw [c2] at t1
    have t2 : DataW.trod enc Try.prog w base spare held n 2 ((List.drop 2 [k0, k1, k2, k3, k4, k5, k6, k7]).take (Try.prog.cellsOf 2)) = xs[2]? := hff 2 _ rfl
    rw [c2] at t2
    have t3 : DataW.trod enc Try.prog w base spare held n 2 ((List.drop 3 [k0, k1, k2, k3, k4, k5, k6, k7]).take (Try.prog.cellsOf 2)) = xs[3]? := hff 3 _ rfl
    rw [c2] at t3
    have t4 : DataW.trod enc Try.prog w base spare held n 30 ((List.drop 4 [k0, k1, k2, k3, k4, k5, k6, k7]).take (Try.prog.cellsOf 30)) = xs[4]? := hff 4 _ rfl
    rw [c30] at t4
    have hl5 : xs.length = 5 := hlen
    rw [List.getElem?_eq_getElem (by omega)] at t0 t1 t2 t3 t4
    obtain ⟨z0, e0, _, w0⟩ := DataW.trod_int Try.underlying2 t0
    obtain ⟨z1, e1, _, w1⟩ := DataW.trod_int Try.underlying2 t1
    obtain ⟨z2, e2, _, w2⟩ := DataW.trod_int Try.underlying2 t2
    obtain ⟨z3, e3, _, w3⟩ := DataW.trod_int Try.underlying2 t3
    obtain ⟨y0, y1, y2, y3, n', _, s0, s1, s2, s3⟩ := trod_array4 Try.underlying30 c25 t4
    obtain ⟨z4, e4, _, w4⟩ := DataW.trod_int Try.underlying28 s0
    obtain ⟨z5, e5, _, w5⟩ := DataW.trod_int Try.underlying28 s1
    obtain ⟨z6, e6, _, w6⟩ := DataW.trod_int Try.underlying28 s2
    obtain ⟨z7, e7, _, w7⟩ := DataW.trod_int Try.underlying28 s3
    simp at e0 e1 e2 e3 e4 e5 e6 e7
    subst e0 e1 e2 e3 e4 e5 e6 e7
    exact ⟨z0, z1, z2, z3, z4, z5, z6, z7, rfl, w0, w1, w2, w3, w4, w5, w6, w7⟩
end
/-- Work, as a value. -/
def wkv (a b c e : Int) (X : Nat → Nat) : Value := .agg #[.int .i64 a, .int .i64 b, .int .i64 c, .int .i64 e, .int .u64 (X 0 : Int), .int .u64 (X 1 : Int), .int .u64 (X 2 : Int), .int .u64 (X 3 : Int)]
theorem eqB9 (a0 a1 a2 a3 : Int) (w : World) : (Op.equalIn 9999 30 (.agg #[.int .u64 a0, .int .u64 a1, .int .u64 a2, .int .u64 a3]) (.agg #[.int .u64 a0, .int .u64 a1, .int .u64 a2, .int .u64 a3])).run Try.prog w = .ok true w := by
  have u3 := Try.underlying28
  have a3' := Try.isAgg28
  have z3 := Try.sizeOf28
  rw [show (9999 : Nat) = 9998 + 1 from rfl, Op.equalIn]
  simp only [Sem.run_bind, run_underlying Try.underlying30, Result.andThen_ok]
  simp only [Std.Legacy.Range.forIn_eq_forIn_range', Std.Legacy.Range.size, Nat.sub_zero, Nat.add_sub_cancel, Nat.div_one, List.range'_succ, List.range'_zero, List.forIn_cons, List.forIn_nil]
  go_simp
set_option maxRecDepth 100000 in
theorem eqW (a b c e x y z u : Int) (w : World) : (Op.equalIn 10000 47 (.agg #[.int .i64 a, .int .i64 b, .int .i64 c, .int .i64 e, .int .u64 x, .int .u64 y, .int .u64 z, .int .u64 u]) (.agg #[.int .i64 a, .int .i64 b, .int .i64 c, .int .i64 e, .int .u64 x, .int .u64 y, .int .u64 z, .int .u64 u])).run Try.prog w = .ok true w := by
  rw [show (10000 : Nat) = 9999 + 1 from rfl, Op.equalIn]
  simp only [Sem.run_bind, run_underlying Try.underlying47, Result.andThen_ok]
  have hB := eqB9 x y z u w
  go_simp
/-- Work is compared with itself. -/
theorem opAt_eqw {a0 b c e x0 y0 z u : Int} {o : Oper} {a : Act} {K : Value → World → Prop} {w : World} {x y : Operand} {T' : TypeId} (ho : o.op = .binOp .eql 47 x y T') (hx : a.eval x = .agg #[.int .i64 a0, .int .i64 b, .int .i64 c, .int .i64 e, .int .u64 x0, .int .u64 y0, .int .u64 z, .int .u64 u]) (hy : a.eval y = .agg #[.int .i64 a0, .int .i64 b, .int .i64 c, .int .i64 e, .int .u64 x0, .int .u64 y0, .int .u64 z, .int .u64 u])
    (hK : K (.bool true) w) : Calm.opAt Try.prog o a K w := by
  obtain ⟨d, op, ty, pos, aft, g⟩ := o
  simp only at ho
  subst ho
  have h := eqB9 x0 y0 z u w
  unfold Calm.opAt execOp
  simp only [hx, hy]
  go_simp
  simpa only [Calm.upon_value] using hK
end Go.Proofs.Ytjilplfcmkipfaa.Cache
