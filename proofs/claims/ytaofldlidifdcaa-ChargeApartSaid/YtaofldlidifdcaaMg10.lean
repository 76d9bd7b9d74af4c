/-
  Texts of one claim, joined in build order: Nums.
-/
import Derived.Test.YtaofldlidifdcaaMg9
import Derived.OpenShut
import Derived.Lib.SmallJoins
/-
  Arguments that are slices of structs of five whole numbers and a row of whole numbers (a task by numbers): laid open to cells.
-/
namespace Go.Proofs.Ytaofldlidifdcaa.Row0
open Go.ChangeShapes Go.WideShapes Go.Deep Go.RowKit

/-- A task by numbers, as it lies in memory. -/
structure NumV where
  c : Int
  d : Int
  t : Int
  p : Int
  k : Int
  ua : Option Addr
  ul : Nat
  uc : Nat
  uz : List Int
instance : Inhabited NumV := ⟨⟨0, 0, 0, 0, 0, none, 0, 0, []⟩⟩
structure NumAt (w : World) (x : Addr) (v : NumV) : Prop where
  c : w.cell? x = some (.int .i64 v.c)
  d : w.cell? (x.add 1) = some (.int .i64 v.d)
  t : w.cell? (x.add 2) = some (.int .i64 v.t)
  p : w.cell? (x.add 3) = some (.int .i64 v.p)
  k : w.cell? (x.add 4) = some (.int .i64 v.k)
  u : w.cell? (x.add 5) = some (.slice v.ua v.ul v.uc)
  row : IsRow .i64 w v.ua v.ul v.uc v.uz
  wf : (Lit.int .i64 v.c).wf = true ∧ (Lit.int .i64 v.d).wf = true ∧ (Lit.int .i64 v.t).wf = true ∧ (Lit.int .i64 v.p).wf = true ∧ (Lit.int .i64 v.k).wf = true
structure IsNums (w : World) (a : Option Addr) (len cap : Nat) (q : List NumV) : Prop where
  le : len ≤ cap
  mx : cap ≤ 9223372036854775807
  ad : 0 < len → ∃ b o, a = some ⟨b, o, none⟩
  ln : q.length = len
  at_ : ∀ x, a = some x → ∀ j, j < len → NumAt w (x.add (j * 6)) (q.getD j default)
section
variable {H : Type} {enc : TypeId × Value → H} {P : Program} {w : World} {base : Nat} {spare : Nat → Bool} {held : Bool}
theorem open_nums0 {t e el : TypeId} {f0 f1 f2 f3 f4 f5 : Field} {v : Value} {y : DataW H × List MemPlace} {fuel : Nat} (ht : P.underlying t = some (.slice e)) (he : P.underlying e = some (.struct #[f0, f1, f2, f3, f4, f5]))
    (hone : oneCellFields P #[f0, f1, f2, f3, f4, f5] = true) (hC : P.cellsOf e = 6) (h0 : P.underlying f0.type = some (.int .i64)) (h1 : P.underlying f1.type = some (.int .i64)) (h2 : P.underlying f2.type = some (.int .i64)) (h3 : P.underlying f3.type = some (.int .i64)) (h4 : P.underlying f4.type = some (.int .i64))
    (h5 : P.underlying f5.type = some (.slice el)) (hel : P.underlying el = some (.int .i64)) (hcl : P.cellsOf el = 1)
    (hsp : ∀ b, spare b = true) (hf : DataW.trod enc P w base spare held fuel t [v] = some y) : ∃ a len cap q, v = .slice a len cap ∧ IsNums w a len cap q := by
  rcases open_slice_fields ht he hone hC hf with ⟨hcs, _⟩ | ⟨x, len, cap, m, D, Pl, hcs, _, hl, hm, hmm, _, hi⟩
  · simp at hcs
    subst hcs
    exact ⟨none, 0, 0, [], rfl, Nat.le_refl _, by decide, fun h => absurd h (by decide), rfl, fun x e => by cases e⟩
  · simp at hcs
    subst hcs
    have hlm : len ≤ m := by rw [hmm]; split <;> omega
    have hcell : ∀ i, i < len → ∃ v, NumAt w (x.add (i * 6)) v := by
      intro i hil
      obtain ⟨ys, n, _, _, _, hff⟩ := hi i (by omega)
      obtain ⟨v0, y0, c0, _, t0⟩ := hff 0 f0 rfl
      obtain ⟨v1, y1, c1, _, t1⟩ := hff 1 f1 rfl
      obtain ⟨v2, y2, c2, _, t2⟩ := hff 2 f2 rfl
      obtain ⟨v3, y3, c3, _, t3⟩ := hff 3 f3 rfl
      obtain ⟨v4, y4, c4, _, t4⟩ := hff 4 f4 rfl
      obtain ⟨v5, y5, c5, _, t5⟩ := hff 5 f5 rfl
      obtain ⟨z0, e0, _, w0⟩ := DataW.trod_int h0 t0
      obtain ⟨z1, e1, _, w1⟩ := DataW.trod_int h1 t1
      obtain ⟨z2, e2, _, w2⟩ := DataW.trod_int h2 t2
      obtain ⟨z3, e3, _, w3⟩ := DataW.trod_int h3 t3
      obtain ⟨z4, e4, _, w4⟩ := DataW.trod_int h4 t4
      simp at e0 e1 e2 e3 e4
      subst e0 e1 e2 e3 e4
      have hrow : ∃ ua ul uc uz, v5 = .slice ua ul uc ∧ IsRow .i64 w ua ul uc uz := by
        rcases open_ints h5 hel hcl t5 with ⟨hcs, _⟩ | ⟨x', l, c, zs, hcs, _, hl', hm', hz, _, hcell, hwz⟩
        · simp at hcs
          exact ⟨none, 0, 0, [], hcs, .inl ⟨rfl, rfl, rfl, rfl⟩⟩
        · simp at hcs
          exact ⟨_, _, _, zs, hcs, .inr ⟨_, rfl, hl', hm', by simpa [hsp] using hz, hcell, hwz⟩⟩
      obtain ⟨ua, ul, uc, uz, rfl, hr⟩ := hrow
      simp only [show (#[f0, f1, f2, f3, f4, f5] : Array Field).size = 6 from rfl] at c0 c1 c2 c3 c4 c5
      have ea : ∀ k, x.add (i * 6 + k) = (x.add (i * 6)).add k := fun k => by first | exact Go.Deep.add_add _ _ _ | exact (Go.Deep.add_add _ _ _).symm
      rw [ea] at c0 c1 c2 c3 c4 c5
      exact ⟨⟨z0, z1, z2, z3, z4, ua, ul, uc, uz⟩, c0, c1, c2, c3, c4, c5, hr, w0, w1, w2, w3, w4⟩
    refine ⟨some x, len, cap, (List.range len).map fun i => if hil : i < len then Classical.choose (hcell i hil) else default, rfl, hl, by unfold maxLen at hm; omega, fun hp => ?_, by simp, fun y e j hj => ?_⟩
    · obtain ⟨v, hv⟩ := hcell 0 hp
      have c0 := hv.c
      obtain ⟨b, o, s⟩ := x
      cases s with
      | none => exact ⟨b, o, rfl⟩
      | some s =>
        exfalso
        simp only [World.cell?, Addr.add] at c0
        split at c0 <;> simp at c0
    · injection e with e
      subst e
      have eg : ((List.range len).map fun i => if hil : i < len then Classical.choose (hcell i hil) else default).getD j default = Classical.choose (hcell j hj) := by
        rw [List.getD_eq_getElem?_getD, List.getElem?_map, List.getElem?_range hj]
        simp [hj]
      rw [eg]
      exact Classical.choose_spec (hcell j hj)
/-- A system by numbers, by value. -/
theorem open_sys {r : Reach} {b0 : Nat} {t e el : TypeId} {g0 g1 g2 f0 f1 f2 f3 f4 f5 : Field} {v : Value} {d : DataW H} {p : List MemPlace} (hs : P.underlying t = some (.struct #[g0, g1, g2])) (hog : oneCellFields P #[g0, g1, g2] = true) (hcg : P.cellsOf t = 3)
    (k0 : P.underlying g0.type = some (.int .i64)) (k1 : P.underlying g1.type = some (.int .i64)) (ht : P.underlying g2.type = some (.slice e)) (he : P.underlying e = some (.struct #[f0, f1, f2, f3, f4, f5]))
    (hone : oneCellFields P #[f0, f1, f2, f3, f4, f5] = true) (hC : P.cellsOf e = 6) (h0 : P.underlying f0.type = some (.int .i64)) (h1 : P.underlying f1.type = some (.int .i64)) (h2 : P.underlying f2.type = some (.int .i64)) (h3 : P.underlying f3.type = some (.int .i64)) (h4 : P.underlying f4.type = some (.int .i64))
    (h5 : P.underlying f5.type = some (.slice el)) (hel : P.underlying el = some (.int .i64)) (hcl : P.cellsOf el = 1)
    (hsp : ∀ b, spare b = true) (hv : Value.okWide P w r b0 t v) (h : DataW.Trod enc P w base spare held t v d p) :
    ∃ a b x len cap q, v = .agg #[.int .i64 a, .int .i64 b, .slice x len cap] ∧ (Lit.int .i64 a).wf = true ∧ (Lit.int .i64 b).wf = true ∧ IsNums w x len cap q := by
  obtain ⟨v0, v1, v2, y0, y1, y2, n, rfl, _, _, t0, t1, t2⟩ := Joins.open_agg3 hs hog hcg hv h
  obtain ⟨z0, e0, _, w0⟩ := DataW.trod_int k0 t0
  obtain ⟨z1, e1, _, w1⟩ := DataW.trod_int k1 t1
  simp at e0 e1
  subst e0 e1
  obtain ⟨x, len, cap, q, rfl, hq⟩ := open_nums0 ht he hone hC h0 h1 h2 h3 h4 h5 hel hcl hsp t2
  exact ⟨z0, z1, x, len, cap, q, rfl, w0, w1, hq⟩
end
end Go.Proofs.Ytaofldlidifdcaa.Row0
