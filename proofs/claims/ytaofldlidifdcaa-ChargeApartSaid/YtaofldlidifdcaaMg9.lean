/-
  Texts of one claim, joined in build order: Opens.
-/
import Derived.Test.YtaofldlidifdcaaMg8
import Derived.WalkKit
import Derived.ProofKit
import Derived.Deep.Slices
import Derived.Deep.Fields
import Derived.ChangeSame
/-
  Arguments that are slices of structs of one-cell fields: laid open to cells.
-/
namespace Go.Proofs.Ytaofldlidifdcaa.Row0
open Go.ChangeShapes Go.WideShapes Go.Deep Go.RowKit

section
variable {H : Type} {enc : TypeId × Value → H} {P : Program} {w : World} {base : Nat} {spare : Nat → Bool} {held : Bool}
theorem open_slice_fields {t e : TypeId} {fs : Array Field} {fuel : Nat} {cs : List Value} {x : DataW H × List MemPlace} (ht : P.underlying t = some (.slice e)) (he : P.underlying e = some (.struct fs))
    (hone : oneCellFields P fs = true) (hC : P.cellsOf e = fs.size) (h : DataW.trod enc P w base spare held fuel t cs = some x) :
    (cs = [.slice none 0 0] ∧ x = (.nil, [])) ∨
    ∃ (a : Addr) (len cap m : Nat) (D : Nat → DataW H) (Pl : Nat → List MemPlace), cs = [.slice (some a) len cap] ∧ base ≤ a.block ∧ len ≤ cap ∧ cap ≤ maxLen ∧ m = (if spare a.block then cap else len) ∧
      x = (.slice ((List.range len).map D) ((List.range (m - len)).map fun j => D (len + j)), MemPlace.row a (m * fs.size) ++ (List.range m).flatMap Pl) ∧
      ∀ i, i < m → ∃ (ys : List (DataW H × List MemPlace)) (n : Nat), D i = .agg (ys.map (·.1)) ∧ Pl i = ys.flatMap (·.2) ∧ ys.length = fs.size ∧
        ∀ (j : Nat) (f : Field), fs[j]? = some f → ∃ (v : Value) (y : DataW H × List MemPlace), w.cell? (a.add (i * fs.size + j)) = some v ∧ ys[j]? = some y ∧ DataW.trod enc P w base spare held n f.type [v] = some y := by
  rcases open_slice ht h with h0 | ⟨a, len, cap, m, n, D, Pl, hcs, hb, hl, hm, hmm, hx, hi⟩
  · exact .inl h0
  · refine .inr ⟨a, len, cap, m, D, Pl, hcs, hb, hl, hm, hmm, by rw [hC] at hx; exact hx, fun i him => ?_⟩
    obtain ⟨cs', hc, ht'⟩ := hi i him
    rw [hC] at hc
    obtain ⟨ys, n', hn', hy, hlen, hyl, hf⟩ := DataW.trod_struct he ht'
    obtain ⟨_, hcl, hat⟩ := World.cells?_some hc
    simp only [Prod.mk.injEq] at hy
    refine ⟨ys, n', hy.1, hy.2, hyl, fun j f hj => ?_⟩
    obtain ⟨ho, hk⟩ := hone_of hone j f hj
    have hjl : j < fs.size := (Array.getElem?_eq_some_iff.1 hj).1
    have hcell := hat j hjl
    have hv : cs'[j]? = some (cs'[j]'(by omega)) := List.getElem?_eq_getElem (by omega)
    have h1 := hf j f hj
    rw [ho, hk] at h1
    have hone' : (cs'.drop j).take 1 = [cs'[j]'(by omega)] := by
      rw [List.drop_eq_getElem_cons (by omega)]
      rfl
    rw [hone'] at h1
    have hys : ys[j]? = some (ys[j]'(by omega)) := List.getElem?_eq_getElem (by omega)
    refine ⟨_, _, ?_, hys, h1.trans hys⟩
    rw [← Go.Deep.add_add, hcell, hv]

theorem plain_add (b o k : Nat) : (⟨b, o, none⟩ : Addr).add k = ⟨b, o + k, none⟩ := by
  unfold Addr.add
  by_cases h : k = 0
  · simp [h]
  · simp [h]
/-- A slice of structs of two whole numbers: its cells. -/
theorem open_pairs {t e : TypeId} {f0 f1 : Field} {k0 k1 : IntKind} {a : Option Addr} {len cap : Nat} {d : DataW H} {ps : List MemPlace} (ht : P.underlying t = some (.slice e)) (he : P.underlying e = some (.struct #[f0, f1]))
    (hone : oneCellFields P #[f0, f1] = true) (hC : P.cellsOf e = 2) (h0 : P.underlying f0.type = some (.int k0)) (h1 : P.underlying f1.type = some (.int k1))
    (h : DataW.Trod enc P w base spare held t (.slice a len cap) d ps) :
    len ≤ cap ∧ cap ≤ maxLen ∧ (0 < len → ∃ b o, a = some ⟨b, o, none⟩) ∧
    ∃ q : List (Int × Int), q.length = len ∧ (∀ p ∈ q, (Lit.int k0 p.1).wf = true ∧ (Lit.int k1 p.2).wf = true) ∧
      ∀ b o, a = some ⟨b, o, none⟩ → ∀ j, j < len → w.cell? ⟨b, o + j * 2, none⟩ = some (.int k0 (q.getD j (0, 0)).1) ∧ w.cell? ⟨b, o + j * 2 + 1, none⟩ = some (.int k1 (q.getD j (0, 0)).2) := by
  obtain ⟨fuel, hf⟩ := h
  rcases open_slice_fields ht he hone hC hf with ⟨hcs, _⟩ | ⟨x, l, c, m, D, Pl, hcs, _, hl, hm, hmm, _, hi⟩
  · simp [Value.cells] at hcs
    obtain ⟨rfl, rfl, rfl⟩ := hcs
    exact ⟨Nat.le_refl _, Nat.zero_le _, fun h => absurd h (by decide), [], rfl, by simp, fun b o e => by cases e⟩
  · simp [Value.cells] at hcs
    obtain ⟨rfl, rfl, rfl⟩ := hcs
    have hlm : len ≤ m := by rw [hmm]; split <;> omega
    have hcell : ∀ i, i < len → ∃ p : Int × Int, w.cell? (x.add (i * 2)) = some (.int k0 p.1) ∧ w.cell? (x.add (i * 2 + 1)) = some (.int k1 p.2) ∧ (Lit.int k0 p.1).wf = true ∧ (Lit.int k1 p.2).wf = true := by
      intro i hil
      obtain ⟨ys, n, _, _, _, hff⟩ := hi i (by omega)
      obtain ⟨v0, y0, c0, _, t0⟩ := hff 0 f0 rfl
      obtain ⟨v1, y1, c1, _, t1⟩ := hff 1 f1 rfl
      obtain ⟨z0, e0, _, w0⟩ := DataW.trod_int h0 t0
      obtain ⟨z1, e1, _, w1⟩ := DataW.trod_int h1 t1
      simp at e0 e1
      subst e0 e1
      exact ⟨(z0, z1), by simpa using c0, by simpa using c1, w0, w1⟩
    refine ⟨hl, hm, fun hp => ?_, ?_⟩
    · obtain ⟨p, c0, _⟩ := hcell 0 hp
      obtain ⟨b, o, s⟩ := x
      cases s with
      | none => exact ⟨b, o, rfl⟩
      | some s =>
        exfalso
        simp only [World.cell?, Addr.add] at c0
        split at c0 <;> simp at c0
    · refine ⟨(List.range len).map fun i => if hil : i < len then Classical.choose (hcell i hil) else (0, 0), by simp, ?_, ?_⟩
      · intro p hp
        obtain ⟨i, hir, rfl⟩ := List.mem_map.1 hp
        have hil := List.mem_range.1 hir
        rw [dif_pos hil]
        exact (Classical.choose_spec (hcell i hil)).2.2
      · intro b o e j hj
        injection e with e
        subst e
        have hs := Classical.choose_spec (hcell j hj)
        have eg : ((List.range len).map fun i => if hil : i < len then Classical.choose (hcell i hil) else (0, 0)).getD j (0, 0) = Classical.choose (hcell j hj) := by
          rw [List.getD_eq_getElem?_getD, List.getElem?_map, List.getElem?_range hj]
          simp [hj]
        rw [eg]
        generalize Classical.choose (hcell j hj) = p at hs ⊢
        rw [plain_add, plain_add] at hs
        exact ⟨hs.1, by rw [Nat.add_assoc]; exact hs.2.1⟩
/-- What a row hands over of a slice of structs of two whole numbers. -/
structure IsPairs (k0 k1 : IntKind) (w : World) (a : Option Addr) (len cap : Nat) (q : List (Int × Int)) : Prop where
  le : len ≤ cap
  mx : cap ≤ 9223372036854775807
  ad : 0 < len → ∃ b o, a = some ⟨b, o, none⟩
  ln : q.length = len
  wf : ∀ p ∈ q, (Lit.int k0 p.1).wf = true ∧ (Lit.int k1 p.2).wf = true
  at_ : ∀ b o, a = some ⟨b, o, none⟩ → ∀ j, j < len → w.cell? ⟨b, o + j * 2, none⟩ = some (.int k0 (q.getD j (0, 0)).1) ∧ w.cell? ⟨b, o + j * 2 + 1, none⟩ = some (.int k1 (q.getD j (0, 0)).2)
theorem open_isPairs {t e : TypeId} {f0 f1 : Field} {k0 k1 : IntKind} {a : Option Addr} {len cap : Nat} {d : DataW H} {ps : List MemPlace} (ht : P.underlying t = some (.slice e)) (he : P.underlying e = some (.struct #[f0, f1]))
    (hone : oneCellFields P #[f0, f1] = true) (hC : P.cellsOf e = 2) (h0 : P.underlying f0.type = some (.int k0)) (h1 : P.underlying f1.type = some (.int k1))
    (h : DataW.Trod enc P w base spare held t (.slice a len cap) d ps) : ∃ q, IsPairs k0 k1 w a len cap q := by
  obtain ⟨h2, h3, h4, q, h5, h6, h7⟩ := open_pairs ht he hone hC h0 h1 h
  exact ⟨q, h2, by unfold maxLen at h3; omega, h4, h5, h6, h7⟩
end
end Go.Proofs.Ytaofldlidifdcaa.Row0
