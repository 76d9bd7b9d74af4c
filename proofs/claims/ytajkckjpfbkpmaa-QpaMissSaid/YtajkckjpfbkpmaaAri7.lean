/-
  'At most 8 numbers', and the statement ArithDivides, walked.
-/
import Derived.Test.YtajkckjpfbkpmaaAri5
import Derived.Test.YtajkckjpfbkpmaaAri6
namespace Go.Proofs.Ytajkckjpfbkpmaa.Ari
open Go.RowKit Go.Shelf

/-- What a row hands over, as it is read. -/
theorem isRow_rd {k : IntKind} {w : World} {a : Option Addr} {len cap : Nat} {zs : List Int} (h : Row0.IsRow k w a len cap zs) :
    Rd w k a len (zs.take len) ∧ len ≤ cap ∧ cap ≤ 9223372036854775807 ∧ (0 < len → ∃ ad, a = some ad) ∧ ∀ n ∈ zs.take len, (Lit.int k n).wf = true := by
  rcases h with ⟨rfl, rfl, rfl, rfl⟩ | ⟨x, rfl, h1, h2, h3, h4, h5⟩
  · exact ⟨⟨rfl, by decide, fun h => absurd h (by decide)⟩, Nat.le_refl _, by decide, fun h => absurd h (by decide), by simp⟩
  · unfold maxLen at h2
    refine ⟨⟨by simp; omega, by omega, fun _ => ⟨x, rfl, fun j hj => ?_⟩⟩, h1, by omega, fun _ => ⟨x, rfl⟩, fun n hn => h5 n (List.mem_of_mem_take hn)⟩
    rw [h4 j (by omega)]
    simp [List.getD_eq_getElem?_getD, hj]
theorem rd_take {w : World} {k : IntKind} {A : Option Addr} {n : Nat} {xs : List Int} (h : Rd w k A n xs) (m : Nat) : Rd w k A (min n m) (xs.take m) := by
  obtain ⟨h1, h2, h3⟩ := h
  refine ⟨by rw [List.length_take]; omega, by omega, fun hp => ?_⟩
  obtain ⟨ad, e, hc⟩ := h3 (by omega)
  refine ⟨ad, e, fun j hj => ?_⟩
  rw [hc j (by omega)]
  simp [List.getD_eq_getElem?_getD, show j < m by omega]
theorem nums_of_wf (l : List Int) (h : ∀ n ∈ l, (Lit.int .u64 n).wf = true) : Nums l := by
  intro j hj
  have : l.getD j 0 ∈ l := by
    rw [List.getD_eq_getElem?_getD, List.getElem?_eq_getElem hj]
    simp
  exact u64_bd (h _ this)
/-- A row of 64-bit numbers that came in, cut to 8: the numbers that are meant. -/
theorem few_nums {w : World} {a : Option Addr} {len cap : Nat} {zs : List Int} (h : Row0.IsRow .u64 w a len cap zs) (m : Nat) :
    ∃ ns : List Nat, Rd w .u64 a (min len m) (cs ns) ∧ (∀ n ∈ ns, n < M64) ∧ ns.length = min len m := by
  obtain ⟨h1, h2, h3, h4, h5⟩ := isRow_rd h
  have h6 := rd_take h1 m
  obtain ⟨ns, e1, e2, e3⟩ := cs_of ((zs.take len).take m) (nums_of_wf _ fun n hn => h5 n (List.mem_of_mem_take hn))
  exact ⟨ns, e1 ▸ h6, e2, by rw [e3]; exact h6.1⟩
end Go.Proofs.Ytajkckjpfbkpmaa.Ari
