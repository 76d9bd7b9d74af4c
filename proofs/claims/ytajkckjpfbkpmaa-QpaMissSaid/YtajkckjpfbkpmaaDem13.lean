/-
  Package demand: Slack.
-/
import Derived.Test.YtajkckjpfbkpmaaDem12
import Derived.Lib.SliceRun
import Derived.Lib.BufferMore
namespace Go.Proofs.Ytajkckjpfbkpmaa.Dem
open Go.RowKit Go.Shelf Go.Proofs.Ytajkckjpfbkpmaa.Ari
attribute [local go_sem] Oper.semAt_some

theorem own_cells {β : Type} (B b : Nat) (X : β → Array Value) (T : TypeId) : OwnFrom B (fun (s : β) W => W.heap[b]? = some (.cells (X s) T (0, 0))) := fun s W W' row hs hg hr =>
  (hg.block b (Array.getElem?_eq_some_iff.1 hs).1 (fun e => by
    obtain ⟨_, o, ho, hc⟩ := hr b e.symm
    rw [hs] at ho
    cases ho
    cases hc)).trans hs
theorem own_sz {β : Type} (B m : Nat) : OwnFrom B (fun (_ : β) W => m ≤ W.heap.size) := fun _ _ _ _ hs hg _ => Nat.le_trans hs hg.size
theorem keeps_bl {B : Nat} {W W' : World} (h : Below W.heap.size W W') : KeepsFrom B W W' := ⟨h.size, fun k _ _ hk _ => (h.block k (Array.getElem?_eq_some_iff.1 hk).1).trans hk⟩
theorem free1 {w : World} {b : Nat} {v : Value} {t : TypeId} (h : w.heap[b]? = some (.cells #[v] t (0, 0))) : w.frozen? ⟨b, 0, none⟩ = false := by simp [World.frozen?, h]
theorem set1 {w : World} {b : Nat} {v : Value} {t : TypeId} (h : w.heap[b]? = some (.cells #[v] t (0, 0))) (x : Value) : (w.setCell ⟨b, 0, none⟩ x).heap[b]? = some (.cells #[x] t (0, 0)) := by
  have := Lib.heap_setCell_same (i := 0) h x
  rw [this]
  rfl
theorem set1_other (w : World) (b k : Nat) (hk : k ≠ b) (x : Value) : (w.setCell ⟨b, 0, none⟩ x).heap[k]? = w.heap[k]? := Below.heap_setCell _ _ _ _ hk
/-- What best and met hold behind these times. -/
def best (l : List Dm) (pre : List Tm) : Int := mins ((tms pre).map fun t => t - work l t)
theorem best_snoc (l : List Dm) (pre : List Tm) (x : Tm) : best l (pre ++ [x]) = if pre = [] then x.1 - work l x.1 else min (best l pre) (x.1 - work l x.1) := by
  unfold best
  rw [tms_snoc, List.map_append, List.map_cons, List.map_nil, mins_snoc]
  cases pre <;> simp [tms]

end Go.Proofs.Ytajkckjpfbkpmaa.Dem
