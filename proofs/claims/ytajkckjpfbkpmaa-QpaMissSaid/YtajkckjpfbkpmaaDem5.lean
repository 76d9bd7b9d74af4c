/-
  The statement DemandSums, walked.
-/
import Derived.Test.YtajkckjpfbkpmaaDem4
namespace Go.Proofs.Ytajkckjpfbkpmaa.Dem
open Go.RowKit Go.Shelf Go.Proofs.Ytajkckjpfbkpmaa.Ari

theorem work_take (l : List Dm) (s : Int) (i : Nat) (h : i < l.length) : work (l.take (i + 1)) s = work (l.take i) s + (l.getD i default).c * jobs (l.getD i default) s := by
  have e : l.getD i default = l[i] := by rw [List.getD_eq_getElem?_getD, List.getElem?_eq_getElem h]; rfl
  have e2 : work [l[i]] s = l[i].c * jobs l[i] s := by simp [work]
  rw [e, List.take_add_one, List.getElem?_eq_getElem h]
  show work (l.take i ++ [l[i]]) s = _
  rw [work_append, e2]
theorem oks_take {l : List Dm} (h : Oks l) (i : Nat) : Oks (l.take i) := fun x hx => h x (List.mem_of_mem_take hx)

end Go.Proofs.Ytajkckjpfbkpmaa.Dem
