/-
  Package demand: the iterator over deadlines.
-/
import Derived.Test.YtajkckjpfbkpmaaDem11
import Derived.Test.YtajkckjpfbkpmaaScope
import Derived.RangeFuncBox
import Derived.RangeFuncNested
import Derived.RangeFuncBound
import Derived.RangeFuncCalls
import Derived.RangeFuncLeaves
import Derived.Shelf.Abstract
import Derived.Shelf.RegionOpen
import Derived.OwnWalkIn
import Derived.TacticsInMore
import Derived.LoopNIn
import Derived.LoopIn
import Derived.Maps.AppendAt
import Derived.Sort.QuietIn
import Derived.Lib.MinMax
namespace Go.Proofs.Ytajkckjpfbkpmaa.Dem
open Go.RowKit Go.Shelf Go.Proofs.Ytajkckjpfbkpmaa.Ari
attribute [local go_sem] Oper.semAt_some

theorem cell1 {w : World} {b : Nat} {v : Value} {t : TypeId} (h : w.heap[b]? = some (.cells #[v] t (0, 0))) : w.cell? ⟨b, 0, none⟩ = some v := by simp [World.cell?, h]
/-- What a round keeps: all below n₀, the iterator's three boxes from B on. -/
structure Kp3 (n₀ B : Nat) (w w' : World) : Prop where
  b : Below n₀ w w'
  k : ∀ j, B ≤ j → j < B + 3 → w'.heap[j]? = w.heap[j]?
theorem Kp3.refl (n₀ B : Nat) (w : World) : Kp3 n₀ B w w := ⟨Below.refl _ _, fun _ _ _ => rfl⟩
theorem Kp3.trans {n₀ B : Nat} {a b c : World} (h : Kp3 n₀ B a b) (k : Kp3 n₀ B b c) : Kp3 n₀ B a c := ⟨h.b.trans k.b, fun j h1 h2 => (k.k j h1 h2).trans (h.k j h1 h2)⟩
theorem Kp3.below {n₀ B : Nat} {w w' : World} (h : Below w.heap.size w w') (hn : n₀ ≤ w.heap.size) (hB : B + 3 ≤ w.heap.size) : Kp3 n₀ B w w' := ⟨h.mono hn, fun j _ h2 => h.block j (by omega)⟩
theorem Kp3.put {n₀ B : Nat} {w : World} (hn : n₀ ≤ w.heap.size) (hB : B + 3 ≤ w.heap.size) (W : World) (l : Nat) (o o' : Obj) (hl : w.heap.size ≤ l) (h : W.heap[l]? = some o) (h1 : o.isCells = false) (h2 : o.isWalk = false) : Kp3 n₀ B W (W.putObj l o') :=
  ⟨belowK_b hn W l o o' hl h h1 h2, fun j _ hj => (grownBy_putObj' W l o').block _ (by have := (Array.getElem?_eq_some_iff.1 h).1; omega) (fun e => by cases e; omega)⟩
/-- What the iterator finds. -/
structure Seen3 (n₀ B : Nat) (A : Option Addr) (n c : Nat) (l : List Dm) (frm til : Int) (w : World) : Prop where
  s : w.heap[B]? = some (.cells #[.slice A n c] 25 (0, 0))
  f : w.heap[B + 1]? = some (.cells #[.int .i64 frm] 2 (0, 0))
  t : w.heap[B + 2]? = some (.cells #[.int .i64 til] 2 (0, 0))
  rd : ∀ w', Below n₀ w w' → RdD w' A n l
theorem Seen3.kept {n₀ B : Nat} {A : Option Addr} {n c : Nat} {l : List Dm} {frm til : Int} {w w' : World} (h : Seen3 n₀ B A n c l frm til w) (hb : Kp3 n₀ B w w') : Seen3 n₀ B A n c l frm til w' :=
  ⟨(hb.k _ (Nat.le_refl _) (by omega)).trans h.s, (hb.k _ (by omega) (by omega)).trans h.f, (hb.k _ (by omega) (by omega)).trans h.t, fun w2 h2 => h.rd w2 (hb.b.trans h2)⟩
/-- A time that is handed on. -/
abbrev Tm := {t : Int // 0 ≤ t ∧ t ≤ 1048576}
def tms (l : List Tm) : List Int := l.map (·.1)
theorem tms_snoc (l : List Tm) (x : Tm) : tms (l ++ [x]) = tms l ++ [x.1] := by simp [tms]
theorem tms_nil : tms [] = [] := rfl
theorem dls_pre {L pre r : List Int} (h : L = pre ++ r) : pre <+: L := ⟨r, h.symm⟩

end Go.Proofs.Ytajkckjpfbkpmaa.Dem
