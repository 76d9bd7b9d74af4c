/-
  The statement BitsBack, walked.
-/
import Derived.Test.YtfejmcoaljelpaaBits16
namespace Go.Proofs.Ytfejmcoaljelpaa.Bits
open Go.RowKit Go.Shelf

theorem cast_getD (l : List Nat) (i : Nat) (h : i < l.length) : (cast l).getD i 0 = ((l[i] : Nat) : Int) := by
  simp [cast, List.getD_eq_getElem?_getD, List.getElem?_eq_getElem h]
/-- What the statement says of a set's numbers. -/
theorem back_at {A : Nat → Nat} (i : Nat) (h : i < (listN A).length) : 0 ≤ (cast (listN A)).getD i 0 ∧ (cast (listN A)).getD i 0 ≤ 255 ∧ hasI A ((cast (listN A)).getD i 0) = true := by
  rw [cast_getD _ _ h]
  have hm := (mem_list A ((listN A)[i])).1 (List.getElem_mem h)
  refine ⟨by omega, by omega, ?_⟩
  unfold hasI
  rw [if_pos (by omega), Int.toNat_natCast]
  exact hm.2
theorem back_lt {A : Nat → Nat} (i : Nat) (h : i + 1 < (listN A).length) : (cast (listN A)).getD i 0 < (cast (listN A)).getD (i + 1) 0 := by
  rw [cast_getD _ _ h, cast_getD _ _ (by omega)]
  have hp : (listN A).Pairwise (· < ·) := List.Pairwise.filter _ List.pairwise_lt_range
  have := List.pairwise_iff_getElem.1 hp i (i + 1) (by omega) h (by omega)
  omega
theorem back_of {A : Nat → Nat} (hA : Ws A) : eqN (ofN (cast (listN A))) A = true := by
  refine eqN_ext (Ws.ofN _) hA fun k hk => ?_
  rw [has_ofN _ _ hk, Bool.eq_iff_iff, List.any_eq_true]
  constructor
  · rintro ⟨x, hx, he⟩
    obtain ⟨m, hm, rfl⟩ := List.mem_map.1 hx
    have : m = k := by have := of_decide_eq_true he; omega
    subst this
    exact ((mem_list A m).1 hm).2
  · intro h
    exact ⟨(k : Int), List.mem_map.2 ⟨k, (mem_list A k).2 ⟨hk, h⟩, rfl⟩, by simp⟩
theorem RdI.atI {w : World} {b o n : Nat} {zs : List Int} (h : RdI w (some ⟨b, o, none⟩) n zs) (i : Nat) (hi : i < n) : w.cell? ⟨b, o + i, none⟩ = some (.int .i64 (zs.getD i 0)) := by
  obtain ⟨b', o', e, hc⟩ := h.2.2 (by omega)
  cases e
  exact hc i hi

end Go.Proofs.Ytfejmcoaljelpaa.Bits
