/-
  The statement CacheAlone: plain.
-/
import Derived.Test.YtjilplfcmkipfaaTk
namespace Go.Proofs.Ytjilplfcmkipfaa.Cache
open Go.RowKit Go.Shelf Go.Proofs.Ytjilplfcmkipfaa.Bits Go.Proofs.Ytjilplfcmkipfaa.Sys Go.Proofs.Ytjilplfcmkipfaa.Box

/-- Whatever a job has used is its own. -/
structure Alone (L : List Int) (id : Int) (X : Nat → Nat) : Prop where
  ws : Ws X
  own : ∀ i, i < 256 → hasN X i = true → i < L.length ∧ L.getD i 0 = id
theorem Alone.none (L : List Int) (id : Int) : Alone L id noneW := ⟨Ws.none, fun i _ h => by rw [has_none] at h; cases h⟩
theorem Alone.gone {L u : List Int} {id rl a : Int} {X : Nat → Nat} (h : Alone L id X) : goneB L u id rl a X = false := by
  unfold goneB
  cases hh : hasI X (accI u a) with
  | false => simp
  | true =>
    have h0 : 0 ≤ accI u a ∧ accI u a < 256 := by
      unfold hasI at hh
      split at hh
      · assumption
      · cases hh
    unfold hasI at hh
    rw [if_pos h0] at hh
    obtain ⟨h1, h2⟩ := h.own _ (by omega) hh
    have hm : mayB L (accI u a) = true := decide_eq_true (by omega)
    have : ownerI L (accI u a) = id := by unfold ownerI; rw [if_pos hm]; exact h2
    rw [this]
    simp
theorem Alone.use {L : List Int} {id : Int} {X : Nat → Nat} (h : Alone L id X) (set : Int) (hm : mayB L set = true) (ho : ownB id = true) : Alone (useL L set id) id (withW X set) := by
  have hs := of_decide_eq_true hm
  have e : useL L set id = L.set set.toNat id := by unfold useL; rw [hm, ho]; rfl
  refine ⟨h.ws.or (Ws.one _), fun i hi hh => ?_⟩
  rw [has_with _ _ _ hi, Bool.or_eq_true, decide_eq_true_iff] at hh
  rw [e, List.length_set]
  by_cases es : set.toNat = i
  · subst es
    have hl : set.toNat < L.length := by omega
    exact ⟨hl, by simp [List.getD_eq_getElem?_getD, hl]⟩
  · rcases hh with hh | hh
    · obtain ⟨h1, h2⟩ := h.own i hi hh
      exact ⟨h1, by simpa [List.getD_eq_getElem?_getD, List.getElem?_set_ne es] using h2⟩
    · omega
/-- A tick of a job that runs alone. -/
theorem alone_tick {L u : List Int} {id R dn dm : Int} {X : Nat → Nat} (h : Alone L id X) (hm : accB u dn = true → mayB L (accI u dn) = true) (ho : ownB id = true) (h0 : 0 ≤ dn) (h1 : dn < dm) (hR0 : 0 ≤ R) (hR3 : R ≤ 3) :
    ∃ L' X', stepF L u id R ⟨dn, dm, 0, 0, X⟩ = (L', ⟨dn + 1, dm, 0, 0, X'⟩, false) ∧ Alone L' id X' ∧ L'.length = L.length := by
  have hok : stepOk R ⟨dn, dm, 0, 0, X⟩ := ⟨h0, h1, Int.le_refl _, hR0, by omega⟩
  unfold stepF
  rw [if_pos hok, if_neg (show ¬ (0 : Int) < 0 by decide), if_neg (by show ¬ goneB L u id R dn X = true; rw [h.gone]; decide)]
  by_cases hu : accB u dn = true
  · rw [if_pos hu]
    exact ⟨_, _, rfl, h.use _ (hm hu) ho, useL_len _ _ _⟩
  · rw [if_neg hu]
    exact ⟨_, _, rfl, h, rfl⟩
theorem alone_end (L u : List Int) (id R dm : Int) (X : Nat → Nat) : stepF L u id R ⟨dm, dm, 0, 0, X⟩ = (L, ⟨dm, dm, 0, 0, X⟩, false) := by
  unfold stepF
  rw [if_neg (fun h => by have := h.2.1; simp at this)]
theorem alone_and {L : List Int} {id : Int} {X : Nat → Nat} (h : Alone L id X) (h1 : 1 ≤ id) (h2 : id ≤ 99) : eqN (andW X (ofN (ofL L id))) X = true := eqN_ext h.ws.and h.ws fun m hm => by
  rw [has_and, has_of L id h1 h2 m hm]
  cases hh : hasN X m with
  | false => rfl
  | true =>
    obtain ⟨h3, h4⟩ := h.own m hm hh
    rw [h4]
    simp [h3]
end Go.Proofs.Ytjilplfcmkipfaa.Cache
