/-
  Package cache: Step as a function; what holds of a tick.
-/
import Derived.Test.YtjilplfcmkipfaaStep
namespace Go.Proofs.Ytjilplfcmkipfaa.Cache
open Go.RowKit Go.Shelf Go.Proofs.Ytjilplfcmkipfaa.Bits Go.Proofs.Ytjilplfcmkipfaa.Sys Go.Proofs.Ytjilplfcmkipfaa.Box

structure WkV where
  done : Int
  dem : Int
  debt : Int
  rel : Int
  seen : Nat → Nat
def WkV.cells (k : WkV) : Array Value := #[.int .i64 k.done, .int .i64 k.dem, .int .i64 k.debt, .int .i64 k.rel, .int .u64 (k.seen 0 : Int), .int .u64 (k.seen 1 : Int), .int .u64 (k.seen 2 : Int), .int .u64 (k.seen 3 : Int)]
def stepOk (rl : Int) (k : WkV) : Prop := 0 ≤ k.done ∧ k.done < k.dem ∧ 0 ≤ k.debt ∧ 0 ≤ rl ∧ rl ≤ 1000
instance (rl : Int) (k : WkV) : Decidable (stepOk rl k) := by unfold stepOk; infer_instance
/-- A tick: the sets' owners, the work, and whether it was a reload. -/
def stepF (L u : List Int) (id rl : Int) (k : WkV) : List Int × WkV × Bool :=
  if stepOk rl k then
    if 0 < k.debt then (L, ⟨k.done, k.dem, k.debt - 1, IntKind.i64.wrap (k.rel + 1), k.seen⟩, true)
    else if goneB L u id rl k.done k.seen then (useL L (accI u k.done) id, ⟨k.done, k.dem, rl - 1, IntKind.i64.wrap (k.rel + 1), k.seen⟩, true)
    else if accB u k.done then (useL L (accI u k.done) id, ⟨k.done + 1, k.dem, 0, k.rel, withW k.seen (accI u k.done)⟩, false)
    else (L, ⟨k.done + 1, k.dem, 0, k.rel, k.seen⟩, false)
  else (L, k, false)
theorem step_f (p g : Nat) (L : List Int) (r : RT) (rl : Int) (k : WkV) (w : World) (hC : IsC w p g L) (hr : r.Rd w) (hX : Ws k.seen) (hid : ownB r.x.id = true) (hm : accB r.x.use k.done = true → mayB L (accI r.x.use k.done) = true)
    (hb : k.dem ≤ 9223372036854775807) (hc : k.debt ≤ 9223372036854775807) :
    Calls Try.prog 19 #[.pointer (some ⟨p, 0, none⟩), .agg r.vals, .int .i64 rl, .agg k.cells] w fun z w' =>
      z = .returned (.tuple #[.agg (stepF L r.x.use r.x.id rl k).2.1.cells, .bool (stepF L r.x.use r.x.id rl k).2.2]) ∧ IsC w' p g (stepF L r.x.use r.x.id rl k).1 ∧ Only g w w' := by
  unfold RT.vals taskCells WkV.cells
  by_cases ho : stepOk rl k
  · obtain ⟨h0, h1, h2, h3, h4⟩ := ho
    refine step_yes p g L r rl k.done k.dem k.debt k.rel k.seen w hC hr hX hid hm h0 h1 h2 h3 h4 hb hc _ rfl _ ?_ ?_ ?_ ?_
    · intro hd w' h5 h6
      have e : stepF L r.x.use r.x.id rl k = (L, ⟨k.done, k.dem, k.debt - 1, IntKind.i64.wrap (k.rel + 1), k.seen⟩, true) := by
        unfold stepF; rw [if_pos ⟨h0, h1, h2, h3, h4⟩, if_pos hd]
      rw [e]; exact ⟨rfl, h5, h6⟩
    · intro hd hg w' h5 h6
      have e : stepF L r.x.use r.x.id rl k = (useL L (accI r.x.use k.done) r.x.id, ⟨k.done, k.dem, rl - 1, IntKind.i64.wrap (k.rel + 1), k.seen⟩, true) := by
        unfold stepF; rw [if_pos ⟨h0, h1, h2, h3, h4⟩, if_neg (by omega), if_pos hg]
      rw [e]; exact ⟨rfl, h5, h6⟩
    · intro hd hg hu w' h5 h6
      have e : stepF L r.x.use r.x.id rl k = (useL L (accI r.x.use k.done) r.x.id, ⟨k.done + 1, k.dem, 0, k.rel, withW k.seen (accI r.x.use k.done)⟩, false) := by
        unfold stepF; rw [if_pos ⟨h0, h1, h2, h3, h4⟩, if_neg (by omega), if_neg (by rw [hg]; decide), if_pos hu]
      rw [e]; exact ⟨rfl, h5, h6⟩
    · intro hd hu w' h5 h6
      have e : stepF L r.x.use r.x.id rl k = (L, ⟨k.done + 1, k.dem, 0, k.rel, k.seen⟩, false) := by
        have hg : goneB L r.x.use r.x.id rl k.done k.seen = false := by simp [goneB, hu]
        unfold stepF; rw [if_pos ⟨h0, h1, h2, h3, h4⟩, if_neg (by omega), if_neg (by rw [hg]; decide), if_neg (by rw [hu]; decide)]
      rw [e]; exact ⟨rfl, h5, h6⟩
  · have e : stepF L r.x.use r.x.id rl k = (L, k, false) := by unfold stepF; rw [if_neg ho]
    rw [e]
    exact step_not p g L r rl k.done k.dem k.debt k.rel k.seen w hC hid ho
theorem stepF_len (L u : List Int) (id rl : Int) (k : WkV) : (stepF L u id rl k).1.length = L.length := by
  unfold stepF
  repeat' split
  all_goals first | rfl | exact useL_len _ _ _
theorem stepF_ws {L u : List Int} {id rl : Int} {k : WkV} (h : Ws k.seen) : Ws (stepF L u id rl k).2.1.seen := by
  unfold stepF
  repeat' split
  all_goals first | exact h | exact h.or (Ws.one _)
/-- A job's work, as the laws have it. -/
structure WOk (R : Int) (m : Int) (k : WkV) : Prop where
  d0 : 0 ≤ k.done
  dm : k.done ≤ k.dem
  m24 : k.dem ≤ 24
  b0 : 0 ≤ k.debt
  bR : k.debt ≤ R
  r0 : 0 ≤ k.rel
  rm : k.rel ≤ m
  ws : Ws k.seen
/-- A tick is a reload, or a piece of work. -/
theorem tick_parts {L u : List Int} {id R m : Int} {k : WkV} (h : WOk R m k) (hlt : k.done < k.dem) (hR0 : 0 ≤ R) (hR3 : R ≤ 3) (hm : m ≤ 1000) :
    ∃ L' x fl, stepF L u id R k = (L', x, fl) ∧ L'.length = L.length ∧ WOk R (m + 1) x ∧ x.dem = k.dem ∧
      ((fl = false ∧ x.done = k.done + 1 ∧ x.rel = k.rel ∧ x.debt = 0) ∨ (fl = true ∧ x.done = k.done ∧ x.rel = k.rel + 1 ∧ 0 < R ∧ ((0 < k.debt ∧ x.debt = k.debt - 1) ∨ k.debt = 0))) := by
  obtain ⟨d0, dm, m24, b0, bR, r0, rm, ws⟩ := h
  have hw : IntKind.i64.wrap (k.rel + 1) = k.rel + 1 := by rw [IntKind.wrap_i64]; omega
  have hl := stepF_len L u id R k
  have hs := stepF_ws (L := L) (u := u) (id := id) (rl := R) ws
  have hok : stepOk R k := ⟨d0, hlt, b0, hR0, by omega⟩
  unfold stepF at *
  rw [if_pos hok] at *
  by_cases hd : 0 < k.debt
  · rw [if_pos hd] at *
    refine ⟨_, _, _, rfl, hl, ⟨d0, by show k.done ≤ k.dem; omega, m24, by show 0 ≤ k.debt - 1; omega, by show k.debt - 1 ≤ R; omega, by show 0 ≤ IntKind.i64.wrap _; omega, by show IntKind.i64.wrap _ ≤ _; omega, hs⟩, rfl, .inr ⟨rfl, rfl, hw, by omega, .inl ⟨hd, rfl⟩⟩⟩
  · rw [if_neg hd] at *
    by_cases hg : goneB L u id R k.done k.seen = true
    · rw [if_pos hg] at *
      have hRp : 0 < R := by
        unfold goneB at hg
        simp at hg
        omega
      refine ⟨_, _, _, rfl, hl, ⟨d0, by show k.done ≤ k.dem; omega, m24, by show 0 ≤ R - 1; omega, by show R - 1 ≤ R; omega, by show 0 ≤ IntKind.i64.wrap _; omega, by show IntKind.i64.wrap _ ≤ _; omega, hs⟩, rfl, .inr ⟨rfl, rfl, hw, hRp, .inr (by omega)⟩⟩
    · rw [if_neg hg] at *
      by_cases hu : accB u k.done = true
      · rw [if_pos hu] at *
        exact ⟨_, _, _, rfl, hl, ⟨by show 0 ≤ k.done + 1; omega, by show k.done + 1 ≤ k.dem; omega, m24, Int.le_refl _, hR0, r0, by show k.rel ≤ _; omega, hs⟩, rfl, .inl ⟨rfl, rfl, rfl, rfl⟩⟩
      · rw [if_neg hu] at *
        exact ⟨_, _, _, rfl, hl, ⟨by show 0 ≤ k.done + 1; omega, by show k.done + 1 ≤ k.dem; omega, m24, Int.le_refl _, hR0, r0, by show k.rel ≤ _; omega, hs⟩, rfl, .inl ⟨rfl, rfl, rfl, rfl⟩⟩
end Go.Proofs.Ytjilplfcmkipfaa.Cache
