/-
  The statement PostNil, walked.
-/
import Derived.Test.YtmobimkbfmgciaaPost7
namespace Go.Proofs.Ytmobimkbfmgciaa.Post
open Go.Conc Go.RowKit

set_option maxHeartbeats 8000000 in
set_option maxRecDepth 100000 in
theorem PostNil_walk (a0 x y : Int) (W : World) (_w0 : (Lit.int .i64 a0).wf = true) (_w1 : (Lit.int .i64 x).wf = true) (_w2 : (Lit.int .i64 y).wf = true) :
    Calls Try.prog 8 #[.int .i64 a0, .agg #[.int .i64 x, .int .i64 y]] W fun e w' => e = .returned (.bool true) ∧ Below W.heap.size W w' := by
  have HA := fun w => Lib.hid (awake_any w)
  have HN : ∀ w, Hid (Calls Try.prog 10 #[.int .i64 a0] w fun e w' => ∃ P : Option Addr, (P = none ↔ ¬ (1 ≤ a0 ∧ a0 ≤ 1000)) ∧ e = .returned (.pointer P) ∧ w.grownBy w' none) := by
    intro w
    by_cases h : 1 ≤ a0 ∧ a0 ≤ 1000
    · refine (new_any a0 a0.toNat (by omega) (by omega) (by omega) w).mono ?_
      rintro e w' ⟨bp, ch, rfl, _, h2, _⟩
      exact ⟨some ⟨bp, 0, none⟩, by simp [h], rfl, h2⟩
    · refine (new_no a0 (by omega) w).mono ?_
      rintro e w' ⟨rfl, rfl⟩
      exact ⟨none, by simpa using h, rfl, gb_refl _ _⟩
  obtain ⟨W0, hW0⟩ : ∃ W0, W.alloc (.cells #[.int .i64 x, .int .i64 y] 28) = W0 := ⟨_, rfl⟩
  have hbW : Hid (Below W.heap.size W W0) := by rw [← hW0]; exact (Below.refl W.heap.size W).alloc (Nat.le_refl _) _
  have hc0 : W0.cell? ⟨W.heap.size, 0, none⟩ = some (.int .i64 x) := by rw [← hW0, World.cell?_alloc_at _ _ _ _ rfl]; rfl
  have hc1 : W0.cell? ⟨W.heap.size, 1, none⟩ = some (.int .i64 y) := by rw [← hW0, World.cell?_alloc_at _ _ _ _ rfl]; rfl
  have hs0 : W0.heap.size = W.heap.size + 1 := by rw [← hW0]; simp
  have HC : Hid (∀ w, Below W0.heap.size W0 w → w.cell? ⟨W.heap.size, 0, none⟩ = some (.int .i64 x) ∧ w.cell? ⟨W.heap.size, 1, none⟩ = some (.int .i64 y)) := fun w hb =>
    ⟨(World.cell?_of_block (a := ⟨W.heap.size, 0, none⟩) (hb.block _ (by rw [hs0]; exact Nat.lt_succ_self _))).trans hc0, (World.cell?_of_block (a := ⟨W.heap.size, 1, none⟩) (hb.block _ (by rw [hs0]; exact Nat.lt_succ_self _))).trans hc1⟩
  have HE : Hid (∀ w, Below W0.heap.size W0 w → Below W.heap.size W w) := fun w hb => hbW.out.trans (hb.mono (by omega))
  go_enter Try.func8, Try.ntmps8
  go_wp2_with fail
  clear hc0 hc1 hW0 hs0 hbW
  refine (HN _).out.mono ?_
  rintro e W1 ⟨P, hP, rfl, hg1⟩
  have hB1 : Hid (Below W0.heap.size W0 W1) := (Below.refl _ _).grown hg1 (Nat.le_refl _) (fun k e => by cases e)
  clear hg1 HN
  go_wp2_with fail
  refine (take_nil W1).mono ?_
  rintro e W2 ⟨rfl, hg2⟩
  have hB2 : Hid (Below W0.heap.size W0 W2) := hB1.out.grown hg2 hB1.out.size (fun k e => by cases e)
  clear hg2 hB1
  unfold askV
  go_wp2_with fail
  refine (new_any 3 3 rfl (by decide) (by decide) _).mono ?_
  rintro e W3 ⟨bp, ch, rfl, hb3, hg3, l1, l2⟩
  have hB3 : Hid (Below W0.heap.size W0 W3) := (hB2.out.alloc hB2.out.size _).grown hg3 (by have := hB2.out.size; simp; omega) (fun k e => by cases e)
  have HX3 : Hid (IsBox W3 bp ch 3 [] false) := hb3
  have L2 : W0.heap.size ≤ ch := by have := hB2.out.size; simp at l2; omega
  clear hb3 hg3 hB2 l1 l2
  obtain ⟨c0, c1⟩ := HC.out _ hB3.out
  go_wp2_with fail
  refine (put_any bp ch 3 [] false x y W3 HX3.out).mono ?_
  rintro e W4 ⟨rfl, hb4, hg4⟩
  have HX4 : Hid (IsBox W4 bp ch 3 [(x, y)] false) := hb4
  have hB4 : Hid (Below W0.heap.size W0 W4) := hB3.out.grown hg4 hB3.out.size (fun k e => by cases e; exact L2)
  clear hb4 hg4 hB3 HX3 c0 c1
  go_wp2_with fail
  refine (HA _).out.mono ?_
  rintro e W5 ⟨rfl, hb5⟩
  have HX5 : Hid (IsBox W5 bp ch 3 [(x, y)] false) := HX4.out.kept (hb5.block bp HX4.out.lt.1) (hb5.block ch HX4.out.lt.2.1)
  have hB5 : Hid (Below W0.heap.size W0 W5) := hB4.out.trans (hb5.mono hB4.out.size)
  clear hb5 hB4 HX4
  have hP3 : (P = none ∧ a0 < 1) ∨ (P = none ∧ 1 ≤ a0 ∧ 1000 < a0) ∨ (∃ ad, P = some ad) ∧ 1 ≤ a0 ∧ a0 ≤ 1000 := by
    cases P with
    | none => have : ¬ (1 ≤ a0 ∧ a0 ≤ 1000) := hP.1 rfl; simp; omega
    | some ad => refine .inr (.inr ⟨⟨ad, rfl⟩, ?_⟩); exact Decidable.byContradiction fun h => by simpa using hP.2 h
  clear hP
  obtain ⟨c0, c1⟩ := HC.out _ hB5.out
  rcases hP3 with ⟨rfl, i1⟩ | ⟨rfl, i1, i2⟩ | ⟨⟨ad, rfl⟩, i1, i2⟩
  · go_wp2_with fail
    refine (put_nil x y W5).mono ?_
    rintro e W6 ⟨rfl, hg6⟩
    have HX6 : Hid (IsBox W6 bp ch 3 [(x, y)] false) := HX5.out.grown hg6 (fun e => by cases e) (fun e => by cases e)
    have hB6 : Hid (Below W0.heap.size W0 W6) := hB5.out.grown hg6 hB5.out.size (fun k e => by cases e)
    clear hg6 HX5 hB5 c0 c1
    go_wp2_with fail
    refine (drain_nil 5 W6).mono ?_
    rintro e W7 ⟨rfl, hg7⟩
    have HX7 : Hid (IsBox W7 bp ch 3 [(x, y)] false) := HX6.out.grown hg7 (fun e => by cases e) (fun e => by cases e)
    have hB7 : Hid (Below W0.heap.size W0 W7) := hB6.out.grown hg7 hB6.out.size (fun k e => by cases e)
    clear hg7 HX6 hB6
    go_wp2_with fail
    refine (move_from_nil bp ch 3 _ _ 5 W7 HX7.out (by decide)).mono ?_
    rintro e W8 ⟨rfl, hg8⟩
    have HX8 : Hid (IsBox W8 bp ch 3 [(x, y)] false) := HX7.out.grown hg8 (fun e => by cases e) (fun e => by cases e)
    have hB8 : Hid (Below W0.heap.size W0 W8) := hB7.out.grown hg8 hB7.out.size (fun k e => by cases e)
    clear hg8 HX7 hB7
    go_wp2_with fail
    refine (move_to_nil bp ch 3 _ _ 5 W8 HX8.out (by decide)).mono ?_
    rintro e W9 ⟨rfl, hx9, hg9⟩
    have HX9 : Hid (IsBox W9 bp ch 3 [(x, y)] false) := hx9
    have hB9 : Hid (Below W0.heap.size W0 W9) := hB8.out.grown hg9 hB8.out.size (fun k e => by cases e; exact L2)
    clear hg9 hx9 HX8 hB8
    go_wp2_with fail
    refine (shut_nil W9).mono ?_
    rintro e _ ⟨rfl, rfl⟩
    go_wp2_with fail
    refine (open_nil W9).mono ?_
    rintro e _ ⟨rfl, rfl⟩
    go_wp2_with fail
    refine (len_nil W9).mono ?_
    rintro e _ ⟨rfl, rfl⟩
    go_wp2_with fail
    refine (room_nil W9).mono ?_
    rintro e _ ⟨rfl, z, rfl⟩
    have HX10 : Hid (IsBox (W9.drewN z) bp ch 3 [(x, y)] false) := HX9.out.kept rfl rfl
    go_wp2_with fail
    refine (len_any bp ch 3 [(x, y)] false _ HX10.out).mono ?_
    rintro e _ ⟨rfl, rfl⟩
    go_wp2
    go_ret
    exact ⟨rfl, HE.out _ (below_dnx hB9.out z)⟩
  · have i3 : ¬ (a0 ≤ 1000) := by omega
    go_wp2_with fail
    refine (put_nil x y W5).mono ?_
    rintro e W6 ⟨rfl, hg6⟩
    have HX6 : Hid (IsBox W6 bp ch 3 [(x, y)] false) := HX5.out.grown hg6 (fun e => by cases e) (fun e => by cases e)
    have hB6 : Hid (Below W0.heap.size W0 W6) := hB5.out.grown hg6 hB5.out.size (fun k e => by cases e)
    clear hg6 HX5 hB5 c0 c1
    go_wp2_with fail
    refine (drain_nil 5 W6).mono ?_
    rintro e W7 ⟨rfl, hg7⟩
    have HX7 : Hid (IsBox W7 bp ch 3 [(x, y)] false) := HX6.out.grown hg7 (fun e => by cases e) (fun e => by cases e)
    have hB7 : Hid (Below W0.heap.size W0 W7) := hB6.out.grown hg7 hB6.out.size (fun k e => by cases e)
    clear hg7 HX6 hB6
    go_wp2_with fail
    refine (move_from_nil bp ch 3 _ _ 5 W7 HX7.out (by decide)).mono ?_
    rintro e W8 ⟨rfl, hg8⟩
    have HX8 : Hid (IsBox W8 bp ch 3 [(x, y)] false) := HX7.out.grown hg8 (fun e => by cases e) (fun e => by cases e)
    have hB8 : Hid (Below W0.heap.size W0 W8) := hB7.out.grown hg8 hB7.out.size (fun k e => by cases e)
    clear hg8 HX7 hB7
    go_wp2_with fail
    refine (move_to_nil bp ch 3 _ _ 5 W8 HX8.out (by decide)).mono ?_
    rintro e W9 ⟨rfl, hx9, hg9⟩
    have HX9 : Hid (IsBox W9 bp ch 3 [(x, y)] false) := hx9
    have hB9 : Hid (Below W0.heap.size W0 W9) := hB8.out.grown hg9 hB8.out.size (fun k e => by cases e; exact L2)
    clear hg9 hx9 HX8 hB8
    go_wp2_with fail
    refine (shut_nil W9).mono ?_
    rintro e _ ⟨rfl, rfl⟩
    go_wp2_with fail
    refine (open_nil W9).mono ?_
    rintro e _ ⟨rfl, rfl⟩
    go_wp2_with fail
    refine (len_nil W9).mono ?_
    rintro e _ ⟨rfl, rfl⟩
    go_wp2_with fail
    refine (room_nil W9).mono ?_
    rintro e _ ⟨rfl, z, rfl⟩
    have HX10 : Hid (IsBox (W9.drewN z) bp ch 3 [(x, y)] false) := HX9.out.kept rfl rfl
    go_wp2_with fail
    refine (len_any bp ch 3 [(x, y)] false _ HX10.out).mono ?_
    rintro e _ ⟨rfl, rfl⟩
    go_wp2
    go_ret
    refine ⟨?_, HE.out _ (below_dnx hB9.out z)⟩
    show Ending.returned (Value.bool (!decide (a0 ≤ 1000))) = _
    rw [decide_eq_false (show ¬ a0 ≤ 1000 by omega)]
    rfl
  · go_wp2_with fail
    refine (put_nil x y W5).mono ?_
    rintro e W6 ⟨rfl, hg6⟩
    have HX6 : Hid (IsBox W6 bp ch 3 [(x, y)] false) := HX5.out.grown hg6 (fun e => by cases e) (fun e => by cases e)
    have hB6 : Hid (Below W0.heap.size W0 W6) := hB5.out.grown hg6 hB5.out.size (fun k e => by cases e)
    clear hg6 HX5 hB5 c0 c1
    go_wp2_with fail
    refine (drain_nil 5 W6).mono ?_
    rintro e W7 ⟨rfl, hg7⟩
    have HX7 : Hid (IsBox W7 bp ch 3 [(x, y)] false) := HX6.out.grown hg7 (fun e => by cases e) (fun e => by cases e)
    have hB7 : Hid (Below W0.heap.size W0 W7) := hB6.out.grown hg7 hB6.out.size (fun k e => by cases e)
    clear hg7 HX6 hB6
    go_wp2_with fail
    refine (move_from_nil bp ch 3 _ _ 5 W7 HX7.out (by decide)).mono ?_
    rintro e W8 ⟨rfl, hg8⟩
    have HX8 : Hid (IsBox W8 bp ch 3 [(x, y)] false) := HX7.out.grown hg8 (fun e => by cases e) (fun e => by cases e)
    have hB8 : Hid (Below W0.heap.size W0 W8) := hB7.out.grown hg8 hB7.out.size (fun k e => by cases e)
    clear hg8 HX7 hB7
    go_wp2_with fail
    refine (move_to_nil bp ch 3 _ _ 5 W8 HX8.out (by decide)).mono ?_
    rintro e W9 ⟨rfl, hx9, hg9⟩
    have HX9 : Hid (IsBox W9 bp ch 3 [(x, y)] false) := hx9
    have hB9 : Hid (Below W0.heap.size W0 W9) := hB8.out.grown hg9 hB8.out.size (fun k e => by cases e; exact L2)
    clear hg9 hx9 HX8 hB8
    go_wp2_with fail
    refine (shut_nil W9).mono ?_
    rintro e _ ⟨rfl, rfl⟩
    go_wp2_with fail
    refine (open_nil W9).mono ?_
    rintro e _ ⟨rfl, rfl⟩
    go_wp2_with fail
    refine (len_nil W9).mono ?_
    rintro e _ ⟨rfl, rfl⟩
    go_wp2_with fail
    refine (room_nil W9).mono ?_
    rintro e _ ⟨rfl, z, rfl⟩
    have HX10 : Hid (IsBox (W9.drewN z) bp ch 3 [(x, y)] false) := HX9.out.kept rfl rfl
    go_wp2_with fail
    refine (len_any bp ch 3 [(x, y)] false _ HX10.out).mono ?_
    rintro e _ ⟨rfl, rfl⟩
    go_wp2
    go_ret
    exact ⟨rfl, HE.out _ (below_dnx hB9.out z)⟩
end Go.Proofs.Ytmobimkbfmgciaa.Post
