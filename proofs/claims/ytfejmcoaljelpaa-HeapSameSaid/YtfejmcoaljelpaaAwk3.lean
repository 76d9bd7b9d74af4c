/-
  The heap's example; a heap that is none; the statement HeapNil, walked.
-/
import Derived.Test.YtfejmcoaljelpaaHp9
namespace Go.Proofs.Ytfejmcoaljelpaa.Hp
open Go.RowKit Go.Maps Go.Proofs.Ytfejmcoaljelpaa.Box

theorem awake3_any (w : World) : Calls Try.prog 9 #[] w fun e w' => e = .returned (.bool true) ∧ Below w.heap.size w w' := by
  go_enter Try.func9, Try.ntmps9
  go_wp2_with fail
  refine (new_b w).mono ?_
  rintro e w1 ⟨p, bm, rfl, h1, hb1⟩
  have K1 := put_b h1 1 3 (by decide) (by decide) (by decide)
  have HB1 := Lib.hid hb1
  clear h1 hb1
  go_wp2_with fail
  refine K1.mono ?_
  rintro e w2 (⟨h, _⟩ | ⟨_, rfl, h2, k2⟩)
  · exact absurd h (by decide)
  have K2 := put_b h2 2 5 (by decide) (by decide) (by decide)
  have HB2 : Hid (Below w.heap.size w w2) := HB1.out.trans (k2.below (fun j hj => hj) HB1.out.size)
  clear h2 k2 K1
  go_wp2_with fail
  refine K2.mono ?_
  rintro e w3 (⟨h, _⟩ | ⟨_, rfl, h3, k3⟩)
  · exact absurd h (by decide)
  have K3 := lower_b h3 2 1 (by decide) (by decide)
  have HB3 : Hid (Below w.heap.size w w3) := HB2.out.trans (k3.below (fun j hj => hj) HB2.out.size)
  clear h3 k3 K2
  go_wp2_with fail
  refine K3.mono ?_
  rintro e w4 (⟨y0, L', hp, _, rfl, h4, k4⟩ | ⟨h, _⟩)
  · have hy : y0 = 5 := by
      have := hp.symm.mem_iff.1 (List.mem_cons_self ..)
      simp at this
      exact this
    subst hy
    have hL := (List.perm_cons (2, 5)).1 hp
    have h5 := h4.perm (hL.symm.cons (2, 1))
    have K4 := take_b h5 (fun x hx => by simp at hx; rcases hx with rfl | rfl <;> decide)
    have HB4 : Hid (Below w.heap.size w w4) := HB3.out.trans (k4.below (fun j hj => hj) HB3.out.size)
    clear h4 k4 K3 h5 hL hp
    go_wp2_with fail
    refine K4.mono ?_
    rintro e w5 (⟨x, L2, _, hx, rfl, _, k5⟩ | ⟨h, _⟩)
    · have hx2 : x = (2, 1) := by
        have h1 := hx.1
        have h2 := hx.2 (2, 1) (List.mem_cons_self ..)
        simp at h1
        rcases h1 with e | e
        · exact e
        · rw [e] at h2; exact absurd h2 (by decide)
      subst hx2
      have HB5 : Hid (Below w.heap.size w w5) := HB4.out.trans (k5.below (fun j hj => hj) HB4.out.size)
      clear hx k5 K4
      go_wp2_with fail
      go_ret
      exact ⟨rfl, HB5.out⟩
    · cases h
  · have := h 5 (List.mem_cons_self ..)
    omega
theorem place_nil (k : Int) (w : World) : Calls Try.prog 29 #[.pointer none, .int .i64 k] w fun e w' => e = .returned (.tuple #[.int .i64 0, .bool false]) ∧ w = w' := by
  go_enter Try.func29, Try.ntmps29
  go_wp2
  go_ret2
  exact ⟨rfl, rfl⟩
theorem len_nil (w : World) : Calls Try.prog 14 #[.pointer none] w fun e w' => e = .returned (.int .i64 0) ∧ w = w' := by
  go_enter Try.func14, Try.ntmps14
  go_wp2
  go_ret
  exact ⟨rfl, rfl⟩
theorem put_nil (k y : Int) (w : World) : Calls Try.prog 12 #[.pointer none, .int .i64 k, .int .i64 y] w fun e w' => e = .returned (.bool false) ∧ w = w' := by
  go_enter Try.func12, Try.ntmps12
  go_wp2_with fail
  refine (place_nil k w).mono ?_
  rintro e w1 ⟨rfl, rfl⟩
  go_wp2
  go_ret
  exact ⟨rfl, rfl⟩
theorem lower_nil (k y : Int) (w : World) : Calls Try.prog 16 #[.pointer none, .int .i64 k, .int .i64 y] w fun e w' => e = .returned (.bool false) ∧ w = w' := by
  go_enter Try.func16, Try.ntmps16
  go_wp2_with fail
  refine (place_nil k w).mono ?_
  rintro e w1 ⟨rfl, rfl⟩
  go_wp2
  go_ret
  exact ⟨rfl, rfl⟩
theorem drop_nil (k : Int) (w : World) : Calls Try.prog 15 #[.pointer none, .int .i64 k] w fun e w' => e = .returned (.bool false) ∧ w = w' := by
  go_enter Try.func15, Try.ntmps15
  go_wp2_with fail
  refine (place_nil k w).mono ?_
  rintro e w1 ⟨rfl, rfl⟩
  go_wp2
  go_ret
  exact ⟨rfl, rfl⟩
theorem get_nil (k : Int) (w : World) : Calls Try.prog 17 #[.pointer none, .int .i64 k] w fun e w' => e = .returned (.tuple #[.int .i64 0, .bool false]) ∧ w = w' := by
  go_enter Try.func17, Try.ntmps17
  go_wp2_with fail
  refine (place_nil k w).mono ?_
  rintro e w1 ⟨rfl, rfl⟩
  go_wp2
  go_ret2
  exact ⟨rfl, rfl⟩
theorem min_nil (w : World) : Calls Try.prog 18 #[.pointer none] w fun e w' => e = .returned (.tuple #[.int .i64 0, .int .i64 0, .bool false]) ∧ w = w' := by
  go_enter Try.func18, Try.ntmps18
  go_wp2_with fail
  refine (len_nil w).mono ?_
  rintro e w1 ⟨rfl, rfl⟩
  go_wp2
  go_ret3
  exact ⟨rfl, rfl⟩
theorem take_nil (w : World) : Calls Try.prog 13 #[.pointer none] w fun e w' => e = .returned (.tuple #[.int .i64 0, .int .i64 0, .bool false]) ∧ w = w' := by
  go_enter Try.func13, Try.ntmps13
  go_wp2_with fail
  refine (min_nil w).mono ?_
  rintro e w1 ⟨rfl, rfl⟩
  go_wp2
  go_ret3
  exact ⟨rfl, rfl⟩
theorem keys_nil (w : World) : Calls Try.prog 20 #[.pointer none] w fun e w' => e = .returned (.slice none 0 0) ∧ w = w' := by
  go_enter Try.func20, Try.ntmps20
  go_wp2_with fail
  refine (len_nil w).mono ?_
  rintro e w1 ⟨rfl, rfl⟩
  go_wp2
  go_ret
  exact ⟨rfl, rfl⟩
set_option maxRecDepth 100000 in
set_option maxHeartbeats 4000000 in
theorem HeapNil_walk (a0 a1 : Int) (W : World) (_w0 : (Lit.int .i64 a0).wf = true) (_w1 : (Lit.int .i64 a1).wf = true) :
    Calls Try.prog 8 #[.int .i64 a0, .int .i64 a1] W fun e w' => e = .returned (.bool true) ∧ Below W.heap.size W w' := by
  go_enter Try.func8, Try.ntmps8
  go_wp2_with fail
  refine (new_nil W).mono ?_
  rintro e w1 ⟨rfl, rfl⟩
  go_wp2_with fail
  refine (min_nil W).mono ?_
  rintro e w1 ⟨rfl, rfl⟩
  go_wp2_with fail
  refine (take_nil W).mono ?_
  rintro e w1 ⟨rfl, rfl⟩
  go_wp2_with fail
  refine (get_nil a0 W).mono ?_
  rintro e w1 ⟨rfl, rfl⟩
  go_wp2_with fail
  refine (awake3_any W).mono ?_
  rintro e w1 ⟨rfl, hb⟩
  have HB := Lib.hid hb
  clear hb
  go_wp2_with fail
  refine (put_nil a0 a1 w1).mono ?_
  rintro e w2 ⟨rfl, rfl⟩
  go_wp2_with fail
  refine (lower_nil a0 a1 w1).mono ?_
  rintro e w2 ⟨rfl, rfl⟩
  go_wp2_with fail
  refine (drop_nil a0 w1).mono ?_
  rintro e w2 ⟨rfl, rfl⟩
  go_wp2_with fail
  refine (len_nil w1).mono ?_
  rintro e w2 ⟨rfl, rfl⟩
  go_wp2_with fail
  refine (keys_nil w1).mono ?_
  rintro e w2 ⟨rfl, rfl⟩
  go_wp2
  go_ret
  exact ⟨rfl, HB.out⟩
end Go.Proofs.Ytfejmcoaljelpaa.Hp
