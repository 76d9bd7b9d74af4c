/-
  The statement DemandPeriods, walked.
-/
import Derived.Test.YtcgfaddegglnkaaDem9
namespace Go.Proofs.Ytcgfaddegglnkaa.Dem
open Go.RowKit Go.Shelf Go.Proofs.Ytcgfaddegglnkaa.Ari

set_option maxHeartbeats 8000000 in
set_option maxRecDepth 100000 in
theorem DemandPeriods_walk (a0 : Option Addr) (len0 cap0 : Nat) (z0 : List (Int × Int × Int)) (a1 : Int) (W : World) (w0 : Row0.IsTrips .i64 W a0 len0 cap0 z0) (_w1 : (Lit.int .i64 a1).wf = true) :
    Calls Try.prog 6 #[.slice a0 len0 cap0, .int .i64 a1] W fun e w' => e = .returned (.bool true) ∧ Below W.heap.size W w' := by
  have HP := Lib.hid w0
  clear w0
  have et := Row0.and_i64 a1 10 (by decide) 1023 rfl
  obtain ⟨t, ht, t0, t1⟩ : ∃ t, a1 % 1024 = t ∧ 0 ≤ t ∧ t ≤ 1023 := ⟨_, rfl, by omega, by omega⟩
  have ea : Go.bits .and .i64 a1 1023 = t := et.trans ht
  clear et ht
  go_enter Try.func6, Try.ntmps6
  go_wp2_with fail
  refine (awakeD_any W).mono ?_
  rintro e W1 ⟨rfl, hb1⟩
  have HB1 := Lib.hid hb1
  clear hb1
  go_wp2_with fail
  have hp1 : Row0.IsTrips .i64 W1 a0 len0 cap0 z0 := HP.out.below HB1.out (Nat.le_refl _)
  refine (made_any a0 len0 cap0 z0 W1 hp1).mono ?_
  rintro e W2 ⟨v, l, rfl, hsm, hln, hown, hb2⟩
  have hn6 : min len0 6 ≤ 6 := Nat.min_le_right _ _
  generalize min len0 6 = n at *
  obtain ⟨A, c, rfl, hrd, _, _, _⟩ := own_rdD hown (by omega)
  obtain ⟨P, hP⟩ := small_per hsm
  have HB2 : Hid (Below W.heap.size W W2) := HB1.out.trans (hb2.mono HB1.out.size)
  have ho := hsm.oks
  have p0 := hP.pos
  have p1 := hP.le
  have lb := load_bd ho (show 0 ≤ P by omega) p1
  have wb := work_bd l ho t0 (show t ≤ 4194304 by omega)
  rw [hln] at lb wb
  have hL : ∀ w, Below W2.heap.size W2 w → Hid (Calls Try.prog 14 #[.slice A n c] w fun e w' => e = .returned (.tuple #[.int .i64 (loadI l P), .int .i64 P, .int .i64 0]) ∧ Below w.heap.size w w') := fun w hb => load_any A n c l ho P hP w (hrd.below hb (Nat.le_refl _))
  have hQ : ∀ w, Below W2.heap.size W2 w → Hid (Calls Try.prog 15 #[.slice A n c] w fun e w' => e = .returned (.tuple #[.int .i64 P, .int .i64 0]) ∧ Below w.heap.size w w') := fun w hb => period_any A n c l ho P hP w (hrd.below hb (Nat.le_refl _))
  have hO1 := of_at hrd c ho t0 (show t ≤ 4194304 by omega)
  have hO2 := of_at hrd c ho (show 0 ≤ t + P by omega) (show t + P ≤ 4194304 by omega)
  simp only [work_period ho hP t0] at hO2
  have e1 : IntKind.i64.wrap (t + P) = t + P := by rw [IntKind.wrap_i64]; omega
  have e2 : IntKind.i64.wrap (work l t + loadI l P) = work l t + loadI l P := by rw [IntKind.wrap_i64]; omega
  clear lb wb hown hb2 hp1 HB1 HP hrd hsm hP ho
  generalize work l t = K at *
  generalize loadI l P = L at *
  have Hb0 : Hid (Below W2.heap.size W2 W2) := Below.refl _ _
  go_wp2_with fail
  refine (hL _ Hb0.out).out.mono ?_
  rintro e V1 ⟨rfl, hb⟩
  have Hb1 : Hid (Below W2.heap.size W2 V1) := hb
  clear hb Hb0 hL
  go_wp2_with fail
  refine (hO1 _ Hb1.out).out.mono ?_
  rintro e V2 ⟨rfl, hb⟩
  have Hb2 : Hid (Below W2.heap.size W2 V2) := Hb1.out.trans (hb.mono Hb1.out.size)
  clear hb Hb1 hO1
  go_wp2_with fail
  refine (hO2 _ Hb2.out).out.mono ?_
  rintro e V3 ⟨rfl, hb⟩
  have Hb3 : Hid (Below W2.heap.size W2 V3) := Hb2.out.trans (hb.mono Hb2.out.size)
  clear hb Hb2 hO2
  go_wp2_with fail
  refine (hQ _ Hb3.out).out.mono ?_
  rintro e V4 ⟨rfl, hb⟩
  have HBZ : Hid (Below W.heap.size W V4) := HB2.out.trans ((Hb3.out.trans (hb.mono Hb3.out.size)).mono HB2.out.size)
  clear hb Hb3 hQ HB2
  go_wp2
  go_ret
  exact ⟨rfl, HBZ.out⟩
end Go.Proofs.Ytcgfaddegglnkaa.Dem
