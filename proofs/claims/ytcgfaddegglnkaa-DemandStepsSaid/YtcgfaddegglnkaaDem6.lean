/-
  The statement DemandSteps, walked.
-/
import Derived.Test.YtcgfaddegglnkaaDem5
namespace Go.Proofs.Ytcgfaddegglnkaa.Dem
open Go.RowKit Go.Shelf Go.Proofs.Ytcgfaddegglnkaa.Ari

set_option maxHeartbeats 8000000 in
set_option maxRecDepth 100000 in
theorem DemandSteps_walk (a0 : Option Addr) (len0 cap0 : Nat) (z0 : List (Int × Int × Int)) (a1 : Int) (W : World) (w0 : Row0.IsTrips .i64 W a0 len0 cap0 z0) (_w1 : (Lit.int .i64 a1).wf = true) :
    Calls Try.prog 5 #[.slice a0 len0 cap0, .int .i64 a1] W fun e w' => e = .returned (.bool true) ∧ Below W.heap.size W w' := by
  have HP := Lib.hid w0
  clear w0
  have et := Row0.and_i64 a1 8 (by decide) 255 rfl
  obtain ⟨t, ht, t0, t1⟩ : ∃ t, a1 % 256 = t ∧ 0 ≤ t ∧ t ≤ 255 := ⟨_, rfl, by omega, by omega⟩
  have ea : Go.bits .and .i64 a1 255 = t := et.trans ht
  clear et ht
  go_enter Try.func5, Try.ntmps5
  go_wp2_with fail
  refine (awakeD_any W).mono ?_
  rintro e W1 ⟨rfl, hb1⟩
  have HB1 := Lib.hid hb1
  clear hb1
  go_wp2_with fail
  have hp1 : Row0.IsTrips .i64 W1 a0 len0 cap0 z0 := HP.out.below HB1.out (Nat.le_refl _)
  refine (made_any a0 len0 cap0 z0 W1 hp1).mono ?_
  rintro e W2 ⟨v, l, rfl, hsm, hln, hown, hb2⟩
  have hn6 : min len0 6 ≤ 6 := Nat.min_le_right _ _
  generalize min len0 6 = n at *
  obtain ⟨A, c, rfl, hrd, _, _, _⟩ := own_rdD hown (by omega)
  have HR := Lib.hid hrd
  have HB2 : Hid (Below W.heap.size W W2) := HB1.out.trans (hb2.mono HB1.out.size)
  have HO := Lib.hid hsm.oks
  clear hown hb2 hp1 HB1 HP hrd hsm
  by_cases hn0 : n = 0
  · subst hn0
    obtain rfl : l = [] := List.eq_nil_of_length_eq_zero hln
    have hN := Lib.hid (next_any A 0 c [] HO.out t t0 (by omega) W2 HR.out)
    rw [show nextI [] t = 0 from rfl, show decide (0 < 0) = false from rfl] at hN
    go_wp2_with fail
    refine hN.out.mono ?_
    rintro e w' ⟨rfl, hb⟩
    have HB : Hid (Below W.heap.size W w') := HB2.out.trans (hb.mono HB2.out.size)
    clear hb
    go_wp2
    go_ret
    exact ⟨rfl, HB.out⟩
  · have hl : l ≠ [] := by intro h; subst h; exact hn0 hln.symm
    have hnz : ((n : Int) == 0) = false := by simp; omega
    have hnd : decide (0 < n) = true := by simp; omega
    obtain ⟨hy, hz⟩ := last_next HO.out t0 hl
    have hxt := next_gt HO.out hl t
    have hxu := (next_up HO.out t0).2
    have hy0 := last_nonneg l (nextI l t)
    have hg : work l (nextI l t - 1) = work l t := work_congr l fun x hx => jobs_gap HO.out hx (by omega) (by omega)
    obtain ⟨X, hX⟩ : ∃ X, nextI l t = X := ⟨_, rfl⟩
    simp only [hX] at hy hz hxt hxu hy0 hg
    obtain ⟨Y, hY⟩ : ∃ Y, lastI l X = Y := ⟨_, rfl⟩
    simp only [hY] at hy hz hy0
    have hN := fun w h => Lib.hid (next_any A n c l HO.out t t0 (by omega) w h)
    have hNN := fun w h => Lib.hid (next_any A n c l HO.out Y hy0 (by omega) w h)
    have hL := fun w h => Lib.hid (last_any A n c l HO.out X (by omega) (by omega) w h)
    have hO1 := fun w h => Lib.hid (of_any A n c l HO.out t t0 (by omega) w h)
    have hO2 := fun w h => Lib.hid (of_any A n c l HO.out (X - 1) (by omega) (by omega) w h)
    simp only [hnd, hX, hY, hz, hg] at hN hNN hL hO1 hO2
    obtain ⟨K, hK⟩ : ∃ K, work l t = K := ⟨_, rfl⟩
    simp only [hK] at hO1 hO2
    have ex : IntKind.i64.wrap (X - 1) = X - 1 := by rw [IntKind.wrap_i64]; omega
    have f1 : decide (X ≤ t) = false := by simp; omega
    have f2 : decide (Y ≤ t) = true := by simp; omega
    have f3 : max Y 0 = Y := by omega
    have f4 : ¬ Y < 0 := by omega
    clear hg hz hX hY hK hnd hn0 hl hln
    obtain ⟨B, hB⟩ : ∃ B, decide (0 < Y) = B := ⟨_, rfl⟩
    simp only [hB] at hL
    clear hB
    go_wp2_with fail
    refine (hN _ HR.out).out.mono ?_
    rintro e W3 ⟨rfl, hb⟩
    have HR3 := Lib.hid (HR.out.below hb (Nat.le_refl _))
    have HB3 : Hid (Below W.heap.size W W3) := HB2.out.trans (hb.mono HB2.out.size)
    clear hb HR HB2 hN
    go_wp2_with fail
    refine (hO1 _ HR3.out).out.mono ?_
    rintro e W4 ⟨rfl, hb⟩
    have HR4 := Lib.hid (HR3.out.below hb (Nat.le_refl _))
    have HB4 : Hid (Below W.heap.size W W4) := HB3.out.trans (hb.mono HB3.out.size)
    clear hb HR3 HB3 hO1
    go_wp2_with fail
    refine (hO2 _ HR4.out).out.mono ?_
    rintro e W5 ⟨rfl, hb⟩
    have HR5 := Lib.hid (HR4.out.below hb (Nat.le_refl _))
    have HB5 : Hid (Below W.heap.size W W5) := HB4.out.trans (hb.mono HB4.out.size)
    clear hb HR4 HB4 hO2
    go_wp2_with fail
    refine (hL _ HR5.out).out.mono ?_
    rintro e W6 ⟨rfl, hb⟩
    have HR6 := Lib.hid (HR5.out.below hb (Nat.le_refl _))
    have HB6 : Hid (Below W.heap.size W W6) := HB5.out.trans (hb.mono HB5.out.size)
    clear hb HR5 HB5 hL
    go_wp2_with fail
    refine (hNN _ HR6.out).out.mono ?_
    rintro e W7 ⟨rfl, hb⟩
    have HB7 : Hid (Below W.heap.size W W7) := HB6.out.trans (hb.mono HB6.out.size)
    clear hb HR6 HB6 hNN
    cases B
    · go_wp2
      go_ret
      exact ⟨rfl, HB7.out⟩
    · go_wp2
      go_ret
      exact ⟨rfl, HB7.out⟩
end Go.Proofs.Ytcgfaddegglnkaa.Dem
