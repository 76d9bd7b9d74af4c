/-
  The statement DemandSums, walked.
-/
import Derived.Test.YtcgfaddegglnkaaDem4
namespace Go.Proofs.Ytcgfaddegglnkaa.Dem
open Go.RowKit Go.Shelf Go.Proofs.Ytcgfaddegglnkaa.Ari

theorem work_take (l : List Dm) (s : Int) (i : Nat) (h : i < l.length) : work (l.take (i + 1)) s = work (l.take i) s + (l.getD i default).c * jobs (l.getD i default) s := by
  have e : l.getD i default = l[i] := by rw [List.getD_eq_getElem?_getD, List.getElem?_eq_getElem h]; rfl
  have e2 : work [l[i]] s = l[i].c * jobs l[i] s := by simp [work]
  rw [e, List.take_add_one, List.getElem?_eq_getElem h]
  show work (l.take i ++ [l[i]]) s = _
  rw [work_append, e2]
theorem oks_take {l : List Dm} (h : Oks l) (i : Nat) : Oks (l.take i) := fun x hx => h x (List.mem_of_mem_take hx)

set_option maxHeartbeats 8000000 in
set_option maxRecDepth 100000 in
theorem DemandSums_walk (a0 : Option Addr) (len0 cap0 : Nat) (z0 : List (Int × Int × Int)) (a1 : Int) (W : World) (w0 : Row0.IsTrips .i64 W a0 len0 cap0 z0) (_w1 : (Lit.int .i64 a1).wf = true) :
    Calls Try.prog 3 #[.slice a0 len0 cap0, .int .i64 a1] W fun e w' => e = .returned (.bool true) ∧ Below W.heap.size W w' := by
  have HP := Lib.hid w0
  clear w0
  have et := Row0.and_i64 a1 8 (by decide) 255 rfl
  obtain ⟨t, ht, t0, t1⟩ : ∃ t, a1 % 256 = t ∧ 0 ≤ t ∧ t ≤ 255 := ⟨_, rfl, by omega, by omega⟩
  have ea : Go.bits .and .i64 a1 255 = t := et.trans ht
  clear et ht
  go_enter Try.func3, Try.ntmps3
  go_wp2_with fail
  refine (awakeD_any W).mono ?_
  rintro e W1 ⟨rfl, hb1⟩
  have HB1 := Lib.hid hb1
  clear hb1
  go_wp2_with fail
  have hp1 : Row0.IsTrips .i64 W1 a0 len0 cap0 z0 := HP.out.below HB1.out (Nat.le_refl _)
  refine (made_any a0 len0 cap0 z0 W1 hp1).mono ?_
  rintro e W2 ⟨v, l, rfl, hsm, hln, hown, hb2⟩
  have hn6 : min len0 6 ≤ 6 := Nat.min_le_right _ _
  generalize min len0 6 = n at *
  obtain ⟨A, c, rfl, hrd, _, _, _⟩ := own_rdD hown (by omega)
  have HR := Lib.hid hrd
  have HB2 : Hid (Below W.heap.size W W2) := HB1.out.trans (hb2.mono HB1.out.size)
  have HO := Lib.hid hsm.oks
  clear hown hb2 hp1 HB1 HP hrd hsm
  go_wp2_with fail
  go_loopg [8, 9] n (fun gg sv iv wr => ∃ kk : Nat, kk ≤ n ∧ n - kk ≤ gg ∧ iv = .int .i64 (kk : Int) ∧ sv = .int .i64 (work (l.take kk) t) ∧ W2 = wr)
  case atStart => exact ⟨0, Nat.zero_le _, by omega, rfl, rfl, rfl⟩
  case round =>
    obtain ⟨kk, hkk, hg, rfl, rfl, rfl⟩ := hrel
    by_cases hlt : kk < n
    · have hltz : (kk : Int) < (n : Int) := by omega
      obtain ⟨b, o, rfl, hc⟩ := HR.out.2.2 (by omega)
      obtain ⟨c0, c1, c2⟩ := hc kk hlt
      clear hc
      have hx := getD_ok HO.out (i := kk) (by omega)
      have hwt := Lib.hid (work_take l t kk (by omega))
      have hwb := work_bd _ (oks_take HO.out kk) t0 (show t ≤ 4194304 by omega)
      have hwl : (l.take kk).length ≤ 6 := by rw [List.length_take]; omega
      obtain ⟨S, hS⟩ : ∃ S, work (l.take kk) t = S := ⟨_, rfl⟩
      rw [hS] at hwt hwb ⊢
      obtain ⟨s0, s1⟩ := hwb
      have s2 : S ≤ 26388279066624 := by omega
      clear hS s1 hwl
      generalize l.getD kk default = x at *
      have tb := term_bd hx t0 (by omega)
      have jb := jobs_nonneg hx t
      have HX := Lib.hid hx
      have HJ := fun k h => Lib.hid (due_iff hx t k h)
      obtain ⟨a0, a1, a2, a3, a4, a5, a6⟩ := ok_bd hx
      clear hx
      generalize jobs x t = J at *
      generalize x.c = C at *
      generalize x.d = D at *
      generalize x.t = T at *
      go_wp2_with fail
      go_loopg [8, 10] J.toNat (fun gi sv rv wr => ∃ k r s : Int, 0 ≤ k ∧ k ≤ J ∧ Aside (J.toNat - k.toNat ≤ gi) ∧ rv = .int .i64 r ∧ sv = .int .i64 s ∧ Aside (r = k * T) ∧ Aside (s = S + k * C) ∧ W2 = wr)
      case atStart => exact ⟨0, 0, S, by omega, jb, by show _ ≤ _; omega, rfl, rfl, by show (0 : Int) = _; omega, by show S = _; omega, rfl⟩
      case round =>
        obtain ⟨k, r, s, hk0, hkJ, hgi, rfl, rfl, hrk, hsk, rfl⟩ := hrel
        have r0 : 0 ≤ r := by rw [hrk.out]; exact Int.mul_nonneg hk0 (by omega)
        have ru : r ≤ t + T := by
          by_cases hk : k = 0
          · rw [hrk.out, hk]; omega
          · have := ((HJ (k - 1) (by omega)).out).2 (by omega)
            have e : (k - 1) * T = k * T - T := by rw [Int.sub_mul]; omega
            rw [hrk.out]
            omega
        have sl : S ≤ s := by rw [hsk.out]; have := Int.mul_nonneg hk0 a0; omega
        have su : s ≤ S + 4398046511104 := by
          rw [hsk.out]
          have := Int.mul_le_mul_of_nonneg_right hkJ a0
          rw [Int.mul_comm J C] at this
          omega
        have w1 : IntKind.i64.wrap (r + D) = r + D := by rw [IntKind.wrap_i64]; omega
        have w2 : IntKind.i64.wrap (r + T) = r + T := by rw [IntKind.wrap_i64]; omega
        have w3 : IntKind.i64.wrap (s + C) = s + C := by rw [IntKind.wrap_i64]; omega
        have hd := (HJ k hk0).out
        rw [← hrk.out] at hd
        by_cases hlt2 : k < J
        · have hdue := hd.2 hlt2
          have g1 : decide (r + D ≤ t) = true := by simp; omega
          clear hd hdue
          go_wp2
          go_roundg (J.toNat - (k + 1).toNat)
          case measure => have := hgi.out; omega
          case rel => exact ⟨k + 1, r + T, s + C, by omega, by omega, by show _ ≤ _; omega, rfl, rfl, by show r + T = _; rw [Int.add_mul, hrk.out]; omega, by show s + C = _; rw [Int.add_mul, hsk.out]; omega, rfl⟩
        · have g1 : decide (r + D ≤ t) = false := by simp; have := mt hd.1 hlt2; omega
          obtain rfl : k = J := by omega
          have hfin : Hid (s = work (l.take (kk + 1)) t) := by rw [RowKit.Hid, hwt.out, hsk.out, Int.mul_comm]
          clear hd
          go_wp2
          go_roundg (n - (kk + 1))
          case measure => omega
          case rel => exact ⟨kk + 1, by omega, by omega, by go_num, by rw [hfin.out], rfl⟩
    · have hltz : ¬ (kk : Int) < (n : Int) := by omega
      obtain rfl : kk = n := by omega
      have hq : l.take kk = l := List.take_of_length_le (by rw [HR.out.1]; omega)
      rw [hq]
      have hO := Lib.hid (of_any A kk c l HO.out t t0 (by omega) W2 HR.out)
      generalize work l t = X at *
      go_wp2_with fail
      refine hO.out.mono ?_
      rintro e w' ⟨rfl, hb⟩
      have HB : Hid (Below W.heap.size W w') := HB2.out.trans (hb.mono HB2.out.size)
      clear hb
      go_wp2
      go_ret
      exact ⟨rfl, HB.out⟩
end Go.Proofs.Ytcgfaddegglnkaa.Dem
