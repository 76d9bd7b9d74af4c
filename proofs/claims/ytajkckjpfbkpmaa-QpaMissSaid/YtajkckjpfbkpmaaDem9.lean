/-
  Package demand: Period, Load, walked; the statement DemandPeriods.
-/
import Derived.Test.YtajkckjpfbkpmaaDem8
namespace Go.Proofs.Ytajkckjpfbkpmaa.Dem
open Go.RowKit Go.Shelf Go.Proofs.Ytajkckjpfbkpmaa.Ari

theorem pers_nums {l : List Dm} (ho : Oks l) : Nums (pers_ l) := by
  intro j hj
  have hj' : j < l.length := by simpa [pers_] using hj
  have e : (pers_ l).getD j 0 = (l.getD j default).t := by
    simp [pers_, List.getD_eq_getElem?_getD, List.getElem?_eq_getElem hj']
  rw [e]
  have := ok_bd (getD_ok ho hj')
  omega
set_option maxHeartbeats 4000000 in
set_option maxRecDepth 100000 in
theorem period_any (A : Option Addr) (n c : Nat) (l : List Dm) (ho : Oks l) (P : Int) (hP : Per l P) (w : World) (hr : RdD w A n l) :
    Calls Try.prog 41 #[.slice A n c] w fun e w' => e = .returned (.tuple #[.int .i64 P, .int .i64 0]) ∧ Below w.heap.size w w' := by
  obtain ⟨i0, hi0, hz0, hz1, hz2⟩ := info_parts infoU
  have hln := hr.1
  have hn := hr.2.1
  have HR := Lib.hid hr
  have HO := Lib.hid ho
  have hlm := Lib.hid hP.lcm
  have p0 := hP.pos
  have p1 := hP.le
  clear hr ho hP
  go_enter Try.func41, Try.ntmps41
  go_wp2_with fail
  refine (check_any A n c l HO.out w HR.out).mono ?_
  rintro e w1 ⟨rfl, hb⟩
  have HB1 := Lib.hid hb
  clear hb
  go_wp2_with fail
  go_loopg [4, 14] n (fun gg pv iv wr => ∃ kk : Nat, kk ≤ n ∧ n - kk ≤ gg ∧ iv = .int .i64 (kk : Int) ∧ Aside (wr.ownsRow w.heap.size 62 1 pv kk (((pers_ l).take kk).map (Value.int .u64))) ∧ Aside (Below w.heap.size w wr))
  case atStart => exact ⟨0, Nat.zero_le _, by omega, rfl, World.ownsRow_nil _ _ _ _, HB1.out⟩
  case round =>
    obtain ⟨kk, hkk, hg, rfl, hown, BW⟩ := hrel
    clear HB1
    by_cases hlt : kk < n
    · have hltz : (kk : Int) < (n : Int) := by omega
      obtain ⟨b, o, rfl, hc⟩ := (HR.out.below BW.out (Nat.le_refl _)).2.2 (by omega)
      obtain ⟨c0, c1, c2⟩ := hc kk hlt
      clear hc
      have hx := getD_ok HO.out (i := kk) (by omega)
      have ht := Lib.hid (pers_take l kk (by omega))
      generalize l.getD kk default = x at *
      obtain ⟨a0, a1, a2, a3, a4, a5, a6⟩ := ok_bd hx
      generalize x.c = c at *
      generalize x.d = d at *
      generalize x.t = t at *
      have e1 : IntKind.u64.wrap t = t := by rw [IntKind.wrap_u64]; omega
      have hsz : w.heap.size ≤ wr.heap.size := BW.out.size
      go_wp2_with (at_builtin; refine wpList_append_own _ rfl _ _ 74 rfl w.heap.size 62 i0 (.int .u64 0) 1 8 Try.underlying74 hi0 hz0 hz1 hz2 rfl (by decide) _ _ _ rfl ((hown.out.alloc _).alloc _) ⟨wr.heap.size + 1, 0, none⟩ 1 1 [.int .u64 t] rfl rfl (fun j u hj => by have := cell_one_new (wr.alloc (.cells #[.int .i64 c, .int .i64 d, .int .i64 t] 32)) (.int .u64 t) 62 j u hj; simpa using this) (by simp [Value.oneCell']) (by unfold maxLen; omega) (by omega) (by simp; omega) ?_; intro v' w4 hown' hgrow _)
      have hO4 : Aside (w4.ownsRow w.heap.size 62 1 v' (kk + 1) (((pers_ l).take (kk + 1)).map (Value.int .u64))) := by
        rw [ht.out, List.map_append]; exact hown'
      have hk2 := fun j (e : _ = some j) => (hown.out.lt j e).1
      have hB4 : Aside (Below w.heap.size w w4) := ((BW.out.alloc BW.out.size _).alloc (by simp; omega) _).grown hgrow (by simp; omega) (fun j e => hk2 j e)
      clear hown' hgrow hk2 hown BW c0 c1 c2
      go_wp2
      go_roundg (n - (kk + 1))
      case measure => omega
      case rel => exact ⟨kk + 1, by omega, by omega, by go_num, hO4.out, hB4.out⟩
    · have hltz : ¬ (kk : Int) < (n : Int) := by omega
      obtain rfl : kk = n := by omega
      have hq : (pers_ l).take kk = pers_ l := List.take_of_length_le (by simp [pers_]; omega)
      have hown2 := hown.out
      rw [hq] at hown2
      obtain ⟨A1, c1, rfl, hr1⟩ := own_rd64 hown2 (by omega)
      have HR1 := Lib.hid hr1
      clear hq hown hown2 hr1
      have hS := fun w h => Lib.hid (lcm_row A1 kk c1 (pers_ l) w h)
      rw [hlm.out] at hS
      have e1 : decide ((1048576 : Int) < P) = false := by simp; omega
      have e2 : IntKind.i64.wrap P = P := by rw [IntKind.wrap_i64]; omega
      go_wp2_with fail
      refine (hS _ HR1.out).out.mono ?_
      rintro e w' ⟨rfl, nd, rfl⟩
      go_wp2
      go_ret2
      exact ⟨rfl, below_dn BW.out nd⟩

set_option maxHeartbeats 4000000 in
set_option maxRecDepth 100000 in
theorem load_any (A : Option Addr) (n c : Nat) (l : List Dm) (ho : Oks l) (P : Int) (hP : Per l P) (w : World) (hr : RdD w A n l) :
    Calls Try.prog 31 #[.slice A n c] w fun e w' => e = .returned (.tuple #[.int .i64 (loadI l P), .int .i64 P, .int .i64 0]) ∧ Below w.heap.size w w' := by
  obtain ⟨i0, hi0, hz0, hz1, hz2⟩ := info_parts infoU
  have hln := hr.1
  have hn := hr.2.1
  have HR := Lib.hid hr
  have HO := Lib.hid ho
  have HP := Lib.hid hP
  have p0 := hP.pos
  have p1 := hP.le
  have lb := load_bd ho (show 0 ≤ P by omega) p1
  have hsum : Hid (sumM (loads l P) = (loadI l P, true)) := sumM_le _ (loads_nums ho (by omega) p1) (by unfold loadI at lb; omega)
  obtain ⟨L, hL⟩ : ∃ L, loadI l P = L := ⟨_, rfl⟩
  rw [hL] at hsum lb ⊢
  have l0 := lb.1
  have l1 : L ≤ 70368744177664 := by have := lb.2; omega
  clear hr ho hP lb hL
  go_enter Try.func31, Try.ntmps31
  go_wp2_with fail
  refine (period_any A n c l HO.out P HP.out w HR.out).mono ?_
  rintro e w1 ⟨rfl, hb⟩
  have HB1 := Lib.hid hb
  clear hb
  go_wp2_with fail
  go_loopg [7, 22] n (fun gg pv iv wr => ∃ kk : Nat, kk ≤ n ∧ n - kk ≤ gg ∧ iv = .int .i64 (kk : Int) ∧ Aside (wr.ownsRow w.heap.size 62 1 pv kk (((loads l P).take kk).map (Value.int .u64))) ∧ Aside (Below w.heap.size w wr))
  case atStart => exact ⟨0, Nat.zero_le _, by omega, rfl, World.ownsRow_nil _ _ _ _, HB1.out⟩
  case round =>
    obtain ⟨kk, hkk, hg, rfl, hown, BW⟩ := hrel
    clear HB1
    by_cases hlt : kk < n
    · have hltz : (kk : Int) < (n : Int) := by omega
      obtain ⟨b, o, rfl, hc⟩ := (HR.out.below BW.out (Nat.le_refl _)).2.2 (by omega)
      obtain ⟨c0, c1, c2⟩ := hc kk hlt
      clear hc
      have hx := getD_ok HO.out (i := kk) (by omega)
      have ht := Lib.hid (loads_take l P kk (by omega))
      generalize l.getD kk default = x at *
      obtain ⟨t0, t1, t2, t3⟩ := load_term hx (show 0 ≤ P by omega) p1
      obtain ⟨a0, a1, a2, a3, a4, a5, a6⟩ := ok_bd hx
      generalize x.c = c at *
      generalize x.d = d at *
      generalize x.t = t at *
      have e0 : (t == 0) = false := by simp; omega
      have e00 : ¬ t = 0 := by omega
      have e1 : P.tdiv t = P / t := Int.tdiv_eq_ediv_of_nonneg (by omega)
      generalize P / t = D at *
      have e2 : IntKind.i64.wrap D = D := by rw [IntKind.wrap_i64]; omega
      generalize hK : c * D = K at *
      have e3 : IntKind.i64.wrap K = K := by rw [IntKind.wrap_i64]; omega
      have e4 : IntKind.u64.wrap K = K := by rw [IntKind.wrap_u64]; omega
      have hsz : w.heap.size ≤ wr.heap.size := BW.out.size
      go_wp2_with fail
      clear c0 c1 c2
      have hbx := Lib.hid (box3 wr c d t)
      have hB2 : Hid (Below w.heap.size w (wr.alloc (.cells #[.int .i64 c, .int .i64 d, .int .i64 t] 32))) := BW.out.alloc BW.out.size _
      have hO2 : Hid ((wr.alloc (.cells #[.int .i64 c, .int .i64 d, .int .i64 t] 32)).ownsRow w.heap.size 62 1 u7 kk (((loads l P).take kk).map (Value.int .u64))) := hown.out.alloc _
      have hob : ∀ j, u7.ownBlock = some j → j < wr.heap.size := fun j e => (hown.out.lt j e).2
      clear BW hown
      generalize hW2 : wr.alloc (.cells #[.int .i64 c, .int .i64 d, .int .i64 t] 32) = W2 at *
      have hsz2 : wr.heap.size < W2.heap.size := by rw [← hW2]; simp
      clear hW2
      generalize wr.heap.size = b at *
      obtain ⟨x0, x1, x2⟩ := hbx.out W2 (Below.refl _ _)
      have yy : ∀ o, (W2.alloc o).drew.cell? ⟨b, 0, none⟩ = some (.int .i64 c) ∧ (W2.alloc o).drew.cell? ⟨b, 2, none⟩ = some (.int .i64 t) := fun o => by
        have := hbx.out (W2.alloc o).drew ((Below.refl _ _).alloc (Nat.le_refl _) o).drew
        exact ⟨this.1, this.2.2⟩
      have hO3 : ∀ o, Hid ((W2.alloc o).drew.ownsRow w.heap.size 62 1 u7 kk (((loads l P).take kk).map (Value.int .u64))) := fun o => own_belowD (hO2.out.alloc o) (Below.refl _ _).drew
      have hC3 : ∀ j u, ([.int .u64 K] : List Value)[j]? = some u → (W2.alloc (.cells #[.int .u64 K] 62)).drew.cell? ((⟨W2.heap.size, 0, none⟩ : Addr).add j) = some u := cell_one_new _ _ _
      have HC3 := Lib.hid hC3
      clear hC3
      go_region_held3 (fun w' => w'.cell? ⟨b, 0, none⟩ = some (.int .i64 c) ∧ w'.cell? ⟨b, 2, none⟩ = some (.int .i64 t))
        (first | with_reducible exact ⟨x0, x2⟩ | with_reducible exact yy _ | with_reducible exact ⟨z0, z2⟩ | exact ⟨x0, x2⟩)
        (first
          | (refine Row0.step_append_sl (by rfl) (.tmp 26) (.tmp 35) 74 (by rfl) w.heap.size 62 i0 (.int .u64 0) 1 8 Try.underlying74 hi0 hz0 hz1 hz2 rfl (by decide) _ kk _ (by rfl) (hO3 _).out (some ⟨W2.heap.size, 0, none⟩) 1 1 [.int .u64 K] (by rfl) (fun e => by cases e) rfl (fun a e => by cases e; exact HC3.out) (by simp [Value.oneCell']) (by unfold maxLen; omega) (by omega) (by simp; omega) ?_; intro v' w4 hown' hgrow; have hz9 := hgrow.block b (by simp; omega) (fun e => by have := hob b e.symm; omega); have z0 := (World.cell?_of_block (a := ⟨b, 0, none⟩) hz9).trans (yy _).1; have z2 := (World.cell?_of_block (a := ⟨b, 2, none⟩) hz9).trans (yy _).2))
      have hO4 : Aside (w4.ownsRow w.heap.size 62 1 v' (kk + 1) (((loads l P).take (kk + 1)).map (Value.int .u64))) := by
        rw [ht.out, List.map_append]; exact hown'
      have hB4 : Aside (Below w.heap.size w w4) := ((hB2.out.alloc hB2.out.size _).drew).grown hgrow (by have := hB2.out.size; simp; omega) (fun j e => (hO2.out.lt j e).1)
      clear hown' hgrow x0 x1 x2 hO2 hB2 hbx yy z0 z2 hz9 e1 e2 hO3 HC3
      go_wp2
      go_roundg (n - (kk + 1))
      case measure => omega
      case rel => exact ⟨kk + 1, by omega, by omega, by go_num, hO4.out, hB4.out⟩
    · have hltz : ¬ (kk : Int) < (n : Int) := by omega
      obtain rfl : kk = n := by omega
      have hq : (loads l P).take kk = loads l P := List.take_of_length_le (by simp [loads]; omega)
      have hown2 := hown.out
      rw [hq] at hown2
      obtain ⟨A1, c1, rfl, hr1⟩ := own_rd64 hown2 (by omega)
      have HR1 := Lib.hid hr1
      clear hq hown hown2 hr1
      have hS := fun w h => Lib.hid (sum_any A1 kk c1 (loads l P) w h (loads_nums HO.out (by omega) p1))
      rw [hsum.out] at hS
      have e1 : decide ((4611686018427387904 : Int) < L) = false := by simp; omega
      have e2 : IntKind.i64.wrap L = L := by rw [IntKind.wrap_i64]; omega
      go_wp2_with fail
      refine (hS _ HR1.out).out.mono ?_
      rintro e w' ⟨rfl, nd, rfl⟩
      go_wp2
      go_ret3
      exact ⟨rfl, below_dn BW.out nd⟩
end Go.Proofs.Ytajkckjpfbkpmaa.Dem
