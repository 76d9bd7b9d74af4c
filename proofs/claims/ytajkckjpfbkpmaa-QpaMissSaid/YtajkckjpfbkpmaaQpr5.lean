/-
  The reference's demands, small ones: Period, Load.
-/
import Derived.Test.YtajkckjpfbkpmaaQpr4
namespace Go.Proofs.Ytajkckjpfbkpmaa.Dem
open Go.RowKit Go.Shelf Go.Proofs.Ytajkckjpfbkpmaa.Ari Go.Proofs.Ytajkckjpfbkpmaa.Box

theorem per_nats {l : List Dm} (ho : Oks l) {P : Int} (hP : Per l P) : ∃ ns : List Nat, pers_ l = cs ns ∧ (∀ n ∈ ns, 0 < n) ∧ lcmN ns < M64 ∧ (lcmN ns : Int) = P := by
  obtain ⟨ns, e, h⟩ : ∃ ns : List Nat, pers_ l = cs ns ∧ ∀ n ∈ ns, 0 < n ∧ n < M64 := by
    clear hP
    induction l with
    | nil => exact ⟨[], rfl, by simp⟩
    | cons x r ih =>
      obtain ⟨ns, e, hn⟩ := ih fun y hy => ho y (List.mem_cons_of_mem _ hy)
      have hx := ok_bd (ho x (List.mem_cons_self ..))
      refine ⟨x.t.toNat :: ns, ?_, fun n hn' => ?_⟩
      · show x.t :: pers_ r = (x.t.toNat : Int) :: cs ns
        rw [e, Int.toNat_of_nonneg (by omega)]
      · rcases List.mem_cons.1 hn' with rfl | hn'
        · unfold M64; omega
        · exact hn n hn'
  have hl := hP.lcm
  have hp := hP.pos
  rw [e, lcmM_eq ns fun n hn => (h n hn).2, if_neg (fun h0 => absurd (h 0 h0).1 (by decide))] at hl
  by_cases hm : lcmN ns < M64
  · rw [if_pos hm] at hl
    injection hl with hl _
    exact ⟨ns, e, fun n hn => (h n hn).1, hm, hl⟩
  · rw [if_neg hm] at hl
    injection hl with hl _
    omega
set_option maxHeartbeats 4000000 in
set_option maxRecDepth 100000 in
theorem periodr_any (A : Option Addr) (n c : Nat) (l : List Dm) (ho : Oks l) (P : Int) (hP : Per l P) (w : World) (hr : RdD w A n l) :
    Calls Try.prog 21 #[.slice A n c] w fun e w' => e = .returned (.tuple #[.int .i64 P, .int .i64 0]) ∧ Below w.heap.size w w' := by
  obtain ⟨i0, hi0, hz0, hz1, hz2⟩ := info_parts infoU
  obtain ⟨ns, hns, hpos, hlt64, hlP⟩ := per_nats ho hP
  have hln := hr.1
  have hn := hr.2.1
  have HR := Lib.hid hr
  have HO := Lib.hid ho
  have HNS := Lib.hid hns
  have HPOS := Lib.hid hpos
  have HLP := Lib.hid hlP
  have H64 := Lib.hid hlt64
  have p0 := hP.pos
  have p1 := hP.le
  clear hr ho hP hns hpos hlP hlt64
  go_enter Try.func21, Try.ntmps21
  go_wp2_with fail
  refine (checkr_any A n c l HO.out w HR.out).mono ?_
  rintro e w1 ⟨rfl, hb⟩
  have HB1 := Lib.hid hb
  clear hb
  go_wp2_with fail
  go_loopg [5, 6] n (fun gg pv iv wr => ∃ kk : Nat, kk ≤ n ∧ n - kk ≤ gg ∧ iv = .int .i64 (kk : Int) ∧ Aside (wr.ownsRow w.heap.size 62 1 pv kk (((pers_ l).take kk).map (Value.int .u64))) ∧ Aside (Below w.heap.size w wr))
  case atStart => exact ⟨0, Nat.zero_le _, by omega, rfl, World.ownsRow_nil _ _ _ _, HB1.out⟩
  case round =>
    obtain ⟨kk, hkk, hg, rfl, hown, BW⟩ := hrel
    clear HB1
    by_cases hlt : kk < n
    · have hltz : (kk : Int) < (n : Int) := by omega
      obtain ⟨b, o, rfl, hc⟩ := (HR.out.below BW.out (Nat.le_refl _)).2.2 (by omega)
      obtain ⟨c0, c1, c2⟩ := hc kk hlt
      clear hc
      have hx := getD_ok HO.out (i := kk) (by omega)
      have ht := Lib.hid (pers_take l kk (by omega))
      generalize l.getD kk default = x at *
      obtain ⟨a0, a1, a2, a3, a4, a5, a6⟩ := ok_bd hx
      generalize x.t = t at *
      have e1 : IntKind.u64.wrap t = t := by rw [IntKind.wrap_u64]; omega
      have hsz : w.heap.size ≤ wr.heap.size := BW.out.size
      go_wp2_with (at_builtin; refine wpList_append_own _ rfl _ _ 74 rfl w.heap.size 62 i0 (.int .u64 0) 1 8 Try.underlying74 hi0 hz0 hz1 hz2 rfl (by decide) _ _ _ rfl (hown.out.alloc _) ⟨wr.heap.size, 0, none⟩ 1 1 [.int .u64 t] rfl rfl (fun j u hj => cell_one_new wr (.int .u64 t) 62 j u hj) (by simp [Value.oneCell']) (by unfold maxLen; omega) (by omega) (by simp; omega) ?_; intro v' w4 hown' hgrow _)
      have hO4 : Aside (w4.ownsRow w.heap.size 62 1 v' (kk + 1) (((pers_ l).take (kk + 1)).map (Value.int .u64))) := by
        rw [ht.out, List.map_append]; exact hown'
      have hk2 := fun j (e : _ = some j) => (hown.out.lt j e).1
      have hB4 : Aside (Below w.heap.size w w4) := (BW.out.alloc BW.out.size _).grown hgrow (by simp; omega) (fun j e => hk2 j e)
      clear hown' hgrow hk2 hown BW c0 c1 c2
      go_wp2
      go_roundg (n - (kk + 1))
      case measure => omega
      case rel => exact ⟨kk + 1, by omega, by omega, by go_num, hO4.out, hB4.out⟩
    · have hltz : ¬ (kk : Int) < (n : Int) := by omega
      obtain rfl : kk = n := by omega
      have hq : (pers_ l).take kk = pers_ l := List.take_of_length_le (by simp [pers_]; omega)
      have hown2 := hown.out
      rw [hq] at hown2
      obtain ⟨A1, c1, rfl, hr1⟩ := own_rd64 hown2 (by omega)
      rw [HNS.out] at hr1
      have HR1 := Lib.hid hr1
      clear hq hown hown2 hr1
      have hS := fun w h => Lib.hid (lcmr_any A1 kk c1 ns HPOS.out H64.out w h)
      rw [HLP.out] at hS
      have e1 : decide ((1048576 : Int) < P) = false := by simp; omega
      have e2 : IntKind.i64.wrap P = P := by rw [IntKind.wrap_i64]; omega
      go_wp2_with fail
      refine (hS _ HR1.out).out.mono ?_
      rintro e w' ⟨rfl, hb⟩
      have HBX : Hid (Below w.heap.size w (w'.alloc (.cells #[.int .u64 P, .bool true] 64))) := (BW.out.trans (hb.mono BW.out.size)).alloc (Nat.le_trans BW.out.size hb.size) _
      clear hb BW
      go_wp2
      go_ret2
      exact ⟨rfl, HBX.out⟩

theorem load_take (l : List Dm) (P : Int) (i : Nat) (h : i < l.length) : loadI (l.take (i + 1)) P = loadI (l.take i) P + (l.getD i default).c * (P / (l.getD i default).t) := by
  have e : l.getD i default = l[i] := by rw [List.getD_eq_getElem?_getD, List.getElem?_eq_getElem h]; rfl
  rw [e, List.take_add_one, List.getElem?_eq_getElem h]
  show ((l.take i ++ [l[i]]).map fun x => x.c * (P / x.t)).sum = _
  rw [List.map_append, List.sum_append]
  show _ + (l[i].c * (P / l[i].t) + 0) = _
  rw [Int.add_zero]
  rfl
set_option maxHeartbeats 4000000 in
set_option maxRecDepth 100000 in
theorem loadr_any (A : Option Addr) (n c : Nat) (l : List Dm) (ho : Oks l) (P : Int) (hP : Per l P) (w : World) (hr : RdD w A n l) :
    Calls Try.prog 14 #[.slice A n c] w fun e w' => e = .returned (.agg #[.int .i64 (loadI l P), .int .i64 P, .int .i64 0]) ∧ Below w.heap.size w w' := by
  have hln := hr.1
  have hn := hr.2.1
  have HR := Lib.hid hr
  have HO := Lib.hid ho
  have HP := Lib.hid hP
  have p0 := hP.pos
  have p1 := hP.le
  clear hr ho hP
  obtain ⟨W0, hW0⟩ : ∃ W0, w.alloc (.cells #[.int .i64 0, .int .i64 0, .int .i64 0] 38) = W0 := ⟨_, rfl⟩
  have hR : Hid (W0.heap[w.heap.size]? = some (.cells #[.int .i64 0, .int .i64 0, .int .i64 0] 38 (0, 0))) := by rw [← hW0]; exact bx_new _ _ _
  have hB0 : Hid (Below w.heap.size w W0) := by rw [← hW0]; exact (Below.refl _ w).alloc (Nat.le_refl _) _
  have hs0 : W0.heap.size = w.heap.size + 1 := by rw [← hW0]; simp
  go_enter Try.func14, Try.ntmps14
  go_wp2_with fail
  refine (periodr_any A n c l HO.out P HP.out W0 (HR.out.below hB0.out (Nat.le_refl _))).mono ?_
  rintro e w1 ⟨rfl, hb⟩
  have hs1 : w.heap.size + 1 ≤ w1.heap.size := by have := hb.size; omega
  have HB1 : Hid (Below w.heap.size w w1) := hB0.out.trans (hb.mono (by omega))
  have hR1 : Hid (w1.heap[w.heap.size]? = some (.cells #[.int .i64 0, .int .i64 0, .int .i64 0] 38 (0, 0))) := bx_old hR.out hb (by omega)
  clear hb hR hB0 hW0 hs0
  go_wp2_with fail
  go_loopg [5, 6] n (fun gg sv iv wr => ∃ kk : Nat, kk ≤ n ∧ n - kk ≤ gg ∧ iv = .int .i64 (kk : Int) ∧ sv = .int .i64 (loadI (l.take kk) P) ∧ Aside (wr.heap[w.heap.size]? = some (.cells #[.int .i64 0, .int .i64 0, .int .i64 0] 38 (0, 0))) ∧ Aside (Below w.heap.size w wr))
  case atStart => exact ⟨0, Nat.zero_le _, by omega, rfl, rfl, hR1.out, HB1.out⟩
  case round =>
    obtain ⟨kk, hkk, hg, rfl, rfl, hR, BW⟩ := hrel
    clear hR1 HB1
    by_cases hlt : kk < n
    · have hltz : (kk : Int) < (n : Int) := by omega
      obtain ⟨b2, o, rfl, hc⟩ := (HR.out.below BW.out (Nat.le_refl _)).2.2 (by omega)
      obtain ⟨c0, c1, c2⟩ := hc kk hlt
      clear hc
      have hx := getD_ok HO.out (i := kk) (by omega)
      have hwt := Lib.hid (load_take l P kk (by omega))
      have hwb := load_bd (oks_take HO.out kk) (show 0 ≤ P by omega) p1
      have hwl : (l.take kk).length ≤ 64 := by rw [List.length_take]; omega
      obtain ⟨S, hS⟩ : ∃ S, loadI (l.take kk) P = S := ⟨_, rfl⟩
      rw [hS] at hwt hwb ⊢
      obtain ⟨S1, hS1⟩ : ∃ S1, loadI (l.take (kk + 1)) P = S1 := ⟨_, rfl⟩
      rw [hS1] at hwt
      have HS1 := Lib.hid hS1
      obtain ⟨s0, s1⟩ := hwb
      have s2 : S ≤ 70368744177664 := by omega
      clear hS hS1 s1 hwl
      generalize l.getD kk default = x at *
      obtain ⟨t0, t1, t2, t3⟩ := load_term hx (show 0 ≤ P by omega) p1
      obtain ⟨a0, a1, a2, a3, a4, a5, a6⟩ := ok_bd hx
      generalize x.c = c at *
      generalize x.t = t at *
      have e0 : (t == 0) = false := by simp; omega
      have e00 : ¬ t = 0 := by omega
      have e1 : P.tdiv t = P / t := Int.tdiv_eq_ediv_of_nonneg (by omega)
      generalize P / t = D at *
      have e2 : IntKind.i64.wrap D = D := by rw [IntKind.wrap_i64]; omega
      generalize hK : c * D = K at *
      have e3 : IntKind.i64.wrap K = K := by rw [IntKind.wrap_i64]; omega
      have e4 : IntKind.i64.wrap (S + K) = S + K := by rw [IntKind.wrap_i64]; omega
      have e5 : decide (4611686018427387904 < S + K) = false := by simp; omega
      have hBD : ∀ nd, Hid (Below w.heap.size w (wr.drewN nd)) := fun nd => below_dn BW.out nd
      have hRD : ∀ nd, Hid ((wr.drewN nd).heap[w.heap.size]? = some (.cells #[.int .i64 0, .int .i64 0, .int .i64 0] 38 (0, 0))) := fun nd => hR.out
      clear hR BW
      go_wp2
      go_quiet (fail)
      go_wp2
      go_roundg (n - (kk + 1))
      case measure => omega
      case rel => exact ⟨kk + 1, by omega, by omega, by go_num, by rw [HS1.out, hwt.out], (hRD _).out, (hBD _).out⟩
    · have hltz : ¬ (kk : Int) < (n : Int) := by omega
      obtain rfl : kk = n := by omega
      have hq : l.take kk = l := List.take_of_length_le (by omega)
      rw [hq]
      have hR4 := hR.out
      obtain ⟨r0, r1, r2⟩ := bx_three hR4
      have f0 := bx_free hR4 0
      have f1 := bx_free hR4 1
      have f2 := bx_free hR4 2
      have hRX : Hid ((((wr.setCell ⟨w.heap.size, 0, none⟩ (.int .i64 (loadI l P))).setCell ⟨w.heap.size, 1, none⟩ (.int .i64 P)).setCell ⟨w.heap.size, 2, none⟩ (.int .i64 0)).heap[w.heap.size]? = some (.cells #[.int .i64 (loadI l P), .int .i64 P, .int .i64 0] 38 (0, 0))) := bx_set3 hR4 _ _ _
      have HBX : Hid (Below w.heap.size w (((wr.setCell ⟨w.heap.size, 0, none⟩ (.int .i64 (loadI l P))).setCell ⟨w.heap.size, 1, none⟩ (.int .i64 P)).setCell ⟨w.heap.size, 2, none⟩ (.int .i64 0))) := bx_below (bx_below (bx_below BW.out _ (by omega) _ _) _ (by omega) _ _) _ (by omega) _ _
      clear hR BW hR4 hq
      go_wp2
      obtain ⟨q0, q1, q2⟩ := bx_three hRX.out
      refine bodyPost_ret (v := .agg #[.int .i64 (loadI l P), .int .i64 P, .int .i64 0]) ?_ rfl ⟨rfl, HBX.out⟩
      simp [results, Try.results14, go_sem, q0, q1, q2]
end Go.Proofs.Ytajkckjpfbkpmaa.Dem
