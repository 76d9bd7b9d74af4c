/-
  The statement CacheAlone, walked.
-/
import Derived.Test.YtjilplfcmkipfaaAlone
import Derived.Test.YtjilplfcmkipfaaWork
namespace Go.Proofs.Ytjilplfcmkipfaa.Cache
open Go.RowKit Go.Shelf Go.Proofs.Ytjilplfcmkipfaa.Bits Go.Proofs.Ytjilplfcmkipfaa.Sys Go.Proofs.Ytjilplfcmkipfaa.Box

theorem tmod_pos (a : Int) (n : Nat) (hn : 0 < n) : ∃ (t : Int) (k : Nat), a.tmod (n : Int) = t ∧ -(n : Int) < t ∧ t < (n : Int) ∧ (t + (n : Int)).tmod (n : Int) = (k : Int) ∧ k < n := by
  have h1 := Int.tmod_lt_of_pos a (show (0 : Int) < (n : Int) by omega)
  have h2 := Int.lt_tmod_of_pos a (show (0 : Int) < (n : Int) by omega)
  have h3 := Int.emod_nonneg (a.tmod (n : Int) + (n : Int)) (show (n : Int) ≠ 0 by omega)
  have h4 := Int.emod_lt_of_pos (a.tmod (n : Int) + (n : Int)) (show (0 : Int) < (n : Int) by omega)
  refine ⟨_, ((a.tmod (n : Int) + (n : Int)) % (n : Int)).toNat, rfl, by omega, h1, ?_, by omega⟩
  rw [Int.tmod_eq_emod_of_nonneg (by omega)]
  omega
/-- All that is read behind the boxes. -/
structure Al (W3 : World) (p g : Nat) (w : World) (L : List Int) : Prop where
  ic : IsC w p g L
  bw : Below W3.heap.size W3 w
  pl : W3.heap.size ≤ p
  gl : W3.heap.size ≤ g
theorem Al.below {W3 : World} {p g : Nat} {w w1 : World} {L : List Int} (h : Al W3 p g w L) (hb : Below w.heap.size w w1) : Al W3 p g w1 L :=
  { h with ic := h.ic.below hb (Nat.le_refl _), bw := h.bw.trans (hb.mono h.bw.size) }
theorem Al.step {W3 : World} {p g : Nat} {w w1 : World} {L L' : List Int} (h : Al W3 p g w L) (hc : IsC w1 p g L') (ho : Only g w w1) : Al W3 p g w1 L' :=
  { h with ic := hc, bw := h.bw.trans (ho.below h.gl h.bw.size) }
theorem Al.own {W3 : World} {p g : Nat} {w : World} {L : List Int} (h : Al W3 p g w L) {xb : Nat} (hx : W3.heap.size ≤ xb) (hp : xb ≠ p) (hg : xb ≠ g) (v0 v1 v2 v3 v4 v5 v6 v7 : Value) : Al W3 p g (putW w xb v0 v1 v2 v3 v4 v5 v6 v7) L := by
  have ho : Own1 xb w (putW w xb v0 v1 v2 v3 v4 v5 v6 v7) := Own1.putW xb w (Nat.le_refl _) _ _ _ _ _ _ _ _
  have hk : ∀ j, j ≠ xb → (putW w xb v0 v1 v2 v3 v4 v5 v6 v7).heap[j]? = w.heap[j]? := fun j hj => putW_other w xb j hj _ _ _ _ _ _ _ _
  exact { h with ic := h.ic.kept (hk _ (Ne.symm hp)) (hk _ (Ne.symm hg)), bw := ⟨ho.os.trans h.bw.os, ho.tape.trans h.bw.tape, ho.output.trans h.bw.output, by rw [ho.size]; exact h.bw.size, fun j hj => (hk j (by omega)).trans (h.bw.block j hj)⟩ }
set_option maxHeartbeats 16000000 in
set_option maxRecDepth 100000 in
theorem CacheAlone_walk (a0 b0 : Int) (x0 : Option Addr) (len0 cap0 : Nat) (q0 : List Row0.NumV) (a1 : Int) (a2 : Option Addr) (len2 cap2 : Nat) (z2 : List (Int × Int)) (W : World) (w0 : Row0.IsNums W x0 len0 cap0 q0) (_w1 : (Lit.int .i64 a1).wf = true) (w2 : Row0.IsPairs .i64 .i64 W a2 len2 cap2 z2) :
    Calls Try.prog 5 #[.agg #[.int .i64 a0, .int .i64 b0, .slice x0 len0 cap0], .int .i64 a1, .slice a2 len2 cap2] W fun e w' => e = .returned (.bool true) ∧ Below W.heap.size W w' := by
  have hlc2 := w2.le
  have hcm2 := w2.mx
  have HP := Lib.hid w2
  clear w2
  have HN := Lib.hid (nums_rdN w0)
  have hlc := w0.le
  have hcm := w0.mx
  clear w0
  go_enter Try.func5, Try.ntmps5
  go_wp2_with fail
  refine (awake8_any _).mono ?_
  rintro e W1 ⟨rfl, hb1⟩
  have HB1 : Hid (Below W.heap.size W W1) := ((Below.refl _ W).alloc (Nat.le_refl _) _).trans (hb1.mono (by simp))
  have hcell : W1.heap[W.heap.size]? = some (.cells #[.int .i64 a0, .int .i64 b0, .slice x0 len0 cap0] 41 (0, 0)) := (hb1.block _ (by simp)).trans (heap_new _ _ _ rfl)
  obtain ⟨s0, s1, s2⟩ := bx_three hcell
  have hs1 : W.heap.size < W1.heap.size := bx_lt hcell
  clear hb1
  go_wp2_with fail
  refine (made_sys a0 b0 x0 len0 cap0 q0 W1 (HN.out.below HB1.out (Nat.le_refl _)) hlc hcm).mono ?_
  rintro e W2 ⟨S, R, A, n, c, q, rfl, hok, hb2⟩
  have HOK := Lib.hid hok
  have HB2 : Hid (Below W.heap.size W W2) := HB1.out.trans (hb2.mono HB1.out.size)
  clear hok hb2 hcell s0 s1 s2 HB1 HN
  go_wp2_with fail
  have hs2 : W1.heap.size ≤ W2.heap.size := by have := (HOK.out.rd.ad (by have := HOK.out.n1; omega)); obtain ⟨b, o, e, _⟩ := this; have := HOK.out.fr _ e; omega
  obtain ⟨W3, hW3⟩ : ∃ W3, W2.alloc (.cells #[.int .i64 (S : Int), .int .i64 R, .slice A n c] 44) = W3 := ⟨_, rfl⟩
  rw [hW3]
  have HX3 : Hid (W3.heap[W2.heap.size]? = some (.cells #[.int .i64 (S : Int), .int .i64 R, .slice A n c] 44 (0, 0))) := by rw [← hW3]; exact heap_new _ _ _ rfl
  have HO3 : Hid (SysOk W3 W1.heap.size S R A n c q) := by rw [← hW3]; exact HOK.out.below ((Below.refl _ W2).alloc (Nat.le_refl _) _) (Nat.le_refl _)
  have HB3 : Hid (Below W.heap.size W W3) := by rw [← hW3]; exact HB2.out.alloc HB2.out.size _
  have hs3 : W3.heap.size = W2.heap.size + 1 := by rw [← hW3]; simp
  clear hW3 HOK HB2
  have o1 := HO3.out.s1
  have o2 := HO3.out.s8
  have o3 := HO3.out.r0
  have o4 := HO3.out.r3
  have o5 := HO3.out.n1
  have o6 := HO3.out.n6
  have o7 := HO3.out.nc
  have o8 := HO3.out.cm
  refine (new_any S (by omega) W3).mono ?_
  rintro e W4 ⟨p, g, rfl, hC4, hb4, hp, hg⟩
  have HC4 := Lib.hid hC4
  have hs4 : W3.heap.size ≤ W4.heap.size := hb4.size
  have hgp : p < W4.heap.size ∧ g < W4.heap.size := hC4.lt
  have HB34 := Lib.hid hb4
  clear hC4 hb4
  go_wp2_with fail
  have HA4 : Hid (Al W3 p g W4 (List.replicate S 0)) := ⟨HC4.out, HB34.out, hp, hg⟩
  clear HC4 HB34
  go_loopg [10] (min len2 12) (fun gg iv wr => ∃ (i : Nat) (L : List Int), i ≤ min len2 12 ∧ min len2 12 - i ≤ gg ∧ iv = .int .i64 (i : Int) ∧ Aside (L.length = S) ∧ Aside (Al W3 p g wr L))
  case atStart => exact ⟨0, _, Nat.zero_le _, by omega, rfl, List.length_replicate, HA4.out⟩
  case round =>
    obtain ⟨i, L, hi, hgk, rfl, hL, hA⟩ := hrel
    clear HA4
    by_cases hlt : i < len2 ∧ i < 12
    · obtain ⟨hl1, hl2⟩ := hlt
      obtain ⟨b, o, rfl⟩ := HP.out.ad (by omega)
      obtain ⟨x0', x1'⟩ := HP.out.at_ b o rfl i hl1
      have hWr : Below W.heap.size W wr := HB3.out.trans (hA.out.bw.mono (by omega))
      have c0 := cell_old x0' hWr (Nat.le_refl _)
      have c1 := cell_old x1' hWr (Nat.le_refl _)
      clear x0' x1' hWr
      generalize (z2.getD i (0, 0)).1 = x at *
      generalize (z2.getD i (0, 0)).2 = y at *
      have ey := Row0.and_i64 y 3 (by decide) 7 rfl
      obtain ⟨u, hu, hu0, hu1⟩ : ∃ u, y % 8 = u ∧ 0 ≤ u ∧ u ≤ 7 := ⟨_, rfl, by omega, by omega⟩
      have eu : Go.bits .and .i64 y 7 = u := ey.trans hu
      obtain ⟨v, ev⟩ : ∃ v, Go.bits .and .i64 x 7 = v := ⟨_, rfl⟩
      clear ey hu
      have ew : IntKind.i64.wrap (1 + u) = 1 + u := by rw [IntKind.wrap_i64]; omega
      have q1 : (0 : Int) ≤ (i : Int) := by omega
      have q2 : (i : Int) < (len2 : Int) := by omega
      have q3 : (i : Int) < 12 := by omega
      go_wp2_with fail
      go_still_tail 14, (by kernel_rfl)
      change wpList _ _ _ _ _ (World.drew _)
      go_wp2_with fail
      refine (use_any p g L v (1 + u) _ (hA.out.below (Below.refl _ _).drew).ic).mono ?_
      rintro e W5 ⟨rfl, h2, hb2⟩
      have HA5 : Hid (Al W3 p g W5 (useL L v (1 + u))) := (hA.out.below (Below.refl _ _).drew).step h2 hb2
      clear h2 hb2 c0 c1 hA
      go_wp2
      go_roundg (min len2 12 - (i + 1))
      case measure => omega
      case rel => exact ⟨i + 1, _, by omega, by omega, by go_num, by rw [useL_len]; exact hL.out, HA5.out⟩
    · have hq : ¬ (i : Int) < (len2 : Int) ∨ ((i : Int) < (len2 : Int) ∧ ¬ (i : Int) < 12) := by omega
      have hbw := hA.out.bw
      obtain ⟨s0, s1, s2⟩ := bx_three (bx_old HX3.out hbw (bx_lt HX3.out))
      obtain ⟨t, kk, ht, t1, t2, hkk, hkn⟩ := tmod_pos a1 n (by omega)
      have hz : ((n : Int) == 0) = false := by simp; omega
      have hz' : ¬ (n : Int) = 0 := by omega
      have ew : IntKind.i64.wrap (t + (n : Int)) = t + (n : Int) := by rw [IntKind.wrap_i64]; omega
      have ek : IntKind.i64.wrap (kk : Int) = (kk : Int) := by rw [IntKind.wrap_i64]; omega
      clear hlt hgk hi hbw
      rcases hq with hq1 | ⟨hq1, hq2⟩
      all_goals
        go_wp2_with fail
        go_quiet (fail)
        have hA6 : Hid (Al W3 p g (wr.drewN nq) L) := hA.out.below (below_dnS (Below.refl _ wr) nq)
        clear hA s0 s1 s2
        generalize wr.drewN nq = w6 at *
        have hro := HO3.out.below hA6.out.bw (Nat.le_refl _)
        obtain ⟨b, o, rfl, hcs⟩ := hro.rd.ad (by omega)
        obtain ⟨y0, y1, y2, y3, y4, y5, y6⟩ := hcs kk hkn
        have hrr := Lib.hid (HO3.out.rd.getRd hkn)
        have htk := hro.ok kk hkn
        have HTK := Lib.hid htk
        have ht24 := htk.t24
        have htc := htk.c1
        have htd := htk.cd
        have htt := htk.dt
        have hid := htk.id
        obtain ⟨s0, s1, s2⟩ := bx_three (bx_old HX3.out hA6.out.bw (bx_lt HX3.out))
        obtain ⟨r, hr⟩ : ∃ r, q.getD kk default = r := ⟨_, rfl⟩
        rw [hr] at y0 y1 y2 y3 y4 y5 y6 hrr HTK ht24 htc htd htt hid
        have HID := Lib.hid hid
        have k0 : (0 : Int) ≤ (kk : Int) := by omega
        have k1 : (kk : Int) < (n : Int) := by omega
        clear hcs hro htk hr hid
        go_wp2_with fail
        obtain ⟨w7, hw7⟩ : ∃ w7, (w6.alloc (.cells #[.int .i64 r.x.id, .int .i64 r.x.c, .int .i64 r.x.d, .int .i64 r.x.t, .int .i64 r.x.prio, .slice r.ca r.cl r.cc, .slice r.ua r.ul r.uc] 53)).alloc (.cells #[.int .i64 0, .int .i64 r.x.c, .int .i64 0, .int .i64 0, .int .u64 0, .int .u64 0, .int .u64 0, .int .u64 0] 47) = w7 := ⟨_, rfl⟩
        rw [hw7]
        have hT7 : Hid (w7.heap[w6.heap.size]? = some (.cells #[.int .i64 r.x.id, .int .i64 r.x.c, .int .i64 r.x.d, .int .i64 r.x.t, .int .i64 r.x.prio, .slice r.ca r.cl r.cc, .slice r.ua r.ul r.uc] 53 (0, 0))) := by rw [← hw7]; exact (Below.heap_alloc _ _ _ (by simp)).trans (heap_new _ _ _ rfl)
        have hW7 : Hid (w7.heap[w6.heap.size + 1]? = some (.cells #[.int .i64 0, .int .i64 r.x.c, .int .i64 0, .int .i64 0, .int .u64 (noneW 0 : Int), .int .u64 (noneW 1 : Int), .int .u64 (noneW 2 : Int), .int .u64 (noneW 3 : Int)] 47 (0, 0))) := by rw [← hw7]; exact heap_new _ _ _ (by simp)
        have hA7 : Hid (Al W3 p g w7 L) := by rw [← hw7]; exact (hA6.out.below ((Below.refl _ w6).alloc (Nat.le_refl _) _)).below ((Below.refl _ _).alloc (Nat.le_refl _) _)
        have hs6 := hA6.out.bw.size
        have hpg6 := hA6.out.ic.lt
        clear hw7 hA6 y0 y1 y2 y3 y4 y5 y6 s0 s1 s2
        have HL := Lib.hid hL.out
        clear hL
        go_loopg [14] r.x.c.toNat (fun gg iv wr => ∃ (i : Nat) (L : List Int) (X : Nat → Nat), (i : Int) ≤ r.x.c ∧ r.x.c.toNat - i ≤ gg ∧ iv = .int .i64 (i : Int) ∧ Aside (L.length = S) ∧ Aside (Alone L r.x.id X) ∧ Aside (Al W3 p g wr L) ∧
          Aside (wr.heap[w6.heap.size]? = some (.cells #[.int .i64 r.x.id, .int .i64 r.x.c, .int .i64 r.x.d, .int .i64 r.x.t, .int .i64 r.x.prio, .slice r.ca r.cl r.cc, .slice r.ua r.ul r.uc] 53 (0, 0))) ∧ Aside (wr.heap[w6.heap.size + 1]? = some (.cells #[.int .i64 (i : Int), .int .i64 r.x.c, .int .i64 0, .int .i64 0, .int .u64 (X 0 : Int), .int .u64 (X 1 : Int), .int .u64 (X 2 : Int), .int .u64 (X 3 : Int)] 47 (0, 0))))
        case atStart => exact ⟨0, L, noneW, by omega, by omega, rfl, HL.out, Alone.none _ _, hA7.out, hT7.out, hW7.out⟩
        case round =>
          obtain ⟨i2, L2, X, hi2, hgk2, rfl, hL2, hAl, hA, hT, hWk⟩ := hrel
          clear hA7 hT7 hW7 HL
          have hmay := may_of HTK.out hL2.out (i2 : Int)
          have hown := own_small HTK.out (by omega)
          have hbt := bx_lt hT.out
          have hbk := bx_lt hWk.out
          have hT' : wr.heap[w6.heap.size]? = some (.cells (taskCells r.x.id r.x.c r.x.d r.x.t r.x.prio (.slice r.ca r.cl r.cc) (.slice r.ua r.ul r.uc)) 53 (0, 0)) := hT.out
          obtain ⟨y0, y1, y2, y3, y4, y5, y6⟩ := bx_seven hT'
          obtain ⟨m0, m1, m2, m3, m4, m5, m6, m7⟩ := c8v hWk.out
          obtain ⟨s0, s1, s2⟩ := bx_three (bx_old HX3.out hA.out.bw (bx_lt HX3.out))
          clear hT'
          by_cases hlt : (i2 : Int) < r.x.c
          · obtain ⟨L', X', hF, hAl', hll⟩ := alone_tick (u := r.x.use) (R := R) (dm := r.x.c) hAl.out hmay hown (show (0 : Int) ≤ (i2 : Int) by omega) hlt o3 o4
            have hst := step_f p g L2 r R ⟨(i2 : Int), r.x.c, 0, 0, X⟩ wr hA.out.ic (hrr.out.below hA.out.bw (Nat.le_refl _)) hAl.out.ws hown hmay (by show r.x.c ≤ _; omega) (by show (0 : Int) ≤ _; decide)
            rw [hF] at hst
            unfold RT.vals taskCells WkV.cells at hst
            simp only at hst
            have HAL := Lib.hid hAl'
            have HLL : Hid (L'.length = S) := hll.trans hL2.out
            clear hF hAl' hll hmay hown
            go_wp2_with fail
            refine hst.mono ?_
            rintro z w1 ⟨rfl, hC1, hO1⟩
            clear hst y0 y1 y2 y3 y4 y5 y6 m0 m1 m2 m3 m4 m5 m6 m7 s0 s1 s2
            have hA1 : Hid (Al W3 p g w1 L') := hA.out.step hC1 hO1
            have hT1 : Hid (w1.heap[w6.heap.size]? = some (.cells #[.int .i64 r.x.id, .int .i64 r.x.c, .int .i64 r.x.d, .int .i64 r.x.t, .int .i64 r.x.prio, .slice r.ca r.cl r.cc, .slice r.ua r.ul r.uc] 53 (0, 0))) := (hO1.block _ hbt (by omega)).trans hT.out
            have hW1 : Hid (w1.heap[w6.heap.size + 1]? = some (.cells #[.int .i64 (i2 : Int), .int .i64 r.x.c, .int .i64 0, .int .i64 0, .int .u64 (X 0 : Int), .int .u64 (X 1 : Int), .int .u64 (X 2 : Int), .int .u64 (X 3 : Int)] 47 (0, 0))) := (hO1.block _ hbk (by omega)).trans hWk.out
            have hs1' : w6.heap.size + 1 < w1.heap.size := bx_lt hW1.out
            clear hC1 hO1 hA hT hWk
            obtain ⟨n0, n1, n2, n3, n4, n5, n6, n7⟩ := c8v (heap_new w1 (.cells #[.int .i64 ((i2 : Int) + 1), .int .i64 r.x.c, .int .i64 0, .int .i64 0, .int .u64 (X' 0 : Int), .int .u64 (X' 1 : Int), .int .u64 (X' 2 : Int), .int .u64 (X' 3 : Int)] 47) _ rfl)
            go_upto_region 19 with fail
            clear n0 n1 n2 n3 n4 n5 n6 n7
            obtain ⟨w2, hw2⟩ : ∃ w2, w1.alloc (.cells #[.int .i64 ((i2 : Int) + 1), .int .i64 r.x.c, .int .i64 0, .int .i64 0, .int .u64 (X' 0 : Int), .int .u64 (X' 1 : Int), .int .u64 (X' 2 : Int), .int .u64 (X' 3 : Int)] 47) = w2 := ⟨_, rfl⟩
            rw [hw2]
            have hb2 : Below w1.heap.size w1 w2 := by rw [← hw2]; exact (Below.refl _ w1).alloc (Nat.le_refl _) _
            have hX2 : Hid (w2.heap[w1.heap.size]? = some (.cells #[.int .i64 ((i2 : Int) + 1), .int .i64 r.x.c, .int .i64 0, .int .i64 0, .int .u64 (X' 0 : Int), .int .u64 (X' 1 : Int), .int .u64 (X' 2 : Int), .int .u64 (X' 3 : Int)] 47 (0, 0))) := by rw [← hw2]; exact heap_new _ _ _ rfl
            have hA2 : Hid (Al W3 p g w2 L') := hA1.out.below hb2
            have hT2 : Hid (w2.heap[w6.heap.size]? = some (.cells #[.int .i64 r.x.id, .int .i64 r.x.c, .int .i64 r.x.d, .int .i64 r.x.t, .int .i64 r.x.prio, .slice r.ca r.cl r.cc, .slice r.ua r.ul r.uc] 53 (0, 0))) := (hb2.block _ (by omega)).trans hT1.out
            have hW2 : Hid (w2.heap[w6.heap.size + 1]? = some (.cells #[.int .i64 (i2 : Int), .int .i64 r.x.c, .int .i64 0, .int .i64 0, .int .u64 (X 0 : Int), .int .u64 (X 1 : Int), .int .u64 (X 2 : Int), .int .u64 (X 3 : Int)] 47 (0, 0))) := (hb2.block _ hs1').trans hW1.out
            clear hw2 hb2 hA1 hT1 hW1
            obtain ⟨m0, m1, m2, m3, m4, m5, m6, m7⟩ := c8v hW2.out
            obtain ⟨f0, f1, f2, f3, f4, f5, f6, f7⟩ := fr8v hW2.out
            obtain ⟨n0, n1, n2, n3, n4, n5, n6, n7⟩ := c8v hX2.out
            go_wp2
            go_roundg (r.x.c.toNat - (i2 + 1))
            case measure => omega
            case rel => exact ⟨i2 + 1, L', X', by omega, by omega, by go_num, HLL.out, HAL.out, hA2.out.own (by omega) (by omega) (by omega) _ _ _ _ _ _ _ _, (putW_other _ _ _ (by omega) _ _ _ _ _ _ _ _).trans hT2.out, putW_same hW2.out _ _ _ _ _ _ _ _⟩
          · have hie : (i2 : Int) = r.x.c := by omega
            have hWk' := hWk.out
            rw [hie] at hWk'
            have HWK := Lib.hid hWk'
            clear hWk m0 m1 m2 m3 m4 m5 m6 m7 hWk'
            obtain ⟨m0, m1, m2, m3, m4, m5, m6, m7⟩ := c8v HWK.out
            have hst := step_f p g L2 r R ⟨r.x.c, r.x.c, 0, 0, X⟩ wr hA.out.ic (hrr.out.below hA.out.bw (Nat.le_refl _)) hAl.out.ws hown (by rw [← hie]; exact hmay) (by show r.x.c ≤ _; omega) (by show (0 : Int) ≤ _; decide)
            rw [alone_end] at hst
            unfold RT.vals taskCells WkV.cells at hst
            simp only at hst
            have hie' : ¬ (i2 : Int) < r.x.c := hlt
            clear hmay hie hlt
            go_wp2_with fail
            refine hst.mono ?_
            rintro z w1 ⟨rfl, hC1, hO1⟩
            clear hst y0 y1 y2 y3 y4 y5 y6 m0 m1 m2 m3 m4 m5 m6 m7 s0 s1 s2
            have hA1 : Hid (Al W3 p g w1 L2) := hA.out.step hC1 hO1
            have hT1 : Hid (w1.heap[w6.heap.size]? = some (.cells #[.int .i64 r.x.id, .int .i64 r.x.c, .int .i64 r.x.d, .int .i64 r.x.t, .int .i64 r.x.prio, .slice r.ca r.cl r.cc, .slice r.ua r.ul r.uc] 53 (0, 0))) := (hO1.block _ hbt (by omega)).trans hT.out
            have hW1 : Hid (w1.heap[w6.heap.size + 1]? = some (.cells #[.int .i64 r.x.c, .int .i64 r.x.c, .int .i64 0, .int .i64 0, .int .u64 (X 0 : Int), .int .u64 (X 1 : Int), .int .u64 (X 2 : Int), .int .u64 (X 3 : Int)] 47 (0, 0))) := (hO1.block _ hbk (by omega)).trans HWK.out
            have hs1' : w6.heap.size + 1 < w1.heap.size := bx_lt hW1.out
            clear hC1 hO1 hA hT HWK
            go_wp2_with fail
            obtain ⟨w2, hw2⟩ : ∃ w2, w1.alloc (.cells #[.int .i64 r.x.c, .int .i64 r.x.c, .int .i64 0, .int .i64 0, .int .u64 (X 0 : Int), .int .u64 (X 1 : Int), .int .u64 (X 2 : Int), .int .u64 (X 3 : Int)] 47) = w2 := ⟨_, rfl⟩
            rw [hw2]
            have hb2 : Below w1.heap.size w1 w2 := by rw [← hw2]; exact (Below.refl _ w1).alloc (Nat.le_refl _) _
            have hX2 : Hid (w2.heap[w1.heap.size]? = some (.cells #[.int .i64 r.x.c, .int .i64 r.x.c, .int .i64 0, .int .i64 0, .int .u64 (X 0 : Int), .int .u64 (X 1 : Int), .int .u64 (X 2 : Int), .int .u64 (X 3 : Int)] 47 (0, 0))) := by rw [← hw2]; exact heap_new _ _ _ rfl
            have hA2 : Hid (Al W3 p g w2 L2) := hA1.out.below hb2
            have hT2 : Hid (w2.heap[w6.heap.size]? = some (.cells (taskCells r.x.id r.x.c r.x.d r.x.t r.x.prio (.slice r.ca r.cl r.cc) (.slice r.ua r.ul r.uc)) 53 (0, 0))) := (hb2.block _ (by omega)).trans hT1.out
            have hW2 : Hid (w2.heap[w6.heap.size + 1]? = some (.cells #[.int .i64 r.x.c, .int .i64 r.x.c, .int .i64 0, .int .i64 0, .int .u64 (X 0 : Int), .int .u64 (X 1 : Int), .int .u64 (X 2 : Int), .int .u64 (X 3 : Int)] 47 (0, 0))) := (hb2.block _ hs1').trans hW1.out
            have hXw := hAl.out.ws
            have hid1 : 1 ≤ r.x.id ∧ r.x.id ≤ 99 := by have := HID.out; omega
            have f1 := alone_and hAl.out hid1.1 hid1.2
            have hAnd := fun w => andr_n hXw (Ws.ofN (ofL L2 r.x.id)) w
            have hOf := fun w (h : Below w2.heap.size w2 w) => ofc_any p g L2 r.x.id w ((hA2.out.below h).ic)
            simp only [bvl] at hAnd hOf
            have HAnd := Lib.hid hAnd
            have HOf := Lib.hid hOf
            clear hw2 hb2 hA1 hT1 hW1 hAnd hOf hXw
            refine Calm.wp_region_calm (B := w2.heap.size) (W := w2) (by kernel_rfl) (by kernel_rfl) (by kernel_rfl) (Nat.le_refl _) (Below.refl _ _).drew ?_
            apply Exists.intro
            repeat (first
              | (apply Calm.calm_skip
                 · rfl
                 intro N hN
                 go_simp
                 apply hN.out
                 clear hN N)
              | (apply Calm.calm_val
                 · rfl
                 · intro w hB hF K hK
                   first
                     | exact opAt_eqt f1 (by rfl) (by rfl) (by rfl) (hK.out _ _ rfl (Below.refl _ _))
                     | exact opAt_eqw (by rfl) (by rfl) (by rfl) (hK.out _ _ rfl (Below.refl _ _))
                     | (unfold Calm.opAt
                        obtain ⟨m0, m1, m2, m3, m4, m5, m6, m7⟩ := c8v ((hB.block _ (bx_lt hW2.out)).trans hW2.out)
                        obtain ⟨n0, n1, n2, n3, n4, n5, n6, n7⟩ := c8v ((hB.block _ (bx_lt hX2.out)).trans hX2.out)
                        obtain ⟨y0, y1, y2, y3, y4, y5, y6⟩ := bx_seven ((hB.block _ (bx_lt hT2.out)).trans hT2.out)
                        go_simp
                        first
                          | (simp only [Calm.upon_value]
                             exact hK.out _ _ rfl (Below.refl _ _))
                          | (simp only [Calm.upon_enter]
                             with_reducible refine (HOf.out _ (by assumption)).mono ?_
                             rintro e w' ⟨rfl, hb⟩
                             exact ⟨_, rfl, hK.out _ _ rfl hb⟩)
                          | (simp only [Calm.upon_enter]
                             with_reducible refine (HAnd.out _).mono ?_
                             rintro e w' ⟨rfl, hb⟩
                             exact ⟨_, rfl, hK.out _ _ rfl hb⟩))
                 intro N hN
                 go_simp
                 apply hN.out
                 clear hN N))
            apply Calm.calm_nil
            intro w9 hB9 _
            go_wp2
            go_ret
            exact ⟨rfl, (HB3.out.trans (hA2.out.bw.mono (by omega))).trans (hB9.mono (by have := hA2.out.bw.size; omega))⟩
end Go.Proofs.Ytjilplfcmkipfaa.Cache
