/-
  The statement CacheTicks, walked.
-/
import Derived.Test.YtjilplfcmkipfaaTicksR
namespace Go.Proofs.Ytjilplfcmkipfaa.Cache
open Go.RowKit Go.Shelf Go.Proofs.Ytjilplfcmkipfaa.Bits Go.Proofs.Ytjilplfcmkipfaa.Sys Go.Proofs.Ytjilplfcmkipfaa.Box

set_option maxHeartbeats 16000000 in
set_option maxRecDepth 100000 in
theorem CacheTicks_walk (a0 b0 : Int) (x0 : Option Addr) (len0 cap0 : Nat) (q0 : List Row0.NumV) (a1 : Int) (W : World) (w0 : Row0.IsNums W x0 len0 cap0 q0) (_w1 : (Lit.int .u64 a1).wf = true) :
    Calls Try.prog 4 #[.agg #[.int .i64 a0, .int .i64 b0, .slice x0 len0 cap0], .int .u64 a1] W fun e w' => e = .returned (.bool true) ∧ Below W.heap.size W w' := by
  have HN := Lib.hid (nums_rdN w0)
  have hlc := w0.le
  have hcm := w0.mx
  clear w0
  go_enter Try.func4, Try.ntmps4
  go_wp2_with fail
  refine (awake8_any _).mono ?_
  rintro e W1 ⟨rfl, hb1⟩
  have HB1 : Hid (Below W.heap.size W W1) := ((Below.refl _ W).alloc (Nat.le_refl _) _).trans (hb1.mono (by simp))
  have hcell : W1.heap[W.heap.size]? = some (.cells #[.int .i64 a0, .int .i64 b0, .slice x0 len0 cap0] 41 (0, 0)) := (hb1.block _ (by simp)).trans (heap_new _ _ _ rfl)
  obtain ⟨s0, s1, s2⟩ := bx_three hcell
  have hs1 : W.heap.size < W1.heap.size := bx_lt hcell
  clear hb1
  go_wp2_with fail
  refine (made_sys a0 b0 x0 len0 cap0 q0 W1 (HN.out.below HB1.out (Nat.le_refl _)) hlc hcm).mono ?_
  rintro e W2 ⟨S, R, A, n, c, q, rfl, hok, hb2⟩
  have HOK := Lib.hid hok
  have HB2 : Hid (Below W.heap.size W W2) := HB1.out.trans (hb2.mono HB1.out.size)
  clear hok hb2 hcell s0 s1 s2 HB1 HN
  go_wp2_with fail
  have hs2 : W1.heap.size ≤ W2.heap.size := by have := (HOK.out.rd.ad (by have := HOK.out.n1; omega)); obtain ⟨b, o, e, _⟩ := this; have := HOK.out.fr _ e; omega
  obtain ⟨W3, hW3⟩ : ∃ W3, W2.alloc (.cells #[.int .i64 (S : Int), .int .i64 R, .slice A n c] 44) = W3 := ⟨_, rfl⟩
  rw [hW3]
  have HX3 : Hid (W3.heap[W2.heap.size]? = some (.cells #[.int .i64 (S : Int), .int .i64 R, .slice A n c] 44 (0, 0))) := by rw [← hW3]; exact heap_new _ _ _ rfl
  have HO3 : Hid (SysOk W3 W1.heap.size S R A n c q) := by rw [← hW3]; exact HOK.out.below ((Below.refl _ W2).alloc (Nat.le_refl _) _) (Nat.le_refl _)
  have HB3 : Hid (Below W.heap.size W W3) := by rw [← hW3]; exact HB2.out.alloc HB2.out.size _
  have hs3 : W3.heap.size = W2.heap.size + 1 := by rw [← hW3]; simp
  clear hW3 HOK HB2
  have o1 := HO3.out.s1
  have o2 := HO3.out.s8
  have o3 := HO3.out.r0
  have o4 := HO3.out.r3
  have o5 := HO3.out.n1
  have o6 := HO3.out.n6
  have o7 := HO3.out.nc
  have o8 := HO3.out.cm
  refine (new_any S (by omega) W3).mono ?_
  rintro e W4 ⟨p, g, rfl, hC4, hb4, hp, hg⟩
  have HC4 := Lib.hid hC4
  have hs4 : W3.heap.size ≤ W4.heap.size := hb4.size
  have hgp : p < W4.heap.size ∧ g < W4.heap.size := hC4.lt
  have HB34 := Lib.hid hb4
  clear hC4 hb4
  go_wp2_with fail
  obtain ⟨W5, hW5⟩ : ∃ W5, W4.alloc (.cells #[.int .i64 0, .int .i64 0, .int .i64 0, .int .i64 0, .int .u64 0, .int .u64 0, .int .u64 0, .int .u64 0, .int .i64 0, .int .i64 0, .int .i64 0, .int .i64 0, .int .u64 0, .int .u64 0, .int .u64 0, .int .u64 0] 48) = W5 := ⟨_, rfl⟩
  rw [hW5]
  have HT5 : Hid (Tk W3 p g W4.heap.size 2 W5 (List.replicate S 0) fun _ => zeroW) := by
    have hb5 : Below W4.heap.size W4 W5 := by rw [← hW5]; exact (Below.refl _ W4).alloc (Nat.le_refl _) _
    refine ⟨HC4.out.below hb5 (Nat.le_refl _), by rw [← hW5]; exact jobs2 (heap_new _ _ _ rfl), by rw [← hW5]; simp, HB34.out.trans (hb5.mono hs4), by omega, by omega, hp, hg, hs4⟩
  clear hW5 HC4
  go_loopg [9] 60 (fun gg iv wr => ∃ (i : Nat) (u : Nat → WkV) (L : List Int), i ≤ 60 ∧ 60 - i ≤ gg ∧ iv = .int .i64 (i : Int) ∧ Aside (L.length = S) ∧ Aside (∀ k, WOk R i (u k)) ∧ Aside (Tk W3 p g W4.heap.size 2 wr L u))
  case atStart => exact ⟨0, fun _ => zeroW, _, by omega, by omega, rfl, List.length_replicate, fun _ => zeroW_ok _ _ o3 (Int.le_refl _), HT5.out⟩
  case round =>
    obtain ⟨i, u, L, hi, hg, rfl, hL, hu, hT⟩ := hrel
    clear HT5
    by_cases hlt : i < 60
    · have hlz : (i : Int) < 60 := by omega
      have hbw := hT.out.bw
      obtain ⟨x0, x1, x2⟩ := bx_three (bx_old HX3.out hbw (bx_lt HX3.out))
      have HBW := Lib.hid hbw
      clear hbw
      obtain ⟨kb, hkb, hk2⟩ := bit_01 _w1 i
      go_upto_if 37 with fail
      go_cut [10] (fun v wx => ∃ kk : Nat, kk < 2 ∧ kk < n ∧ v = .int .i64 (kk : Int) ∧ wx = wr)
      case first =>
        by_cases hkn : n ≤ kb
        · go_wp2
          go_meet
          exact ⟨0, by decide, by omega, rfl, rfl⟩
        · go_wp2
          go_meet
          exact ⟨kb, hk2, by omega, rfl, rfl⟩
      case rest =>
        obtain ⟨kk, hk2', hkn, rfl, rfl⟩ := hcut
        clear hkb hk2
        have q0 : (0 : Int) ≤ (kk : Int) := by omega
        have q1 : (kk : Int) < 2 := by omega
        have q2 : (kk : Int) < (n : Int) := by omega
        obtain ⟨m0, m1, m2, m3, m4, m5, m6, m7⟩ := hT.out.jb.cell kk hk2'
        go_wp2_with fail
        go_quiet (fail)
        go_upto_if 46 with fail
        have hT6 : Hid (Tk W3 p g W4.heap.size 2 (wc.drewN nq) L u) := hT.out.drewN nq
        clear hT m0 m1 m2 m3 m4 m5 m6 m7 x0 x1 x2 HBW
        generalize wc.drewN nq = w6 at *
        have hro := HO3.out.below hT6.out.bw (Nat.le_refl _)
        obtain ⟨b, o, rfl, hcs⟩ := hro.rd.ad (by omega)
        obtain ⟨y0, y1, y2, y3, y4, y5, y6⟩ := hcs kk hkn
        have hrr := Lib.hid (HO3.out.rd.getRd hkn)
        have htk := hro.ok kk hkn
        have HTK := Lib.hid htk
        have ht24 := htk.t24
        have htc := htk.c1
        have htd := htk.cd
        have htt := htk.dt
        obtain ⟨x0, x1, x2⟩ := bx_three (bx_old HX3.out hT6.out.bw (bx_lt HX3.out))
        obtain ⟨r, hr⟩ : ∃ r, q.getD kk default = r := ⟨_, rfl⟩
        rw [hr] at y0 y1 y2 y3 y4 y5 y6 hrr HTK ht24 htc htd htt
        have HCS : Hid (Cs7 W3 b (o + kk * 7) r) := by
          obtain ⟨b', o', e, hc'⟩ := HO3.out.rd.ad (by omega)
          injection e with e
          injection e with e1 e2 _
          subst e1 e2
          rw [← hr]
          exact hc' kk hkn
        have hbl3 : b < W3.heap.size := (HO3.out.fr _ rfl).2
        clear hcs hro htk hr
        go_cut [] (fun wx => ∃ u', (∀ k, WOk R i (u' k)) ∧ (u' kk).done < (u' kk).dem ∧ Tk W3 p g W4.heap.size 2 wx L u')
        case first =>
          obtain ⟨m0, m1, m2, m3, m4, m5, m6, m7⟩ := hT6.out.jb.cell kk hk2'
          obtain ⟨f0, f1, f2, f3, f4, f5, f6, f7⟩ := hT6.out.jb.free kk hk2'
          by_cases hdd : (u kk).dem ≤ (u kk).done
          · go_wp2
            go_meet
            exact ⟨setJ u kk ⟨0, r.x.c, 0, 0, noneW⟩, fun j => by
              unfold setJ
              split
              · exact ⟨Int.le_refl _, by show 0 ≤ r.x.c; omega, by show r.x.c ≤ 24; omega, Int.le_refl _, o3, Int.le_refl _, by show (0 : Int) ≤ i; omega, Ws.none⟩
              · exact hu.out j, by simp only [setJ, if_pos]; omega, hT6.out.set kk hk2' ⟨0, r.x.c, 0, 0, noneW⟩⟩
          · have hdz : ¬ (u kk).dem ≤ (u kk).done := hdd
            go_wp2
            go_meet
            exact ⟨u, hu.out, by omega, hT6.out⟩
        case rest =>
          clear x0 x1 x2 y0 y1 y2 y3 y4 y5 y6 hu hT6
          obtain ⟨u', hu, hdl, hT⟩ := hcut
          obtain ⟨k, hk⟩ : ∃ k, u' kk = k := ⟨_, rfl⟩
          have hku := hu kk
          rw [hk] at hdl hku
          obtain ⟨L', x, fl, hF, hl', hxo, hxd, hcase⟩ := tick_parts (L := L) (u := r.x.use) (id := r.x.id) hku hdl o3 o4 (by omega)
          have hLL : L'.length = S := hl'.trans hL.out
          have hmay := may_of HTK.out hL.out k.done
          have hown := own_small HTK.out (by omega)
          have hkb : k.dem ≤ 9223372036854775807 := by have := hku.m24; omega
          have hkc : k.debt ≤ 9223372036854775807 := by have := hku.bR; omega
          have hst : ∀ w, Tk W3 p g W4.heap.size 2 w L u' → Calls Try.prog 19 #[.pointer (some ⟨p, 0, none⟩), .agg r.vals, .int .i64 R, .agg k.cells] w fun z w' => z = .returned (.tuple #[.agg x.cells, .bool fl]) ∧ IsC w' p g L' ∧ Only g w w' := fun w h => by
            have h1 := step_f p g L r R k w h.ic (hrr.out.below h.bw (Nat.le_refl _)) hku.ws hown hmay hkb hkc
            rw [hF] at h1
            exact h1
          unfold RT.vals taskCells WkV.cells at hst
          have hkeep : ∀ w' L, Tk W3 p g W4.heap.size 2 w' L u' → w'.cell? ⟨W2.heap.size, 1, none⟩ = some (.int .i64 R) ∧ w'.cell? ⟨W2.heap.size, 2, none⟩ = some (.slice (some ⟨b, o, none⟩) n c) ∧ w'.cell? ⟨b, o + kk * 7, none⟩ = some (.int .i64 r.x.id) ∧ w'.cell? ⟨b, o + kk * 7 + 1, none⟩ = some (.int .i64 r.x.c) ∧ w'.cell? ⟨b, o + kk * 7 + 2, none⟩ = some (.int .i64 r.x.d) ∧ w'.cell? ⟨b, o + kk * 7 + 3, none⟩ = some (.int .i64 r.x.t) ∧ w'.cell? ⟨b, o + kk * 7 + 4, none⟩ = some (.int .i64 r.x.prio) ∧ w'.cell? ⟨b, o + kk * 7 + 5, none⟩ = some (.slice r.ca r.cl r.cc) ∧ w'.cell? ⟨b, o + kk * 7 + 6, none⟩ = some (.slice r.ua r.ul r.uc) ∧ w'.cell? ⟨W4.heap.size, kk * 8, none⟩ = some (.int .i64 k.done) ∧ w'.cell? ⟨W4.heap.size, kk * 8 + 1, none⟩ = some (.int .i64 k.dem) ∧ w'.cell? ⟨W4.heap.size, kk * 8 + 2, none⟩ = some (.int .i64 k.debt) ∧ w'.cell? ⟨W4.heap.size, kk * 8 + 3, none⟩ = some (.int .i64 k.rel) ∧ w'.cell? ⟨W4.heap.size, kk * 8 + 4, none⟩ = some (.int .u64 (k.seen 0 : Int)) ∧ w'.cell? ⟨W4.heap.size, kk * 8 + 5, none⟩ = some (.int .u64 (k.seen 1 : Int)) ∧ w'.cell? ⟨W4.heap.size, kk * 8 + 6, none⟩ = some (.int .u64 (k.seen 2 : Int)) ∧ w'.cell? ⟨W4.heap.size, kk * 8 + 7, none⟩ = some (.int .u64 (k.seen 3 : Int)) := fun w' L h => by
            obtain ⟨x0, x1, x2⟩ := bx_three (bx_old HX3.out h.bw (bx_lt HX3.out))
            obtain ⟨m0, m1, m2, m3, m4, m5, m6, m7⟩ := h.jb.cell kk hk2'
            rw [hk] at m0 m1 m2 m3 m4 m5 m6 m7
            obtain ⟨y0, y1, y2, y3, y4, y5, y6⟩ := HCS.out.block (h.bw.block b hbl3)
            exact ⟨x1, x2, y0, y1, y2, y3, y4, y5, y6, m0, m1, m2, m3, m4, m5, m6, m7⟩
          have hTd : Tk W3 p g W4.heap.size 2 wc.drew L u' := hT.drew
          have hTa : ∀ o, Tk W3 p g W4.heap.size 2 (wc.alloc o).drew L u' := fun o => hT.below (((Below.refl _ wc).alloc (Nat.le_refl _) o).drew)
          have HXD := Lib.hid hxd
          have HCA := Lib.hid hcase
          have HLL := Lib.hid hLL
          have HXO := Lib.hid hxo
          have HKU := Lib.hid hku
          have HU := Lib.hid hu
          clear hxd hcase hLL hxo hku hu hF hmay
          have hst0 := hst _ hTd
          have hst1 := fun o => hst _ (hTa o)
          clear hst
          go_wp2_with fail
          go_cut [11, 12] (fun v fv wx => ∃ xb, v = .pointer (some ⟨xb, 0, none⟩) ∧ fv = .bool fl ∧ wx.heap[xb]? = some (.cells x.cells 47 (0, 0)) ∧ Tk W3 p g W4.heap.size 2 wx L' u' ∧ xb ≠ W4.heap.size)
          case first =>
            have hbl := hT.bl
            have hgl := hT.ic.lt
            go_region_held3 (fun w' => w'.cell? ⟨W2.heap.size, 1, none⟩ = some (.int .i64 R) ∧ w'.cell? ⟨W2.heap.size, 2, none⟩ = some (.slice (some ⟨b, o, none⟩) n c) ∧ w'.cell? ⟨b, o + kk * 7, none⟩ = some (.int .i64 r.x.id) ∧ w'.cell? ⟨b, o + kk * 7 + 1, none⟩ = some (.int .i64 r.x.c) ∧ w'.cell? ⟨b, o + kk * 7 + 2, none⟩ = some (.int .i64 r.x.d) ∧ w'.cell? ⟨b, o + kk * 7 + 3, none⟩ = some (.int .i64 r.x.t) ∧ w'.cell? ⟨b, o + kk * 7 + 4, none⟩ = some (.int .i64 r.x.prio) ∧ w'.cell? ⟨b, o + kk * 7 + 5, none⟩ = some (.slice r.ca r.cl r.cc) ∧ w'.cell? ⟨b, o + kk * 7 + 6, none⟩ = some (.slice r.ua r.ul r.uc) ∧ w'.cell? ⟨W4.heap.size, kk * 8, none⟩ = some (.int .i64 k.done) ∧ w'.cell? ⟨W4.heap.size, kk * 8 + 1, none⟩ = some (.int .i64 k.dem) ∧ w'.cell? ⟨W4.heap.size, kk * 8 + 2, none⟩ = some (.int .i64 k.debt) ∧ w'.cell? ⟨W4.heap.size, kk * 8 + 3, none⟩ = some (.int .i64 k.rel) ∧ w'.cell? ⟨W4.heap.size, kk * 8 + 4, none⟩ = some (.int .u64 (k.seen 0 : Int)) ∧ w'.cell? ⟨W4.heap.size, kk * 8 + 5, none⟩ = some (.int .u64 (k.seen 1 : Int)) ∧ w'.cell? ⟨W4.heap.size, kk * 8 + 6, none⟩ = some (.int .u64 (k.seen 2 : Int)) ∧ w'.cell? ⟨W4.heap.size, kk * 8 + 7, none⟩ = some (.int .u64 (k.seen 3 : Int))) (first | with_reducible exact hkeep _ _ hTd | with_reducible exact hkeep _ _ (hTa _) | with_reducible exact hkeep _ _ T1 | with_reducible exact hkeep _ _ (T1a _) | with_reducible exact hkeep _ _ (T1s _ _ _ _ _ _ _ _))
              (first
                | (go_at_call 19; (with_reducible refine hst0.mono ?_); rintro z w1 ⟨rfl, hC1, hO1⟩; have T1 := hTd.step hC1 hO1; have T1a := fun o => T1.below ((Below.refl _ w1).alloc (Nat.le_refl _) o))
                | (go_at_call 19; (with_reducible refine (hst1 _).mono ?_); rintro z w1 ⟨rfl, hC1, hO1⟩; have T1 := (hTa _).step hC1 hO1; have hxz : w1.heap[wc.heap.size]? = some (.cells #[.int .i64 0, .int .i64 0, .int .i64 0, .int .i64 0, .int .u64 0, .int .u64 0, .int .u64 0, .int .u64 0] 47 (0, 0)) := (hO1.block _ (by simp) (by omega)).trans (heap_new wc _ _ rfl); have T1s : ∀ v0 v1 v2 v3 v4 v5 v6 v7, Tk W3 p g W4.heap.size 2 ((((((((w1.setCell ⟨wc.heap.size, 0, none⟩ v0).setCell ⟨wc.heap.size, 1, none⟩ v1).setCell ⟨wc.heap.size, 2, none⟩ v2).setCell ⟨wc.heap.size, 3, none⟩ v3).setCell ⟨wc.heap.size, 4, none⟩ v4).setCell ⟨wc.heap.size, 5, none⟩ v5).setCell ⟨wc.heap.size, 6, none⟩ v6).setCell ⟨wc.heap.size, 7, none⟩ v7) L' u' := fun v0 v1 v2 v3 v4 v5 v6 v7 => T1.own hT.bw.size (by omega) (by omega) (by omega) v0 v1 v2 v3 v4 v5 v6 v7; obtain ⟨n0, n1, n2, n3, n4, n5, n6, n7⟩ := c8v (X := fun _ => 0) hxz; obtain ⟨j0, j1, j2, j3, j4, j5, j6, j7⟩ := fr8v hxz))
            all_goals
              go_wp2
              go_meet
            · exact ⟨_, rfl, rfl, heap_new _ _ _ rfl, T1a _, by have := T1.bl; omega⟩
            · exact ⟨_, rfl, rfl, putW_same hxz _ _ _ _ _ _ _ _, T1s _ _ _ _ _ _ _ _, by omega⟩
          case rest =>
            obtain ⟨xb, rfl, rfl, hxb, hT2, hxn⟩ := hcut
            clear hst0 hst1 hTd hTa hkeep hT
            obtain ⟨xd, xm, xe, xr, xs⟩ := x
            obtain ⟨kd, km, ke, kr, ks⟩ := k
            have hcase := HCA.out
            have hxd := HXD.out
            simp only at hcase hxd
            subst hxd
            have ku := HKU.out
            have k1 := ku.d0
            have k2 := ku.m24
            have k3 := ku.b0
            have k4 := ku.bR
            have k5 := ku.r0
            have k6 := ku.rm
            simp only at k1 k2 k3 k4 k5 k6 hdl
            unfold WkV.cells at hxb
            simp only at hxb
            have HT2 := Lib.hid hT2
            have HK9 := Lib.hid hk
            clear hT2 HCA HXD ku hk
            rcases hcase with ⟨rfl, rfl, rfl, rfl⟩ | ⟨rfl, rfl, rfl, hR, hde⟩
            · skip
              have e1 : IntKind.i64.wrap (kd + 1 - kd) = 1 := by rw [IntKind.wrap_i64]; omega
              have e2 : IntKind.i64.wrap (xr - xr) = 0 := by rw [IntKind.wrap_i64]; omega
              have d1 : decide (R < 0) = false := by simp; omega
              have HXB : Hid (wc.heap[xb]? = some (.cells #[.int .i64 (kd + 1), .int .i64 xm, .int .i64 0, .int .i64 xr, .int .u64 (xs 0 : Int), .int .u64 (xs 1 : Int), .int .u64 (xs 2 : Int), .int .u64 (xs 3 : Int)] 47 (0, 0))) := hxb
              clear hxb
              obtain ⟨c0, c1, c2, c3, c4, c5, c6, c7⟩ := c8v HXB.out
              obtain ⟨m0, m1, m2, m3, m4, m5, m6, m7⟩ := HT2.out.jb.cell kk hk2'
              rw [HK9.out] at m0 m1 m2 m3 m4 m5 m6 m7
              obtain ⟨x0, x1, x2⟩ := bx_three (bx_old HX3.out HT2.out.bw (bx_lt HX3.out))
              simp only at m0 m1 m2 m3 m4 m5 m6 m7
              go_wp2_with fail
              go_quiet (fail)
              clear c0 c1 c2 c3 c4 c5 c6 c7 m0 m1 m2 m3 m4 m5 m6 m7 x0 x1 x2
              have HT9 : Hid (Tk W3 p g W4.heap.size 2 (wc.drewN nq) L' u') := HT2.out.drewN nq
              have HX9 : Hid ((wc.drewN nq).heap[xb]? = some (.cells #[.int .i64 (kd + 1), .int .i64 xm, .int .i64 0, .int .i64 xr, .int .u64 (xs 0 : Int), .int .u64 (xs 1 : Int), .int .u64 (xs 2 : Int), .int .u64 (xs 3 : Int)] 47 (0, 0))) := HXB.out
              clear HT2 HXB
              generalize wc.drewN nq = wd1 at *
              rename Hid (Tk W3 p g W4.heap.size 2 wd1 L' u') => HT2
              rename Hid (wd1.heap[xb]? = some (.cells #[.int .i64 (kd + 1), .int .i64 xm, .int .i64 0, .int .i64 xr, .int .u64 (xs 0 : Int), .int .u64 (xs 1 : Int), .int .u64 (xs 2 : Int), .int .u64 (xs 3 : Int)] 47 (0, 0))) => HXB
              obtain ⟨c0, c1, c2, c3, c4, c5, c6, c7⟩ := c8v HXB.out
              obtain ⟨m0, m1, m2, m3, m4, m5, m6, m7⟩ := HT2.out.jb.cell kk hk2'
              rw [HK9.out] at m0 m1 m2 m3 m4 m5 m6 m7
              obtain ⟨x0, x1, x2⟩ := bx_three (bx_old HX3.out HT2.out.bw (bx_lt HX3.out))
              simp only at m0 m1 m2 m3 m4 m5 m6 m7
              go_wp2_with fail
              go_quiet (fail)
              clear c0 c1 c2 c3 c4 c5 c6 c7 m0 m1 m2 m3 m4 m5 m6 m7 x0 x1 x2
              have HT9 : Hid (Tk W3 p g W4.heap.size 2 (wd1.drewN nq) L' u') := HT2.out.drewN nq
              have HX9 : Hid ((wd1.drewN nq).heap[xb]? = some (.cells #[.int .i64 (kd + 1), .int .i64 xm, .int .i64 0, .int .i64 xr, .int .u64 (xs 0 : Int), .int .u64 (xs 1 : Int), .int .u64 (xs 2 : Int), .int .u64 (xs 3 : Int)] 47 (0, 0))) := HXB.out
              clear HT2 HXB
              generalize wd1.drewN nq = wd2 at *
              rename Hid (Tk W3 p g W4.heap.size 2 wd2 L' u') => HT2
              rename Hid (wd2.heap[xb]? = some (.cells #[.int .i64 (kd + 1), .int .i64 xm, .int .i64 0, .int .i64 xr, .int .u64 (xs 0 : Int), .int .u64 (xs 1 : Int), .int .u64 (xs 2 : Int), .int .u64 (xs 3 : Int)] 47 (0, 0))) => HXB
              go_wp2_with fail
              have HXf : Hid (∀ w, Below wd2.heap.size wd2 w → w.cell? ⟨W2.heap.size, 1, none⟩ = some (.int .i64 R)) := fun w h => (bx_three (bx_old HX3.out (HT2.out.below h).bw (bx_lt HX3.out))).2.1
              have HCf : Hid (∀ w, Below wd2.heap.size wd2 w → w.cell? ⟨xb, 1, none⟩ = some (.int .i64 xm) ∧ w.cell? ⟨xb, 2, none⟩ = some (.int .i64 0)) := fun w h => by
                have q := c8v ((h.block _ (bx_lt HXB.out)).trans HXB.out)
                exact ⟨q.2.1, q.2.2.1⟩
              have HMf : Hid (∀ w, Below wd2.heap.size wd2 w → w.cell? ⟨W4.heap.size, kk * 8 + 1, none⟩ = some (.int .i64 xm) ∧ w.cell? ⟨W4.heap.size, kk * 8 + 2, none⟩ = some (.int .i64 ke)) := fun w h => by
                have q := (HT2.out.below h).jb.cell kk hk2'
                rw [HK9.out] at q
                exact ⟨q.2.1, q.2.2.1⟩
              refine reg18_a W2.heap.size W4.heap.size xb kk R xm ke wd2 _ _ _ _ _ _ _ _ _ _ _ _ _ _ _ _ _ _ _ _ _ _ _ _ _ _ _ _ _ _ _ _ _ _ _ _ _ _ _ _ _ _ _ _ _ _ _ _ _ _ _ _ _ _ _ _ _ _ _ _ _ _ _ _ _ _ _ _ _ _ _ _ _ _ _ _ _ _ _ _ _ _ _ _ _ _ _ _ _ _ _ _ _ _ _ _ _ _ _ _ _ _ _ _ _ _ _ _ _ _ _ _ _ _ _ _ _ _ _ _ _ _ _ _ _ _ _ _ _ _ _ _ _ _ _ _ _ _ _ _ _ _ _ _ _ _ _ _ _ _ _ _ _ _  HXf HCf HMf q0 q1 d1 (Lib.hid fun v85 v86 v87 v88 v89 v90 v91 v92 v93 v94 v95 v96 v97 v98 v99 v100 v101 v102 v103 v104 v105 v106 v107 v108 v109 v110 v111 v112 v113 v114 v115 v116 v117 v118 v119 v120 v121 v122 v123 v124 v125 v126 v127 v128 v129 v130 v131 v132 v133 v134 v135 v136 v137 v138 v139 v140 v141 v142 v143 v144 v145 v146 v147 v148 v149 v150 v151 v152 v153 v154 w9 hB9 => ?_)
              clear HXf HCf HMf
              have HT9 := Lib.hid (HT2.out.below hB9)
              have hX9 := (hB9.block _ (bx_lt HXB.out)).trans HXB.out
              clear hB9 HT2 HXB
              obtain ⟨c0, c1, c2, c3, c4, c5, c6, c7⟩ := c8v hX9
              obtain ⟨m0, m1, m2, m3, m4, m5, m6, m7⟩ := HT9.out.jb.cell kk hk2'
              rw [HK9.out] at m0 m1 m2 m3 m4 m5 m6 m7
              simp only at m0 m1 m2 m3 m4 m5 m6 m7
              obtain ⟨f0, f1, f2, f3, f4, f5, f6, f7⟩ := HT9.out.jb.free kk hk2'
              clear hX9
              go_wp2
              go_roundg (60 - (i + 1))
              case measure => omega
              case rel => exact ⟨i + 1, setJ u' kk ⟨(kd + 1), xm, 0, xr, xs⟩, L', by omega, by omega, by go_num, HLL.out, fun j => by
                unfold setJ
                split
                · exact HXO.out
                · exact (HU.out j).mono (by push_cast; omega), HT9.out.set kk hk2' ⟨(kd + 1), xm, 0, xr, xs⟩⟩
            · rcases hde with ⟨hde, rfl⟩ | rfl
              · skip
                have e1 : IntKind.i64.wrap (xd - xd) = 0 := by rw [IntKind.wrap_i64]; omega
                have e2 : IntKind.i64.wrap (kr + 1 - kr) = 1 := by rw [IntKind.wrap_i64]; omega
                have hRz : (R == 0) = false := by simp; omega
                have hxe := HXO.out.bR
                simp only at hxe
                have d1 : decide (R < ke - 1) = false := by simp; omega
                have d2 : decide (0 < ke) = true := by simp; omega
                have d3 : IntKind.i64.wrap (ke - 1) = ke - 1 := by rw [IntKind.wrap_i64]; omega
                have HXB : Hid (wc.heap[xb]? = some (.cells #[.int .i64 xd, .int .i64 xm, .int .i64 (ke - 1), .int .i64 (kr + 1), .int .u64 (xs 0 : Int), .int .u64 (xs 1 : Int), .int .u64 (xs 2 : Int), .int .u64 (xs 3 : Int)] 47 (0, 0))) := hxb
                clear hxb
                obtain ⟨c0, c1, c2, c3, c4, c5, c6, c7⟩ := c8v HXB.out
                obtain ⟨m0, m1, m2, m3, m4, m5, m6, m7⟩ := HT2.out.jb.cell kk hk2'
                rw [HK9.out] at m0 m1 m2 m3 m4 m5 m6 m7
                obtain ⟨x0, x1, x2⟩ := bx_three (bx_old HX3.out HT2.out.bw (bx_lt HX3.out))
                simp only at m0 m1 m2 m3 m4 m5 m6 m7
                go_wp2_with fail
                go_quiet (fail)
                clear c0 c1 c2 c3 c4 c5 c6 c7 m0 m1 m2 m3 m4 m5 m6 m7 x0 x1 x2
                have HT9 : Hid (Tk W3 p g W4.heap.size 2 (wc.drewN nq) L' u') := HT2.out.drewN nq
                have HX9 : Hid ((wc.drewN nq).heap[xb]? = some (.cells #[.int .i64 xd, .int .i64 xm, .int .i64 (ke - 1), .int .i64 (kr + 1), .int .u64 (xs 0 : Int), .int .u64 (xs 1 : Int), .int .u64 (xs 2 : Int), .int .u64 (xs 3 : Int)] 47 (0, 0))) := HXB.out
                clear HT2 HXB
                generalize wc.drewN nq = wd1 at *
                rename Hid (Tk W3 p g W4.heap.size 2 wd1 L' u') => HT2
                rename Hid (wd1.heap[xb]? = some (.cells #[.int .i64 xd, .int .i64 xm, .int .i64 (ke - 1), .int .i64 (kr + 1), .int .u64 (xs 0 : Int), .int .u64 (xs 1 : Int), .int .u64 (xs 2 : Int), .int .u64 (xs 3 : Int)] 47 (0, 0))) => HXB
                obtain ⟨c0, c1, c2, c3, c4, c5, c6, c7⟩ := c8v HXB.out
                obtain ⟨m0, m1, m2, m3, m4, m5, m6, m7⟩ := HT2.out.jb.cell kk hk2'
                rw [HK9.out] at m0 m1 m2 m3 m4 m5 m6 m7
                obtain ⟨x0, x1, x2⟩ := bx_three (bx_old HX3.out HT2.out.bw (bx_lt HX3.out))
                simp only at m0 m1 m2 m3 m4 m5 m6 m7
                go_wp2_with fail
                go_quiet (fail)
                clear c0 c1 c2 c3 c4 c5 c6 c7 m0 m1 m2 m3 m4 m5 m6 m7 x0 x1 x2
                have HT9 : Hid (Tk W3 p g W4.heap.size 2 (wd1.drewN nq) L' u') := HT2.out.drewN nq
                have HX9 : Hid ((wd1.drewN nq).heap[xb]? = some (.cells #[.int .i64 xd, .int .i64 xm, .int .i64 (ke - 1), .int .i64 (kr + 1), .int .u64 (xs 0 : Int), .int .u64 (xs 1 : Int), .int .u64 (xs 2 : Int), .int .u64 (xs 3 : Int)] 47 (0, 0))) := HXB.out
                clear HT2 HXB
                generalize wd1.drewN nq = wd2 at *
                rename Hid (Tk W3 p g W4.heap.size 2 wd2 L' u') => HT2
                rename Hid (wd2.heap[xb]? = some (.cells #[.int .i64 xd, .int .i64 xm, .int .i64 (ke - 1), .int .i64 (kr + 1), .int .u64 (xs 0 : Int), .int .u64 (xs 1 : Int), .int .u64 (xs 2 : Int), .int .u64 (xs 3 : Int)] 47 (0, 0))) => HXB
                go_wp2_with fail
                have HXf : Hid (∀ w, Below wd2.heap.size wd2 w → w.cell? ⟨W2.heap.size, 1, none⟩ = some (.int .i64 R)) := fun w h => (bx_three (bx_old HX3.out (HT2.out.below h).bw (bx_lt HX3.out))).2.1
                have HCf : Hid (∀ w, Below wd2.heap.size wd2 w → w.cell? ⟨xb, 1, none⟩ = some (.int .i64 xm) ∧ w.cell? ⟨xb, 2, none⟩ = some (.int .i64 (ke - 1))) := fun w h => by
                  have q := c8v ((h.block _ (bx_lt HXB.out)).trans HXB.out)
                  exact ⟨q.2.1, q.2.2.1⟩
                have HMf : Hid (∀ w, Below wd2.heap.size wd2 w → w.cell? ⟨W4.heap.size, kk * 8 + 1, none⟩ = some (.int .i64 xm) ∧ w.cell? ⟨W4.heap.size, kk * 8 + 2, none⟩ = some (.int .i64 ke)) := fun w h => by
                  have q := (HT2.out.below h).jb.cell kk hk2'
                  rw [HK9.out] at q
                  exact ⟨q.2.1, q.2.2.1⟩
                refine reg18_b W2.heap.size W4.heap.size xb kk R xm ke wd2 _ _ _ _ _ _ _ _ _ _ _ _ _ _ _ _ _ _ _ _ _ _ _ _ _ _ _ _ _ _ _ _ _ _ _ _ _ _ _ _ _ _ _ _ _ _ _ _ _ _ _ _ _ _ _ _ _ _ _ _ _ _ _ _ _ _ _ _ _ _ _ _ _ _ _ _ _ _ _ _ _ _ _ _ _ _ _ _ _ _ _ _ _ _ _ _ _ _ _ _ _ _ _ _ _ _ _ _ _ _ _ _ _ _ _ _ _ _ _ _ _ _ _ _ _ _ _ _ _ _ _ _ _ _ _ _ _ _ _ _ _ _ _ _ _ _ _ _ _ _ _ _ _ _  HXf HCf HMf q0 q1 hRz d1 d2 d3 (Lib.hid fun v85 v86 v87 v88 v89 v90 v91 v92 v93 v94 v95 v96 v97 v98 v99 v100 v101 v102 v103 v104 v105 v106 v107 v108 v109 v110 v111 v112 v113 v114 v115 v116 v117 v118 v119 v120 v121 v122 v123 v124 v125 v126 v127 v128 v129 v130 v131 v132 v133 v134 v135 v136 v137 v138 v139 v140 v141 v142 v143 v144 v145 v146 v147 v148 v149 v150 v151 v152 v153 v154 w9 hB9 => ?_)
                clear HXf HCf HMf
                have HT9 := Lib.hid (HT2.out.below hB9)
                have hX9 := (hB9.block _ (bx_lt HXB.out)).trans HXB.out
                clear hB9 HT2 HXB
                obtain ⟨c0, c1, c2, c3, c4, c5, c6, c7⟩ := c8v hX9
                obtain ⟨m0, m1, m2, m3, m4, m5, m6, m7⟩ := HT9.out.jb.cell kk hk2'
                rw [HK9.out] at m0 m1 m2 m3 m4 m5 m6 m7
                simp only at m0 m1 m2 m3 m4 m5 m6 m7
                obtain ⟨f0, f1, f2, f3, f4, f5, f6, f7⟩ := HT9.out.jb.free kk hk2'
                clear hX9
                go_wp2
                go_roundg (60 - (i + 1))
                case measure => omega
                case rel => exact ⟨i + 1, setJ u' kk ⟨xd, xm, (ke - 1), (kr + 1), xs⟩, L', by omega, by omega, by go_num, HLL.out, fun j => by
                  unfold setJ
                  split
                  · exact HXO.out
                  · exact (HU.out j).mono (by push_cast; omega), HT9.out.set kk hk2' ⟨xd, xm, (ke - 1), (kr + 1), xs⟩⟩
              · skip
                have e1 : IntKind.i64.wrap (xd - xd) = 0 := by rw [IntKind.wrap_i64]; omega
                have e2 : IntKind.i64.wrap (kr + 1 - kr) = 1 := by rw [IntKind.wrap_i64]; omega
                have hRz : (R == 0) = false := by simp; omega
                have hxe := HXO.out.bR
                simp only at hxe
                have d1 : decide (R < xe) = false := by simp; omega
                have HXB : Hid (wc.heap[xb]? = some (.cells #[.int .i64 xd, .int .i64 xm, .int .i64 xe, .int .i64 (kr + 1), .int .u64 (xs 0 : Int), .int .u64 (xs 1 : Int), .int .u64 (xs 2 : Int), .int .u64 (xs 3 : Int)] 47 (0, 0))) := hxb
                clear hxb
                obtain ⟨c0, c1, c2, c3, c4, c5, c6, c7⟩ := c8v HXB.out
                obtain ⟨m0, m1, m2, m3, m4, m5, m6, m7⟩ := HT2.out.jb.cell kk hk2'
                rw [HK9.out] at m0 m1 m2 m3 m4 m5 m6 m7
                obtain ⟨x0, x1, x2⟩ := bx_three (bx_old HX3.out HT2.out.bw (bx_lt HX3.out))
                simp only at m0 m1 m2 m3 m4 m5 m6 m7
                go_wp2_with fail
                go_quiet (fail)
                clear c0 c1 c2 c3 c4 c5 c6 c7 m0 m1 m2 m3 m4 m5 m6 m7 x0 x1 x2
                have HT9 : Hid (Tk W3 p g W4.heap.size 2 (wc.drewN nq) L' u') := HT2.out.drewN nq
                have HX9 : Hid ((wc.drewN nq).heap[xb]? = some (.cells #[.int .i64 xd, .int .i64 xm, .int .i64 xe, .int .i64 (kr + 1), .int .u64 (xs 0 : Int), .int .u64 (xs 1 : Int), .int .u64 (xs 2 : Int), .int .u64 (xs 3 : Int)] 47 (0, 0))) := HXB.out
                clear HT2 HXB
                generalize wc.drewN nq = wd1 at *
                rename Hid (Tk W3 p g W4.heap.size 2 wd1 L' u') => HT2
                rename Hid (wd1.heap[xb]? = some (.cells #[.int .i64 xd, .int .i64 xm, .int .i64 xe, .int .i64 (kr + 1), .int .u64 (xs 0 : Int), .int .u64 (xs 1 : Int), .int .u64 (xs 2 : Int), .int .u64 (xs 3 : Int)] 47 (0, 0))) => HXB
                obtain ⟨c0, c1, c2, c3, c4, c5, c6, c7⟩ := c8v HXB.out
                obtain ⟨m0, m1, m2, m3, m4, m5, m6, m7⟩ := HT2.out.jb.cell kk hk2'
                rw [HK9.out] at m0 m1 m2 m3 m4 m5 m6 m7
                obtain ⟨x0, x1, x2⟩ := bx_three (bx_old HX3.out HT2.out.bw (bx_lt HX3.out))
                simp only at m0 m1 m2 m3 m4 m5 m6 m7
                go_wp2_with fail
                go_quiet (fail)
                clear c0 c1 c2 c3 c4 c5 c6 c7 m0 m1 m2 m3 m4 m5 m6 m7 x0 x1 x2
                have HT9 : Hid (Tk W3 p g W4.heap.size 2 (wd1.drewN nq) L' u') := HT2.out.drewN nq
                have HX9 : Hid ((wd1.drewN nq).heap[xb]? = some (.cells #[.int .i64 xd, .int .i64 xm, .int .i64 xe, .int .i64 (kr + 1), .int .u64 (xs 0 : Int), .int .u64 (xs 1 : Int), .int .u64 (xs 2 : Int), .int .u64 (xs 3 : Int)] 47 (0, 0))) := HXB.out
                clear HT2 HXB
                generalize wd1.drewN nq = wd2 at *
                rename Hid (Tk W3 p g W4.heap.size 2 wd2 L' u') => HT2
                rename Hid (wd2.heap[xb]? = some (.cells #[.int .i64 xd, .int .i64 xm, .int .i64 xe, .int .i64 (kr + 1), .int .u64 (xs 0 : Int), .int .u64 (xs 1 : Int), .int .u64 (xs 2 : Int), .int .u64 (xs 3 : Int)] 47 (0, 0))) => HXB
                go_wp2_with fail
                have HXf : Hid (∀ w, Below wd2.heap.size wd2 w → w.cell? ⟨W2.heap.size, 1, none⟩ = some (.int .i64 R)) := fun w h => (bx_three (bx_old HX3.out (HT2.out.below h).bw (bx_lt HX3.out))).2.1
                have HCf : Hid (∀ w, Below wd2.heap.size wd2 w → w.cell? ⟨xb, 1, none⟩ = some (.int .i64 xm) ∧ w.cell? ⟨xb, 2, none⟩ = some (.int .i64 xe)) := fun w h => by
                  have q := c8v ((h.block _ (bx_lt HXB.out)).trans HXB.out)
                  exact ⟨q.2.1, q.2.2.1⟩
                have HMf : Hid (∀ w, Below wd2.heap.size wd2 w → w.cell? ⟨W4.heap.size, kk * 8 + 1, none⟩ = some (.int .i64 xm) ∧ w.cell? ⟨W4.heap.size, kk * 8 + 2, none⟩ = some (.int .i64 0)) := fun w h => by
                  have q := (HT2.out.below h).jb.cell kk hk2'
                  rw [HK9.out] at q
                  exact ⟨q.2.1, q.2.2.1⟩
                refine reg18_c W2.heap.size W4.heap.size xb kk R xm xe wd2 _ _ _ _ _ _ _ _ _ _ _ _ _ _ _ _ _ _ _ _ _ _ _ _ _ _ _ _ _ _ _ _ _ _ _ _ _ _ _ _ _ _ _ _ _ _ _ _ _ _ _ _ _ _ _ _ _ _ _ _ _ _ _ _ _ _ _ _ _ _ _ _ _ _ _ _ _ _ _ _ _ _ _ _ _ _ _ _ _ _ _ _ _ _ _ _ _ _ _ _ _ _ _ _ _ _ _ _ _ _ _ _ _ _ _ _ _ _ _ _ _ _ _ _ _ _ _ _ _ _ _ _ _ _ _ _ _ _ _ _ _ _ _ _ _ _ _ _ _ _ _ _ _ _  HXf HCf HMf q0 q1 hRz d1 (Lib.hid fun v85 v86 v87 v88 v89 v90 v91 v92 v93 v94 v95 v96 v97 v98 v99 v100 v101 v102 v103 v104 v105 v106 v107 v108 v109 v110 v111 v112 v113 v114 v115 v116 v117 v118 v119 v120 v121 v122 v123 v124 v125 v126 v127 v128 v129 v130 v131 v132 v133 v134 v135 v136 v137 v138 v139 v140 v141 v142 v143 v144 v145 v146 v147 v148 v149 v150 v151 v152 v153 v154 w9 hB9 => ?_)
                clear HXf HCf HMf
                have HT9 := Lib.hid (HT2.out.below hB9)
                have hX9 := (hB9.block _ (bx_lt HXB.out)).trans HXB.out
                clear hB9 HT2 HXB
                obtain ⟨c0, c1, c2, c3, c4, c5, c6, c7⟩ := c8v hX9
                obtain ⟨m0, m1, m2, m3, m4, m5, m6, m7⟩ := HT9.out.jb.cell kk hk2'
                rw [HK9.out] at m0 m1 m2 m3 m4 m5 m6 m7
                simp only at m0 m1 m2 m3 m4 m5 m6 m7
                obtain ⟨f0, f1, f2, f3, f4, f5, f6, f7⟩ := HT9.out.jb.free kk hk2'
                clear hX9
                go_wp2
                go_roundg (60 - (i + 1))
                case measure => omega
                case rel => exact ⟨i + 1, setJ u' kk ⟨xd, xm, xe, (kr + 1), xs⟩, L', by omega, by omega, by go_num, HLL.out, fun j => by
                  unfold setJ
                  split
                  · exact HXO.out
                  · exact (HU.out j).mono (by push_cast; omega), HT9.out.set kk hk2' ⟨xd, xm, xe, (kr + 1), xs⟩⟩
    · obtain rfl : i = 60 := by omega
      have hlz : ¬ ((60 : Nat) : Int) < 60 := by omega
      have HBE : Hid (Below W.heap.size W wr) := HB3.out.trans (hT.out.bw.mono (by omega))
      clear hlt hT hu
      go_wp2
      go_ret
      exact ⟨rfl, HBE.out⟩
end Go.Proofs.Ytjilplfcmkipfaa.Cache
