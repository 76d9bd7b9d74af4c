/-
  The statement CacheOwns, walked.
-/
import Derived.Test.YtjilplfcmkipfaaCache4
import Derived.StillTailTactics
import Derived.Test.YtjilplfcmkipfaaMask
namespace Go.Proofs.Ytjilplfcmkipfaa.Cache
open Go.RowKit Go.Shelf Go.Proofs.Ytjilplfcmkipfaa.Bits

set_option maxHeartbeats 8000000 in
set_option maxRecDepth 100000 in
theorem CacheOwns_walk (a0 : Int) (a1 : Option Addr) (len1 cap1 : Nat) (z1 : List (Int × Int)) (W : World) (_w0 : (Lit.int .i64 a0).wf = true) (w1 : Row0.IsPairs .i64 .i64 W a1 len1 cap1 z1) :
    Calls Try.prog 3 #[.int .i64 a0, .slice a1 len1 cap1] W fun e w' => e = .returned (.bool true) ∧ Below W.heap.size W w' := by
  have hlc := w1.le
  have hcm := w1.mx
  have HP := Lib.hid w1
  clear w1
  have ht := Int.tmod_lt_of_pos a0 (show (0 : Int) < 257 by omega)
  have ht' := Int.lt_tmod_of_pos a0 (show (0 : Int) < 257 by omega)
  obtain ⟨t, ht0, t1, t2⟩ : ∃ t, a0.tmod 257 = t ∧ -257 < t ∧ t < 257 := ⟨_, rfl, by omega, ht⟩
  clear ht ht'
  have ek : (t + 257).tmod 257 = (t + 257) % 257 := Int.tmod_eq_emod_of_nonneg (by omega)
  obtain ⟨n, hn0, hn⟩ : ∃ n : Nat, (t + 257) % 257 = (n : Int) ∧ n ≤ 256 := ⟨((t + 257) % 257).toNat, by omega, by omega⟩
  have hwr : IntKind.i64.wrap (t + 257) = t + 257 := by rw [IntKind.wrap_i64]; omega
  go_enter Try.func3, Try.ntmps3
  go_wp2_with fail
  refine (awake8_any W).mono ?_
  rintro e W0 ⟨rfl, hb0⟩
  have HB0 := Lib.hid hb0
  clear hb0
  go_wp2_with fail
  refine (new_any n hn W0).mono ?_
  rintro e W1 ⟨p, g, rfl, h1, hb1, hp, hg⟩
  have H1 := Lib.hid h1
  have HB1 : Hid (Below W.heap.size W W1) := HB0.out.trans (hb1.mono HB0.out.size)
  have HG : Hid (W.heap.size ≤ g) := Nat.le_trans HB0.out.size hg
  have HPP : Hid (W.heap.size ≤ p) := Nat.le_trans HB0.out.size hp
  clear h1 hb1 hp hg HB0
  go_wp2_with fail
  go_loopg [8] (min len1 40) (fun gg iv wr => ∃ (i : Nat) (L : List Int), i ≤ len1 ∧ i ≤ 40 ∧ iv = .int .i64 (i : Int) ∧ Aside (min len1 40 - i = gg) ∧ Aside (IsC wr p g L) ∧ Aside (L.length = n) ∧ Aside (Few L) ∧ Aside (Below W.heap.size W wr))
  case atStart => exact ⟨0, _, Nat.zero_le _, by decide, rfl, rfl, H1.out, List.length_replicate .., Few.rep n, HB1.out⟩
  case round =>
    obtain ⟨i, L, hi, hi4, rfl, hk, hC, hL, hF, hbel⟩ := hrel
    clear H1 HB1
    by_cases hlt : i < len1 ∧ i < 40
    · obtain ⟨hl1, hl2⟩ := hlt
      obtain ⟨b, o, rfl⟩ := HP.out.ad (by omega)
      obtain ⟨x0, x1⟩ := HP.out.at_ b o rfl i hl1
      have c0 := cell_old x0 hbel.out (Nat.le_refl _)
      have c1 := cell_old x1 hbel.out (Nat.le_refl _)
      clear x0 x1
      generalize (z1.getD i (0, 0)).1 = x at *
      generalize (z1.getD i (0, 0)).2 = y at *
      have ey := Row0.and_i64 y 4 (by decide) 15 rfl
      obtain ⟨u, hu, hu0, hu1⟩ : ∃ u, y % 16 = u ∧ 0 ≤ u ∧ u ≤ 15 := ⟨_, rfl, by omega, by omega⟩
      have eu : Go.bits .and .i64 y 15 = u := ey.trans hu
      clear ey hu
      have ew : IntKind.i64.wrap (1 + u) = 1 + u := by rw [IntKind.wrap_i64]; omega
      have q1 : (0 : Int) ≤ (i : Int) := by omega
      have q2 : (i : Int) < (len1 : Int) := by omega
      go_wp2_with fail
      go_still_tail 13, (by kernel_rfl)
      change wpList _ _ _ _ _ (World.drew _)
      go_wp2_with fail
      refine (use_any p g L x (1 + u) _ (hC.out.below (Below.refl _ _).drew (Nat.le_refl _))).mono ?_
      rintro e W2 ⟨rfl, h2, hb2⟩
      have H2 := Lib.hid h2
      have HB2 : Hid (Below W.heap.size W W2) := hbel.out.drew.trans (hb2.below HG.out hbel.out.size)
      clear h2 hb2 c0 c1
      go_wp2
      go_roundg (min len1 40 - (i + 1))
      case measure => have := hk.out; omega
      case rel => exact ⟨i + 1, _, by omega, by omega, by go_num, rfl, H2.out, by rw [useL_len]; exact hL.out, hF.out.use _ _ (by omega) (by omega), HB2.out⟩
    · have hn2 : Hid (n ≤ 256) := hn
      have HI : Hid (i = min len1 40) := by rw [RowKit.Hid]; omega
      by_cases hl : i < len1
      · obtain rfl : i = 40 := by omega
        rw [show ((40 : Nat) : Int) = 40 from rfl]
        clear hlt
        go_wp2_with fail
        have nX0 : ((wr.alloc (.cells #[.int .u64 0, .int .u64 0, .int .u64 0, .int .u64 0] 30)).alloc (.cells #[.int .u64 0, .int .u64 0, .int .u64 0, .int .u64 0] 30)).heap[wr.heap.size]? = some (.cells (rowc (iw noneW)) 30 (0, 0)) := by rw [Below.heap_alloc _ _ _ (by simp)]; exact heap_new _ _ _ rfl
        have nN0 : ((wr.alloc (.cells #[.int .u64 0, .int .u64 0, .int .u64 0, .int .u64 0] 30)).alloc (.cells #[.int .u64 0, .int .u64 0, .int .u64 0, .int .u64 0] 30)).heap[wr.heap.size + 1]? = some (.cells (rowc (iw noneW)) 30 (0, 0)) := heap_new _ _ _ (by simp)
        have hC0 : IsC ((wr.alloc (.cells #[.int .u64 0, .int .u64 0, .int .u64 0, .int .u64 0] 30)).alloc (.cells #[.int .u64 0, .int .u64 0, .int .u64 0, .int .u64 0] 30)) p g L := hC.out.below (((Below.refl _ wr).alloc (Nat.le_refl _) _).alloc (by simp) _) (Nat.le_refl _)
        have hB00 : Below W.heap.size W ((wr.alloc (.cells #[.int .u64 0, .int .u64 0, .int .u64 0, .int .u64 0] 30)).alloc (.cells #[.int .u64 0, .int .u64 0, .int .u64 0, .int .u64 0] 30)) := (hbel.out.alloc hbel.out.size _).alloc (by have := hbel.out.size; simp; omega) _
        have hbW := hbel.out.size
        have hpb := hC.out.lt.1
        have hgb := hC.out.lt.2
        clear hC hbel
        generalize (wr.alloc (.cells #[.int .u64 0, .int .u64 0, .int .u64 0, .int .u64 0] 30)).alloc (.cells #[.int .u64 0, .int .u64 0, .int .u64 0, .int .u64 0] 30) = W2 at *
        generalize wr.heap.size = b at *
        have HX0 := Lib.hid nX0
        have HN0 := Lib.hid nN0
        have HC0 := Lib.hid hC0
        have HB0 := Lib.hid hB00
        have HBW := Lib.hid hbW
        have HPB := Lib.hid hpb
        have HGB := Lib.hid hgb
        clear nX0 nN0 hC0 hB00 hbW hpb hgb
        go_loopg [11] 16 (fun gg iv w2 => ∃ (i : Nat) (X : Nat → Nat), 1 ≤ i ∧ i ≤ 17 ∧ iv = .int .i64 (i : Int) ∧ Aside (17 - i = gg) ∧ Aside (Upto L i X) ∧ Aside (w2.heap[b]? = some (.cells (rowc (iw X)) 30 (0, 0))) ∧ Aside (w2.heap[b + 1]? = some (.cells (rowc (iw noneW)) 30 (0, 0))) ∧ Aside (IsC w2 p g L) ∧ Aside (Below W.heap.size W w2))
        case atStart => exact ⟨1, noneW, by decide, by decide, rfl, rfl, Upto.none L, HX0.out, HN0.out, HC0.out, HB0.out⟩
        case round =>
          obtain ⟨i, X, hi1, hi7, rfl, hki, hU, hX2, hN2, hC2, hB2⟩ := hrel
          clear HX0 HN0 HC0 HB0
          by_cases hlt : i < 17
          · go_wp2_with fail
            refine (ofc_any p g L (i : Int) _ hC2.out).mono ?_
            rintro e W3 ⟨rfl, hb3⟩
            have hX := hU.out.1
            have hY : Ws (ofN (ofL L (i : Int))) := Ws.ofN _
            have f1 : eqN (andW X (ofN (ofL L (i : Int)))) noneW = true := hU.out.apart (by omega) (by omega)
            have hU2 := Lib.hid (hU.out.step hi1 (by omega))
            have nX3 := old4 hX2.out hb3 (lt4 hX2.out)
            have nN3 := old4 hN2.out hb3 (lt4 hN2.out)
            have nC3 := hC2.out.below hb3 (Nat.le_refl _)
            have nB3 := hB2.out.trans (hb3.mono hB2.out.size)
            clear hU hX2 hN2 hC2 hB2 hb3
            generalize ofN (ofL L (i : Int)) = Y at *
            rw [bvl]
            have HX3 := Lib.hid nX3
            have HN3 := Lib.hid nN3
            have HC3 := Lib.hid nC3
            have HB3 := Lib.hid nB3
            clear nX3 nN3 nC3 nB3
            go_wp2_with fail
            have nY4 := new4 W3 Y
            have nX4 : (W3.alloc (.cells #[.int .u64 (Y 0 : Int), .int .u64 (Y 1 : Int), .int .u64 (Y 2 : Int), .int .u64 (Y 3 : Int)] 30)).heap[b]? = some (.cells (rowc (iw X)) 30 (0, 0)) := by rw [Below.heap_alloc _ _ _ (lt4 HX3.out)]; exact HX3.out
            have nN4 : (W3.alloc (.cells #[.int .u64 (Y 0 : Int), .int .u64 (Y 1 : Int), .int .u64 (Y 2 : Int), .int .u64 (Y 3 : Int)] 30)).heap[b + 1]? = some (.cells (rowc (iw noneW)) 30 (0, 0)) := by rw [Below.heap_alloc _ _ _ (lt4 HN3.out)]; exact HN3.out
            have nC4 : IsC (W3.alloc (.cells #[.int .u64 (Y 0 : Int), .int .u64 (Y 1 : Int), .int .u64 (Y 2 : Int), .int .u64 (Y 3 : Int)] 30)) p g L := HC3.out.below ((Below.refl _ W3).alloc (Nat.le_refl _) _) (Nat.le_refl _)
            have nB4 : Below W.heap.size W (W3.alloc (.cells #[.int .u64 (Y 0 : Int), .int .u64 (Y 1 : Int), .int .u64 (Y 2 : Int), .int .u64 (Y 3 : Int)] 30)) := HB3.out.alloc HB3.out.size _
            generalize W3.alloc (.cells #[.int .u64 (Y 0 : Int), .int .u64 (Y 1 : Int), .int .u64 (Y 2 : Int), .int .u64 (Y 3 : Int)] 30) = W4 at *
            generalize W3.heap.size = c at *
            have LX := Lib.hid (box_in nX4)
            have LY := Lib.hid (box_in nY4)
            have LN := Lib.hid (box_in nN4)
            have HC4 := Lib.hid nC4
            have HB4 := Lib.hid nB4
            clear nX4 nY4 nN4 nC4 nB4 HX3 HN3 HC3 HB3
            refine Calm.wp_region_calm (B := W4.heap.size) (W := W4) (by kernel_rfl) (by kernel_rfl) (by kernel_rfl) (Nat.le_refl _) (Below.refl _ _).drew ?_
            apply Exists.intro
            repeat (first
              | (apply Calm.calm_skip
                 · rfl
                 intro N hN
                 go_simp
                 apply hN.out
                 clear hN N)
              | (apply Calm.calm_val
                 · rfl
                 · intro w hB hF K hK
                   first
                     | exact opAt_net f1 (by rfl) (by rfl) (by rfl) (hK.out _ _ rfl (Below.refl _ _))
                     | refine opAt_load (by rfl) (by rfl) (LX.out w hB) (hK.out _ _ rfl (Below.refl _ _))
                     | refine opAt_load (by rfl) (by rfl) (LY.out w hB) (hK.out _ _ rfl (Below.refl _ _))
                     | refine opAt_load (by rfl) (by rfl) (LN.out w hB) (hK.out _ _ rfl (Below.refl _ _))
                     | (unfold Calm.opAt
                        go_simp
                        first
                          | (simp only [Calm.upon_value]
                             exact hK.out _ _ rfl (Below.refl _ _))
                          | (simp only [Calm.upon_enter]
                             with_reducible refine (andr_n (by assumption) (by assumption) _).mono ?_
                             rintro e w' ⟨rfl, hb⟩
                             exact ⟨_, rfl, hK.out _ _ rfl hb⟩))
                 intro N hN
                 go_simp
                 apply hN.out
                 clear hN N))
            apply Calm.calm_nil
            intro W5 hB5 _
            have nX5 := LX.out W5 hB5
            have nN5 := LN.out W5 hB5
            have nY5 := LY.out W5 hB5
            have nC5 := HC4.out.below hB5 (Nat.le_refl _)
            have nB5 := HB4.out.trans (hB5.mono HB4.out.size)
            clear LX LY LN HC4 HB4 hB5 f1
            obtain ⟨a0', a1', a2', a3'⟩ := c4 nX5
            obtain ⟨b0', b1', b2', b3'⟩ := c4 nY5
            have HX5 := Lib.hid nX5
            have HN5 := Lib.hid nN5
            have HC5 := Lib.hid nC5
            have HB5 := Lib.hid nB5
            clear nX5 nN5 nC5 nB5 nY5
            go_wp2_with fail
            clear a0' a1' a2' a3' b0' b1' b2' b3'
            have r5 : (W5.alloc (.cells (row8 X Y) 30)).heap[W5.heap.size]? = some (.cells (row8 X Y) 30 (0, 0)) := heap_new _ _ _ rfl
            refine (orr_n _ 2 2 [X, Y] (ws2 hX hY) (W5.alloc (.cells (row8 X Y) 30)) (rdB_blk r5)).mono ?_
            rintro e W6 ⟨rfl, hb6⟩
            have hb6' : Below W5.heap.size W5 W6 := ((Below.refl _ W5).alloc (Nat.le_refl _) _).trans (hb6.mono (by simp))
            have nX6 := Lib.hid (old4 HX5.out hb6' (lt4 HX5.out))
            have nN6 := Lib.hid (old4 HN5.out hb6' (lt4 HN5.out))
            have nC6 := Lib.hid (HC5.out.below hb6' (Nat.le_refl _))
            have nB6 := Lib.hid (HB5.out.trans (hb6'.mono HB5.out.size))
            clear hb6 hb6' HX5 HN5 HC5 HB5 r5
            generalize orL [X, Y] = Z at *
            simp only [bvl]
            have k0 := frozen_row (nX6.out) 0
            have k1 := frozen_row (nX6.out) 1
            have k2 := frozen_row (nX6.out) 2
            have k3 := frozen_row (nX6.out) 3
            obtain ⟨e0, e1, e2, e3⟩ := c4 (nX6.out)
            have hw := set4 (nX6.out) (iw Z)
            simp only [iw] at hw
            have hbw := (below_set (below_set (below_set (below_set nB6.out (b) HBW.out 0 (.int .u64 (Z 0 : Int))) (b) HBW.out 1 (.int .u64 (Z 1 : Int))) (b) HBW.out 2 (.int .u64 (Z 2 : Int))) (b) HBW.out 3 (.int .u64 (Z 3 : Int)))
            have nN70 := (set4_other W6 (b) (b + 1) (by omega) (.int .u64 (Z 0 : Int)) (.int .u64 (Z 1 : Int)) (.int .u64 (Z 2 : Int)) (.int .u64 (Z 3 : Int))).trans (nN6.out)
            have nC70 : IsC (((((W6.setCell ⟨b, 0, none⟩ (.int .u64 (Z 0 : Int))).setCell ⟨b, 1, none⟩ (.int .u64 (Z 1 : Int))).setCell ⟨b, 2, none⟩ (.int .u64 (Z 2 : Int))).setCell ⟨b, 3, none⟩ (.int .u64 (Z 3 : Int)))) p g L := nC6.out.kept (set4_other W6 b p (by have := HPB.out; omega) _ _ _ _) (set4_other W6 b g (by have := HGB.out; omega) _ _ _ _)
            generalize hW9 : ((((W6.setCell ⟨b, 0, none⟩ (.int .u64 (Z 0 : Int))).setCell ⟨b, 1, none⟩ (.int .u64 (Z 1 : Int))).setCell ⟨b, 2, none⟩ (.int .u64 (Z 2 : Int))).setCell ⟨b, 3, none⟩ (.int .u64 (Z 3 : Int))) = W7 at *
            have nC7 := Lib.hid nC70
            clear nC70
            have HBW_ := Lib.hid hbw
            have HS : Hid (W7.heap[b]? = some (.cells (rowc (iw Z)) 30 (0, 0))) := hw
            have nN7 : Hid (W7.heap[b + 1]? = some (.cells (rowc (iw noneW)) 30 (0, 0))) := nN70
            clear hw hbw nN70
            go_wp2
            go_roundg (17 - (i + 1))
            case measure => have := hki.out; omega
            case rel => exact ⟨i + 1, Z, by omega, by omega, by go_num, rfl, hU2.out, HS.out, nN7.out, nC7.out, HBW_.out⟩
          · obtain rfl : i = 17 := by omega
            rw [show ((17 : Nat) : Int) = 17 from rfl]
            have hX := hU.out.1
            have HA := fun j h => Lib.hid (hU.out.all hF.out (by rw [hL.out]; exact hn) j h)
            have hlenN : (listN X).length ≤ n := by have := hU.out.len (by rw [hL.out]; exact hn); rw [hL.out] at this; exact this
            have HLN := Lib.hid hlenN
            clear hU hlenN
            generalize wr = w2 at *
            go_wp2_with fail
            go_loopg [13] n (fun gg iv w3 => ∃ j : Nat, j ≤ n ∧ iv = .int .i64 (j : Int) ∧ Aside (n - j = gg) ∧ Aside (Below w2.heap.size w2 w3))
            case atStart => exact ⟨0, Nat.zero_le _, rfl, rfl, Below.refl _ _⟩
            case round =>
              obtain ⟨j, hj, rfl, hkj, hb3⟩ := hrel
              have nX3 := Lib.hid (old4 hX2.out hb3.out (lt4 hX2.out))
              have nC3 := Lib.hid (hC2.out.below hb3.out (Nat.le_refl _))
              by_cases hlt : j < n
              · obtain ⟨a0', a1', a2', a3'⟩ := c4 nX3.out
                have hz := (HA j (by rw [hL.out]; exact hlt)).out
                have hO : ownerI L (j : Int) = L.getD j 0 := by
                  have hLL := hL.out
                  simp [ownerI, mayB, hLL, hlt]
                generalize L.getD j 0 = z at *
                go_wp2_with fail
                refine (hasr_n hX (j : Int) _).mono ?_
                rintro e W4 ⟨rfl, hb4⟩
                have HC4 := Lib.hid (nC3.out.below hb4 (Nat.le_refl _))
                have HB4 := Lib.hid (hb3.out.trans (hb4.mono hb3.out.size))
                clear a0' a1' a2' a3' hb4
                rw [hz]
                cases he : z == 0 with
                | true =>
                  have he2 : (z != 0) = false := by rw [bne, he]; rfl
                  go_wp2_with fail
                  refine (owner_any p g L (j : Int) _ HC4.out).mono ?_
                  rintro e w' ⟨rfl, rfl⟩
                  rw [hO]
                  go_wp2
                  go_roundg (n - (j + 1))
                  case measure => have := hkj.out; omega
                  case rel => exact ⟨j + 1, by omega, by go_num, rfl, HB4.out⟩
                | false =>
                  have he2 : (z != 0) = true := by rw [bne, he]; rfl
                  go_wp2_with fail
                  refine (owner_any p g L (j : Int) _ HC4.out).mono ?_
                  rintro e w' ⟨rfl, rfl⟩
                  rw [hO]
                  go_wp2
                  go_roundg (n - (j + 1))
                  case measure => have := hkj.out; omega
                  case rel => exact ⟨j + 1, by omega, by go_num, rfl, HB4.out⟩
              · obtain rfl : j = n := by omega
                go_wp2_with fail
                refine (flush_any p g L _ nC3.out).mono ?_
                rintro e W9 ⟨rfl, h9, hb9⟩
                rw [hL.out] at h9
                have nN3 := old4 hN2.out hb3.out (lt4 hN2.out)
                have nX9 := (hb9.block _ (lt4 nX3.out) (by have := HGB.out; omega)).trans nX3.out
                have nN9 := (hb9.block _ (lt4 nN3) (by have := HGB.out; omega)).trans nN3
                have HB9 : Hid (Below W.heap.size W W9) := (hB2.out.trans (hb3.out.mono hB2.out.size)).trans (hb9.below HG.out (hB2.out.trans (hb3.out.mono hB2.out.size)).size)
                have LX := Lib.hid (box_in nX9)
                have LN := Lib.hid (box_in nN9)
                have HC9 : Hid (∀ w, Below W9.heap.size W9 w → IsC w p g (List.replicate j 0)) := fun w h => h9.below h (Nat.le_refl _)
                have f1 := of_rep j
                have f2 : decide ((listN X).length ≤ j) = true := decide_eq_true HLN.out
                clear h9 hb9 nX9 nN9 nN3 nX3 nC3
                go_wp2_with fail
                refine Calm.wp_region_calm (B := W9.heap.size) (W := W9) (by kernel_rfl) (by kernel_rfl) (by kernel_rfl) (Nat.le_refl _) (Below.refl _ _).drew ?_
                apply Exists.intro
                repeat (first
                  | (apply Calm.calm_skip
                     · rfl
                     intro N hN
                     go_simp
                     apply hN.out
                     clear hN N)
                  | (apply Calm.calm_val
                     · rfl
                     · intro w hB hF K hK
                       first
                         | exact opAt_eqt f1 (by rfl) (by rfl) (by rfl) (hK.out _ _ rfl (Below.refl _ _))
                         | refine opAt_load (by rfl) (by rfl) (LX.out w hB) (hK.out _ _ rfl (Below.refl _ _))
                         | refine opAt_load (by rfl) (by rfl) (LN.out w hB) (hK.out _ _ rfl (Below.refl _ _))
                         | (unfold Calm.opAt
                            go_simp
                            first
                              | (simp only [Calm.upon_value]
                                 exact hK.out _ _ rfl (Below.refl _ _))
                              | (simp only [Calm.upon_enter]
                                 with_reducible refine (owner_any p g (List.replicate j 0) 0 w (HC9.out w hB)).mono ?_
                                 rintro e w' ⟨rfl, rfl⟩
                                 rw [owner_rep]
                                 exact ⟨_, rfl, hK.out _ _ rfl (Below.refl _ _)⟩)
                              | (simp only [Calm.upon_enter]
                                 with_reducible refine (ofc_any p g (List.replicate j 0) 1 w (HC9.out w hB)).mono ?_
                                 rintro e w' ⟨rfl, hb⟩
                                 exact ⟨_, rfl, hK.out _ _ rfl hb⟩)
                              | (simp only [Calm.upon_enter]
                                 with_reducible refine (lenr_n (by assumption) _).mono ?_
                                 rintro e w' ⟨rfl, hb⟩
                                 exact ⟨_, rfl, hK.out _ _ rfl hb⟩))
                     intro N hN
                     go_simp
                     apply hN.out
                     clear hN N))
                apply Calm.calm_nil
                intro w9 hB9 _
                go_wp2
                go_ret
                exact ⟨rfl, HB9.out.trans (hB9.mono HB9.out.size)⟩
      · clear hlt
        go_wp2_with fail
        have nX0 : ((wr.alloc (.cells #[.int .u64 0, .int .u64 0, .int .u64 0, .int .u64 0] 30)).alloc (.cells #[.int .u64 0, .int .u64 0, .int .u64 0, .int .u64 0] 30)).heap[wr.heap.size]? = some (.cells (rowc (iw noneW)) 30 (0, 0)) := by rw [Below.heap_alloc _ _ _ (by simp)]; exact heap_new _ _ _ rfl
        have nN0 : ((wr.alloc (.cells #[.int .u64 0, .int .u64 0, .int .u64 0, .int .u64 0] 30)).alloc (.cells #[.int .u64 0, .int .u64 0, .int .u64 0, .int .u64 0] 30)).heap[wr.heap.size + 1]? = some (.cells (rowc (iw noneW)) 30 (0, 0)) := heap_new _ _ _ (by simp)
        have hC0 : IsC ((wr.alloc (.cells #[.int .u64 0, .int .u64 0, .int .u64 0, .int .u64 0] 30)).alloc (.cells #[.int .u64 0, .int .u64 0, .int .u64 0, .int .u64 0] 30)) p g L := hC.out.below (((Below.refl _ wr).alloc (Nat.le_refl _) _).alloc (by simp) _) (Nat.le_refl _)
        have hB00 : Below W.heap.size W ((wr.alloc (.cells #[.int .u64 0, .int .u64 0, .int .u64 0, .int .u64 0] 30)).alloc (.cells #[.int .u64 0, .int .u64 0, .int .u64 0, .int .u64 0] 30)) := (hbel.out.alloc hbel.out.size _).alloc (by have := hbel.out.size; simp; omega) _
        have hbW := hbel.out.size
        have hpb := hC.out.lt.1
        have hgb := hC.out.lt.2
        clear hC hbel
        generalize (wr.alloc (.cells #[.int .u64 0, .int .u64 0, .int .u64 0, .int .u64 0] 30)).alloc (.cells #[.int .u64 0, .int .u64 0, .int .u64 0, .int .u64 0] 30) = W2 at *
        generalize wr.heap.size = b at *
        have HX0 := Lib.hid nX0
        have HN0 := Lib.hid nN0
        have HC0 := Lib.hid hC0
        have HB0 := Lib.hid hB00
        have HBW := Lib.hid hbW
        have HPB := Lib.hid hpb
        have HGB := Lib.hid hgb
        clear nX0 nN0 hC0 hB00 hbW hpb hgb
        go_loopg [11] 16 (fun gg iv w2 => ∃ (i : Nat) (X : Nat → Nat), 1 ≤ i ∧ i ≤ 17 ∧ iv = .int .i64 (i : Int) ∧ Aside (17 - i = gg) ∧ Aside (Upto L i X) ∧ Aside (w2.heap[b]? = some (.cells (rowc (iw X)) 30 (0, 0))) ∧ Aside (w2.heap[b + 1]? = some (.cells (rowc (iw noneW)) 30 (0, 0))) ∧ Aside (IsC w2 p g L) ∧ Aside (Below W.heap.size W w2))
        case atStart => exact ⟨1, noneW, by decide, by decide, rfl, rfl, Upto.none L, HX0.out, HN0.out, HC0.out, HB0.out⟩
        case round =>
          obtain ⟨i, X, hi1, hi7, rfl, hki, hU, hX2, hN2, hC2, hB2⟩ := hrel
          clear HX0 HN0 HC0 HB0
          by_cases hlt : i < 17
          · go_wp2_with fail
            refine (ofc_any p g L (i : Int) _ hC2.out).mono ?_
            rintro e W3 ⟨rfl, hb3⟩
            have hX := hU.out.1
            have hY : Ws (ofN (ofL L (i : Int))) := Ws.ofN _
            have f1 : eqN (andW X (ofN (ofL L (i : Int)))) noneW = true := hU.out.apart (by omega) (by omega)
            have hU2 := Lib.hid (hU.out.step hi1 (by omega))
            have nX3 := old4 hX2.out hb3 (lt4 hX2.out)
            have nN3 := old4 hN2.out hb3 (lt4 hN2.out)
            have nC3 := hC2.out.below hb3 (Nat.le_refl _)
            have nB3 := hB2.out.trans (hb3.mono hB2.out.size)
            clear hU hX2 hN2 hC2 hB2 hb3
            generalize ofN (ofL L (i : Int)) = Y at *
            rw [bvl]
            have HX3 := Lib.hid nX3
            have HN3 := Lib.hid nN3
            have HC3 := Lib.hid nC3
            have HB3 := Lib.hid nB3
            clear nX3 nN3 nC3 nB3
            go_wp2_with fail
            have nY4 := new4 W3 Y
            have nX4 : (W3.alloc (.cells #[.int .u64 (Y 0 : Int), .int .u64 (Y 1 : Int), .int .u64 (Y 2 : Int), .int .u64 (Y 3 : Int)] 30)).heap[b]? = some (.cells (rowc (iw X)) 30 (0, 0)) := by rw [Below.heap_alloc _ _ _ (lt4 HX3.out)]; exact HX3.out
            have nN4 : (W3.alloc (.cells #[.int .u64 (Y 0 : Int), .int .u64 (Y 1 : Int), .int .u64 (Y 2 : Int), .int .u64 (Y 3 : Int)] 30)).heap[b + 1]? = some (.cells (rowc (iw noneW)) 30 (0, 0)) := by rw [Below.heap_alloc _ _ _ (lt4 HN3.out)]; exact HN3.out
            have nC4 : IsC (W3.alloc (.cells #[.int .u64 (Y 0 : Int), .int .u64 (Y 1 : Int), .int .u64 (Y 2 : Int), .int .u64 (Y 3 : Int)] 30)) p g L := HC3.out.below ((Below.refl _ W3).alloc (Nat.le_refl _) _) (Nat.le_refl _)
            have nB4 : Below W.heap.size W (W3.alloc (.cells #[.int .u64 (Y 0 : Int), .int .u64 (Y 1 : Int), .int .u64 (Y 2 : Int), .int .u64 (Y 3 : Int)] 30)) := HB3.out.alloc HB3.out.size _
            generalize W3.alloc (.cells #[.int .u64 (Y 0 : Int), .int .u64 (Y 1 : Int), .int .u64 (Y 2 : Int), .int .u64 (Y 3 : Int)] 30) = W4 at *
            generalize W3.heap.size = c at *
            have LX := Lib.hid (box_in nX4)
            have LY := Lib.hid (box_in nY4)
            have LN := Lib.hid (box_in nN4)
            have HC4 := Lib.hid nC4
            have HB4 := Lib.hid nB4
            clear nX4 nY4 nN4 nC4 nB4 HX3 HN3 HC3 HB3
            refine Calm.wp_region_calm (B := W4.heap.size) (W := W4) (by kernel_rfl) (by kernel_rfl) (by kernel_rfl) (Nat.le_refl _) (Below.refl _ _).drew ?_
            apply Exists.intro
            repeat (first
              | (apply Calm.calm_skip
                 · rfl
                 intro N hN
                 go_simp
                 apply hN.out
                 clear hN N)
              | (apply Calm.calm_val
                 · rfl
                 · intro w hB hF K hK
                   first
                     | exact opAt_net f1 (by rfl) (by rfl) (by rfl) (hK.out _ _ rfl (Below.refl _ _))
                     | refine opAt_load (by rfl) (by rfl) (LX.out w hB) (hK.out _ _ rfl (Below.refl _ _))
                     | refine opAt_load (by rfl) (by rfl) (LY.out w hB) (hK.out _ _ rfl (Below.refl _ _))
                     | refine opAt_load (by rfl) (by rfl) (LN.out w hB) (hK.out _ _ rfl (Below.refl _ _))
                     | (unfold Calm.opAt
                        go_simp
                        first
                          | (simp only [Calm.upon_value]
                             exact hK.out _ _ rfl (Below.refl _ _))
                          | (simp only [Calm.upon_enter]
                             with_reducible refine (andr_n (by assumption) (by assumption) _).mono ?_
                             rintro e w' ⟨rfl, hb⟩
                             exact ⟨_, rfl, hK.out _ _ rfl hb⟩))
                 intro N hN
                 go_simp
                 apply hN.out
                 clear hN N))
            apply Calm.calm_nil
            intro W5 hB5 _
            have nX5 := LX.out W5 hB5
            have nN5 := LN.out W5 hB5
            have nY5 := LY.out W5 hB5
            have nC5 := HC4.out.below hB5 (Nat.le_refl _)
            have nB5 := HB4.out.trans (hB5.mono HB4.out.size)
            clear LX LY LN HC4 HB4 hB5 f1
            obtain ⟨a0', a1', a2', a3'⟩ := c4 nX5
            obtain ⟨b0', b1', b2', b3'⟩ := c4 nY5
            have HX5 := Lib.hid nX5
            have HN5 := Lib.hid nN5
            have HC5 := Lib.hid nC5
            have HB5 := Lib.hid nB5
            clear nX5 nN5 nC5 nB5 nY5
            go_wp2_with fail
            clear a0' a1' a2' a3' b0' b1' b2' b3'
            have r5 : (W5.alloc (.cells (row8 X Y) 30)).heap[W5.heap.size]? = some (.cells (row8 X Y) 30 (0, 0)) := heap_new _ _ _ rfl
            refine (orr_n _ 2 2 [X, Y] (ws2 hX hY) (W5.alloc (.cells (row8 X Y) 30)) (rdB_blk r5)).mono ?_
            rintro e W6 ⟨rfl, hb6⟩
            have hb6' : Below W5.heap.size W5 W6 := ((Below.refl _ W5).alloc (Nat.le_refl _) _).trans (hb6.mono (by simp))
            have nX6 := Lib.hid (old4 HX5.out hb6' (lt4 HX5.out))
            have nN6 := Lib.hid (old4 HN5.out hb6' (lt4 HN5.out))
            have nC6 := Lib.hid (HC5.out.below hb6' (Nat.le_refl _))
            have nB6 := Lib.hid (HB5.out.trans (hb6'.mono HB5.out.size))
            clear hb6 hb6' HX5 HN5 HC5 HB5 r5
            generalize orL [X, Y] = Z at *
            simp only [bvl]
            have k0 := frozen_row (nX6.out) 0
            have k1 := frozen_row (nX6.out) 1
            have k2 := frozen_row (nX6.out) 2
            have k3 := frozen_row (nX6.out) 3
            obtain ⟨e0, e1, e2, e3⟩ := c4 (nX6.out)
            have hw := set4 (nX6.out) (iw Z)
            simp only [iw] at hw
            have hbw := (below_set (below_set (below_set (below_set nB6.out (b) HBW.out 0 (.int .u64 (Z 0 : Int))) (b) HBW.out 1 (.int .u64 (Z 1 : Int))) (b) HBW.out 2 (.int .u64 (Z 2 : Int))) (b) HBW.out 3 (.int .u64 (Z 3 : Int)))
            have nN70 := (set4_other W6 (b) (b + 1) (by omega) (.int .u64 (Z 0 : Int)) (.int .u64 (Z 1 : Int)) (.int .u64 (Z 2 : Int)) (.int .u64 (Z 3 : Int))).trans (nN6.out)
            have nC70 : IsC (((((W6.setCell ⟨b, 0, none⟩ (.int .u64 (Z 0 : Int))).setCell ⟨b, 1, none⟩ (.int .u64 (Z 1 : Int))).setCell ⟨b, 2, none⟩ (.int .u64 (Z 2 : Int))).setCell ⟨b, 3, none⟩ (.int .u64 (Z 3 : Int)))) p g L := nC6.out.kept (set4_other W6 b p (by have := HPB.out; omega) _ _ _ _) (set4_other W6 b g (by have := HGB.out; omega) _ _ _ _)
            generalize hW9 : ((((W6.setCell ⟨b, 0, none⟩ (.int .u64 (Z 0 : Int))).setCell ⟨b, 1, none⟩ (.int .u64 (Z 1 : Int))).setCell ⟨b, 2, none⟩ (.int .u64 (Z 2 : Int))).setCell ⟨b, 3, none⟩ (.int .u64 (Z 3 : Int))) = W7 at *
            have nC7 := Lib.hid nC70
            clear nC70
            have HBW_ := Lib.hid hbw
            have HS : Hid (W7.heap[b]? = some (.cells (rowc (iw Z)) 30 (0, 0))) := hw
            have nN7 : Hid (W7.heap[b + 1]? = some (.cells (rowc (iw noneW)) 30 (0, 0))) := nN70
            clear hw hbw nN70
            go_wp2
            go_roundg (17 - (i + 1))
            case measure => have := hki.out; omega
            case rel => exact ⟨i + 1, Z, by omega, by omega, by go_num, rfl, hU2.out, HS.out, nN7.out, nC7.out, HBW_.out⟩
          · obtain rfl : i = 17 := by omega
            rw [show ((17 : Nat) : Int) = 17 from rfl]
            have hX := hU.out.1
            have HA := fun j h => Lib.hid (hU.out.all hF.out (by rw [hL.out]; exact hn) j h)
            have hlenN : (listN X).length ≤ n := by have := hU.out.len (by rw [hL.out]; exact hn); rw [hL.out] at this; exact this
            have HLN := Lib.hid hlenN
            clear hU hlenN
            generalize wr = w2 at *
            go_wp2_with fail
            go_loopg [13] n (fun gg iv w3 => ∃ j : Nat, j ≤ n ∧ iv = .int .i64 (j : Int) ∧ Aside (n - j = gg) ∧ Aside (Below w2.heap.size w2 w3))
            case atStart => exact ⟨0, Nat.zero_le _, rfl, rfl, Below.refl _ _⟩
            case round =>
              obtain ⟨j, hj, rfl, hkj, hb3⟩ := hrel
              have nX3 := Lib.hid (old4 hX2.out hb3.out (lt4 hX2.out))
              have nC3 := Lib.hid (hC2.out.below hb3.out (Nat.le_refl _))
              by_cases hlt : j < n
              · obtain ⟨a0', a1', a2', a3'⟩ := c4 nX3.out
                have hz := (HA j (by rw [hL.out]; exact hlt)).out
                have hO : ownerI L (j : Int) = L.getD j 0 := by
                  have hLL := hL.out
                  simp [ownerI, mayB, hLL, hlt]
                generalize L.getD j 0 = z at *
                go_wp2_with fail
                refine (hasr_n hX (j : Int) _).mono ?_
                rintro e W4 ⟨rfl, hb4⟩
                have HC4 := Lib.hid (nC3.out.below hb4 (Nat.le_refl _))
                have HB4 := Lib.hid (hb3.out.trans (hb4.mono hb3.out.size))
                clear a0' a1' a2' a3' hb4
                rw [hz]
                cases he : z == 0 with
                | true =>
                  have he2 : (z != 0) = false := by rw [bne, he]; rfl
                  go_wp2_with fail
                  refine (owner_any p g L (j : Int) _ HC4.out).mono ?_
                  rintro e w' ⟨rfl, rfl⟩
                  rw [hO]
                  go_wp2
                  go_roundg (n - (j + 1))
                  case measure => have := hkj.out; omega
                  case rel => exact ⟨j + 1, by omega, by go_num, rfl, HB4.out⟩
                | false =>
                  have he2 : (z != 0) = true := by rw [bne, he]; rfl
                  go_wp2_with fail
                  refine (owner_any p g L (j : Int) _ HC4.out).mono ?_
                  rintro e w' ⟨rfl, rfl⟩
                  rw [hO]
                  go_wp2
                  go_roundg (n - (j + 1))
                  case measure => have := hkj.out; omega
                  case rel => exact ⟨j + 1, by omega, by go_num, rfl, HB4.out⟩
              · obtain rfl : j = n := by omega
                go_wp2_with fail
                refine (flush_any p g L _ nC3.out).mono ?_
                rintro e W9 ⟨rfl, h9, hb9⟩
                rw [hL.out] at h9
                have nN3 := old4 hN2.out hb3.out (lt4 hN2.out)
                have nX9 := (hb9.block _ (lt4 nX3.out) (by have := HGB.out; omega)).trans nX3.out
                have nN9 := (hb9.block _ (lt4 nN3) (by have := HGB.out; omega)).trans nN3
                have HB9 : Hid (Below W.heap.size W W9) := (hB2.out.trans (hb3.out.mono hB2.out.size)).trans (hb9.below HG.out (hB2.out.trans (hb3.out.mono hB2.out.size)).size)
                have LX := Lib.hid (box_in nX9)
                have LN := Lib.hid (box_in nN9)
                have HC9 : Hid (∀ w, Below W9.heap.size W9 w → IsC w p g (List.replicate j 0)) := fun w h => h9.below h (Nat.le_refl _)
                have f1 := of_rep j
                have f2 : decide ((listN X).length ≤ j) = true := decide_eq_true HLN.out
                clear h9 hb9 nX9 nN9 nN3 nX3 nC3
                go_wp2_with fail
                refine Calm.wp_region_calm (B := W9.heap.size) (W := W9) (by kernel_rfl) (by kernel_rfl) (by kernel_rfl) (Nat.le_refl _) (Below.refl _ _).drew ?_
                apply Exists.intro
                repeat (first
                  | (apply Calm.calm_skip
                     · rfl
                     intro N hN
                     go_simp
                     apply hN.out
                     clear hN N)
                  | (apply Calm.calm_val
                     · rfl
                     · intro w hB hF K hK
                       first
                         | exact opAt_eqt f1 (by rfl) (by rfl) (by rfl) (hK.out _ _ rfl (Below.refl _ _))
                         | refine opAt_load (by rfl) (by rfl) (LX.out w hB) (hK.out _ _ rfl (Below.refl _ _))
                         | refine opAt_load (by rfl) (by rfl) (LN.out w hB) (hK.out _ _ rfl (Below.refl _ _))
                         | (unfold Calm.opAt
                            go_simp
                            first
                              | (simp only [Calm.upon_value]
                                 exact hK.out _ _ rfl (Below.refl _ _))
                              | (simp only [Calm.upon_enter]
                                 with_reducible refine (owner_any p g (List.replicate j 0) 0 w (HC9.out w hB)).mono ?_
                                 rintro e w' ⟨rfl, rfl⟩
                                 rw [owner_rep]
                                 exact ⟨_, rfl, hK.out _ _ rfl (Below.refl _ _)⟩)
                              | (simp only [Calm.upon_enter]
                                 with_reducible refine (ofc_any p g (List.replicate j 0) 1 w (HC9.out w hB)).mono ?_
                                 rintro e w' ⟨rfl, hb⟩
                                 exact ⟨_, rfl, hK.out _ _ rfl hb⟩)
                              | (simp only [Calm.upon_enter]
                                 with_reducible refine (lenr_n (by assumption) _).mono ?_
                                 rintro e w' ⟨rfl, hb⟩
                                 exact ⟨_, rfl, hK.out _ _ rfl hb⟩))
                     intro N hN
                     go_simp
                     apply hN.out
                     clear hN N))
                apply Calm.calm_nil
                intro w9 hB9 _
                go_wp2
                go_ret
                exact ⟨rfl, HB9.out.trans (hB9.mono HB9.out.size)⟩
end Go.Proofs.Ytjilplfcmkipfaa.Cache
