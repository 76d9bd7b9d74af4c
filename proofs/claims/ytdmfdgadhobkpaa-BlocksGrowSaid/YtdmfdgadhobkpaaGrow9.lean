/-
  The statement BlocksGrow, walked.
-/
import Derived.Test.YtdmfdgadhobkpaaAwk9
import Derived.Test.YtdmfdgadhobkpaaBlk8
import Derived.Test.YtdmfdgadhobkpaaMade
import Derived.Test.YtdmfdgadhobkpaaRef5
namespace Go.Proofs.Ytdmfdgadhobkpaa.Blk
open Go.RowKit Go.Shelf Go.Proofs.Ytdmfdgadhobkpaa.Sys Go.Proofs.Ytdmfdgadhobkpaa.Box Go.Proofs.Ytdmfdgadhobkpaa.Bits

set_option maxHeartbeats 16000000 in
set_option maxRecDepth 100000 in
theorem BlocksGrow_walk (a0 b0 : Int) (x0 : Option Addr) (len0 cap0 : Nat) (q0 : List Row0.NumV) (X : Nat → Nat) (hXW : Ws X) (Y : Nat → Nat) (hYW : Ws Y) (W : World) (w0 : Row0.IsNums W x0 len0 cap0 q0) :
    Calls Try.prog 6 #[.agg #[.int .i64 a0, .int .i64 b0, .slice x0 len0 cap0], bv (iw X), bv (iw Y)] W fun e w' => e = .returned (.bool true) ∧ Below W.heap.size W w' := by
  have HN := Lib.hid (nums_rdN w0)
  have hlc := w0.le
  have hcm := w0.mx
  clear w0
  have hOO := fun (w6 : World) (b : Nat) (h : w6.heap[b]? = some (.cells (row8 X Y) 32 (0, 0))) => orr_n (some ⟨b, 0, none⟩) 2 2 [X, Y] (ws2 hXW hYW) w6 (rdB_blk h)
  have hOW : Ws (orL [X, Y]) := Ws.orL (ws2 hXW hYW)
  have hoX : ∀ i, i < 256 → hasN X i = true → hasN (orL [X, Y]) i = true := fun i _ h => by rw [has_two, h]; rfl
  have hoY : ∀ i, i < 256 → hasN Y i = true → hasN (orL [X, Y]) i = true := fun i _ h => by rw [has_two, h, Bool.or_true]
  have hoS : ∀ i, i < 256 → hasN (orL [X, Y]) i = true → hasN X i = true ∨ hasN Y i = true := fun i _ h => by rwa [has_two, Bool.or_eq_true] at h
  obtain ⟨O, hO⟩ : ∃ O, orL [X, Y] = O := ⟨_, rfl⟩
  simp only [hO] at hOO hOW hoX hoY hoS
  clear hO
  have GX := Lib.hid hoX
  have GY := Lib.hid hoY
  have GS := Lib.hid hoS
  have HXW := Lib.hid hXW
  have HYW := Lib.hid hYW
  have HOW := Lib.hid hOW
  have KOO := Lib.hid hOO
  clear hoX hoY hoS hXW hYW hOW hOO
  rw [bvl, bvl]
  go_enter Try.func6, Try.ntmps6
  go_wp2_with fail
  obtain ⟨W0, hW0⟩ : ∃ W0, ((W.alloc (.cells #[.int .i64 a0, .int .i64 b0, .slice x0 len0 cap0] 24)).alloc (.cells #[.int .u64 (X 0 : Int), .int .u64 (X 1 : Int), .int .u64 (X 2 : Int), .int .u64 (X 3 : Int)] 32)).alloc (.cells #[.int .u64 (Y 0 : Int), .int .u64 (Y 1 : Int), .int .u64 (Y 2 : Int), .int .u64 (Y 3 : Int)] 32) = W0 := ⟨_, rfl⟩
  rw [hW0]
  have hB0 : Below W.heap.size W W0 := by rw [← hW0]; exact (((Below.refl _ W).alloc (Nat.le_refl _) _).alloc (by simp) _).alloc (by simp; omega) _
  have nS : W0.heap[W.heap.size]? = some (.cells #[.int .i64 a0, .int .i64 b0, .slice x0 len0 cap0] 24 (0, 0)) := by rw [← hW0, Below.heap_alloc _ _ _ (by simp; omega), Below.heap_alloc _ _ _ (by simp)]; exact heap_new _ _ _ rfl
  have nX : W0.heap[W.heap.size + 1]? = some (.cells (rowc (iw X)) 32 (0, 0)) := by rw [← hW0, Below.heap_alloc _ _ _ (by simp)]; exact heap_new _ _ _ (by simp)
  have nY : W0.heap[W.heap.size + 1 + 1]? = some (.cells (rowc (iw Y)) 32 (0, 0)) := by rw [← hW0]; exact heap_new _ _ _ (by simp)
  clear hW0
  refine (awake9_any _).mono ?_
  rintro e W1 ⟨rfl, hb1⟩
  have HB1 : Hid (Below W.heap.size W W1) := hB0.trans (hb1.mono hB0.size)
  have hcell : W1.heap[W.heap.size]? = some (.cells #[.int .i64 a0, .int .i64 b0, .slice x0 len0 cap0] 24 (0, 0)) := (hb1.block _ (bx_lt nS)).trans nS
  have HX1 : Hid (W1.heap[W.heap.size + 1]? = some (.cells (rowc (iw X)) 32 (0, 0))) := (hb1.block _ (bx_lt nX)).trans nX
  have HY1 : Hid (W1.heap[W.heap.size + 1 + 1]? = some (.cells (rowc (iw Y)) 32 (0, 0))) := (hb1.block _ (bx_lt nY)).trans nY
  obtain ⟨s0, s1, s2⟩ := bx_three hcell
  have hsx : W.heap.size + 1 < W1.heap.size := bx_lt HX1.out
  have hsy : W.heap.size + 1 + 1 < W1.heap.size := bx_lt HY1.out
  clear hb1 hB0 nS nX nY
  generalize hbx : W.heap.size + 1 = bx at *
  generalize hby : bx + 1 = bY at *
  clear hbx hby
  go_wp2_with fail
  refine (made_sys a0 b0 x0 len0 cap0 q0 W1 (HN.out.below HB1.out (Nat.le_refl _)) hlc hcm).mono ?_
  rintro e W2 ⟨S, R, A, n, c, q, rfl, hok, hb2⟩
  have HOK := Lib.hid hok
  have HB2 : Hid (Below W.heap.size W W2) := HB1.out.trans (hb2.mono HB1.out.size)
  have hs2 : W1.heap.size ≤ W2.heap.size := hb2.size
  have HX2 : Hid (W2.heap[bx]? = some (.cells (rowc (iw X)) 32 (0, 0))) := (hb2.block _ hsx).trans HX1.out
  have HY2 : Hid (W2.heap[bY]? = some (.cells (rowc (iw Y)) 32 (0, 0))) := (hb2.block _ hsy).trans HY1.out
  clear HX1 HY1 hok hb2 hcell s0 s1 s2 HB1 HN
  obtain ⟨W3, hW3⟩ : ∃ W3, W2.alloc (.cells #[.int .i64 (S : Int), .int .i64 R, .slice A n c] 28) = W3 := ⟨_, rfl⟩
  have HS3 : Hid (W3.heap[W2.heap.size]? = some (.cells #[.int .i64 (S : Int), .int .i64 R, .slice A n c] 28 (0, 0))) := by rw [← hW3]; exact heap_new _ _ _ rfl
  have HO3 : Hid (SysOk W3 W1.heap.size S R A n c q) := by rw [← hW3]; exact HOK.out.below ((Below.refl _ W2).alloc (Nat.le_refl _) _) (Nat.le_refl _)
  have HB3 : Hid (Below W.heap.size W W3) := by rw [← hW3]; exact HB2.out.alloc HB2.out.size _
  have hs3 : W3.heap.size = W2.heap.size + 1 := by rw [← hW3]; simp
  have HX3 : Hid (W3.heap[bx]? = some (.cells (rowc (iw X)) 32 (0, 0))) := by rw [← hW3]; exact (Below.heap_alloc _ _ _ (by omega)).trans HX2.out
  have HY3 : Hid (W3.heap[bY]? = some (.cells (rowc (iw Y)) 32 (0, 0))) := by rw [← hW3]; exact (Below.heap_alloc _ _ _ (by omega)).trans HY2.out
  clear HOK HB2 HX2 HY2
  obtain ⟨x0, x1, x2, x3⟩ := c4 HX3.out
  obtain ⟨y0, y1, y2, y3⟩ := c4 HY3.out
  go_wp2_with fail
  try rw [hW3]
  clear hW3 x0 x1 x2 x3 y0 y1 y2 y3
  have hk := KOO.out (W3.alloc (.cells (row8 X Y) 32)) W3.heap.size (heap_alloc_new _ _)
  simp only [row8, hs3] at hk
  with_reducible refine hk.mono ?_
  rintro e W4 ⟨rfl, hb4⟩
  rw [bvl]
  have HB4 : Hid (Below W3.heap.size W3 W4) := ((Below.refl _ W3).alloc (Nat.le_refl _) _).trans (hb4.mono (by simp))
  clear hb4
  obtain ⟨W5, hW5⟩ : ∃ W5, W4.alloc (.cells #[.int .u64 (O 0 : Int), .int .u64 (O 1 : Int), .int .u64 (O 2 : Int), .int .u64 (O 3 : Int)] 32) = W5 := ⟨_, rfl⟩
  have HB5 : Hid (Below W3.heap.size W3 W5) := by rw [← hW5]; exact HB4.out.alloc HB4.out.size _
  have HV5 : Hid (W5.heap[W4.heap.size]? = some (.cells (rowc (iw O)) 32 (0, 0))) := by rw [← hW5]; exact new4 _ _
  have HX5 : Hid (W5.heap[bx]? = some (.cells (rowc (iw X)) 32 (0, 0))) := old4 HX3.out HB5.out (lt4 HX3.out)
  have HY5 : Hid (W5.heap[bY]? = some (.cells (rowc (iw Y)) 32 (0, 0))) := old4 HY3.out HB5.out (lt4 HY3.out)
  have HS5 : Hid (W5.heap[W2.heap.size]? = some (.cells #[.int .i64 (S : Int), .int .i64 R, .slice A n c] 28 (0, 0))) := (HB5.out.block _ (bx_lt HS3.out)).trans HS3.out
  have HO5 : Hid (SysOk W5 W1.heap.size S R A n c q) := HO3.out.below HB5.out (Nat.le_refl _)
  have HB6 : Hid (Below W.heap.size W W5) := HB3.out.trans (HB5.out.mono HB3.out.size)
  clear HB4 HX3 HY3 HS3 HO3 HB3 HB5
  generalize hbv : W4.heap.size = bv' at *
  generalize hbs : W2.heap.size = bs at *
  have o5 := HO5.out.n1
  have o6 := HO5.out.n6
  have o7 := HO5.out.nc
  have o8 := HO5.out.cm
  go_wp2_with fail
  try rw [hW5]
  clear hW5 hbv
  go_loopg [10] n (fun gg iv wr => ∃ (i : Nat), i ≤ n ∧ n - i ≤ gg ∧ iv = .int .i64 (i : Int) ∧ Aside (Below W5.heap.size W5 wr))
  case atStart => exact ⟨0, Nat.zero_le _, by omega, rfl, Below.refl _ _⟩
  case round =>
    obtain ⟨i, hi, hgk, rfl, hB⟩ := hrel
    generalize wr = wo at *
    obtain ⟨s0, s1, s2⟩ := bx_three (bx_old HS5.out hB.out (bx_lt HS5.out))
    by_cases hlt : i < n
    · have hro := HO5.out.below hB.out (Nat.le_refl _)
      have hrd := Lib.hid hro.rd
      have hown := all_own (q := q) (n := n) (fun j hj => (HO5.out.ok j hj).id) hlt
      have htk := hro.ok i hlt
      obtain ⟨b, o, rfl, hcs⟩ := hro.rd.ad (by omega)
      have hy := hcs i hlt
      have hrr := Lib.hid (hro.rd.getRd hlt)
      obtain ⟨r, hr⟩ : ∃ r, q.getD i default = r := ⟨_, rfl⟩
      rw [hr] at hy hrr hown
      clear hcs hro htk hr
      have HT := Lib.hid hy
      clear hy
      obtain ⟨mx, ax, hmx, KX⟩ := most_det r X HXW.out
      obtain ⟨my, ay, hmy, KY⟩ := most_det r O HOW.out
      obtain ⟨mz, az, hmz, KZ⟩ := most_det r Y HYW.out
      have f1 := hmx.up2 hmy GX.out
      have f2 := hmz.up2 hmy GY.out
      have f3 := hmx.sum hmz hmy GS.out
      have f4 := hmx.small
      have f5 := hmy.small
      have f6 := hmz.small
      have e1 : ¬ (my : Int) < (mx : Int) := by omega
      have e2 : ¬ (my : Int) < (mz : Int) := by omega
      have e3 : ¬ (mx : Int) + (mz : Int) < (my : Int) := by omega
      have PX : Hid (∀ w, Below wo.heap.size wo w → Calls Try.prog 16 #[.agg #[.int .i64 r.x.id, .int .i64 r.x.c, .int .i64 r.x.d, .int .i64 r.x.t, .int .i64 r.x.prio, .slice r.ca r.cl r.cc, .slice r.ua r.ul r.uc], bv (iw X)] w fun e w' => e = .returned (.tuple #[.int .i64 (mx : Int), .int .i64 ax]) ∧ Below w.heap.size w w') := fun w h => by rw [bvl]; exact KX w (hrr.out.below h (Nat.le_refl _))
      have PY : Hid (∀ w, Below wo.heap.size wo w → Calls Try.prog 16 #[.agg #[.int .i64 r.x.id, .int .i64 r.x.c, .int .i64 r.x.d, .int .i64 r.x.t, .int .i64 r.x.prio, .slice r.ca r.cl r.cc, .slice r.ua r.ul r.uc], bv (iw O)] w fun e w' => e = .returned (.tuple #[.int .i64 (my : Int), .int .i64 ay]) ∧ Below w.heap.size w w') := fun w h => by rw [bvl]; exact KY w (hrr.out.below h (Nat.le_refl _))
      have PZ : Hid (∀ w, Below wo.heap.size wo w → Calls Try.prog 16 #[.agg #[.int .i64 r.x.id, .int .i64 r.x.c, .int .i64 r.x.d, .int .i64 r.x.t, .int .i64 r.x.prio, .slice r.ca r.cl r.cc, .slice r.ua r.ul r.uc], bv (iw Y)] w fun e w' => e = .returned (.tuple #[.int .i64 (mz : Int), .int .i64 az]) ∧ Below w.heap.size w w') := fun w h => by rw [bvl]; exact KZ w (hrr.out.below h (Nat.le_refl _))
      have PU : Hid (∀ w, Below wo.heap.size wo w → Calls Try.prog 14 #[.agg #[.int .i64 r.x.id, .int .i64 r.x.c, .int .i64 r.x.d, .int .i64 r.x.t, .int .i64 r.x.prio, .slice r.ca r.cl r.cc, .slice r.ua r.ul r.uc]] w fun e w' => e = .returned (bv (iw (usedN r.x))) ∧ Below w.heap.size w w') := fun w h => used_any r w (hrr.out.below h (Nat.le_refl _))
      have PA : Hid (∀ id w, Below wo.heap.size wo w → Calls Try.prog 18 #[.slice (some ⟨b, o, none⟩) n c, .int .i64 id] w fun e w' => e = .returned (bv (iw (allT q id n))) ∧ Below w.heap.size w w') := fun id w h => all_any _ n c q id w (hrd.out.below h (Nat.le_refl _)) o7 o8
      have cV : Ws (usedN r.x) := Ws.ofN _
      have cD := allW q r.x.id n
      have hP2 := fun (w6 : World) (b : Nat) (h : w6.heap[b]? = some (.cells (row8 (allT q r.x.id n) (usedN r.x)) 32 (0, 0))) => orr_n (some ⟨b, 0, none⟩) 2 2 [allT q r.x.id n, usedN r.x] (ws2 cD cV) w6 (rdB_blk h)
      have PD : Hid (∀ w, Below wo.heap.size wo w → Calls Try.prog 18 #[.slice (some ⟨b, o, none⟩) n c, .int .i64 r.x.id] w fun e w' => e = .returned (bv (iw (allT q r.x.id n))) ∧ Below w.heap.size w w') := fun w h => PA.out r.x.id w h
      have PE : Hid (∀ w, Below wo.heap.size wo w → Calls Try.prog 18 #[.slice (some ⟨b, o, none⟩) n c, .int .i64 0] w fun e w' => e = .returned (bv (iw (allT q 0 n))) ∧ Below w.heap.size w w') := fun w h => PA.out 0 w h
      obtain ⟨U, hU⟩ : ∃ U, usedN r.x = U := ⟨_, rfl⟩
      obtain ⟨D, hD⟩ : ∃ D, allT q r.x.id n = D := ⟨_, rfl⟩
      obtain ⟨E, hE⟩ : ∃ E, allT q 0 n = E := ⟨_, rfl⟩
      obtain ⟨Z, hZ⟩ : ∃ Z, orL [D, U] = Z := ⟨_, rfl⟩
      rw [hU] at PU
      rw [hD] at PD
      rw [hE] at PE
      rw [hD, hU, hE, hZ] at hown
      simp only [hD, hU, hZ] at hP2
      have KP2 := Lib.hid hP2
      have F1 := Lib.hid hown
      clear hP2 hown cV cD hU hD hE hZ PA hmx hmy hmz KX KY KZ hrd
      have HT8 : Hid (∀ w, Below wo.heap.size wo w → Cs7 w b (o + i * 7) r) := fun w h => HT.out.block (h.block b (World.block_lt_of_cell? wo _ HT.out.c0))
      have HS8 : Hid (∀ w, Below wo.heap.size wo w → w.heap[bs]? = some (.cells #[.int .i64 (S : Int), .int .i64 R, .slice (some ⟨b, o, none⟩) n c] 28 (0, 0))) := fun w h => (h.block _ (Nat.lt_of_lt_of_le (bx_lt HS5.out) hB.out.size)).trans ((hB.out.block _ (bx_lt HS5.out)).trans HS5.out)
      have HX8 : Hid (∀ w, Below wo.heap.size wo w → w.heap[bx]? = some (.cells (rowc (iw X)) 32 (0, 0))) := fun w h => (h.block _ (Nat.lt_of_lt_of_le (bx_lt HX5.out) hB.out.size)).trans ((hB.out.block _ (bx_lt HX5.out)).trans HX5.out)
      have HY8 : Hid (∀ w, Below wo.heap.size wo w → w.heap[bY]? = some (.cells (rowc (iw Y)) 32 (0, 0))) := fun w h => (h.block _ (Nat.lt_of_lt_of_le (bx_lt HY5.out) hB.out.size)).trans ((hB.out.block _ (bx_lt HY5.out)).trans HY5.out)
      have HV8 : Hid (∀ w, Below wo.heap.size wo w → w.heap[bv']? = some (.cells (rowc (iw O)) 32 (0, 0))) := fun w h => (h.block _ (Nat.lt_of_lt_of_le (bx_lt HV5.out) hB.out.size)).trans ((hB.out.block _ (bx_lt HV5.out)).trans HV5.out)
      clear hrr HT
      go_wp2_with fail
      refine Calm.wp_region_calm (B := wo.heap.size) (W := wo) (by kernel_rfl) (by kernel_rfl) (by kernel_rfl) (Nat.le_refl _) (Below.refl _ _).drew ?_
      apply Exists.intro
      repeat (first
        | (apply Calm.calm_skip
           · rfl
           intro N hN
           go_simp
           apply hN.out
           clear hN N)
        | (apply Calm.calm_val
           · rfl
           · intro w hB hF K hK
             first
               | refine opAt_load (by rfl) (by rfl) (HX8.out w hB) (hK.out _ _ rfl (Below.refl _ _))
               | (unfold Calm.opAt
                  obtain ⟨s0, s1, s2⟩ := bx_three (HS8.out w hB)
                  obtain ⟨y0, y1, y2, y3, y4, y5, y6⟩ := HT8.out w hB
                  go_simp
                  first
                    | (simp only [Calm.upon_value]
                       exact hK.out _ _ rfl (Below.refl _ _))
                    | (simp only [Calm.upon_enter]
                       with_reducible refine (PX.out _ (by assumption)).mono ?_
                       rintro e w' ⟨rfl, hb⟩
                       exact ⟨_, rfl, hK.out _ _ rfl hb⟩))
           intro N hN
           go_simp
           apply hN.out
           clear hN N))
      apply Calm.calm_nil
      intro w1 hB1 _
      have Q1 := Lib.hid hB1
      clear hB1 HX8 PX
      go_wp2_with fail
      refine Calm.wp_region_calm (B := wo.heap.size) (W := wo) (by kernel_rfl) (by kernel_rfl) (by kernel_rfl) (Nat.le_refl _) (Q1.out).drew ?_
      apply Exists.intro
      repeat (first
        | (apply Calm.calm_skip
           · rfl
           intro N hN
           go_simp
           apply hN.out
           clear hN N)
        | (apply Calm.calm_val
           · rfl
           · intro w hB hF K hK
             first
               | refine opAt_load (by rfl) (by rfl) (HV8.out w hB) (hK.out _ _ rfl (Below.refl _ _))
               | (unfold Calm.opAt
                  obtain ⟨s0, s1, s2⟩ := bx_three (HS8.out w hB)
                  obtain ⟨y0, y1, y2, y3, y4, y5, y6⟩ := HT8.out w hB
                  go_simp
                  first
                    | (simp only [Calm.upon_value]
                       exact hK.out _ _ rfl (Below.refl _ _))
                    | (simp only [Calm.upon_enter]
                       with_reducible refine (PY.out _ (by assumption)).mono ?_
                       rintro e w' ⟨rfl, hb⟩
                       exact ⟨_, rfl, hK.out _ _ rfl hb⟩))
           intro N hN
           go_simp
           apply hN.out
           clear hN N))
      apply Calm.calm_nil
      intro w2 hB2 _
      have Q2 := Lib.hid hB2
      clear hB2 HV8 PY Q1
      go_wp2_with fail
      refine Calm.wp_region_calm (B := wo.heap.size) (W := wo) (by kernel_rfl) (by kernel_rfl) (by kernel_rfl) (Nat.le_refl _) (Q2.out).drew ?_
      apply Exists.intro
      repeat (first
        | (apply Calm.calm_skip
           · rfl
           intro N hN
           go_simp
           apply hN.out
           clear hN N)
        | (apply Calm.calm_val
           · rfl
           · intro w hB hF K hK
             first
               | refine opAt_load (by rfl) (by rfl) (HY8.out w hB) (hK.out _ _ rfl (Below.refl _ _))
               | (unfold Calm.opAt
                  obtain ⟨s0, s1, s2⟩ := bx_three (HS8.out w hB)
                  obtain ⟨y0, y1, y2, y3, y4, y5, y6⟩ := HT8.out w hB
                  go_simp
                  first
                    | (simp only [Calm.upon_value]
                       exact hK.out _ _ rfl (Below.refl _ _))
                    | (simp only [Calm.upon_enter]
                       with_reducible refine (PZ.out _ (by assumption)).mono ?_
                       rintro e w' ⟨rfl, hb⟩
                       exact ⟨_, rfl, hK.out _ _ rfl hb⟩))
           intro N hN
           go_simp
           apply hN.out
           clear hN N))
      apply Calm.calm_nil
      intro w3 hB3 _
      have Q3 := Lib.hid hB3
      clear hB3 HY8 PZ Q2
      obtain ⟨s0, s1, s2⟩ := bx_three (HS8.out _ Q3.out)
      obtain ⟨y0, y1, y2, y3, y4, y5, y6⟩ := HT8.out _ Q3.out
      go_wp2_with fail
      clear s0 s1 s2 y0 y1 y2 y3 y4 y5 y6 e1 e2 e3
      refine (PU.out _ Q3.out).mono ?_
      rintro e v1 ⟨rfl, hb⟩
      rw [bvl]
      have Q4 : Hid (Below wo.heap.size wo v1) := Q3.out.trans (hb.mono Q3.out.size)
      clear hb Q3 PU
      obtain ⟨v2, hv2⟩ : ∃ v2, v1.alloc (.cells #[.int .u64 (U 0 : Int), .int .u64 (U 1 : Int), .int .u64 (U 2 : Int), .int .u64 (U 3 : Int)] 32) = v2 := ⟨_, rfl⟩
      have Q5 : Hid (Below wo.heap.size wo v2) := by rw [← hv2]; exact Q4.out.alloc Q4.out.size _
      have t2 : Hid (v2.heap[v1.heap.size]? = some (.cells (rowc (iw U)) 32 (0, 0))) := by rw [← hv2]; exact new4 _ _
      obtain ⟨s0, s1, s2⟩ := bx_three (HS8.out _ Q5.out)
      go_wp2_with fail
      try rw [hv2]
      clear s0 s1 s2 hv2
      refine (PE.out _ Q5.out).mono ?_
      rintro e v3 ⟨rfl, hb⟩
      rw [bvl]
      have Q6 : Hid (Below wo.heap.size wo v3) := Q5.out.trans (hb.mono Q5.out.size)
      have t3 : Hid (v3.heap[v1.heap.size]? = some (.cells (rowc (iw U)) 32 (0, 0))) := old4 t2.out hb (lt4 t2.out)
      clear hb Q5 PE t2 Q4
      obtain ⟨v4, hv4⟩ : ∃ v4, v3.alloc (.cells #[.int .u64 (E 0 : Int), .int .u64 (E 1 : Int), .int .u64 (E 2 : Int), .int .u64 (E 3 : Int)] 32) = v4 := ⟨_, rfl⟩
      have Q7 : Hid (Below wo.heap.size wo v4) := by rw [← hv4]; exact Q6.out.alloc Q6.out.size _
      have U8 : Hid (∀ w, Below v4.heap.size v4 w → w.heap[v1.heap.size]? = some (.cells (rowc (iw U)) 32 (0, 0))) := by rw [← hv4]; exact box_in (old4 t3.out ((Below.refl _ v3).alloc (Nat.le_refl _) _) (lt4 t3.out))
      have E8 : Hid (∀ w, Below v4.heap.size v4 w → w.heap[v3.heap.size]? = some (.cells (rowc (iw E)) 32 (0, 0))) := by rw [← hv4]; exact box_in (new4 _ _)
      have HS9 : Hid (∀ w, Below v4.heap.size v4 w → w.heap[bs]? = some (.cells #[.int .i64 (S : Int), .int .i64 R, .slice (some ⟨b, o, none⟩) n c] 28 (0, 0))) := fun w h => HS8.out w (Q7.out.trans (h.mono Q7.out.size))
      have HT9 : Hid (∀ w, Below v4.heap.size v4 w → Cs7 w b (o + i * 7) r) := fun w h => HT8.out w (Q7.out.trans (h.mono Q7.out.size))
      have PD9 : Hid (∀ w, Below v4.heap.size v4 w → Calls Try.prog 18 #[.slice (some ⟨b, o, none⟩) n c, .int .i64 r.x.id] w fun e w' => e = .returned (bv (iw D)) ∧ Below w.heap.size w w') := fun w h => PD.out w (Q7.out.trans (h.mono Q7.out.size))
      clear t3 Q6 PD HS8 HT8
      go_wp2_with fail
      try rw [hv4]
      clear hv4
      refine Calm.wp_region_calm (B := v4.heap.size) (W := v4) (by kernel_rfl) (by kernel_rfl) (by kernel_rfl) (Nat.le_refl _) (Below.refl _ _).drew ?_
      apply Exists.intro
      repeat (first
        | (apply Calm.calm_skip
           · rfl
           intro N hN
           go_simp
           apply hN.out
           clear hN N)
        | (apply Calm.calm_val
           · rfl
           · intro w hB hF K hK
             first
               | exact opAt_net F1.out (by rfl) (by rfl) (by rfl) (hK.out _ _ rfl (Below.refl _ _))
               | refine opAt_load (by rfl) (by rfl) (U8.out w hB) (hK.out _ _ rfl (Below.refl _ _))
               | refine opAt_load (by rfl) (by rfl) (E8.out w hB) (hK.out _ _ rfl (Below.refl _ _))
               | (unfold Calm.opAt
                  obtain ⟨s0, s1, s2⟩ := bx_three (HS9.out w hB)
                  obtain ⟨y0, y1, y2, y3, y4, y5, y6⟩ := HT9.out w hB
                  go_simp
                  first
                    | (simp only [Calm.upon_value]
                       exact hK.out _ _ rfl (Below.refl _ _))
                    | (simp only [Calm.upon_enter]
                       with_reducible refine (PD9.out _ (by assumption)).mono ?_
                       rintro e w' ⟨rfl, hb⟩
                       exact ⟨_, rfl, hK.out _ _ rfl hb⟩))
           intro N hN
           go_simp
           apply hN.out
           clear hN N)
        | (apply Calm.calm_rel (Calm.Laid 2 (row8 D U) 32) Calm.laid_stable
           · rfl
           · intro w hB hF K hK
             unfold Calm.opAt
             simp only [bvl]
             go_simp
             simp only [Calm.upon_value]
             exact hK.out _ _ (Calm.laid_new _) ((Below.refl _ _).alloc (Nat.le_refl _) _)
           intro u N hN
           go_simp
           apply hN.out
           clear hN N)
        | (apply Calm.calm_val
           · rfl
           · intro w hB hF K hK
             simp [Calm.facts, Region.binds] at hF
             obtain ⟨b, rfl, hb⟩ := hF
             unfold Calm.opAt
             go_simp
             simp only [Calm.upon_enter]
             first
               | (with_reducible refine (KP2.out _ _ hb).mono ?_
                  rintro e w' ⟨rfl, hb⟩
                  exact ⟨_, rfl, hK.out _ _ rfl hb⟩)
           intro N hN
           go_simp
           apply hN.out
           clear hN N))
      apply Calm.calm_nil
      intro w9 hB9 _
      have HB10 : Hid (Below W5.heap.size W5 w9) := (hB.out.trans (Q7.out.mono hB.out.size)).trans (hB9.mono (Nat.le_trans hB.out.size Q7.out.size))
      clear hB9 hB Q7 U8 E8 HS9 HT9 PD9 KP2 F1
      go_wp2
      go_roundg (n - (i + 1))
      case measure => omega
      case rel => exact ⟨i + 1, by omega, by omega, by go_num, HB10.out⟩
    · have HB10 : Hid (Below W.heap.size W wo) := HB6.out.trans (hB.out.mono HB6.out.size)
      clear hB
      go_wp2
      go_ret
      exact ⟨rfl, HB10.out⟩
end Go.Proofs.Ytdmfdgadhobkpaa.Blk
