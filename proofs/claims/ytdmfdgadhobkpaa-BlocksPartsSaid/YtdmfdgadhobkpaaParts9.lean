/-
  The statement BlocksParts, walked.
-/
import Derived.Test.YtdmfdgadhobkpaaAwk9
import Derived.Test.YtdmfdgadhobkpaaBlkP
import Derived.Test.YtdmfdgadhobkpaaMade
import Derived.Test.YtdmfdgadhobkpaaRef5
import Derived.Test.YtdmfdgadhobkpaaBits16
namespace Go.Proofs.Ytdmfdgadhobkpaa.Blk
open Go.RowKit Go.Shelf Go.Proofs.Ytdmfdgadhobkpaa.Sys Go.Proofs.Ytdmfdgadhobkpaa.Box Go.Proofs.Ytdmfdgadhobkpaa.Bits

set_option maxHeartbeats 16000000 in
set_option maxRecDepth 100000 in
theorem BlocksParts_walk (a0 b0 : Int) (x0 : Option Addr) (len0 cap0 : Nat) (q0 : List Row0.NumV) (a1 : Int) (W : World) (w0 : Row0.IsNums W x0 len0 cap0 q0) (_w1 : (Lit.int .i64 a1).wf = true) :
    Calls Try.prog 3 #[.agg #[.int .i64 a0, .int .i64 b0, .slice x0 len0 cap0], .int .i64 a1] W fun e w' => e = .returned (.bool true) ∧ Below W.heap.size W w' := by
  have HN := Lib.hid (nums_rdN w0)
  have hlc := w0.le
  have hcm := w0.mx
  clear w0
  have ey := Row0.and_i64 a1 5 (by decide) 31 rfl
  obtain ⟨p, hp, p0, p1⟩ : ∃ p, a1 % 32 = p ∧ 0 ≤ p ∧ p ≤ 31 := ⟨_, rfl, by omega, by omega⟩
  have ep : Go.bits .and .i64 a1 31 = p := ey.trans hp
  clear ey hp _w1
  go_enter Try.func3, Try.ntmps3
  go_wp2_with fail
  refine (awake9_any _).mono ?_
  rintro e W1 ⟨rfl, hb1⟩
  have HB1 : Hid (Below W.heap.size W W1) := ((Below.refl _ W).alloc (Nat.le_refl _) _).trans (hb1.mono (by simp))
  have hcell : W1.heap[W.heap.size]? = some (.cells #[.int .i64 a0, .int .i64 b0, .slice x0 len0 cap0] 24 (0, 0)) := (hb1.block _ (by simp)).trans (heap_new _ _ _ rfl)
  obtain ⟨s0, s1, s2⟩ := bx_three hcell
  have hs1 : W.heap.size < W1.heap.size := bx_lt hcell
  clear hb1
  go_wp2_with fail
  refine (made_sys a0 b0 x0 len0 cap0 q0 W1 (HN.out.below HB1.out (Nat.le_refl _)) hlc hcm).mono ?_
  rintro e W2 ⟨S, R, A, n, c, q, rfl, hok, hb2⟩
  have HOK := Lib.hid hok
  have HB2 : Hid (Below W.heap.size W W2) := HB1.out.trans (hb2.mono HB1.out.size)
  have hs2 : W1.heap.size ≤ W2.heap.size := hb2.size
  clear hok hb2 hcell s0 s1 s2 HB1 HN
  go_wp2_with fail
  obtain ⟨W3, hW3⟩ : ∃ W3, (W2.alloc (.cells #[.int .i64 (S : Int), .int .i64 R, .slice A n c] 28)).alloc (.cells #[.int .u64 0, .int .u64 0, .int .u64 0, .int .u64 0] 32) = W3 := ⟨_, rfl⟩
  rw [hW3]
  have HX3 : Hid (W3.heap[W2.heap.size]? = some (.cells #[.int .i64 (S : Int), .int .i64 R, .slice A n c] 28 (0, 0))) := by rw [← hW3]; exact (Below.heap_alloc _ _ _ (by simp)).trans (heap_new _ _ _ rfl)
  have HN3 : Hid (W3.heap[W2.heap.size + 1]? = some (.cells (rowc (iw noneW)) 32 (0, 0))) := by rw [← hW3]; exact heap_new _ _ _ (by simp)
  have HO3 : Hid (SysOk W3 W1.heap.size S R A n c q) := by rw [← hW3]; exact (HOK.out.below ((Below.refl _ W2).alloc (Nat.le_refl _) _) (Nat.le_refl _)).below ((Below.refl _ _).alloc (Nat.le_refl _) _) (Nat.le_refl _)
  have HB3 : Hid (Below W.heap.size W W3) := by rw [← hW3]; exact (HB2.out.alloc HB2.out.size _).alloc (by have := HB2.out.size; simp; omega) _
  have hs3 : W3.heap.size = W2.heap.size + 2 := by rw [← hW3]; simp
  clear hW3 HOK HB2
  have o5 := HO3.out.n1
  have o6 := HO3.out.n6
  have o7 := HO3.out.nc
  have o8 := HO3.out.cm
  go_loopg [9] n (fun gg iv wr => ∃ (i : Nat), i ≤ n ∧ n - i ≤ gg ∧ iv = .int .i64 (i : Int) ∧ Aside (Below W3.heap.size W3 wr))
  case atStart => exact ⟨0, Nat.zero_le _, by omega, rfl, Below.refl _ _⟩
  case round =>
    obtain ⟨i, hi, hgk, rfl, hB⟩ := hrel
    generalize wr = wo at *
    obtain ⟨s0, s1, s2⟩ := bx_three (bx_old HX3.out hB.out (bx_lt HX3.out))
    by_cases hlt : i < n
    · have hro := HO3.out.below hB.out (Nat.le_refl _)
      obtain ⟨b, o, rfl, hcs⟩ := hro.rd.ad (by omega)
      obtain ⟨y0, y1, y2, y3, y4, y5, y6⟩ := hcs i hlt
      have hrr := Lib.hid (hro.rd.getRd hlt)
      have htk := hro.ok i hlt
      have ht24 := htk.t24
      have htc := htk.c1
      have htd := htk.cd
      have htt := htk.dt
      obtain ⟨r, hr⟩ : ∃ r, q.getD i default = r := ⟨_, rfl⟩
      rw [hr] at y0 y1 y2 y3 y4 y5 y6 hrr ht24 htc htd htt
      clear hcs hro htk hr
      go_wp2_with fail
      obtain ⟨w4, hw4⟩ : ∃ w4, wo.alloc (.cells #[.int .i64 r.x.id, .int .i64 r.x.c, .int .i64 r.x.d, .int .i64 r.x.t, .int .i64 r.x.prio, .slice r.ca r.cl r.cc, .slice r.ua r.ul r.uc] 36) = w4 := ⟨_, rfl⟩
      rw [hw4]
      have hT4 : Hid (w4.heap[wo.heap.size]? = some (.cells (taskCells r.x.id r.x.c r.x.d r.x.t r.x.prio (.slice r.ca r.cl r.cc) (.slice r.ua r.ul r.uc)) 36 (0, 0))) := by rw [← hw4]; exact heap_new _ _ _ rfl
      have hB4 : Hid (Below W3.heap.size W3 w4) := by rw [← hw4]; exact hB.out.alloc hB.out.size _
      have hR4 : Hid (r.Rd w4) := by rw [← hw4]; exact hrr.out.below ((Below.refl _ wo).alloc (Nat.le_refl _) _) (Nat.le_refl _)
      clear hw4 hrr y0 y1 y2 y3 y4 y5 y6 s0 s1 s2 hB
      obtain ⟨f1, f2, f3, f4, f5, f6⟩ := parts_facts9 r.x p p0
      have ht4 := bx_lt hT4.out
      have HT5 : Hid (∀ w6, Below w4.heap.size w4 w6 → w6.heap[wo.heap.size]? = some (.cells (taskCells r.x.id r.x.c r.x.d r.x.t r.x.prio (.slice r.ca r.cl r.cc) (.slice r.ua r.ul r.uc)) 36 (0, 0))) := fun w6 h => (h.block _ ht4).trans hT4.out
      have HN5 : Hid (w4.heap[W2.heap.size + 1]? = some (.cells (rowc (iw noneW)) 32 (0, 0))) := (hB4.out.block _ (bx_lt HN3.out)).trans HN3.out
      have cB := fun w6 (h : Below w4.heap.size w4 w6) => before_any r p w6 (hR4.out.below h (Nat.le_refl _))
      have cD := fun w6 (h : Below w4.heap.size w4 w6) => behind_any r p (by omega) w6 (hR4.out.below h (Nat.le_refl _))
      have cU := fun w6 (h : Below w4.heap.size w4 w6) => useful_any r p (by omega) w6 (hR4.out.below h (Nat.le_refl _))
      have cV := fun w6 (h : Below w4.heap.size w4 w6) => used_any r w6 (hR4.out.below h (Nat.le_refl _))
      have cU0 := fun w6 (h : Below w4.heap.size w4 w6) => useful_any r 0 (by omega) w6 (hR4.out.below h (Nat.le_refl _))
      have cUc := fun w6 (h : Below w4.heap.size w4 w6) => useful_any r r.x.c (by omega) w6 (hR4.out.below h (Nat.le_refl _))
      have cBc := fun w6 (h : Below w4.heap.size w4 w6) => before_any r r.x.c w6 (hR4.out.below h (Nat.le_refl _))
      have cD0 := fun w6 (h : Below w4.heap.size w4 w6) => behind_any r 0 (by omega) w6 (hR4.out.below h (Nat.le_refl _))
      have hX : Ws (beforeN r.x p) := Ws.ofN _
      have hY : Ws (behindN r.x p) := Ws.ofN _
      generalize beforeN r.x r.x.c = BC at *
      generalize behindN r.x 0 = D0 at *
      generalize usefulN r.x 0 = U0 at *
      generalize usefulN r.x r.x.c = UC at *
      generalize usefulN r.x p = U at *
      generalize beforeN r.x p = X at *
      generalize behindN r.x p = Y at *
      generalize usedN r.x = V at *
      have AX := fun w6 => andr_n hX hY w6
      have hXY := ws2 hX hY
      have hOO := fun (w6 : World) (b : Nat) (h : w6.heap[b]? = some (.cells (row8 X Y) 32 (0, 0))) => orr_n (some ⟨b, 0, none⟩) 2 2 [X, Y] hXY w6 (rdB_blk h)
      obtain ⟨O, hO⟩ : ∃ O, orL [X, Y] = O := ⟨_, rfl⟩
      obtain ⟨N, hN⟩ : ∃ N, andW X Y = N := ⟨_, rfl⟩
      simp only [hO] at hOO f1
      simp only [hN] at AX f2
      have KAX := Lib.hid AX
      have KOO := Lib.hid hOO
      have KB := Lib.hid cB
      have KD := Lib.hid cD
      have KU := Lib.hid cU
      have KV := Lib.hid cV
      have KU0 := Lib.hid cU0
      have KUC := Lib.hid cUc
      have KBC := Lib.hid cBc
      have KD0 := Lib.hid cD0
      have F1 := Lib.hid f1
      have F2 := Lib.hid f2
      have F3 := Lib.hid f3
      have F4 := Lib.hid f4
      have F5 := Lib.hid f5
      have F6 := Lib.hid f6
      clear f1 f2 f3 f4 f5 f6 cB cD cU cV cU0 cUc cBc cD0 hX hY AX hXY hOO hO hN
      obtain ⟨y0, y1, y2, y3, y4, y5, y6⟩ := bx_seven (HT5.out _ (Below.refl _ _))
      go_wp2_with fail
      simp only [bvl] at KB KD KU
      clear y0 y1 y2 y3 y4 y5 y6
      refine (KB.out _ (Below.refl _ _)).mono ?_
      rintro e v1 ⟨rfl, hb⟩
      have q1 := Lib.hid hb
      clear hb
      obtain ⟨y0, y1, y2, y3, y4, y5, y6⟩ := bx_seven (HT5.out _ (q1.out.alloc q1.out.size (.cells #[.int .u64 (X 0 : Int), .int .u64 (X 1 : Int), .int .u64 (X 2 : Int), .int .u64 (X 3 : Int)] 32)))
      go_wp2_with fail
      clear y0 y1 y2 y3 y4 y5 y6
      obtain ⟨v2, hv2⟩ : ∃ v2, v1.alloc (.cells #[.int .u64 (X 0 : Int), .int .u64 (X 1 : Int), .int .u64 (X 2 : Int), .int .u64 (X 3 : Int)] 32) = v2 := ⟨_, rfl⟩
      rw [hv2]
      have q2 : Hid (Below w4.heap.size w4 v2) := by rw [← hv2]; exact q1.out.alloc q1.out.size _
      have t2 : Hid (v2.heap[v1.heap.size]? = some (.cells (rowc (iw X)) 32 (0, 0))) := by rw [← hv2]; exact new4 _ _
      clear hv2
      refine (KD.out _ q2.out).mono ?_
      rintro e v3 ⟨rfl, hb⟩
      have q3 : Hid (Below w4.heap.size w4 v3) := q2.out.trans (hb.mono q2.out.size)
      have t3 : Hid (v3.heap[v1.heap.size]? = some (.cells (rowc (iw X)) 32 (0, 0))) := old4 t2.out hb (lt4 t2.out)
      clear hb t2 q2
      obtain ⟨y0, y1, y2, y3, y4, y5, y6⟩ := bx_seven (HT5.out _ (q3.out.alloc q3.out.size (.cells #[.int .u64 (Y 0 : Int), .int .u64 (Y 1 : Int), .int .u64 (Y 2 : Int), .int .u64 (Y 3 : Int)] 32)))
      go_wp2_with fail
      clear y0 y1 y2 y3 y4 y5 y6
      obtain ⟨v4, hv4⟩ : ∃ v4, v3.alloc (.cells #[.int .u64 (Y 0 : Int), .int .u64 (Y 1 : Int), .int .u64 (Y 2 : Int), .int .u64 (Y 3 : Int)] 32) = v4 := ⟨_, rfl⟩
      rw [hv4]
      have q4 : Hid (Below w4.heap.size w4 v4) := by rw [← hv4]; exact q3.out.alloc q3.out.size _
      have t4 : Hid (v4.heap[v1.heap.size]? = some (.cells (rowc (iw X)) 32 (0, 0))) := by rw [← hv4]; exact old4 t3.out ((Below.refl _ v3).alloc (Nat.le_refl _) _) (lt4 t3.out)
      have u4 : Hid (v4.heap[v3.heap.size]? = some (.cells (rowc (iw Y)) 32 (0, 0))) := by rw [← hv4]; exact new4 _ _
      clear hv4 t3
      refine (KU.out _ q4.out).mono ?_
      rintro e v5 ⟨rfl, hb⟩
      have q5 : Hid (Below w4.heap.size w4 v5) := q4.out.trans (hb.mono q4.out.size)
      have t5 : Hid (v5.heap[v1.heap.size]? = some (.cells (rowc (iw X)) 32 (0, 0))) := old4 t4.out hb (lt4 t4.out)
      have u5 : Hid (v5.heap[v3.heap.size]? = some (.cells (rowc (iw Y)) 32 (0, 0))) := old4 u4.out hb (lt4 u4.out)
      clear hb t4 u4 q4
      go_wp2_with fail
      obtain ⟨v6, hv6⟩ : ∃ v6, v5.alloc (.cells #[.int .u64 (U 0 : Int), .int .u64 (U 1 : Int), .int .u64 (U 2 : Int), .int .u64 (U 3 : Int)] 32) = v6 := ⟨_, rfl⟩
      rw [hv6]
      have q6 : Hid (Below w4.heap.size w4 v6) := by rw [← hv6]; exact q5.out.alloc q5.out.size _
      have T8 : Hid (∀ w, Below v6.heap.size v6 w → w.heap[v1.heap.size]? = some (.cells (rowc (iw X)) 32 (0, 0))) := by rw [← hv6]; exact box_in (old4 t5.out ((Below.refl _ v5).alloc (Nat.le_refl _) _) (lt4 t5.out))
      have U8 : Hid (∀ w, Below v6.heap.size v6 w → w.heap[v3.heap.size]? = some (.cells (rowc (iw Y)) 32 (0, 0))) := by rw [← hv6]; exact box_in (old4 u5.out ((Below.refl _ v5).alloc (Nat.le_refl _) _) (lt4 u5.out))
      have Z8 : Hid (∀ w, Below v6.heap.size v6 w → w.heap[v5.heap.size]? = some (.cells (rowc (iw U)) 32 (0, 0))) := by rw [← hv6]; exact box_in (new4 _ _)
      have N8 : Hid (∀ w, Below v6.heap.size v6 w → w.heap[W2.heap.size + 1]? = some (.cells (rowc (iw noneW)) 32 (0, 0))) := box_in (old4 HN5.out q6.out (lt4 HN5.out))
      have HT8 : Hid (∀ w, Below v6.heap.size v6 w → w.heap[wo.heap.size]? = some (.cells (taskCells r.x.id r.x.c r.x.d r.x.t r.x.prio (.slice r.ca r.cl r.cc) (.slice r.ua r.ul r.uc)) 36 (0, 0))) := fun w h => HT5.out w (q6.out.trans (h.mono q6.out.size))
      have LV := fun (w : World) (h : Below v6.heap.size v6 w) => KV.out w (q6.out.trans (h.mono q6.out.size))
      have LU0 := fun (w : World) (h : Below v6.heap.size v6 w) => KU0.out w (q6.out.trans (h.mono q6.out.size))
      have LUC := fun (w : World) (h : Below v6.heap.size v6 w) => KUC.out w (q6.out.trans (h.mono q6.out.size))
      have LBC := fun (w : World) (h : Below v6.heap.size v6 w) => KBC.out w (q6.out.trans (h.mono q6.out.size))
      have LD0 := fun (w : World) (h : Below v6.heap.size v6 w) => KD0.out w (q6.out.trans (h.mono q6.out.size))
      have PV := Lib.hid LV
      have PU0 := Lib.hid LU0
      have PUC := Lib.hid LUC
      have PBC := Lib.hid LBC
      have PD0 := Lib.hid LD0
      have HB9 : Hid (Below W3.heap.size W3 v6) := hB4.out.trans (q6.out.mono hB4.out.size)
      clear hv6 t5 u5 q5 q1 q3 q6 KB KD KU KV KU0 KUC KBC KD0 LV LU0 LUC LBC LD0 hB4 hR4 hT4
      refine Calm.wp_region_calm (B := v6.heap.size) (W := v6) (by kernel_rfl) (by kernel_rfl) (by kernel_rfl) (Nat.le_refl _) (Below.refl _ _).drew ?_
      apply Exists.intro
      repeat (first
        | (apply Calm.calm_skip
           · rfl
           intro N hN
           go_simp
           apply hN.out
           clear hN N)
        | (apply Calm.calm_val
           · rfl
           · intro w hB hF K hK
             first
               | exact opAt_net F1.out (by rfl) (by rfl) (by rfl) (hK.out _ _ rfl (Below.refl _ _))
               | exact opAt_net F2.out (by rfl) (by rfl) (by rfl) (hK.out _ _ rfl (Below.refl _ _))
               | exact opAt_net F3.out (by rfl) (by rfl) (by rfl) (hK.out _ _ rfl (Below.refl _ _))
               | exact opAt_net F4.out (by rfl) (by rfl) (by rfl) (hK.out _ _ rfl (Below.refl _ _))
               | exact opAt_net F5.out (by rfl) (by rfl) (by rfl) (hK.out _ _ rfl (Below.refl _ _))
               | exact opAt_net F6.out (by rfl) (by rfl) (by rfl) (hK.out _ _ rfl (Below.refl _ _))
               | refine opAt_load (by rfl) (by rfl) (T8.out w hB) (hK.out _ _ rfl (Below.refl _ _))
               | refine opAt_load (by rfl) (by rfl) (U8.out w hB) (hK.out _ _ rfl (Below.refl _ _))
               | refine opAt_load (by rfl) (by rfl) (Z8.out w hB) (hK.out _ _ rfl (Below.refl _ _))
               | refine opAt_load (by rfl) (by rfl) (N8.out w hB) (hK.out _ _ rfl (Below.refl _ _))
               | (unfold Calm.opAt
                  obtain ⟨y0, y1, y2, y3, y4, y5, y6⟩ := bx_seven (HT8.out w hB)
                  go_simp
                  first
                    | (simp only [Calm.upon_value]
                       exact hK.out _ _ rfl (Below.refl _ _))
                    | (simp only [Calm.upon_enter]
                       with_reducible refine (KAX.out _).mono ?_
                       rintro e w' ⟨rfl, hb⟩
                       exact ⟨_, rfl, hK.out _ _ rfl hb⟩)
                    | (simp only [Calm.upon_enter]
                       with_reducible refine (PV.out _ (by assumption)).mono ?_
                       rintro e w' ⟨rfl, hb⟩
                       exact ⟨_, rfl, hK.out _ _ rfl hb⟩)
                    | (simp only [Calm.upon_enter]
                       with_reducible refine (PU0.out _ (by assumption)).mono ?_
                       rintro e w' ⟨rfl, hb⟩
                       exact ⟨_, rfl, hK.out _ _ rfl hb⟩)
                    | (simp only [Calm.upon_enter]
                       with_reducible refine (PUC.out _ (by assumption)).mono ?_
                       rintro e w' ⟨rfl, hb⟩
                       exact ⟨_, rfl, hK.out _ _ rfl hb⟩)
                    | (simp only [Calm.upon_enter]
                       with_reducible refine (PBC.out _ (by assumption)).mono ?_
                       rintro e w' ⟨rfl, hb⟩
                       exact ⟨_, rfl, hK.out _ _ rfl hb⟩)
                    | (simp only [Calm.upon_enter]
                       with_reducible refine (PD0.out _ (by assumption)).mono ?_
                       rintro e w' ⟨rfl, hb⟩
                       exact ⟨_, rfl, hK.out _ _ rfl hb⟩))
           intro N hN
           go_simp
           apply hN.out
           clear hN N)
        | (apply Calm.calm_rel (Calm.Laid 2 (row8 X Y) 32) Calm.laid_stable
           · rfl
           · intro w hB hF K hK
             unfold Calm.opAt
             simp only [bvl]
             go_simp
             simp only [Calm.upon_value]
             exact hK.out _ _ (Calm.laid_new _) ((Below.refl _ _).alloc (Nat.le_refl _) _)
           intro u N hN
           go_simp
           apply hN.out
           clear hN N)
        | (apply Calm.calm_val
           · rfl
           · intro w hB hF K hK
             simp [Calm.facts, Region.binds] at hF
             obtain ⟨b, rfl, hb⟩ := hF
             unfold Calm.opAt
             go_simp
             simp only [Calm.upon_enter]
             first
               | (with_reducible refine (KOO.out _ _ hb).mono ?_
                  rintro e w' ⟨rfl, hb⟩
                  exact ⟨_, rfl, hK.out _ _ rfl hb⟩)
           intro N hN
           go_simp
           apply hN.out
           clear hN N))
      apply Calm.calm_nil
      intro w9 hB9 _
      have HB10 : Hid (Below W3.heap.size W3 w9) := HB9.out.trans (hB9.mono HB9.out.size)
      clear hB9 HB9 KAX KOO PV PU0 PUC PBC PD0 T8 U8 Z8 N8 HT8 HT5 HN5 F1 F2 F3 F4 F5 F6
      go_wp2
      go_roundg (n - (i + 1))
      case measure => omega
      case rel => exact ⟨i + 1, by omega, by omega, by go_num, HB10.out⟩
    · have HB10 : Hid (Below W.heap.size W wo) := HB3.out.trans (hB.out.mono HB3.out.size)
      clear hB
      go_wp2
      go_ret
      exact ⟨rfl, HB10.out⟩
end Go.Proofs.Ytdmfdgadhobkpaa.Blk
