/-
  The statement BlocksSteps, walked.
-/
import Derived.Test.YtdmfdgadhobkpaaAwk9
import Derived.Test.YtdmfdgadhobkpaaBlkS
import Derived.Test.YtdmfdgadhobkpaaMade
import Derived.Test.YtdmfdgadhobkpaaRef4
namespace Go.Proofs.Ytdmfdgadhobkpaa.Blk
open Go.RowKit Go.Shelf Go.Proofs.Ytdmfdgadhobkpaa.Sys Go.Proofs.Ytdmfdgadhobkpaa.Box Go.Proofs.Ytdmfdgadhobkpaa.Bits

set_option maxHeartbeats 16000000 in
set_option maxRecDepth 100000 in
theorem BlocksSteps_walk (a0 b0 : Int) (x0 : Option Addr) (len0 cap0 : Nat) (q0 : List Row0.NumV) (W : World) (w0 : Row0.IsNums W x0 len0 cap0 q0) :
    Calls Try.prog 5 #[.agg #[.int .i64 a0, .int .i64 b0, .slice x0 len0 cap0]] W fun e w' => e = .returned (.bool true) ∧ Below W.heap.size W w' := by
  have HN := Lib.hid (nums_rdN w0)
  have hlc := w0.le
  have hcm := w0.mx
  clear w0
  go_enter Try.func5, Try.ntmps5
  go_wp2_with fail
  refine (awake9_any _).mono ?_
  rintro e W1 ⟨rfl, hb1⟩
  have HB1 : Hid (Below W.heap.size W W1) := ((Below.refl _ W).alloc (Nat.le_refl _) _).trans (hb1.mono (by simp))
  have hcell : W1.heap[W.heap.size]? = some (.cells #[.int .i64 a0, .int .i64 b0, .slice x0 len0 cap0] 24 (0, 0)) := (hb1.block _ (by simp)).trans (heap_new _ _ _ rfl)
  obtain ⟨s0, s1, s2⟩ := bx_three hcell
  have hs1 : W.heap.size < W1.heap.size := bx_lt hcell
  clear hb1
  go_wp2_with fail
  refine (made_sys a0 b0 x0 len0 cap0 q0 W1 (HN.out.below HB1.out (Nat.le_refl _)) hlc hcm).mono ?_
  rintro e W2 ⟨S, R, A, n, c, q, rfl, hok, hb2⟩
  have HOK := Lib.hid hok
  have HB2 : Hid (Below W.heap.size W W2) := HB1.out.trans (hb2.mono HB1.out.size)
  have hs2 : W1.heap.size ≤ W2.heap.size := hb2.size
  clear hok hb2 hcell s0 s1 s2 HB1 HN
  go_wp2_with fail
  obtain ⟨W3, hW3⟩ : ∃ W3, W2.alloc (.cells #[.int .i64 (S : Int), .int .i64 R, .slice A n c] 28) = W3 := ⟨_, rfl⟩
  rw [hW3]
  have HX3 : Hid (W3.heap[W2.heap.size]? = some (.cells #[.int .i64 (S : Int), .int .i64 R, .slice A n c] 28 (0, 0))) := by rw [← hW3]; exact heap_new _ _ _ rfl
  have HO3 : Hid (SysOk W3 W1.heap.size S R A n c q) := by rw [← hW3]; exact HOK.out.below ((Below.refl _ W2).alloc (Nat.le_refl _) _) (Nat.le_refl _)
  have HB3 : Hid (Below W.heap.size W W3) := by rw [← hW3]; exact HB2.out.alloc HB2.out.size _
  have hs3 : W3.heap.size = W2.heap.size + 1 := by rw [← hW3]; simp
  clear hW3 HOK HB2
  have o5 := HO3.out.n1
  have o6 := HO3.out.n6
  have o7 := HO3.out.nc
  have o8 := HO3.out.cm
  go_loopg [5] n (fun gg iv wr => ∃ (i : Nat), i ≤ n ∧ n - i ≤ gg ∧ iv = .int .i64 (i : Int) ∧ Aside (Below W3.heap.size W3 wr))
  case atStart => exact ⟨0, Nat.zero_le _, by omega, rfl, Below.refl _ _⟩
  case round =>
    obtain ⟨i, hi, hgk, rfl, hB⟩ := hrel
    generalize wr = wo at *
    obtain ⟨s0, s1, s2⟩ := bx_three (bx_old HX3.out hB.out (bx_lt HX3.out))
    by_cases hlt : i < n
    · have hro := HO3.out.below hB.out (Nat.le_refl _)
      obtain ⟨b, o, rfl, hcs⟩ := hro.rd.ad (by omega)
      obtain ⟨y0, y1, y2, y3, y4, y5, y6⟩ := hcs i hlt
      have hrr := Lib.hid (hro.rd.getRd hlt)
      have htk := hro.ok i hlt
      have ht24 := htk.t24
      have htc := htk.c1
      have htd := htk.cd
      have htt := htk.dt
      obtain ⟨r, hr⟩ : ∃ r, q.getD i default = r := ⟨_, rfl⟩
      rw [hr] at y0 y1 y2 y3 y4 y5 y6 hrr ht24 htc htd htt
      clear hcs hro htk hr
      go_wp2_with fail
      obtain ⟨w4, hw4⟩ : ∃ w4, wo.alloc (.cells #[.int .i64 r.x.id, .int .i64 r.x.c, .int .i64 r.x.d, .int .i64 r.x.t, .int .i64 r.x.prio, .slice r.ca r.cl r.cc, .slice r.ua r.ul r.uc] 36) = w4 := ⟨_, rfl⟩
      rw [hw4]
      have hT4 : Hid (w4.heap[wo.heap.size]? = some (.cells (taskCells r.x.id r.x.c r.x.d r.x.t r.x.prio (.slice r.ca r.cl r.cc) (.slice r.ua r.ul r.uc)) 36 (0, 0))) := by rw [← hw4]; exact heap_new _ _ _ rfl
      have hB4 : Hid (Below W3.heap.size W3 w4) := by rw [← hw4]; exact hB.out.alloc hB.out.size _
      have hR4 : Hid (r.Rd w4) := by rw [← hw4]; exact hrr.out.below ((Below.refl _ wo).alloc (Nat.le_refl _) _) (Nat.le_refl _)
      clear hw4 hrr y0 y1 y2 y3 y4 y5 y6 s0 s1 s2 hB
      go_loopg [7] r.x.c.toNat (fun gg pv wr => ∃ (p : Int), 0 ≤ p ∧ p ≤ r.x.c ∧ (r.x.c - p).toNat ≤ gg ∧ pv = .int .i64 p ∧ Aside (Below w4.heap.size w4 wr))
      case atStart => exact ⟨0, by omega, by omega, by omega, rfl, Below.refl _ _⟩
      case round =>
        obtain ⟨p, hp0, hp1, hgk2, rfl, hB5⟩ := hrel
        have ht4 := bx_lt hT4.out
        obtain ⟨y0, y1, y2, y3, y4, y5, y6⟩ := bx_seven ((hB5.out.block _ ht4).trans hT4.out)
        by_cases hlp : p < r.x.c
        · obtain ⟨f1, f2, f3, f4⟩ := steps_facts r.x p hp0 hlp
          have ew : IntKind.i64.wrap (p + 1) = p + 1 := by rw [IntKind.wrap_i64]; omega
          have HR5 : Hid (∀ w6, Below wr.heap.size wr w6 → r.Rd w6) := fun w6 h => hR4.out.below (hB5.out.trans (h.mono hB5.out.size)) (Nat.le_refl _)
          have HT5 : Hid (∀ w6, Below wr.heap.size wr w6 → w6.heap[wo.heap.size]? = some (.cells (taskCells r.x.id r.x.c r.x.d r.x.t r.x.prio (.slice r.ca r.cl r.cc) (.slice r.ua r.ul r.uc)) 36 (0, 0))) := fun w6 h => (h.block _ (Nat.lt_of_lt_of_le ht4 hB5.out.size)).trans ((hB5.out.block _ ht4).trans hT4.out)
          have cB := fun w6 (h : Below wr.heap.size wr w6) => before_any r p w6 (HR5.out w6 h)
          have cB2 := fun w6 (h : Below wr.heap.size wr w6) => before_any r (p + 1) w6 (HR5.out w6 h)
          have cD := fun w6 (h : Below wr.heap.size wr w6) => behind_any r p (by omega) w6 (HR5.out w6 h)
          have cD2 := fun w6 (h : Below wr.heap.size wr w6) => behind_any r (p + 1) (by omega) w6 (HR5.out w6 h)
          have hWX : Ws (beforeN r.x p) := Ws.ofN _
          have hWY : Ws (beforeN r.x (p + 1)) := Ws.ofN _
          have hWU : Ws (behindN r.x p) := Ws.ofN _
          have hWV : Ws (behindN r.x (p + 1)) := Ws.ofN _
          generalize beforeN r.x p = X at *
          generalize beforeN r.x (p + 1) = Y at *
          generalize behindN r.x p = U at *
          generalize behindN r.x (p + 1) = V at *
          have nX := len_256 X
          have nY := len_256 Y
          have nU := len_256 U
          have nV := len_256 V
          obtain ⟨lx, hlx⟩ : ∃ l : Nat, (listN X).length = l := ⟨_, rfl⟩
          obtain ⟨ly, hly⟩ : ∃ l : Nat, (listN Y).length = l := ⟨_, rfl⟩
          obtain ⟨lu, hlu⟩ : ∃ l : Nat, (listN U).length = l := ⟨_, rfl⟩
          obtain ⟨lv, hlv⟩ : ∃ l : Nat, (listN V).length = l := ⟨_, rfl⟩
          rw [hlx, hly] at f3
          rw [hlu, hlv] at f4
          rw [hlx] at nX
          rw [hly] at nY
          rw [hlu] at nU
          rw [hlv] at nV
          have LX := fun w6 => lenr_n hWX w6
          have LY := fun w6 => lenr_n hWY w6
          have LU := fun w6 => lenr_n hWU w6
          have LV := fun w6 => lenr_n hWV w6
          simp only [hlx] at LX
          simp only [hly] at LY
          simp only [hlu] at LU
          simp only [hlv] at LV
          have AX := fun w6 => andr_n hWX hWY w6
          have AU := fun w6 => andr_n hWU hWV w6
          have g1 : IntKind.i64.wrap ((ly : Int) - (lx : Int)) = (ly : Int) - (lx : Int) := by rw [IntKind.wrap_i64]; omega
          have g2 : IntKind.i64.wrap ((lu : Int) - (lv : Int)) = (lu : Int) - (lv : Int) := by rw [IntKind.wrap_i64]; omega
          have g3 : decide ((1 : Int) < (ly : Int) - (lx : Int)) = false := by simp; omega
          have g4 : decide ((1 : Int) < (lu : Int) - (lv : Int)) = false := by simp; omega
          have KLX := Lib.hid LX
          have KLY := Lib.hid LY
          have KLU := Lib.hid LU
          have KLV := Lib.hid LV
          have KAX := Lib.hid AX
          have KAU := Lib.hid AU
          have KB := Lib.hid cB
          have KB2 := Lib.hid cB2
          have KD := Lib.hid cD
          have KD2 := Lib.hid cD2
          have F1 := Lib.hid f1
          have F2 := Lib.hid f2
          clear f1 f2 f3 f4 cB cB2 cD cD2 hWX hWY hWU hWV LX LY LU LV AX AU nX nY nU nV hlx hly hlu hlv
          go_wp2_with fail
          simp only [bvl] at KB KB2 KD KD2
          clear y0 y1 y2 y3 y4 y5 y6
          refine (KB.out _ (Below.refl _ _)).mono ?_
          rintro e v1 ⟨rfl, hb⟩
          have q1 := Lib.hid hb
          clear hb
          obtain ⟨y0, y1, y2, y3, y4, y5, y6⟩ := bx_seven (HT5.out _ (q1.out.alloc q1.out.size (.cells #[.int .u64 (X 0 : Int), .int .u64 (X 1 : Int), .int .u64 (X 2 : Int), .int .u64 (X 3 : Int)] 32)))
          go_wp2_with fail
          clear y0 y1 y2 y3 y4 y5 y6
          obtain ⟨v2, hv2⟩ : ∃ v2, v1.alloc (.cells #[.int .u64 (X 0 : Int), .int .u64 (X 1 : Int), .int .u64 (X 2 : Int), .int .u64 (X 3 : Int)] 32) = v2 := ⟨_, rfl⟩
          rw [hv2]
          have q2 : Hid (Below wr.heap.size wr v2) := by rw [← hv2]; exact q1.out.alloc q1.out.size _
          have t2 : Hid (v2.heap[v1.heap.size]? = some (.cells (rowc (iw X)) 32 (0, 0))) := by rw [← hv2]; exact new4 _ _
          clear hv2 
          refine (KB2.out _ q2.out).mono ?_
          rintro e v3 ⟨rfl, hb⟩
          have q3 : Hid (Below wr.heap.size wr v3) := q2.out.trans (hb.mono q2.out.size)
          have t3 : Hid (v3.heap[v1.heap.size]? = some (.cells (rowc (iw X)) 32 (0, 0))) := old4 t2.out hb (lt4 t2.out)
          clear hb t2 q2
          obtain ⟨y0, y1, y2, y3, y4, y5, y6⟩ := bx_seven (HT5.out _ (q3.out.alloc q3.out.size (.cells #[.int .u64 (Y 0 : Int), .int .u64 (Y 1 : Int), .int .u64 (Y 2 : Int), .int .u64 (Y 3 : Int)] 32)))
          go_wp2_with fail
          clear y0 y1 y2 y3 y4 y5 y6
          obtain ⟨v4, hv4⟩ : ∃ v4, v3.alloc (.cells #[.int .u64 (Y 0 : Int), .int .u64 (Y 1 : Int), .int .u64 (Y 2 : Int), .int .u64 (Y 3 : Int)] 32) = v4 := ⟨_, rfl⟩
          rw [hv4]
          have q4 : Hid (Below wr.heap.size wr v4) := by rw [← hv4]; exact q3.out.alloc q3.out.size _
          have t4 : Hid (v4.heap[v1.heap.size]? = some (.cells (rowc (iw X)) 32 (0, 0))) := by rw [← hv4]; exact old4 t3.out ((Below.refl _ v3).alloc (Nat.le_refl _) _) (lt4 t3.out)
          have u4 : Hid (v4.heap[v3.heap.size]? = some (.cells (rowc (iw Y)) 32 (0, 0))) := by rw [← hv4]; exact new4 _ _
          clear hv4 t3
          refine (KD.out _ q4.out).mono ?_
          rintro e v5 ⟨rfl, hb⟩
          have q5 : Hid (Below wr.heap.size wr v5) := q4.out.trans (hb.mono q4.out.size)
          have t5 : Hid (v5.heap[v1.heap.size]? = some (.cells (rowc (iw X)) 32 (0, 0))) := old4 t4.out hb (lt4 t4.out)
          have u5 : Hid (v5.heap[v3.heap.size]? = some (.cells (rowc (iw Y)) 32 (0, 0))) := old4 u4.out hb (lt4 u4.out)
          clear hb t4 u4 q4
          obtain ⟨y0, y1, y2, y3, y4, y5, y6⟩ := bx_seven (HT5.out _ (q5.out.alloc q5.out.size (.cells #[.int .u64 (U 0 : Int), .int .u64 (U 1 : Int), .int .u64 (U 2 : Int), .int .u64 (U 3 : Int)] 32)))
          go_wp2_with fail
          clear y0 y1 y2 y3 y4 y5 y6
          obtain ⟨v6, hv6⟩ : ∃ v6, v5.alloc (.cells #[.int .u64 (U 0 : Int), .int .u64 (U 1 : Int), .int .u64 (U 2 : Int), .int .u64 (U 3 : Int)] 32) = v6 := ⟨_, rfl⟩
          rw [hv6]
          have q6 : Hid (Below wr.heap.size wr v6) := by rw [← hv6]; exact q5.out.alloc q5.out.size _
          have t6 : Hid (v6.heap[v1.heap.size]? = some (.cells (rowc (iw X)) 32 (0, 0))) := by rw [← hv6]; exact old4 t5.out ((Below.refl _ v5).alloc (Nat.le_refl _) _) (lt4 t5.out)
          have u6 : Hid (v6.heap[v3.heap.size]? = some (.cells (rowc (iw Y)) 32 (0, 0))) := by rw [← hv6]; exact old4 u5.out ((Below.refl _ v5).alloc (Nat.le_refl _) _) (lt4 u5.out)
          have z6 : Hid (v6.heap[v5.heap.size]? = some (.cells (rowc (iw U)) 32 (0, 0))) := by rw [← hv6]; exact new4 _ _
          clear hv6 t5 u5
          refine (KD2.out _ q6.out).mono ?_
          rintro e v7 ⟨rfl, hb⟩
          have q7 : Hid (Below wr.heap.size wr v7) := q6.out.trans (hb.mono q6.out.size)
          have t7 : Hid (v7.heap[v1.heap.size]? = some (.cells (rowc (iw X)) 32 (0, 0))) := old4 t6.out hb (lt4 t6.out)
          have u7 : Hid (v7.heap[v3.heap.size]? = some (.cells (rowc (iw Y)) 32 (0, 0))) := old4 u6.out hb (lt4 u6.out)
          have z7 : Hid (v7.heap[v5.heap.size]? = some (.cells (rowc (iw U)) 32 (0, 0))) := old4 z6.out hb (lt4 z6.out)
          clear hb t6 u6 z6 q6
          go_wp2_with fail
          obtain ⟨v8, hv8⟩ : ∃ v8, v7.alloc (.cells #[.int .u64 (V 0 : Int), .int .u64 (V 1 : Int), .int .u64 (V 2 : Int), .int .u64 (V 3 : Int)] 32) = v8 := ⟨_, rfl⟩
          rw [hv8]
          have q8 : Hid (Below wr.heap.size wr v8) := by rw [← hv8]; exact q7.out.alloc q7.out.size _
          have T8 : Hid (∀ w, Below v8.heap.size v8 w → w.heap[v1.heap.size]? = some (.cells (rowc (iw X)) 32 (0, 0))) := by rw [← hv8]; exact box_in (old4 t7.out ((Below.refl _ v7).alloc (Nat.le_refl _) _) (lt4 t7.out))
          have U8 : Hid (∀ w, Below v8.heap.size v8 w → w.heap[v3.heap.size]? = some (.cells (rowc (iw Y)) 32 (0, 0))) := by rw [← hv8]; exact box_in (old4 u7.out ((Below.refl _ v7).alloc (Nat.le_refl _) _) (lt4 u7.out))
          have Z8 : Hid (∀ w, Below v8.heap.size v8 w → w.heap[v5.heap.size]? = some (.cells (rowc (iw U)) 32 (0, 0))) := by rw [← hv8]; exact box_in (old4 z7.out ((Below.refl _ v7).alloc (Nat.le_refl _) _) (lt4 z7.out))
          have Y8 : Hid (∀ w, Below v8.heap.size v8 w → w.heap[v7.heap.size]? = some (.cells (rowc (iw V)) 32 (0, 0))) := by rw [← hv8]; exact box_in (new4 _ _)
          clear hv8 t7 u7 z7 q7 q1 KB KB2 KD KD2
          have HB9 : Hid (Below w4.heap.size w4 v8) := hB5.out.trans (q8.out.mono hB5.out.size)
          clear q8 hB5
          refine Calm.wp_region_calm (B := v8.heap.size) (W := v8) (by kernel_rfl) (by kernel_rfl) (by kernel_rfl) (Nat.le_refl _) (Below.refl _ _).drew ?_
          apply Exists.intro
          repeat (first
            | (apply Calm.calm_skip
               · rfl
               intro N hN
               go_simp
               apply hN.out
               clear hN N)
            | (apply Calm.calm_val
               · rfl
               · intro w hB hF K hK
                 first
                   | exact opAt_net F1.out (by rfl) (by rfl) (by rfl) (hK.out _ _ rfl (Below.refl _ _))
                   | exact opAt_net F2.out (by rfl) (by rfl) (by rfl) (hK.out _ _ rfl (Below.refl _ _))
                   | refine opAt_load (by rfl) (by rfl) (T8.out w hB) (hK.out _ _ rfl (Below.refl _ _))
                   | refine opAt_load (by rfl) (by rfl) (U8.out w hB) (hK.out _ _ rfl (Below.refl _ _))
                   | refine opAt_load (by rfl) (by rfl) (Z8.out w hB) (hK.out _ _ rfl (Below.refl _ _))
                   | refine opAt_load (by rfl) (by rfl) (Y8.out w hB) (hK.out _ _ rfl (Below.refl _ _))
                   | (unfold Calm.opAt
                      go_simp
                      first
                        | (simp only [Calm.upon_value]
                           exact hK.out _ _ rfl (Below.refl _ _))
                        | (simp only [Calm.upon_enter]
                           with_reducible refine (KAX.out _).mono ?_
                           rintro e w' ⟨rfl, hb⟩
                           exact ⟨_, rfl, hK.out _ _ rfl hb⟩)
                        | (simp only [Calm.upon_enter]
                           with_reducible refine (KAU.out _).mono ?_
                           rintro e w' ⟨rfl, hb⟩
                           exact ⟨_, rfl, hK.out _ _ rfl hb⟩)
                        | (simp only [Calm.upon_enter]
                           with_reducible refine (KLX.out _).mono ?_
                           rintro e w' ⟨rfl, hb⟩
                           exact ⟨_, rfl, hK.out _ _ rfl hb⟩)
                        | (simp only [Calm.upon_enter]
                           with_reducible refine (KLY.out _).mono ?_
                           rintro e w' ⟨rfl, hb⟩
                           exact ⟨_, rfl, hK.out _ _ rfl hb⟩)
                        | (simp only [Calm.upon_enter]
                           with_reducible refine (KLU.out _).mono ?_
                           rintro e w' ⟨rfl, hb⟩
                           exact ⟨_, rfl, hK.out _ _ rfl hb⟩)
                        | (simp only [Calm.upon_enter]
                           with_reducible refine (KLV.out _).mono ?_
                           rintro e w' ⟨rfl, hb⟩
                           exact ⟨_, rfl, hK.out _ _ rfl hb⟩))
               intro N hN
               go_simp
               apply hN.out
               clear hN N))
          apply Calm.calm_nil
          intro w9 hB9 _
          have HB10 : Hid (Below w4.heap.size w4 w9) := HB9.out.trans (hB9.mono HB9.out.size)
          clear hB9 HB9 KAX KAU KLX KLY KLU KLV T8 U8 Z8 Y8 F1 F2
          go_wp2
          go_roundg (r.x.c - (p + 1)).toNat
          case measure => omega
          case rel => exact ⟨p + 1, by omega, by omega, by omega, rfl, HB10.out⟩
        · have HB10 : Hid (Below W3.heap.size W3 wr) := hB4.out.trans (hB5.out.mono hB4.out.size)
          clear hB5
          go_wp2
          go_roundg (n - (i + 1))
          case measure => omega
          case rel => exact ⟨i + 1, by omega, by omega, by go_num, HB10.out⟩
    · have HB10 : Hid (Below W.heap.size W wo) := HB3.out.trans (hB.out.mono HB3.out.size)
      clear hB
      go_wp2
      go_ret
      exact ⟨rfl, HB10.out⟩
end Go.Proofs.Ytdmfdgadhobkpaa.Blk
