/-
  The statement BlocksMost, walked.
-/
import Derived.Test.YtdmfdgadhobkpaaAwk9
import Derived.Test.YtdmfdgadhobkpaaBlk7
import Derived.Test.YtdmfdgadhobkpaaMade
import Derived.Test.YtdmfdgadhobkpaaRef4
namespace Go.Proofs.Ytdmfdgadhobkpaa.Blk
open Go.RowKit Go.Shelf Go.Proofs.Ytdmfdgadhobkpaa.Sys Go.Proofs.Ytdmfdgadhobkpaa.Box Go.Proofs.Ytdmfdgadhobkpaa.Bits

set_option maxHeartbeats 16000000 in
set_option maxRecDepth 100000 in
theorem BlocksMost_walk (a0 b0 : Int) (x0 : Option Addr) (len0 cap0 : Nat) (q0 : List Row0.NumV) (O : Nat → Nat) (hOW : Ws O) (W : World) (w0 : Row0.IsNums W x0 len0 cap0 q0) :
    Calls Try.prog 4 #[.agg #[.int .i64 a0, .int .i64 b0, .slice x0 len0 cap0], bv (iw O)] W fun e w' => e = .returned (.bool true) ∧ Below W.heap.size W w' := by
  have HN := Lib.hid (nums_rdN w0)
  have hlc := w0.le
  have hcm := w0.mx
  clear w0
  have HOW := Lib.hid hOW
  clear hOW
  rw [bvl]
  go_enter Try.func4, Try.ntmps4
  go_wp2_with fail
  have hB0 : Below W.heap.size W ((W.alloc (.cells #[.int .i64 a0, .int .i64 b0, .slice x0 len0 cap0] 24)).alloc (.cells #[.int .u64 (O 0 : Int), .int .u64 (O 1 : Int), .int .u64 (O 2 : Int), .int .u64 (O 3 : Int)] 32)) := ((Below.refl _ W).alloc (Nat.le_refl _) _).alloc (by simp) _
  have nS : ((W.alloc (.cells #[.int .i64 a0, .int .i64 b0, .slice x0 len0 cap0] 24)).alloc (.cells #[.int .u64 (O 0 : Int), .int .u64 (O 1 : Int), .int .u64 (O 2 : Int), .int .u64 (O 3 : Int)] 32)).heap[W.heap.size]? = some (.cells #[.int .i64 a0, .int .i64 b0, .slice x0 len0 cap0] 24 (0, 0)) := (Below.heap_alloc _ _ _ (by simp)).trans (heap_new _ _ _ rfl)
  have nO : ((W.alloc (.cells #[.int .i64 a0, .int .i64 b0, .slice x0 len0 cap0] 24)).alloc (.cells #[.int .u64 (O 0 : Int), .int .u64 (O 1 : Int), .int .u64 (O 2 : Int), .int .u64 (O 3 : Int)] 32)).heap[W.heap.size + 1]? = some (.cells (rowc (iw O)) 32 (0, 0)) := heap_new _ _ _ (by simp)
  refine (awake9_any _).mono ?_
  rintro e W1 ⟨rfl, hb1⟩
  have HB1 : Hid (Below W.heap.size W W1) := hB0.trans (hb1.mono hB0.size)
  have hcell : W1.heap[W.heap.size]? = some (.cells #[.int .i64 a0, .int .i64 b0, .slice x0 len0 cap0] 24 (0, 0)) := (hb1.block _ (by simp; omega)).trans nS
  have HO1 : Hid (W1.heap[W.heap.size + 1]? = some (.cells (rowc (iw O)) 32 (0, 0))) := (hb1.block _ (by simp)).trans nO
  obtain ⟨s0, s1, s2⟩ := bx_three hcell
  have hs1 : W.heap.size + 1 < W1.heap.size := bx_lt HO1.out
  clear hb1 hB0 nS nO
  generalize hbo : W.heap.size + 1 = bo at *
  clear hbo
  go_wp2_with fail
  refine (made_sys a0 b0 x0 len0 cap0 q0 W1 (HN.out.below HB1.out (Nat.le_refl _)) hlc hcm).mono ?_
  rintro e W2 ⟨S, R, A, n, c, q, rfl, hok, hb2⟩
  have HOK := Lib.hid hok
  have HB2 : Hid (Below W.heap.size W W2) := HB1.out.trans (hb2.mono HB1.out.size)
  have hs2 : W1.heap.size ≤ W2.heap.size := hb2.size
  have HO2 : Hid (W2.heap[bo]? = some (.cells (rowc (iw O)) 32 (0, 0))) := (hb2.block _ hs1).trans HO1.out
  clear HO1 hok hb2 hcell s0 s1 s2 HB1 HN
  go_wp2_with fail
  obtain ⟨W3, hW3⟩ : ∃ W3, W2.alloc (.cells #[.int .i64 (S : Int), .int .i64 R, .slice A n c] 28) = W3 := ⟨_, rfl⟩
  rw [hW3]
  have HX3 : Hid (W3.heap[W2.heap.size]? = some (.cells #[.int .i64 (S : Int), .int .i64 R, .slice A n c] 28 (0, 0))) := by rw [← hW3]; exact heap_new _ _ _ rfl
  have HO3 : Hid (SysOk W3 W1.heap.size S R A n c q) := by rw [← hW3]; exact HOK.out.below ((Below.refl _ W2).alloc (Nat.le_refl _) _) (Nat.le_refl _)
  have HB3 : Hid (Below W.heap.size W W3) := by rw [← hW3]; exact HB2.out.alloc HB2.out.size _
  have hs3 : W3.heap.size = W2.heap.size + 1 := by rw [← hW3]; simp
  have HOO3 : Hid (W3.heap[bo]? = some (.cells (rowc (iw O)) 32 (0, 0))) := by rw [← hW3]; exact (Below.heap_alloc _ _ _ (by omega)).trans HO2.out
  clear hW3 HOK HB2 HO2
  have o5 := HO3.out.n1
  have o6 := HO3.out.n6
  have o7 := HO3.out.nc
  have o8 := HO3.out.cm
  go_loopg [7] n (fun gg iv wr => ∃ (i : Nat), i ≤ n ∧ n - i ≤ gg ∧ iv = .int .i64 (i : Int) ∧ Aside (Below W3.heap.size W3 wr))
  case atStart => exact ⟨0, Nat.zero_le _, by omega, rfl, Below.refl _ _⟩
  case round =>
    obtain ⟨i, hi, hgk, rfl, hB⟩ := hrel
    generalize wr = wo at *
    obtain ⟨s0, s1, s2⟩ := bx_three (bx_old HX3.out hB.out (bx_lt HX3.out))
    by_cases hlt : i < n
    · have hro := HO3.out.below hB.out (Nat.le_refl _)
      obtain ⟨b, o, rfl, hcs⟩ := hro.rd.ad (by omega)
      obtain ⟨y0, y1, y2, y3, y4, y5, y6⟩ := hcs i hlt
      have hrr := Lib.hid (hro.rd.getRd hlt)
      have htk := hro.ok i hlt
      have ht24 := htk.t24
      have htc := htk.c1
      have htd := htk.cd
      have htt := htk.dt
      obtain ⟨r, hr⟩ : ∃ r, q.getD i default = r := ⟨_, rfl⟩
      rw [hr] at y0 y1 y2 y3 y4 y5 y6 hrr ht24 htc htd htt
      clear hcs hro htk hr
      obtain ⟨z0, z1, z2, z3⟩ := c4 (old4 (old4 HOO3.out hB.out (lt4 HOO3.out)) ((Below.refl _ wo).alloc (Nat.le_refl _) (.cells #[.int .i64 r.x.id, .int .i64 r.x.c, .int .i64 r.x.d, .int .i64 r.x.t, .int .i64 r.x.prio, .slice r.ca r.cl r.cc, .slice r.ua r.ul r.uc] 36)) (Nat.lt_of_lt_of_le (lt4 HOO3.out) hB.out.size))
      go_wp2_with fail
      clear z0 z1 z2 z3
      obtain ⟨w4, hw4⟩ : ∃ w4, wo.alloc (.cells #[.int .i64 r.x.id, .int .i64 r.x.c, .int .i64 r.x.d, .int .i64 r.x.t, .int .i64 r.x.prio, .slice r.ca r.cl r.cc, .slice r.ua r.ul r.uc] 36) = w4 := ⟨_, rfl⟩
      rw [hw4]
      have hT4 : Hid (w4.heap[wo.heap.size]? = some (.cells (taskCells r.x.id r.x.c r.x.d r.x.t r.x.prio (.slice r.ca r.cl r.cc) (.slice r.ua r.ul r.uc)) 36 (0, 0))) := by rw [← hw4]; exact heap_new _ _ _ rfl
      have hB4 : Hid (Below W3.heap.size W3 w4) := by rw [← hw4]; exact hB.out.alloc hB.out.size _
      have hR4 : Hid (r.Rd w4) := by rw [← hw4]; exact hrr.out.below ((Below.refl _ wo).alloc (Nat.le_refl _) _) (Nat.le_refl _)
      clear hw4 hrr y0 y1 y2 y3 y4 y5 y6 s0 s1 s2 hB
      have hO4 : w4.heap[bo]? = some (.cells (rowc (iw O)) 32 (0, 0)) := (hB4.out.block _ (bx_lt HOO3.out)).trans HOO3.out
      have HO4 := Lib.hid hO4
      have ht4 := bx_lt hT4.out
      have ho4 := lt4 hO4
      clear hO4
      refine (most_all r O HOW.out w4 hR4.out).mono ?_
      rintro e w5 ⟨m, a, rfl, hM, hb5⟩
      have HM := Lib.hid hM
      have HB5 := Lib.hid hb5
      have hs5 := hb5.size
      have hcase : (m = 0 ∧ a = 0) ∨ (0 < m ∧ 1 ≤ a ∧ a < r.x.c) := by
        rcases Nat.eq_zero_or_pos m with h | h
        · exact .inl ⟨h, hM.z h⟩
        · obtain ⟨h1, h2, _, _⟩ := hM.at1 h
          exact .inr ⟨h, h1, h2⟩
      have HC := Lib.hid hcase
      clear hM hb5 hcase
      obtain ⟨y0, y1, y2, y3, y4, y5, y6⟩ := bx_seven ((HB5.out.block _ ht4).trans hT4.out)
      rcases HC.out with ⟨hm, ha⟩ | ⟨hm, ha1, ha2⟩
      · subst hm; subst ha
        clear HC
        go_wp2
        clear y0 y1 y2 y3 y4 y5 y6
        go_loopg [11] r.x.c.toNat (fun gg pv w6 => ∃ (p : Int), 1 ≤ p ∧ p ≤ r.x.c ∧ (r.x.c - p).toNat ≤ gg ∧ pv = .int .i64 p ∧ Aside (Below w4.heap.size w4 w6))
        case atStart => exact ⟨1, by omega, by omega, by omega, rfl, HB5.out⟩
        case round =>
          obtain ⟨p, hp0, hp1, hgk2, rfl, hB6⟩ := hrel
          clear HB5
          obtain ⟨y0, y1, y2, y3, y4, y5, y6⟩ := bx_seven ((hB6.out.block _ ht4).trans hT4.out)
          by_cases hlp : p < r.x.c
          · have hl := HM.out.le p hp0 hlp
            have HT8 : Hid (∀ w, Below wr.heap.size wr w → w.heap[wo.heap.size]? = some (.cells (taskCells r.x.id r.x.c r.x.d r.x.t r.x.prio (.slice r.ca r.cl r.cc) (.slice r.ua r.ul r.uc)) 36 (0, 0))) := fun w h => (h.block _ (Nat.lt_of_lt_of_le ht4 hB6.out.size)).trans ((hB6.out.block _ ht4).trans hT4.out)
            have HO8 : Hid (∀ w, Below wr.heap.size wr w → w.heap[bo]? = some (.cells (rowc (iw O)) 32 (0, 0))) := fun w h => (h.block _ (Nat.lt_of_lt_of_le ho4 hB6.out.size)).trans ((hB6.out.block _ ho4).trans HO4.out)
            have KU : Hid (∀ w, Below wr.heap.size wr w → Calls Try.prog 12 #[.agg #[.int .i64 r.x.id, .int .i64 r.x.c, .int .i64 r.x.d, .int .i64 r.x.t, .int .i64 r.x.prio, .slice r.ca r.cl r.cc, .slice r.ua r.ul r.uc], .int .i64 p] w fun e w' => e = .returned (bv (iw (usefulN r.x p))) ∧ Below w.heap.size w w') := fun w h => useful_any r p (by omega) w (hR4.out.below (hB6.out.trans (h.mono hB6.out.size)) (Nat.le_refl _))
            obtain ⟨Z, hZ⟩ : ∃ Z, andW (usefulN r.x p) O = Z := ⟨_, rfl⟩
            have hZW : Ws Z := by rw [← hZ]; exact (usefulW _ _).and
            obtain ⟨k, hk⟩ : ∃ k : Nat, (listN Z).length = k := ⟨_, rfl⟩
            have hck : cntU r.x O p = k := by rw [cntU, hZ, hk]
            have hAn := fun w => andr_n (A := usefulN r.x p) (B := O) (usefulW _ _) HOW.out w
            have hLn := fun w => lenr_n hZW w
            simp only [hZ] at hAn
            simp only [hk] at hLn
            rw [hck] at hl
            have KA := Lib.hid hAn
            have KL := Lib.hid hLn
            have hf : 0 < p ∨ (p = 0 ∧ (k : Int) = 0) ∨ (p < 0 ∧ ((k : Int) == 0) = false) := by
              rcases Int.lt_trichotomy p 0 with h | h | h
              · obtain ⟨_, _, _, h4⟩ := HM.out.at1 (by omega)
                have := h4 p hp0 h
                rw [hck] at this
                exact .inr (.inr ⟨h, by simp; omega⟩)
              · obtain ⟨_, _, h3, _⟩ := HM.out.at1 (by omega)
                rw [← h, hck] at h3
                exact .inr (.inl ⟨h, by omega⟩)
              · exact .inl h
            have HF := Lib.hid hf
            clear hf
            generalize usefulN r.x p = U at *
            clear hAn hLn hZ hk hZW hck
            go_wp2_with fail
            refine Calm.wp_region_calm (B := wr.heap.size) (W := wr) (by kernel_rfl) (by kernel_rfl) (by kernel_rfl) (Nat.le_refl _) (Below.refl _ _).drew ?_
            apply Exists.intro
            repeat (first
              | (apply Calm.calm_skip
                 · rfl
                 intro N hN
                 go_simp
                 apply hN.out
                 clear hN N)
              | (apply Calm.calm_val
                 · rfl
                 · intro w hB hF K hK
                   first
                     | refine opAt_load (by rfl) (by rfl) (HO8.out w hB) (hK.out _ _ rfl (Below.refl _ _))
                     | (unfold Calm.opAt
                        obtain ⟨y0, y1, y2, y3, y4, y5, y6⟩ := bx_seven (HT8.out w hB)
                        go_simp
                        first
                          | (simp only [Calm.upon_value]
                             exact hK.out _ _ rfl (Below.refl _ _))
                          | (simp only [Calm.upon_enter]
                             with_reducible refine (KU.out _ (by assumption)).mono ?_
                             rintro e w' ⟨rfl, hb⟩
                             exact ⟨_, rfl, hK.out _ _ rfl hb⟩)
                          | (simp only [Calm.upon_enter]
                             with_reducible refine (KA.out _).mono ?_
                             rintro e w' ⟨rfl, hb⟩
                             exact ⟨_, rfl, hK.out _ _ rfl hb⟩)
                          | (simp only [Calm.upon_enter]
                             with_reducible refine (KL.out _).mono ?_
                             rintro e w' ⟨rfl, hb⟩
                             exact ⟨_, rfl, hK.out _ _ rfl hb⟩))
                 intro N hN
                 go_simp
                 apply hN.out
                 clear hN N))
            apply Calm.calm_nil
            intro w9 hB9 _
            have HB10 : Hid (Below w4.heap.size w4 w9) := hB6.out.trans (hB9.mono hB6.out.size)
            clear hB9 hB6 KA KL KU HT8 HO8 y0 y1 y2 y3 y4 y5 y6
            have hl2 : ¬ 0 < (k : Int) := by omega
            · have e1 : (p == 0) = false := by simp; omega
              have e2 : ¬ p < 0 := by omega
              clear HF
              go_wp2
              go_roundg (r.x.c - (p + 1)).toNat
              case measure => omega
              case rel => exact ⟨p + 1, by omega, by omega, by omega, rfl, HB10.out⟩
          · have HB10 : Hid (Below W3.heap.size W3 wr) := hB4.out.trans (hB6.out.mono hB4.out.size)
            clear hB6
            go_wp2
            go_roundg (n - (i + 1))
            case measure => omega
            case rel => exact ⟨i + 1, by omega, by omega, by go_num, HB10.out⟩
      · have hm1 : ((m : Int) == 0) = false := by simp; omega
        have hm2 : (0 : Int) < (m : Int) := by omega
        have hm3 : ¬ (m : Int) < 0 := by omega
        clear HC
        go_wp2
        clear y0 y1 y2 y3 y4 y5 y6
        go_loopg [11] r.x.c.toNat (fun gg pv w6 => ∃ (p : Int), 1 ≤ p ∧ p ≤ r.x.c ∧ (r.x.c - p).toNat ≤ gg ∧ pv = .int .i64 p ∧ Aside (Below w4.heap.size w4 w6))
        case atStart => exact ⟨1, by omega, by omega, by omega, rfl, HB5.out⟩
        case round =>
          obtain ⟨p, hp0, hp1, hgk2, rfl, hB6⟩ := hrel
          clear HB5
          obtain ⟨y0, y1, y2, y3, y4, y5, y6⟩ := bx_seven ((hB6.out.block _ ht4).trans hT4.out)
          by_cases hlp : p < r.x.c
          · have hl := HM.out.le p hp0 hlp
            have HT8 : Hid (∀ w, Below wr.heap.size wr w → w.heap[wo.heap.size]? = some (.cells (taskCells r.x.id r.x.c r.x.d r.x.t r.x.prio (.slice r.ca r.cl r.cc) (.slice r.ua r.ul r.uc)) 36 (0, 0))) := fun w h => (h.block _ (Nat.lt_of_lt_of_le ht4 hB6.out.size)).trans ((hB6.out.block _ ht4).trans hT4.out)
            have HO8 : Hid (∀ w, Below wr.heap.size wr w → w.heap[bo]? = some (.cells (rowc (iw O)) 32 (0, 0))) := fun w h => (h.block _ (Nat.lt_of_lt_of_le ho4 hB6.out.size)).trans ((hB6.out.block _ ho4).trans HO4.out)
            have KU : Hid (∀ w, Below wr.heap.size wr w → Calls Try.prog 12 #[.agg #[.int .i64 r.x.id, .int .i64 r.x.c, .int .i64 r.x.d, .int .i64 r.x.t, .int .i64 r.x.prio, .slice r.ca r.cl r.cc, .slice r.ua r.ul r.uc], .int .i64 p] w fun e w' => e = .returned (bv (iw (usefulN r.x p))) ∧ Below w.heap.size w w') := fun w h => useful_any r p (by omega) w (hR4.out.below (hB6.out.trans (h.mono hB6.out.size)) (Nat.le_refl _))
            obtain ⟨Z, hZ⟩ : ∃ Z, andW (usefulN r.x p) O = Z := ⟨_, rfl⟩
            have hZW : Ws Z := by rw [← hZ]; exact (usefulW _ _).and
            obtain ⟨k, hk⟩ : ∃ k : Nat, (listN Z).length = k := ⟨_, rfl⟩
            have hck : cntU r.x O p = k := by rw [cntU, hZ, hk]
            have hAn := fun w => andr_n (A := usefulN r.x p) (B := O) (usefulW _ _) HOW.out w
            have hLn := fun w => lenr_n hZW w
            simp only [hZ] at hAn
            simp only [hk] at hLn
            rw [hck] at hl
            have KA := Lib.hid hAn
            have KL := Lib.hid hLn
            have hf : a < p ∨ (p = a ∧ (k : Int) = (m : Int)) ∨ (p < a ∧ ((k : Int) == (m : Int)) = false) := by
              rcases Int.lt_trichotomy p a with h | h | h
              · obtain ⟨_, _, _, h4⟩ := HM.out.at1 (by omega)
                have := h4 p hp0 h
                rw [hck] at this
                exact .inr (.inr ⟨h, by simp; omega⟩)
              · obtain ⟨_, _, h3, _⟩ := HM.out.at1 (by omega)
                rw [← h, hck] at h3
                exact .inr (.inl ⟨h, by omega⟩)
              · exact .inl h
            have HF := Lib.hid hf
            clear hf
            generalize usefulN r.x p = U at *
            clear hAn hLn hZ hk hZW hck
            go_wp2_with fail
            refine Calm.wp_region_calm (B := wr.heap.size) (W := wr) (by kernel_rfl) (by kernel_rfl) (by kernel_rfl) (Nat.le_refl _) (Below.refl _ _).drew ?_
            apply Exists.intro
            repeat (first
              | (apply Calm.calm_skip
                 · rfl
                 intro N hN
                 go_simp
                 apply hN.out
                 clear hN N)
              | (apply Calm.calm_val
                 · rfl
                 · intro w hB hF K hK
                   first
                     | refine opAt_load (by rfl) (by rfl) (HO8.out w hB) (hK.out _ _ rfl (Below.refl _ _))
                     | (unfold Calm.opAt
                        obtain ⟨y0, y1, y2, y3, y4, y5, y6⟩ := bx_seven (HT8.out w hB)
                        go_simp
                        first
                          | (simp only [Calm.upon_value]
                             exact hK.out _ _ rfl (Below.refl _ _))
                          | (simp only [Calm.upon_enter]
                             with_reducible refine (KU.out _ (by assumption)).mono ?_
                             rintro e w' ⟨rfl, hb⟩
                             exact ⟨_, rfl, hK.out _ _ rfl hb⟩)
                          | (simp only [Calm.upon_enter]
                             with_reducible refine (KA.out _).mono ?_
                             rintro e w' ⟨rfl, hb⟩
                             exact ⟨_, rfl, hK.out _ _ rfl hb⟩)
                          | (simp only [Calm.upon_enter]
                             with_reducible refine (KL.out _).mono ?_
                             rintro e w' ⟨rfl, hb⟩
                             exact ⟨_, rfl, hK.out _ _ rfl hb⟩))
                 intro N hN
                 go_simp
                 apply hN.out
                 clear hN N))
            apply Calm.calm_nil
            intro w9 hB9 _
            have HB10 : Hid (Below w4.heap.size w4 w9) := hB6.out.trans (hB9.mono hB6.out.size)
            clear hB9 hB6 KA KL KU HT8 HO8 y0 y1 y2 y3 y4 y5 y6
            have hl2 : ¬ (m : Int) < (k : Int) := by omega
            rcases HF.out with hf | ⟨hf, hfk⟩ | ⟨hf, hfk⟩
            · have e1 : (p == a) = false := by simp; omega
              have e2 : ¬ p < a := by omega
              clear hf HF
              go_wp2
              go_roundg (r.x.c - (p + 1)).toNat
              case measure => omega
              case rel => exact ⟨p + 1, by omega, by omega, by omega, rfl, HB10.out⟩
            · have e1 : (p == a) = true := by simp; omega
              have e3 : ((k : Int) == (m : Int)) = true := by simp; omega
              clear HF
              go_wp2
              go_roundg (r.x.c - (p + 1)).toNat
              case measure => omega
              case rel => exact ⟨p + 1, by omega, by omega, by omega, by rw [hf], HB10.out⟩
            · have e1 : (p == a) = false := by simp; omega
              clear HF
              go_wp2
              go_roundg (r.x.c - (p + 1)).toNat
              case measure => omega
              case rel => exact ⟨p + 1, by omega, by omega, by omega, rfl, HB10.out⟩
          · have HB10 : Hid (Below W3.heap.size W3 wr) := hB4.out.trans (hB6.out.mono hB4.out.size)
            clear hB6
            go_wp2
            go_roundg (n - (i + 1))
            case measure => omega
            case rel => exact ⟨i + 1, by omega, by omega, by go_num, HB10.out⟩
    · have HB10 : Hid (Below W.heap.size W wo) := HB3.out.trans (hB.out.mono HB3.out.size)
      clear hB
      go_wp2
      go_ret
      exact ⟨rfl, HB10.out⟩
end Go.Proofs.Ytdmfdgadhobkpaa.Blk
