/-
  Package blocks: Most.
-/
import Derived.Test.YtdmfdgadhobkpaaBlk5
import Derived.Test.YtdmfdgadhobkpaaCalm
namespace Go.Proofs.Ytdmfdgadhobkpaa.Blk
open Go.RowKit Go.Shelf Go.Proofs.Ytdmfdgadhobkpaa.Sys Go.Proofs.Ytdmfdgadhobkpaa.Box Go.Proofs.Ytdmfdgadhobkpaa.Bits

def MostP (x : TaskV) (O : Nat → Nat) (w : World) (e : Ending) (w' : World) : Prop := ∃ (m : Nat) (a : Int), e = .returned (.tuple #[.int .i64 (m : Int), .int .i64 a]) ∧ MostR x O m a x.c ∧ Below w.heap.size w w'
set_option maxHeartbeats 16000000 in
set_option maxRecDepth 100000 in
theorem most_any (r : RT) (hm : mayT r.x = true) (O : Nat → Nat) (hO : Ws O) (w : World) (hr : r.Rd w) :
    Calls Try.prog 16 #[.agg #[.int .i64 r.x.id, .int .i64 r.x.c, .int .i64 r.x.d, .int .i64 r.x.t, .int .i64 r.x.prio, .slice r.ca r.cl r.cc, .slice r.ua r.ul r.uc], .agg #[.int .u64 (O 0 : Int), .int .u64 (O 1 : Int), .int .u64 (O 2 : Int), .int .u64 (O 3 : Int)]] w (MostP r.x O w) := by
  have hmt := of_decide_eq_true hm
  have hul := hr.2.len
  rw [hul] at hmt
  obtain ⟨t1, t2, t3, t4⟩ := hmt
  have HM := Lib.hid hm
  have HU := Lib.hid hul
  have hB0 : Below w.heap.size w ((w.alloc (.cells #[.int .i64 r.x.id, .int .i64 r.x.c, .int .i64 r.x.d, .int .i64 r.x.t, .int .i64 r.x.prio, .slice r.ca r.cl r.cc, .slice r.ua r.ul r.uc] 36)).alloc (.cells #[.int .u64 (O 0 : Int), .int .u64 (O 1 : Int), .int .u64 (O 2 : Int), .int .u64 (O 3 : Int)] 32)) := ((Below.refl _ w).alloc (Nat.le_refl _) _).alloc (by simp) _
  have nT0 : ((w.alloc (.cells #[.int .i64 r.x.id, .int .i64 r.x.c, .int .i64 r.x.d, .int .i64 r.x.t, .int .i64 r.x.prio, .slice r.ca r.cl r.cc, .slice r.ua r.ul r.uc] 36)).alloc (.cells #[.int .u64 (O 0 : Int), .int .u64 (O 1 : Int), .int .u64 (O 2 : Int), .int .u64 (O 3 : Int)] 32)).heap[w.heap.size]? = some (.cells #[.int .i64 r.x.id, .int .i64 r.x.c, .int .i64 r.x.d, .int .i64 r.x.t, .int .i64 r.x.prio, .slice r.ca r.cl r.cc, .slice r.ua r.ul r.uc] 36 (0, 0)) := (Below.heap_alloc _ _ _ (by simp)).trans (heap_new _ _ _ rfl)
  have nO0 : ((w.alloc (.cells #[.int .i64 r.x.id, .int .i64 r.x.c, .int .i64 r.x.d, .int .i64 r.x.t, .int .i64 r.x.prio, .slice r.ca r.cl r.cc, .slice r.ua r.ul r.uc] 36)).alloc (.cells #[.int .u64 (O 0 : Int), .int .u64 (O 1 : Int), .int .u64 (O 2 : Int), .int .u64 (O 3 : Int)] 32)).heap[w.heap.size + 1]? = some (.cells (rowc (iw O)) 32 (0, 0)) := heap_new _ _ _ (by simp)
  have hM := mayT_any r ((w.alloc (.cells #[.int .i64 r.x.id, .int .i64 r.x.c, .int .i64 r.x.d, .int .i64 r.x.t, .int .i64 r.x.prio, .slice r.ca r.cl r.cc, .slice r.ua r.ul r.uc] 36)).alloc (.cells #[.int .u64 (O 0 : Int), .int .u64 (O 1 : Int), .int .u64 (O 2 : Int), .int .u64 (O 3 : Int)] 32)) (hr.below hB0 (Nat.le_refl _))
  rw [hm] at hM
  have HR := Lib.hid hr
  have HT0 := Lib.hid nT0
  have HO0 := Lib.hid nO0
  have HB0 := Lib.hid hB0
  have HMY := Lib.hid hM
  have HOW := Lib.hid hO
  clear nT0 nO0 hB0 hM hr hm hul hO
  go_enter Try.func16, Try.ntmps16
  obtain ⟨y0, y1, y2, y3, y4, y5, y6⟩ := bx_seven HT0.out
  go_wp2
  go_step3
  go_wp2_with fail
  clear y0 y1 y2 y3 y4 y5 y6
  refine HMY.out.mono ?_
  rintro e W1 ⟨rfl, hb1⟩
  have HT : Hid (∀ w2, Below W1.heap.size W1 w2 → w2.heap[w.heap.size]? = some (.cells (taskCells r.x.id r.x.c r.x.d r.x.t r.x.prio (.slice r.ca r.cl r.cc) (.slice r.ua r.ul r.uc)) 36 (0, 0))) := fun w2 h => (h.block _ (by have := hb1.size; simp at this; omega)).trans ((hb1.block _ (by simp; omega)).trans HT0.out)
  have HO : Hid (∀ w2, Below W1.heap.size W1 w2 → w2.heap[w.heap.size + 1]? = some (.cells (rowc (iw O)) 32 (0, 0))) := fun w2 h => (h.block _ (by have := hb1.size; simp at this; omega)).trans ((hb1.block _ (by simp)).trans HO0.out)
  have HB1 : Hid (Below w.heap.size w W1) := HB0.out.trans (hb1.mono HB0.out.size)
  have HR1 : Hid (∀ w2, Below W1.heap.size W1 w2 → r.Rd w2) := fun w2 h => HR.out.below (HB1.out.trans (h.mono HB1.out.size)) (Nat.le_refl _)
  clear hb1 HT0 HO0 HB0 HMY HR
  obtain ⟨Z, hZ⟩ : ∃ Z, andW (usedN r.x) O = Z := ⟨_, rfl⟩
  have hZW : Ws Z := by rw [← hZ]; exact (Ws.ofN _).and
  have hAll : Hid (allU r.x O = (listN Z).length) := by rw [RowKit.Hid, allU, hZ]
  have hUs := fun w2 (h : Below W1.heap.size W1 w2) => used_any r w2 (HR1.out w2 h)
  have hAn := fun w2 => and_n (A := usedN r.x) (B := O) (Ws.ofN _) HOW.out w2
  have hLn := fun w2 => len_n hZW w2
  simp only [hZ] at hAn
  generalize usedN r.x = U at *
  simp only [bvl] at hUs hAn hLn
  obtain ⟨N, hN⟩ : ∃ N : Nat, (listN Z).length = N := ⟨_, rfl⟩
  simp only [hN] at hLn hAll
  have HUs := Lib.hid hUs
  have HAn := Lib.hid hAn
  have HLn := Lib.hid hLn
  clear hUs hAn hLn hZ hN
  go_wp2_with fail
  refine Calm.wp_region_calm (B := W1.heap.size) (W := W1) (by kernel_rfl) (by kernel_rfl) (by kernel_rfl) (Nat.le_refl _) (Below.refl _ _).drew ?_
  apply Exists.intro
  repeat (first
    | (apply Calm.calm_skip
       · rfl
       intro N hN
       go_simp
       apply hN.out
       clear hN N)
    | (apply Calm.calm_val
       · rfl
       · intro w hB hF K hK
         unfold Calm.opAt
         obtain ⟨y0, y1, y2, y3, y4, y5, y6⟩ := bx_seven (HT.out w hB)
         obtain ⟨o0, o1, o2, o3⟩ := c4 (HO.out w hB)
         go_simp
         first
           | (simp only [Calm.upon_value]
              exact hK.out _ _ rfl (Below.refl _ _))
           | (simp only [Calm.upon_enter]
              with_reducible refine (HUs.out _ (by assumption)).mono ?_
              rintro e w' ⟨rfl, hb⟩
              exact ⟨_, rfl, hK.out _ _ rfl hb⟩)
           | (simp only [Calm.upon_enter]
              with_reducible refine (HAn.out _).mono ?_
              rintro e w' ⟨rfl, hb⟩
              exact ⟨_, rfl, hK.out _ _ rfl hb⟩)
           | (simp only [Calm.upon_enter]
              with_reducible refine (HLn.out _).mono ?_
              rintro e w' ⟨rfl, hb⟩
              exact ⟨_, rfl, hK.out _ _ rfl hb⟩)
       intro N hN
       go_simp
       apply hN.out
       clear hN N))
  apply Calm.calm_nil
  intro w3 hB3 _
  have HB3 := Lib.hid hB3
  clear hB3 HUs HAn HLn hZW
  go_wp2
  go_step3
  go_wp2
  go_loopg [6, 7, 9] r.x.c.toNat (fun gg nv av pv wr => ∃ (m : Nat) (a p : Int), 1 ≤ p ∧ p ≤ r.x.c ∧ (r.x.c - p).toNat ≤ gg ∧ nv = .int .i64 (m : Int) ∧ av = .int .i64 a ∧ pv = .int .i64 p ∧ Aside (MostR r.x O m a p) ∧ Aside (Below W1.heap.size W1 wr))
  case atStart => exact ⟨0, 0, 1, by omega, t1, by omega, rfl, rfl, rfl, MostR.none _ _, HB3.out⟩
  case round =>
    obtain ⟨m, a, p, p1, p2, hg, rfl, rfl, rfl, hMR, hB⟩ := hrel
    clear HB3
    obtain ⟨y0, y1, y2, y3, y4, y5, y6⟩ := bx_seven (HT.out wr hB.out)
    by_cases hlt : p < r.x.c
    · by_cases hw : m = N
      · have hwz : ((m : Int) == (N : Int)) = true := by simp; omega
        have HE : Hid (MostP r.x O w (.returned (.tuple #[.int .i64 (m : Int), .int .i64 a])) wr) := ⟨m, a, rfl, hMR.out.whole HM.out (hw.trans hAll.out.symm) _ p2, HB1.out.trans (hB.out.mono HB1.out.size)⟩
        clear hw hMR hB
        go_wp2
        rw [Exit.noGoto_ret]
        go_ret2
        exact HE.out
      · have hwz : ((m : Int) == (N : Int)) = false := by simp; omega
        have htn : ¬ 2 * (r.ul : Int) < p := fun h => hw ((hMR.out.turns HM.out (by rw [HU.out]; exact h) hlt).trans hAll.out)
        have ew : IntKind.i64.wrap (2 * (r.ul : Int)) = 2 * (r.ul : Int) := by rw [IntKind.wrap_i64]; omega
        obtain ⟨Z2, hZ2⟩ : ∃ Z2, andW (usefulN r.x p) O = Z2 := ⟨_, rfl⟩
        have hZW : Ws Z2 := by rw [← hZ2]; exact (usefulW _ _).and
        have hC : Hid (cntU r.x O p = (listN Z2).length) := by rw [RowKit.Hid, cntU, hZ2]
        have hUs := fun w2 (h : Below wr.heap.size wr w2) => useful_any r p (by omega) w2 (HR1.out w2 (hB.out.trans (h.mono hB.out.size)))
        have hAn := fun w2 => and_n (A := usefulN r.x p) (B := O) (usefulW _ _) HOW.out w2
        have hLn := fun w2 => len_n hZW w2
        have HT2 : Hid (∀ w2, Below wr.heap.size wr w2 → w2.heap[w.heap.size]? = some (.cells (taskCells r.x.id r.x.c r.x.d r.x.t r.x.prio (.slice r.ca r.cl r.cc) (.slice r.ua r.ul r.uc)) 36 (0, 0))) := fun w2 h => HT.out w2 (hB.out.trans (h.mono hB.out.size))
        have HO2 : Hid (∀ w2, Below wr.heap.size wr w2 → w2.heap[w.heap.size + 1]? = some (.cells (rowc (iw O)) 32 (0, 0))) := fun w2 h => HO.out w2 (hB.out.trans (h.mono hB.out.size))
        simp only [hZ2] at hAn
        generalize usefulN r.x p = U2 at *
        simp only [bvl] at hUs hAn hLn
        obtain ⟨K, hK⟩ : ∃ K : Nat, (listN Z2).length = K := ⟨_, rfl⟩
        simp only [hK] at hLn hC
        have HUs := Lib.hid hUs
        have HAn := Lib.hid hAn
        have HLn := Lib.hid hLn
        clear hUs hAn hLn hZ2 hK hw
        go_wp2_with fail
        clear y0 y1 y2 y3 y4 y5 y6
        refine Calm.wp_region_calm (B := wr.heap.size) (W := wr) (by kernel_rfl) (by kernel_rfl) (by kernel_rfl) (Nat.le_refl _) (Below.refl _ _).drew ?_
        apply Exists.intro
        repeat (first
          | (apply Calm.calm_skip
             · rfl
             intro N hN
             go_simp
             apply hN.out
             clear hN N)
          | (apply Calm.calm_val
             · rfl
             · intro w hB hF K hK
               unfold Calm.opAt
               obtain ⟨y0, y1, y2, y3, y4, y5, y6⟩ := bx_seven (HT2.out w hB)
               obtain ⟨o0, o1, o2, o3⟩ := c4 (HO2.out w hB)
               go_simp
               first
                 | (simp only [Calm.upon_value]
                    exact hK.out _ _ rfl (Below.refl _ _))
                 | (simp only [Calm.upon_enter]
                    with_reducible refine (HUs.out _ (by assumption)).mono ?_
                    rintro e w' ⟨rfl, hb⟩
                    exact ⟨_, rfl, hK.out _ _ rfl hb⟩)
                 | (simp only [Calm.upon_enter]
                    with_reducible refine (HAn.out _).mono ?_
                    rintro e w' ⟨rfl, hb⟩
                    exact ⟨_, rfl, hK.out _ _ rfl hb⟩)
                 | (simp only [Calm.upon_enter]
                    with_reducible refine (HLn.out _).mono ?_
                    rintro e w' ⟨rfl, hb⟩
                    exact ⟨_, rfl, hK.out _ _ rfl hb⟩)
             intro N hN
             go_simp
             apply hN.out
             clear hN N))
        apply Calm.calm_nil
        intro w5 hB5 _
        obtain ⟨y0, y1, y2, y3, y4, y5, y6⟩ := bx_seven (HT2.out w5 hB5)
        have HB5 : Hid (Below W1.heap.size W1 w5) := hB.out.trans (hB5.mono hB.out.size)
        have HC : Hid (K = cntU r.x O p) := hC.out.symm
        clear hB5 HUs HAn HLn hZW HT2 HO2 hB hC
        by_cases hk : m < K
        · have HQ : Hid (MostR r.x O K p (p + 1)) := by rw [RowKit.Hid, HC.out]; exact hMR.out.up p1 (by rw [← HC.out]; exact hk)
          clear hMR HC
          go_wp2
          go_roundg (r.x.c - (p + 1)).toNat
          case measure => omega
          case rel => exact ⟨K, p, p + 1, by omega, by omega, by omega, rfl, rfl, rfl, HQ.out, HB5.out⟩
        · have HQ : Hid (MostR r.x O m a (p + 1)) := hMR.out.same (by rw [← HC.out]; omega)
          clear hMR HC
          go_wp2
          go_roundg (r.x.c - (p + 1)).toNat
          case measure => omega
          case rel => exact ⟨m, a, p + 1, by omega, by omega, by omega, rfl, rfl, rfl, HQ.out, HB5.out⟩
    · obtain rfl : p = r.x.c := by omega
      have HE : Hid (MostP r.x O w (.returned (.tuple #[.int .i64 (m : Int), .int .i64 a])) wr) := ⟨m, a, rfl, hMR.out, HB1.out.trans (hB.out.mono HB1.out.size)⟩
      clear hMR hB
      go_wp2
      go_ret2
      exact HE.out
end Go.Proofs.Ytdmfdgadhobkpaa.Blk
