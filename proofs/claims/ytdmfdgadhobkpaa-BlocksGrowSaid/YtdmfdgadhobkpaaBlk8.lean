/-
  Package blocks: All.
-/
import Derived.Test.YtdmfdgadhobkpaaBlkG
import Derived.Test.YtdmfdgadhobkpaaBits16
import Derived.Deep.RegionLaw
namespace Go.Proofs.Ytdmfdgadhobkpaa.Blk
open Go.RowKit Go.Shelf Go.Proofs.Ytdmfdgadhobkpaa.Sys Go.Proofs.Ytdmfdgadhobkpaa.Box Go.Proofs.Ytdmfdgadhobkpaa.Bits

set_option maxHeartbeats 8000000 in
set_option maxRecDepth 100000 in
theorem all_any (A : Option Addr) (n c : Nat) (q : List RT) (id : Int) (w : World) (hr : RdT w A n q) (hn : n ≤ c) (hc : c ≤ 9223372036854775807) :
    Calls Try.prog 18 #[.slice A n c, .int .i64 id] w fun e w' => e = .returned (bv (iw (allT q id n))) ∧ Below w.heap.size w w' := by
  have HR := Lib.hid hr
  clear hr
  go_enter Try.func18, Try.ntmps18
  go_wp2_with fail
  refine (of_n none 0 0 [] _ (rdI0 _)).mono ?_
  rintro e W1 ⟨rfl, hb1⟩
  rw [bvl]
  have HR1 : Hid (W1.heap[w.heap.size]? = some (.cells (rowc (iw noneW)) 32 (0, 0))) := (hb1.block _ (by simp)).trans (heap_new _ _ _ rfl)
  have HB1 : Hid (Below w.heap.size w W1) := ((Below.refl _ w).alloc (Nat.le_refl _) _).trans (hb1.mono (by simp))
  have hs1 : w.heap.size < W1.heap.size := bx_lt HR1.out
  clear hb1
  obtain ⟨W2, hW2⟩ : ∃ W2, W1.alloc (.cells #[.int .u64 (ofN [] 0 : Int), .int .u64 (ofN [] 1 : Int), .int .u64 (ofN [] 2 : Int), .int .u64 (ofN [] 3 : Int)] 32) = W2 := ⟨_, rfl⟩
  have HR2 : Hid (W2.heap[w.heap.size]? = some (.cells (rowc (iw noneW)) 32 (0, 0))) := by rw [← hW2]; exact (Below.heap_alloc _ _ _ hs1).trans HR1.out
  have HB2 : Hid (Below w.heap.size w W2) := by rw [← hW2]; exact HB1.out.alloc HB1.out.size _
  have HA2 : Hid (W2.heap[W1.heap.size]? = some (.cells (rowc (iw (ofN []))) 32 (0, 0))) := by rw [← hW2]; exact new4 _ _
  clear HR1 HB1
  go_wp2_with fail
  try rw [hW2]
  clear hW2
  generalize hb5 : W1.heap.size = b5 at *
  clear hb5
  go_loopg [11] n (fun gg iv wr => ∃ (i : Nat), i ≤ n ∧ n - i ≤ gg ∧ iv = .int .i64 (i : Int) ∧ Aside (Below w.heap.size w wr ∧ wr.heap[w.heap.size]? = some (.cells (rowc (iw noneW)) 32 (0, 0)) ∧ wr.heap[b5]? = some (.cells (rowc (iw (allT q id i))) 32 (0, 0))))
  case atStart => exact ⟨0, Nat.zero_le _, by omega, rfl, HB2.out, HR2.out, HA2.out⟩
  case round =>
    obtain ⟨i, hi, hgk, rfl, hB, hR, hA⟩ := hrel
    have HB := Lib.hid hB
    have HRR := Lib.hid hR
    have HA := Lib.hid hA
    clear hB hR hA
    by_cases hlt : i < n
    · have hro := HR.out.below HB.out (Nat.le_refl _)
      obtain ⟨b, o, rfl, hcs⟩ := hro.ad (by omega)
      obtain ⟨y0, y1, y2, y3, y4, y5, y6⟩ := hcs i hlt
      have hrr := Lib.hid (hro.getRd hlt)
      have hstep : allT q id (i + 1) = if (q.getD i default).x.id = id then allT q id i else orL [allT q id i, usedN (q.getD i default).x] := rfl
      have hXW := allW q id i
      obtain ⟨r, hr⟩ : ∃ r, q.getD i default = r := ⟨_, rfl⟩
      obtain ⟨X, hX⟩ : ∃ X, allT q id i = X := ⟨_, rfl⟩
      have HA0 : Hid (wr.heap[b5]? = some (.cells (rowc (iw X)) 32 (0, 0))) := by rw [← hX]; exact HA.out
      rw [hr] at y0 y1 y2 y3 y4 y5 y6 hrr
      rw [hr, hX] at hstep
      rw [hX] at hXW
      clear hcs hro hr HA hX
      obtain ⟨w4, hw4⟩ : ∃ w4, wr.alloc (.cells #[.int .i64 r.x.id, .int .i64 r.x.c, .int .i64 r.x.d, .int .i64 r.x.t, .int .i64 r.x.prio, .slice r.ca r.cl r.cc, .slice r.ua r.ul r.uc] 36) = w4 := ⟨_, rfl⟩
      have hT4 : Hid (w4.heap[wr.heap.size]? = some (.cells (taskCells r.x.id r.x.c r.x.d r.x.t r.x.prio (.slice r.ca r.cl r.cc) (.slice r.ua r.ul r.uc)) 36 (0, 0))) := by rw [← hw4]; exact heap_new _ _ _ rfl
      have hB4 : Hid (Below w.heap.size w w4) := by rw [← hw4]; exact HB.out.alloc HB.out.size _
      have hR4 : Hid (r.Rd w4) := by rw [← hw4]; exact hrr.out.below ((Below.refl _ wr).alloc (Nat.le_refl _) _) (Nat.le_refl _)
      have hA4 : Hid (w4.heap[b5]? = some (.cells (rowc (iw X)) 32 (0, 0))) := by rw [← hw4]; exact (Below.heap_alloc _ _ _ (lt4 HA0.out)).trans HA0.out
      have hQ4 : Hid (w4.heap[w.heap.size]? = some (.cells (rowc (iw noneW)) 32 (0, 0))) := by rw [← hw4]; exact (Below.heap_alloc _ _ _ (lt4 HRR.out)).trans HRR.out
      have hsz : w4.heap.size = wr.heap.size + 1 := by rw [← hw4]; simp
      have hl5 := lt4 HA0.out
      have hlr := lt4 HRR.out
      have hbb : w.heap.size ≠ b5 := by omega
      obtain ⟨x0, x1, x2, x3, x4, x5, x6⟩ := bx_seven hT4.out
      by_cases hid : r.x.id = id
      · have e1 : (r.x.id == id) = true := by simp [hid]
        rw [if_pos hid] at hstep
        clear hid
        go_wp2
        go_roundg (n - (i + 1))
        case measure => omega
        case rel => exact ⟨i + 1, by omega, by omega, by go_num, hB4.out, hQ4.out, by rw [hstep]; exact hA4.out⟩
      · have e1 : (r.x.id == id) = false := by simp [hid]
        rw [if_neg hid] at hstep
        clear hid
        have hYW : Ws (usedN r.x) := Ws.ofN _
        have hU := fun w2 (h : Below w4.heap.size w4 w2) => used_any r w2 (hR4.out.below h (Nat.le_refl _))
        obtain ⟨Y, hY⟩ : ∃ Y, usedN r.x = Y := ⟨_, rfl⟩
        simp only [hY] at hU hstep hYW
        have hO : ∀ w2, Below w4.heap.size w4 w2 → Calls Try.prog 34 #[.slice (some ⟨w2.heap.size, 0, none⟩) 2 2] (w2.alloc (.cells #[.int .u64 (X 0 : Int), .int .u64 (X 1 : Int), .int .u64 (X 2 : Int), .int .u64 (X 3 : Int), .int .u64 (Y 0 : Int), .int .u64 (Y 1 : Int), .int .u64 (Y 2 : Int), .int .u64 (Y 3 : Int)] 32)) fun e w' => e = .returned (bv (iw (orL [X, Y]))) ∧ Below w4.heap.size w4 w' := fun w2 h =>
          (or_n _ 2 2 [X, Y] (ws2 hXW hYW) (w2.alloc (.cells (row8 X Y) 32)) (rdB_blk (heap_alloc_new _ _))).mono fun _ _ ⟨he, hb⟩ => ⟨he, (h.alloc h.size _).trans (hb.mono (by have := h.size; simp; omega))⟩
        obtain ⟨Z, hZ⟩ : ∃ Z, orL [X, Y] = Z := ⟨_, rfl⟩
        simp only [hZ] at hO hstep
        simp only [bvl] at hU hO
        have hres : ∀ w', Below w4.heap.size w4 w' → w'.heap[b5]? = some (.cells (rowc (iw X)) 32 (0, 0)) := fun w' h => (h.block _ (by omega)).trans hA4.out
        have hBd : Below w4.heap.size w4 w4.drew := (Below.refl _ _).drew
        obtain ⟨a0, a1, a2, a3⟩ := c4 hA4.out
        go_wp2_with fail
        try rw [hw4]
        clear hw4
        obtain ⟨z0, z1, z2, z3, z4, z5, z6⟩ := bx_seven hT4.out
        go_region_law
          (first
            | (go_simp; go_at_call 14; (with_reducible refine (hU _ (by assumption)).mono ?_); rintro e w1 ⟨rfl, hb⟩; have hBn := below_next (by assumption) hb; obtain ⟨e0, e1, e2, e3⟩ := c4 (hres _ hBn))
            | (go_simp; go_at_call 34; (with_reducible refine (hO _ (by assumption)).mono ?_); rintro e w3 ⟨rfl, hBm⟩; obtain ⟨e0, e1, e2, e3⟩ := c4 (hres _ hBm); have k0 := frozen_row (hres _ hBm) 0; have k1 := frozen_row (hres _ hBm) 1; have k2 := frozen_row (hres _ hBm) 2; have k3 := frozen_row (hres _ hBm) 3))
        all_goals
          have hw := set4 (hres _ hBm) (iw Z)
          have hbw := below_set (below_set (below_set (below_set (hB4.out.trans (hBm.mono hB4.out.size)) b5 (by omega) 0 (.int .u64 (Z 0 : Int))) b5 (by omega) 1 (.int .u64 (Z 1 : Int))) b5 (by omega) 2 (.int .u64 (Z 2 : Int))) b5 (by omega) 3 (.int .u64 (Z 3 : Int))
          simp only [iw] at hw
          have hq := (set4_other w3 b5 (w.heap.size) (by omega) (.int .u64 (Z 0 : Int)) (.int .u64 (Z 1 : Int)) (.int .u64 (Z 2 : Int)) (.int .u64 (Z 3 : Int))).trans ((hBm.block _ (by omega)).trans hQ4.out)
          have HW := Lib.hid hw
          have HBW := Lib.hid hbw
          have HQW := Lib.hid hq
          clear hw hbw hq hres hU hO hBd
          go_wp2
          go_roundg (n - (i + 1))
          case measure => omega
          case rel => exact ⟨i + 1, by omega, by omega, by go_num, HBW.out, HQW.out, by rw [hstep]; exact HW.out⟩
    · have e : i = n := by omega
      subst e
      have hXW := allW q id i
      obtain ⟨X, hX⟩ : ∃ X, allT q id i = X := ⟨_, rfl⟩
      have HXX := Lib.hid hX
      have HA0 : Hid (wr.heap[b5]? = some (.cells (rowc (iw X)) 32 (0, 0))) := by rw [← hX]; exact HA.out
      have hlr := lt4 HRR.out
      clear HA hX
      obtain ⟨e0, e1, e2, e3⟩ := c4 HA0.out
      obtain ⟨g0, g1, g2, g3⟩ := c4 HRR.out
      have k0 := frozen_row HRR.out 0
      have k1 := frozen_row HRR.out 1
      have k2 := frozen_row HRR.out 2
      have k3 := frozen_row HRR.out 3
      have hw := set4 HRR.out (iw X)
      have hbw := below_set (below_set (below_set (below_set HB.out w.heap.size (by omega) 0 (.int .u64 (X 0 : Int))) w.heap.size (by omega) 1 (.int .u64 (X 1 : Int))) w.heap.size (by omega) 2 (.int .u64 (X 2 : Int))) w.heap.size (by omega) 3 (.int .u64 (X 3 : Int))
      simp only [iw] at hw
      have HBW := Lib.hid hbw
      have HW9 := Lib.hid hw
      clear hw hbw
      go_wp2
      obtain ⟨q0, q1, q2, q3⟩ := c4 HW9.out
      refine bodyPost_ret (v := .agg #[.int .u64 (X 0 : Int), .int .u64 (X 1 : Int), .int .u64 (X 2 : Int), .int .u64 (X 3 : Int)]) ?_ rfl ⟨by rw [HXX.out]; rfl, HBW.out⟩
      simp [results, Try.results18, go_sem, q0, q1, q2, q3]
end Go.Proofs.Ytdmfdgadhobkpaa.Blk
