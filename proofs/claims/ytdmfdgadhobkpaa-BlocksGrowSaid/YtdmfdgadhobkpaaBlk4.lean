/-
  Package blocks: Used, Before, Behind, Useful.
-/
import Derived.Test.YtdmfdgadhobkpaaBlk3
import Derived.Deep.RegionHeld3
namespace Go.Proofs.Ytdmfdgadhobkpaa.Blk
open Go.RowKit Go.Shelf Go.Proofs.Ytdmfdgadhobkpaa.Sys Go.Proofs.Ytdmfdgadhobkpaa.Box Go.Proofs.Ytdmfdgadhobkpaa.Bits

def usedN (x : TaskV) : Nat → Nat := ofN (putL x 0 x.c)
def beforeN (x : TaskV) (p : Int) : Nat → Nat := ofN (putL x 0 p)
def behindN (x : TaskV) (p : Int) : Nat → Nat := ofN (putL x p x.c)
def usefulN (x : TaskV) (p : Int) : Nat → Nat := andW (beforeN x p) (behindN x p)
theorem usefulW (x : TaskV) (p : Int) : Ws (usefulN x p) := (Ws.ofN _).and
theorem below_next {W0 a b : World} (h : Below W0.heap.size W0 a) (k : Below a.heap.size a b) : Below W0.heap.size W0 b := h.trans (k.mono h.size)
set_option maxHeartbeats 4000000 in
set_option maxRecDepth 100000 in
theorem used_any (r : RT)  (w : World) (hr : r.Rd w) :
    Calls Try.prog 14 #[.agg #[.int .i64 r.x.id, .int .i64 r.x.c, .int .i64 r.x.d, .int .i64 r.x.t, .int .i64 r.x.prio, .slice r.ca r.cl r.cc, .slice r.ua r.ul r.uc]] w fun e w' => e = .returned (bv (iw (usedN r.x))) ∧ Below w.heap.size w w' := by
  have hB0 : Below w.heap.size w ((w.alloc (.cells #[.int .i64 r.x.id, .int .i64 r.x.c, .int .i64 r.x.d, .int .i64 r.x.t, .int .i64 r.x.prio, .slice r.ca r.cl r.cc, .slice r.ua r.ul r.uc] 36)).alloc (.cells #[.int .u64 0, .int .u64 0, .int .u64 0, .int .u64 0] 32)) := ((Below.refl _ w).alloc (Nat.le_refl _) _).alloc (by simp) _
  have nR : ((w.alloc (.cells #[.int .i64 r.x.id, .int .i64 r.x.c, .int .i64 r.x.d, .int .i64 r.x.t, .int .i64 r.x.prio, .slice r.ca r.cl r.cc, .slice r.ua r.ul r.uc] 36)).alloc (.cells #[.int .u64 0, .int .u64 0, .int .u64 0, .int .u64 0] 32)).heap[w.heap.size + 1]? = some (.cells (rowc (iw noneW)) 32 (0, 0)) := heap_new _ _ _ (by simp)
  have hP := put_any r (0) (r.x.c) (by decide) ((w.alloc (.cells #[.int .i64 r.x.id, .int .i64 r.x.c, .int .i64 r.x.d, .int .i64 r.x.t, .int .i64 r.x.prio, .slice r.ca r.cl r.cc, .slice r.ua r.ul r.uc] 36)).alloc (.cells #[.int .u64 0, .int .u64 0, .int .u64 0, .int .u64 0] 32)) (hr.below hB0 (Nat.le_refl _))
  obtain ⟨Y, hY⟩ : ∃ Y, usedN r.x = Y := ⟨_, rfl⟩
  have hY2 : ofN (putL r.x (0) (r.x.c)) = Y := hY
  rw [hY2] at hP
  rw [hY]
  simp only [bvl] at hP ⊢
  have HN := Lib.hid nR
  have HB0 := Lib.hid hB0
  clear nR hB0 hr hY hY2
  go_enter Try.func14, Try.ntmps14
  go_wp2_with fail
  refine hP.mono ?_
  rintro e W1 ⟨rfl, hb1⟩
  have HRE : Hid (W1.heap[w.heap.size + 1]? = some (.cells (rowc (iw noneW)) 32 (0, 0))) := old4 HN.out hb1 (lt4 HN.out)
  have HBE : Hid (Below w.heap.size w W1) := HB0.out.trans (hb1.mono HB0.out.size)
  clear hb1 hP HN HB0
  have k0 := frozen_row HRE.out 0
  have k1 := frozen_row HRE.out 1
  have k2 := frozen_row HRE.out 2
  have k3 := frozen_row HRE.out 3
  obtain ⟨e0, e1, e2, e3⟩ := c4 HRE.out
  have hw := set4 HRE.out (iw Y)
  have hbw := below_set (below_set (below_set (below_set HBE.out (w.heap.size + 1) (by omega) 0 (.int .u64 (Y 0 : Int))) (w.heap.size + 1) (by omega) 1 (.int .u64 (Y 1 : Int))) (w.heap.size + 1) (by omega) 2 (.int .u64 (Y 2 : Int))) (w.heap.size + 1) (by omega) 3 (.int .u64 (Y 3 : Int))
  simp only [iw] at hw
  have HBW := Lib.hid hbw
  have HW9 := Lib.hid hw
  clear hw hbw
  go_wp2
  obtain ⟨q0, q1, q2, q3⟩ := c4 HW9.out
  refine bodyPost_ret (v := .agg #[.int .u64 (Y 0 : Int), .int .u64 (Y 1 : Int), .int .u64 (Y 2 : Int), .int .u64 (Y 3 : Int)]) ?_ rfl ⟨rfl, HBW.out⟩
  simp [results, Try.results14, go_sem, q0, q1, q2, q3]
set_option maxHeartbeats 4000000 in
set_option maxRecDepth 100000 in
theorem before_any (r : RT) (p : Int) (w : World) (hr : r.Rd w) :
    Calls Try.prog 10 #[.agg #[.int .i64 r.x.id, .int .i64 r.x.c, .int .i64 r.x.d, .int .i64 r.x.t, .int .i64 r.x.prio, .slice r.ca r.cl r.cc, .slice r.ua r.ul r.uc], .int .i64 p] w fun e w' => e = .returned (bv (iw (beforeN r.x p))) ∧ Below w.heap.size w w' := by
  have hB0 : Below w.heap.size w ((w.alloc (.cells #[.int .i64 r.x.id, .int .i64 r.x.c, .int .i64 r.x.d, .int .i64 r.x.t, .int .i64 r.x.prio, .slice r.ca r.cl r.cc, .slice r.ua r.ul r.uc] 36)).alloc (.cells #[.int .u64 0, .int .u64 0, .int .u64 0, .int .u64 0] 32)) := ((Below.refl _ w).alloc (Nat.le_refl _) _).alloc (by simp) _
  have nR : ((w.alloc (.cells #[.int .i64 r.x.id, .int .i64 r.x.c, .int .i64 r.x.d, .int .i64 r.x.t, .int .i64 r.x.prio, .slice r.ca r.cl r.cc, .slice r.ua r.ul r.uc] 36)).alloc (.cells #[.int .u64 0, .int .u64 0, .int .u64 0, .int .u64 0] 32)).heap[w.heap.size + 1]? = some (.cells (rowc (iw noneW)) 32 (0, 0)) := heap_new _ _ _ (by simp)
  have hP := put_any r (0) (p) (by decide) ((w.alloc (.cells #[.int .i64 r.x.id, .int .i64 r.x.c, .int .i64 r.x.d, .int .i64 r.x.t, .int .i64 r.x.prio, .slice r.ca r.cl r.cc, .slice r.ua r.ul r.uc] 36)).alloc (.cells #[.int .u64 0, .int .u64 0, .int .u64 0, .int .u64 0] 32)) (hr.below hB0 (Nat.le_refl _))
  obtain ⟨Y, hY⟩ : ∃ Y, beforeN r.x p = Y := ⟨_, rfl⟩
  have hY2 : ofN (putL r.x (0) (p)) = Y := hY
  rw [hY2] at hP
  rw [hY]
  simp only [bvl] at hP ⊢
  have HN := Lib.hid nR
  have HB0 := Lib.hid hB0
  clear nR hB0 hr hY hY2
  go_enter Try.func10, Try.ntmps10
  go_wp2_with fail
  refine hP.mono ?_
  rintro e W1 ⟨rfl, hb1⟩
  have HRE : Hid (W1.heap[w.heap.size + 1]? = some (.cells (rowc (iw noneW)) 32 (0, 0))) := old4 HN.out hb1 (lt4 HN.out)
  have HBE : Hid (Below w.heap.size w W1) := HB0.out.trans (hb1.mono HB0.out.size)
  clear hb1 hP HN HB0
  have k0 := frozen_row HRE.out 0
  have k1 := frozen_row HRE.out 1
  have k2 := frozen_row HRE.out 2
  have k3 := frozen_row HRE.out 3
  obtain ⟨e0, e1, e2, e3⟩ := c4 HRE.out
  have hw := set4 HRE.out (iw Y)
  have hbw := below_set (below_set (below_set (below_set HBE.out (w.heap.size + 1) (by omega) 0 (.int .u64 (Y 0 : Int))) (w.heap.size + 1) (by omega) 1 (.int .u64 (Y 1 : Int))) (w.heap.size + 1) (by omega) 2 (.int .u64 (Y 2 : Int))) (w.heap.size + 1) (by omega) 3 (.int .u64 (Y 3 : Int))
  simp only [iw] at hw
  have HBW := Lib.hid hbw
  have HW9 := Lib.hid hw
  clear hw hbw
  go_wp2
  obtain ⟨q0, q1, q2, q3⟩ := c4 HW9.out
  refine bodyPost_ret (v := .agg #[.int .u64 (Y 0 : Int), .int .u64 (Y 1 : Int), .int .u64 (Y 2 : Int), .int .u64 (Y 3 : Int)]) ?_ rfl ⟨rfl, HBW.out⟩
  simp [results, Try.results10, go_sem, q0, q1, q2, q3]
set_option maxHeartbeats 4000000 in
set_option maxRecDepth 100000 in
theorem behind_any (r : RT) (p : Int) (hp : p ≤ 4611686018427387904) (w : World) (hr : r.Rd w) :
    Calls Try.prog 11 #[.agg #[.int .i64 r.x.id, .int .i64 r.x.c, .int .i64 r.x.d, .int .i64 r.x.t, .int .i64 r.x.prio, .slice r.ca r.cl r.cc, .slice r.ua r.ul r.uc], .int .i64 p] w fun e w' => e = .returned (bv (iw (behindN r.x p))) ∧ Below w.heap.size w w' := by
  have hB0 : Below w.heap.size w ((w.alloc (.cells #[.int .i64 r.x.id, .int .i64 r.x.c, .int .i64 r.x.d, .int .i64 r.x.t, .int .i64 r.x.prio, .slice r.ca r.cl r.cc, .slice r.ua r.ul r.uc] 36)).alloc (.cells #[.int .u64 0, .int .u64 0, .int .u64 0, .int .u64 0] 32)) := ((Below.refl _ w).alloc (Nat.le_refl _) _).alloc (by simp) _
  have nR : ((w.alloc (.cells #[.int .i64 r.x.id, .int .i64 r.x.c, .int .i64 r.x.d, .int .i64 r.x.t, .int .i64 r.x.prio, .slice r.ca r.cl r.cc, .slice r.ua r.ul r.uc] 36)).alloc (.cells #[.int .u64 0, .int .u64 0, .int .u64 0, .int .u64 0] 32)).heap[w.heap.size + 1]? = some (.cells (rowc (iw noneW)) 32 (0, 0)) := heap_new _ _ _ (by simp)
  have hP := put_any r (p) (r.x.c) (hp) ((w.alloc (.cells #[.int .i64 r.x.id, .int .i64 r.x.c, .int .i64 r.x.d, .int .i64 r.x.t, .int .i64 r.x.prio, .slice r.ca r.cl r.cc, .slice r.ua r.ul r.uc] 36)).alloc (.cells #[.int .u64 0, .int .u64 0, .int .u64 0, .int .u64 0] 32)) (hr.below hB0 (Nat.le_refl _))
  obtain ⟨Y, hY⟩ : ∃ Y, behindN r.x p = Y := ⟨_, rfl⟩
  have hY2 : ofN (putL r.x (p) (r.x.c)) = Y := hY
  rw [hY2] at hP
  rw [hY]
  simp only [bvl] at hP ⊢
  have HN := Lib.hid nR
  have HB0 := Lib.hid hB0
  clear nR hB0 hr hY hY2
  go_enter Try.func11, Try.ntmps11
  go_wp2_with fail
  refine hP.mono ?_
  rintro e W1 ⟨rfl, hb1⟩
  have HRE : Hid (W1.heap[w.heap.size + 1]? = some (.cells (rowc (iw noneW)) 32 (0, 0))) := old4 HN.out hb1 (lt4 HN.out)
  have HBE : Hid (Below w.heap.size w W1) := HB0.out.trans (hb1.mono HB0.out.size)
  clear hb1 hP HN HB0
  have k0 := frozen_row HRE.out 0
  have k1 := frozen_row HRE.out 1
  have k2 := frozen_row HRE.out 2
  have k3 := frozen_row HRE.out 3
  obtain ⟨e0, e1, e2, e3⟩ := c4 HRE.out
  have hw := set4 HRE.out (iw Y)
  have hbw := below_set (below_set (below_set (below_set HBE.out (w.heap.size + 1) (by omega) 0 (.int .u64 (Y 0 : Int))) (w.heap.size + 1) (by omega) 1 (.int .u64 (Y 1 : Int))) (w.heap.size + 1) (by omega) 2 (.int .u64 (Y 2 : Int))) (w.heap.size + 1) (by omega) 3 (.int .u64 (Y 3 : Int))
  simp only [iw] at hw
  have HBW := Lib.hid hbw
  have HW9 := Lib.hid hw
  clear hw hbw
  go_wp2
  obtain ⟨q0, q1, q2, q3⟩ := c4 HW9.out
  refine bodyPost_ret (v := .agg #[.int .u64 (Y 0 : Int), .int .u64 (Y 1 : Int), .int .u64 (Y 2 : Int), .int .u64 (Y 3 : Int)]) ?_ rfl ⟨rfl, HBW.out⟩
  simp [results, Try.results11, go_sem, q0, q1, q2, q3]
set_option maxHeartbeats 8000000 in
set_option maxRecDepth 100000 in
theorem useful_any (r : RT) (p : Int) (hp : p ≤ 4611686018427387904) (w : World) (hr : r.Rd w) :
    Calls Try.prog 12 #[.agg #[.int .i64 r.x.id, .int .i64 r.x.c, .int .i64 r.x.d, .int .i64 r.x.t, .int .i64 r.x.prio, .slice r.ca r.cl r.cc, .slice r.ua r.ul r.uc], .int .i64 p] w fun e w' => e = .returned (bv (iw (usefulN r.x p))) ∧ Below w.heap.size w w' := by
  obtain ⟨W0, hW0⟩ : ∃ W0, (w.alloc (.cells #[.int .i64 r.x.id, .int .i64 r.x.c, .int .i64 r.x.d, .int .i64 r.x.t, .int .i64 r.x.prio, .slice r.ca r.cl r.cc, .slice r.ua r.ul r.uc] 36)).alloc (.cells #[.int .u64 0, .int .u64 0, .int .u64 0, .int .u64 0] 32) = W0 := ⟨_, rfl⟩
  have hB0 : Below w.heap.size w W0 := by rw [← hW0]; exact ((Below.refl _ w).alloc (Nat.le_refl _) _).alloc (by simp) _
  have nR : W0.heap[w.heap.size + 1]? = some (.cells (rowc (iw noneW)) 32 (0, 0)) := by rw [← hW0]; exact heap_new _ _ _ (by simp)
  have nT : W0.heap[w.heap.size]? = some (.cells (taskCells r.x.id r.x.c r.x.d r.x.t r.x.prio (.slice r.ca r.cl r.cc) (.slice r.ua r.ul r.uc)) 36 (0, 0)) := by rw [← hW0]; exact (Below.heap_alloc _ _ _ (by simp)).trans (heap_new _ _ _ rfl)
  have hs0 : W0.heap.size = w.heap.size + 2 := by rw [← hW0]; simp
  have hr0 : r.Rd W0 := hr.below hB0 (Nat.le_refl _)
  obtain ⟨Y, hY⟩ : ∃ Y, usefulN r.x p = Y := ⟨_, rfl⟩
  have hA := fun w2 (h : Below W0.heap.size W0 w2) => before_any r p w2 (hr0.below h (Nat.le_refl _))
  have hZ := fun w2 (h : Below W0.heap.size W0 w2) => behind_any r p hp w2 (hr0.below h (Nat.le_refl _))
  have hD := fun w2 => and_n (A := beforeN r.x p) (B := behindN r.x p) (Ws.ofN _) (Ws.ofN _) w2
  have hY2 : andW (beforeN r.x p) (behindN r.x p) = Y := hY
  simp only [hY2] at hD
  rw [hY]
  generalize beforeN r.x p = X1 at *
  generalize behindN r.x p = X2 at *
  simp only [bvl] at hA hZ hD ⊢
  have hkeep : ∀ w', Below W0.heap.size W0 w' → w'.cell? ⟨w.heap.size, 0, none⟩ = some (.int .i64 r.x.id) ∧ w'.cell? ⟨w.heap.size, 1, none⟩ = some (.int .i64 r.x.c) ∧ w'.cell? ⟨w.heap.size, 2, none⟩ = some (.int .i64 r.x.d) ∧ w'.cell? ⟨w.heap.size, 3, none⟩ = some (.int .i64 r.x.t) ∧ w'.cell? ⟨w.heap.size, 4, none⟩ = some (.int .i64 r.x.prio) ∧ w'.cell? ⟨w.heap.size, 5, none⟩ = some (.slice r.ca r.cl r.cc) ∧ w'.cell? ⟨w.heap.size, 6, none⟩ = some (.slice r.ua r.ul r.uc) := fun w' h => bx_seven ((h.block _ (by omega)).trans nT)
  have hkeep2 : ∀ w' v0 v1 v2 v3, Below W0.heap.size W0 w' → ((((w'.setCell ⟨w.heap.size + 1, 0, none⟩ v0).setCell ⟨w.heap.size + 1, 1, none⟩ v1).setCell ⟨w.heap.size + 1, 2, none⟩ v2).setCell ⟨w.heap.size + 1, 3, none⟩ v3).cell? ⟨w.heap.size, 0, none⟩ = some (.int .i64 r.x.id) ∧ ((((w'.setCell ⟨w.heap.size + 1, 0, none⟩ v0).setCell ⟨w.heap.size + 1, 1, none⟩ v1).setCell ⟨w.heap.size + 1, 2, none⟩ v2).setCell ⟨w.heap.size + 1, 3, none⟩ v3).cell? ⟨w.heap.size, 1, none⟩ = some (.int .i64 r.x.c) ∧ ((((w'.setCell ⟨w.heap.size + 1, 0, none⟩ v0).setCell ⟨w.heap.size + 1, 1, none⟩ v1).setCell ⟨w.heap.size + 1, 2, none⟩ v2).setCell ⟨w.heap.size + 1, 3, none⟩ v3).cell? ⟨w.heap.size, 2, none⟩ = some (.int .i64 r.x.d) ∧ ((((w'.setCell ⟨w.heap.size + 1, 0, none⟩ v0).setCell ⟨w.heap.size + 1, 1, none⟩ v1).setCell ⟨w.heap.size + 1, 2, none⟩ v2).setCell ⟨w.heap.size + 1, 3, none⟩ v3).cell? ⟨w.heap.size, 3, none⟩ = some (.int .i64 r.x.t) ∧ ((((w'.setCell ⟨w.heap.size + 1, 0, none⟩ v0).setCell ⟨w.heap.size + 1, 1, none⟩ v1).setCell ⟨w.heap.size + 1, 2, none⟩ v2).setCell ⟨w.heap.size + 1, 3, none⟩ v3).cell? ⟨w.heap.size, 4, none⟩ = some (.int .i64 r.x.prio) ∧ ((((w'.setCell ⟨w.heap.size + 1, 0, none⟩ v0).setCell ⟨w.heap.size + 1, 1, none⟩ v1).setCell ⟨w.heap.size + 1, 2, none⟩ v2).setCell ⟨w.heap.size + 1, 3, none⟩ v3).cell? ⟨w.heap.size, 5, none⟩ = some (.slice r.ca r.cl r.cc) ∧ ((((w'.setCell ⟨w.heap.size + 1, 0, none⟩ v0).setCell ⟨w.heap.size + 1, 1, none⟩ v1).setCell ⟨w.heap.size + 1, 2, none⟩ v2).setCell ⟨w.heap.size + 1, 3, none⟩ v3).cell? ⟨w.heap.size, 6, none⟩ = some (.slice r.ua r.ul r.uc) := fun w' v0 v1 v2 v3 h => bx_seven ((set4_other w' (w.heap.size + 1) (w.heap.size) (by omega) v0 v1 v2 v3).trans ((h.block _ (by omega)).trans nT))
  have hres : ∀ w', Below W0.heap.size W0 w' → w'.heap[w.heap.size + 1]? = some (.cells (rowc (iw noneW)) 32 (0, 0)) := fun w' h => (h.block _ (by omega)).trans nR
  have hBd : Below W0.heap.size W0 W0.drew := (Below.refl _ _).drew
  have HB0 := Lib.hid hB0
  clear nR nT hB0 hr hr0 hY hY2
  go_enter Try.func12, Try.ntmps12
  go_wp2_with fail

  clear hW0
  go_region_held3 (fun w' => w'.cell? ⟨w.heap.size, 0, none⟩ = some (.int .i64 r.x.id) ∧ w'.cell? ⟨w.heap.size, 1, none⟩ = some (.int .i64 r.x.c) ∧ w'.cell? ⟨w.heap.size, 2, none⟩ = some (.int .i64 r.x.d) ∧ w'.cell? ⟨w.heap.size, 3, none⟩ = some (.int .i64 r.x.t) ∧ w'.cell? ⟨w.heap.size, 4, none⟩ = some (.int .i64 r.x.prio) ∧ w'.cell? ⟨w.heap.size, 5, none⟩ = some (.slice r.ca r.cl r.cc) ∧ w'.cell? ⟨w.heap.size, 6, none⟩ = some (.slice r.ua r.ul r.uc)) (first | with_reducible exact hkeep _ hBd | exact hkeep _ (by assumption) | exact hkeep2 _ _ _ _ _ (by assumption))
    (first
      | (go_at_call 10; (with_reducible refine (hA _ (by assumption)).mono ?_); rintro e w1 ⟨rfl, hb⟩; have hBn := below_next (by assumption) hb)
      | (go_at_call 11; (with_reducible refine (hZ _ (by assumption)).mono ?_); rintro e w2 ⟨rfl, hb⟩; have hBn := below_next (by assumption) hb)
      | (go_at_call 26; (with_reducible refine (hD _).mono ?_); rintro e w3 ⟨rfl, hb⟩; have hBn := below_next (by assumption) hb; obtain ⟨e0, e1, e2, e3⟩ := c4 (hres _ hBn); have k0 := frozen_row (hres _ hBn) 0; have k1 := frozen_row (hres _ hBn) 1; have k2 := frozen_row (hres _ hBn) 2; have k3 := frozen_row (hres _ hBn) 3))
  all_goals
    have hw := set4 (hres _ hBn) (iw Y)
    have hbw := below_set (below_set (below_set (below_set (HB0.out.trans (hBn.mono HB0.out.size)) (w.heap.size + 1) (by omega) 0 (.int .u64 (Y 0 : Int))) (w.heap.size + 1) (by omega) 1 (.int .u64 (Y 1 : Int))) (w.heap.size + 1) (by omega) 2 (.int .u64 (Y 2 : Int))) (w.heap.size + 1) (by omega) 3 (.int .u64 (Y 3 : Int))
    simp only [iw] at hw
    obtain ⟨q0, q1, q2, q3⟩ := c4 hw
    have HBW := Lib.hid hbw
    clear hw hbw hkeep hkeep2 hA hZ hD hres
    go_wp2
    refine bodyPost_ret (v := .agg #[.int .u64 (Y 0 : Int), .int .u64 (Y 1 : Int), .int .u64 (Y 2 : Int), .int .u64 (Y 3 : Int)]) ?_ rfl ⟨rfl, HBW.out⟩
    simp [results, Try.results12, go_sem, q0, q1, q2, q3]
end Go.Proofs.Ytdmfdgadhobkpaa.Blk
