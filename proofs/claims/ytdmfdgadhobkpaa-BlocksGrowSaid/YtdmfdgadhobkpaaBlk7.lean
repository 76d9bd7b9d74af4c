/-
  Package blocks: Most of any task.
-/
import Derived.Test.YtdmfdgadhobkpaaBlk6
namespace Go.Proofs.Ytdmfdgadhobkpaa.Blk
open Go.RowKit Go.Shelf Go.Proofs.Ytdmfdgadhobkpaa.Sys Go.Proofs.Ytdmfdgadhobkpaa.Box Go.Proofs.Ytdmfdgadhobkpaa.Bits

theorem u64_bdB {a : Int} (h : (Lit.int .u64 a).wf = true) : 0 ≤ a ∧ a < 18446744073709551616 := by
  have := h
  simp [Lit.wf, IntKind.min, IntKind.max, IntKind.signed, IntKind.bits] at this
  omega
theorem bits_of {x y z u : Int} (hx : (Lit.int .u64 x).wf = true) (hy : (Lit.int .u64 y).wf = true) (hz : (Lit.int .u64 z).wf = true) (hu : (Lit.int .u64 u).wf = true) :
    ∃ A, Ws A ∧ (.agg #[.int .u64 x, .int .u64 y, .int .u64 z, .int .u64 u] : Value) = bv (iw A) := by
  obtain ⟨x0, x1⟩ := u64_bdB hx
  obtain ⟨y0, y1⟩ := u64_bdB hy
  obtain ⟨z0, z1⟩ := u64_bdB hz
  obtain ⟨u0, u1⟩ := u64_bdB hu
  refine ⟨fun j => if j = 0 then x.toNat else if j = 1 then y.toNat else if j = 2 then z.toNat else u.toNat, fun j hj => ?_, ?_⟩
  · match j, hj with
    | 0, _ => simp; omega
    | 1, _ => simp; omega
    | 2, _ => simp; omega
    | 3, _ => simp; omega
  · unfold bv rowc iw
    simp
    omega
theorem has_no {x : TaskV} (hm : mayT x = false) (p : Int) (i : Nat) (_hi : i < 256) : hasN (usefulN x p) i = false := by
  have e : ∀ f t, putL x f t = [] := fun f t => by unfold putL; rw [if_neg (by rw [hm]; decide)]
  unfold usefulN beforeN behindN
  rw [e, e, has_and, show ofN [] = noneW from rfl, has_none]
  rfl
theorem cnt_no {x : TaskV} (hm : mayT x = false) (O : Nat → Nat) (p : Int) : cntU x O p = 0 := by
  have h : cntU x O p ≤ (listN noneW).length := len_mono fun i hi h => by
    rw [has_and, has_no hm p i hi] at h
    rw [Bool.false_and] at h
    cases h
  rw [show (listN noneW).length = 0 by decide +kernel] at h
  omega
theorem MostR.no {x : TaskV} (hm : mayT x = false) (O : Nat → Nat) (e : Int) : MostR x O 0 0 e := ⟨fun p _ _ => Nat.le_of_eq (cnt_no hm O p), fun _ => rfl, fun h => absurd h (by decide)⟩
set_option maxHeartbeats 4000000 in
set_option maxRecDepth 100000 in
theorem most_no (r : RT) (hm : mayT r.x = false) (O : Nat → Nat) (w : World) (hr : r.Rd w) :
    Calls Try.prog 16 #[.agg #[.int .i64 r.x.id, .int .i64 r.x.c, .int .i64 r.x.d, .int .i64 r.x.t, .int .i64 r.x.prio, .slice r.ca r.cl r.cc, .slice r.ua r.ul r.uc], .agg #[.int .u64 (O 0 : Int), .int .u64 (O 1 : Int), .int .u64 (O 2 : Int), .int .u64 (O 3 : Int)]] w (MostP r.x O w) := by
  have HQ : Hid (MostR r.x O 0 0 r.x.c) := MostR.no hm O _
  have hB0 : Below w.heap.size w ((w.alloc (.cells #[.int .i64 r.x.id, .int .i64 r.x.c, .int .i64 r.x.d, .int .i64 r.x.t, .int .i64 r.x.prio, .slice r.ca r.cl r.cc, .slice r.ua r.ul r.uc] 36)).alloc (.cells #[.int .u64 (O 0 : Int), .int .u64 (O 1 : Int), .int .u64 (O 2 : Int), .int .u64 (O 3 : Int)] 32)) := ((Below.refl _ w).alloc (Nat.le_refl _) _).alloc (by simp) _
  have nT0 : ((w.alloc (.cells #[.int .i64 r.x.id, .int .i64 r.x.c, .int .i64 r.x.d, .int .i64 r.x.t, .int .i64 r.x.prio, .slice r.ca r.cl r.cc, .slice r.ua r.ul r.uc] 36)).alloc (.cells #[.int .u64 (O 0 : Int), .int .u64 (O 1 : Int), .int .u64 (O 2 : Int), .int .u64 (O 3 : Int)] 32)).heap[w.heap.size]? = some (.cells (taskCells r.x.id r.x.c r.x.d r.x.t r.x.prio (.slice r.ca r.cl r.cc) (.slice r.ua r.ul r.uc)) 36 (0, 0)) := (Below.heap_alloc _ _ _ (by simp)).trans (heap_new _ _ _ rfl)
  have hM := mayT_any r ((w.alloc (.cells #[.int .i64 r.x.id, .int .i64 r.x.c, .int .i64 r.x.d, .int .i64 r.x.t, .int .i64 r.x.prio, .slice r.ca r.cl r.cc, .slice r.ua r.ul r.uc] 36)).alloc (.cells #[.int .u64 (O 0 : Int), .int .u64 (O 1 : Int), .int .u64 (O 2 : Int), .int .u64 (O 3 : Int)] 32)) (hr.below hB0 (Nat.le_refl _))
  rw [hm] at hM
  have HT0 := Lib.hid nT0
  have HB0 := Lib.hid hB0
  have HMY := Lib.hid hM
  clear nT0 hB0 hM hr hm
  go_enter Try.func16, Try.ntmps16
  obtain ⟨y0, y1, y2, y3, y4, y5, y6⟩ := bx_seven HT0.out
  go_wp2
  go_step3
  go_wp2_with fail
  clear y0 y1 y2 y3 y4 y5 y6
  refine HMY.out.mono ?_
  rintro e W1 ⟨rfl, hb1⟩
  have HE : Hid (MostP r.x O w (.returned (.tuple #[.int .i64 0, .int .i64 0])) W1) := ⟨0, 0, rfl, HQ.out, HB0.out.trans (hb1.mono HB0.out.size)⟩
  clear hb1 HT0 HB0 HMY HQ
  go_wp2
  rw [Exit.noGoto_ret]
  go_ret2
  exact HE.out
/-- Of any task. -/
theorem most_all (r : RT) (O : Nat → Nat) (hO : Ws O) (w : World) (hr : r.Rd w) :
    Calls Try.prog 16 #[.agg #[.int .i64 r.x.id, .int .i64 r.x.c, .int .i64 r.x.d, .int .i64 r.x.t, .int .i64 r.x.prio, .slice r.ca r.cl r.cc, .slice r.ua r.ul r.uc], .agg #[.int .u64 (O 0 : Int), .int .u64 (O 1 : Int), .int .u64 (O 2 : Int), .int .u64 (O 3 : Int)]] w (MostP r.x O w) := by
  cases hm : mayT r.x
  · exact most_no r hm O w hr
  · exact most_any r hm O hO w hr
end Go.Proofs.Ytdmfdgadhobkpaa.Blk
