/-
  Package blocks: put.
-/
import Derived.Test.YtdmfdgadhobkpaaBlk2
namespace Go.Proofs.Ytdmfdgadhobkpaa.Blk
open Go.RowKit Go.Shelf Go.Proofs.Ytdmfdgadhobkpaa.Sys Go.Proofs.Ytdmfdgadhobkpaa.Box Go.Proofs.Ytdmfdgadhobkpaa.RangeW Go.Proofs.Ytdmfdgadhobkpaa.Bits
attribute [local go_sem] Oper.semAt_some

theorem run_store_fnB {P : Program} (w : World) (a : Addr) (m : Mode) (f : Fn) (x y : Array Value) : (store a (.func f x y) m).run P w = stored P w a (.func f x y) m := run_store P w a _ m rfl
attribute [local go_sem] run_store_fnB
/-- What ticks from one on, below another one, use. -/
def putL (x : TaskV) (from_ til : Int) : List Int := if mayT x then tickL x.use (max from_ 0) (min (min til x.c) (max from_ 0 + x.use.length) - max from_ 0).toNat else []
/-- As far as the range has come. -/
structure PutI (n₀ b bf z : Nat) (fv : Value) (w0 : World) (pre : List Int) (W : World) : Prop where
  a : W.heap[b]? = some (.cells (rowc (iw (ofN pre))) 32 (0, 0))
  r : W.heap[(n₀ + 1)]? = some (.cells (rowc (iw noneW)) 32 (0, 0))
  f : W.heap[bf]? = some (.cells #[fv] 84 (0, 0))
  b : Below n₀ w0 W
  z : z ≤ W.heap.size
theorem own_cellsB {β : Type} (B b : Nat) (C : β → Array Value) (t : TypeId) : OwnFrom B (fun (s : β) W => W.heap[b]? = some (.cells (C s) t (0, 0))) := fun s W W' row hs hg hr =>
  (hg.block b (Array.getElem?_eq_some_iff.1 hs).1 (fun e => by
    obtain ⟨_, o, ho, hc⟩ := hr b e.symm
    rw [hs] at ho
    cases ho
    cases hc)).trans hs
theorem putI_own (n₀ b bf z : Nat) (fv : Value) (w0 : World) (B : Nat) (hB : n₀ ≤ B) (hB2 : n₀ ≤ w0.heap.size) : OwnFrom B (PutI n₀ b bf z fv w0) := fun s W W' row h hg hr =>
  ⟨own_cellsB _ b (fun s : List Int => rowc (iw (ofN s))) _ s W W' row h.a hg hr, own_cellsB _ (n₀ + 1) (fun _ : Unit => rowc (iw noneW)) _ () W W' row h.r hg hr, own_cellsB _ bf (fun _ : Unit => #[fv]) _ () W W' row h.f hg hr,
    h.b.grown hg (Nat.le_trans hB2 h.b.size) (fun k e => by have := (hr k e).1; omega), Nat.le_trans h.z hg.size⟩
theorem putI_set {n₀ b bf z : Nat} {fv : Value} {w0 : World} {Bt : Nat} (h1 : n₀ ≤ Bt) (h2 : b ≠ Bt) (h3 : n₀ + 1 ≠ Bt) (h4 : bf ≠ Bt) : ∀ s V v, PutI n₀ b bf z fv w0 s V → PutI n₀ b bf z fv w0 s (V.setCell ⟨Bt, 0, none⟩ v) := fun s V v h =>
  ⟨(bx_other _ _ _ _ h2 _).trans h.a, (bx_other _ _ _ _ h3 _).trans h.r, (bx_other _ _ _ _ h4 _).trans h.f, bx_below h.b _ h1 _ _, by have := h.z; simpa [World.setCell] using this⟩
theorem ticks_all (N : Nat) (hN : 1 ≤ N) (n₀ Bt Bf Bk : Nat) (r : RT) (f t : Int) (hf : 0 ≤ f) (hf2 : f ≤ 4611686018427387904) (ht : t ≤ 4611686018427387904) (hul : r.ul ≤ 64) (hu1 : 1 ≤ r.ul) (w : World)
    (hS : SeenB n₀ Bt Bf Bk r f t w) (hn0 : n₀ ≤ w.heap.size) (hbt : n₀ ≤ Bt) (hd1 : Bf ≠ Bt) (hd2 : Bk ≠ Bt) (hbl : Bt < w.heap.size) (hbf : Bf < w.heap.size) (hbk : Bk < w.heap.size) :
    SeqAll Fence.wide N Try.prog 51 #[.pointer (some ⟨Bt, 0, none⟩), .pointer (some ⟨Bf, 0, none⟩), .pointer (some ⟨Bk, 0, none⟩)] (fun x : Int => #[Value.int .i64 x]) (KpB n₀ Bt Bf Bk) (tickL r.x.use f (min t (f + r.ul) - f).toNat) Bt w := fun l J W hW hJ hst hY h0 =>
  ticks_in N hN l n₀ Bt Bf Bk r f t hf hf2 ht hul hu1 J W hJ hst hY (hS.kept (KpB.below hW hn0 hbl hbf hbk)) (Nat.le_trans hn0 hW.size) hbt hd1 hd2 h0
set_option maxRecDepth 100000 in
set_option maxHeartbeats 8000000 in
theorem put_in (N : Nat) (hN : 3 ≤ N) (r : RT) (f t : Int) (hf : f ≤ 4611686018427387904) (w : World) (hr : r.Rd w) :
    CallsIn Fence.wide N Try.prog 25 #[.agg #[.int .i64 r.x.id, .int .i64 r.x.c, .int .i64 r.x.d, .int .i64 r.x.t, .int .i64 r.x.prio, .slice r.ca r.cl r.cc, .slice r.ua r.ul r.uc], .int .i64 f, .int .i64 t] w fun e W' => e = .returned (bv (iw (ofN (putL r.x f t)))) ∧ Below w.heap.size w W' := by
  have h1 : 1 ≤ N := by omega
  have HR := Lib.hid hr
  have hul := hr.2.len
  obtain ⟨rr, hrr⟩ : ∃ rr, rr = putL r.x f t := ⟨_, rfl⟩
  rw [← hrr]
  have HRR := Lib.hid hrr
  clear hr hrr
  refine callsIn_of_wp_marks Try.func25 rfl trivial ?_ rfl
  simp only [Try.ntmps25, List.size_toArray, List.length_cons, List.length_nil, Nat.reduceAdd, Nat.reduceSub, Array.replicate_succ, Array.replicate_zero, List.push_toArray, List.append_toArray, List.nil_append, List.cons_append]
  gi_wp2_with fail
  refine ⟨trivial, ?_⟩
  refine (callsIn_wide.2 (of_n none 0 0 [] _ (rdI0 _))).mono ?_
  rintro e W1 ⟨rfl, hb1⟩
  rw [bvl]
  have nT1 : W1.heap[w.heap.size]? = some (.cells #[.int .i64 r.x.id, .int .i64 r.x.c, .int .i64 r.x.d, .int .i64 r.x.t, .int .i64 r.x.prio, .slice r.ca r.cl r.cc, .slice r.ua r.ul r.uc] 36 (0, 0)) := (hb1.block _ (by simp; omega)).trans ((Below.heap_alloc _ _ _ (by simp)).trans (heap_new _ _ _ rfl))
  have nR1 : W1.heap[(w.heap.size + 1)]? = some (.cells (rowc (iw noneW)) 32 (0, 0)) := (hb1.block _ (by simp)).trans (heap_new _ _ _ (by simp))
  have hw1 : Below w.heap.size w W1 := (((Below.refl _ w).alloc (Nat.le_refl _) _).alloc (by simp) _).trans (hb1.mono (by simp; omega))
  have hs1 : w.heap.size + 2 ≤ W1.heap.size := by have := hb1.size; simp at this; omega
  clear hb1
  have nA2 : (W1.alloc (.cells #[.int .u64 (ofN [] 0 : Int), .int .u64 (ofN [] 1 : Int), .int .u64 (ofN [] 2 : Int), .int .u64 (ofN [] 3 : Int)] 32)).heap[W1.heap.size]? = some (.cells (rowc (iw (ofN []))) 32 (0, 0)) := new4 W1 (ofN [])
  have nT2 : (W1.alloc (.cells #[.int .u64 (ofN [] 0 : Int), .int .u64 (ofN [] 1 : Int), .int .u64 (ofN [] 2 : Int), .int .u64 (ofN [] 3 : Int)] 32)).heap[w.heap.size]? = some (.cells #[.int .i64 r.x.id, .int .i64 r.x.c, .int .i64 r.x.d, .int .i64 r.x.t, .int .i64 r.x.prio, .slice r.ca r.cl r.cc, .slice r.ua r.ul r.uc] 36 (0, 0)) := (Below.heap_alloc _ _ _ (by omega)).trans nT1
  have nR2 : (W1.alloc (.cells #[.int .u64 (ofN [] 0 : Int), .int .u64 (ofN [] 1 : Int), .int .u64 (ofN [] 2 : Int), .int .u64 (ofN [] 3 : Int)] 32)).heap[(w.heap.size + 1)]? = some (.cells (rowc (iw noneW)) 32 (0, 0)) := (Below.heap_alloc _ _ _ (by omega)).trans nR1
  have hw2 : Below w.heap.size w (W1.alloc (.cells #[.int .u64 (ofN [] 0 : Int), .int .u64 (ofN [] 1 : Int), .int .u64 (ofN [] 2 : Int), .int .u64 (ofN [] 3 : Int)] 32)) := hw1.alloc hw1.size _
  have hs2 : (W1.alloc (.cells #[.int .u64 (ofN [] 0 : Int), .int .u64 (ofN [] 1 : Int), .int .u64 (ofN [] 2 : Int), .int .u64 (ofN [] 3 : Int)] 32)).heap.size = W1.heap.size + 1 := by simp
  have HT := Lib.hid nT2
  have HA := Lib.hid nA2
  have HB := Lib.hid nR2
  have HW := Lib.hid hw2
  clear nT1 nR1 hw1 nA2 nR2
  obtain ⟨y0, y1, y2, y3, y4, y5, y6⟩ := bx_seven (x := .slice r.ca r.cl r.cc) (y := .slice r.ua r.ul r.uc) nT2
  have hM := Lib.hid (mayT_any r (W1.alloc (.cells #[.int .u64 (ofN [] 0 : Int), .int .u64 (ofN [] 1 : Int), .int .u64 (ofN [] 2 : Int), .int .u64 (ofN [] 3 : Int)] 32)) (HR.out.below hw2 (Nat.le_refl _)))
  clear nT2 hw2
  gi_wp2_with fail
  clear y0 y1 y2 y3 y4 y5 y6
  generalize W1.alloc (.cells #[.int .u64 (ofN [] 0 : Int), .int .u64 (ofN [] 1 : Int), .int .u64 (ofN [] 2 : Int), .int .u64 (ofN [] 3 : Int)] 32) = W2 at *
  generalize W1.heap.size = b at *
  refine ⟨trivial, ?_⟩
  refine (callsIn_wide.2 hM.out).mono ?_
  rintro e W3 ⟨rfl, hb3⟩
  have HT3 : Hid (W3.heap[w.heap.size]? = some (.cells #[.int .i64 r.x.id, .int .i64 r.x.c, .int .i64 r.x.d, .int .i64 r.x.t, .int .i64 r.x.prio, .slice r.ca r.cl r.cc, .slice r.ua r.ul r.uc] 36 (0, 0))) := (hb3.block _ (by omega)).trans HT.out
  have HA3 : Hid (W3.heap[b]? = some (.cells (rowc (iw (ofN []))) 32 (0, 0))) := (hb3.block _ (by omega)).trans HA.out
  have HB3 : Hid (W3.heap[(w.heap.size + 1)]? = some (.cells (rowc (iw noneW)) 32 (0, 0))) := (hb3.block _ (by omega)).trans HB.out
  have HW3 : Hid (Below w.heap.size w W3) := HW.out.trans (hb3.mono (by omega))
  have hs3 : b + 1 ≤ W3.heap.size := by have := hb3.size; omega
  clear hb3 HT HA HB HW hM
  cases hm : mayT r.x with
  | false =>
    have HM := Lib.hid hm
    clear hm
    obtain ⟨a0, a1, a2, a3⟩ := c4 (HA3.out)
    have k0 := frozen_row (HB3.out) 0
    have k1 := frozen_row (HB3.out) 1
    have k2 := frozen_row (HB3.out) 2
    have k3 := frozen_row (HB3.out) 3
    obtain ⟨e0, e1, e2, e3⟩ := c4 (HB3.out)
    have hw := set4 (HB3.out) (iw (ofN []))
    have hbw := (below_set (below_set (below_set (below_set HW3.out (w.heap.size + 1) (by omega) 0 (.int .u64 ((ofN []) 0 : Int))) (w.heap.size + 1) (by omega) 1 (.int .u64 ((ofN []) 1 : Int))) (w.heap.size + 1) (by omega) 2 (.int .u64 ((ofN []) 2 : Int))) (w.heap.size + 1) (by omega) 3 (.int .u64 ((ofN []) 3 : Int)))
    simp only [iw] at hw
    generalize hW9 : ((((W3.setCell ⟨w.heap.size + 1, 0, none⟩ (.int .u64 ((ofN []) 0 : Int))).setCell ⟨w.heap.size + 1, 1, none⟩ (.int .u64 ((ofN []) 1 : Int))).setCell ⟨w.heap.size + 1, 2, none⟩ (.int .u64 ((ofN []) 2 : Int))).setCell ⟨w.heap.size + 1, 3, none⟩ (.int .u64 ((ofN []) 3 : Int))) = W9 at *
    have HBW := Lib.hid hbw
    have HW9 : Hid (W9.heap[(w.heap.size + 1)]? = some (.cells (rowc (iw (ofN []))) 32 (0, 0))) := hw
    clear hw hbw
    gi_wp2
    obtain ⟨q0, q1, q2, q3⟩ := c4 HW9.out
    refine ⟨bv (iw (ofN [])), ?_, ?_, HBW.out⟩
    · simp [bv, rowc, iw, results, Try.results25, go_sem, q0, q1, q2, q3]
    · rw [HRR.out, putL, HM.out]; rfl
  | true =>
    have hmt := of_decide_eq_true hm
    have HM := Lib.hid hm
    clear hm
    have hT4 : (W3.alloc (.cells #[(.func (.func 45) #[] #[.pointer (some ⟨b, 0, none⟩)])] 84)).heap[w.heap.size]? = some (.cells #[.int .i64 r.x.id, .int .i64 r.x.c, .int .i64 r.x.d, .int .i64 r.x.t, .int .i64 r.x.prio, .slice r.ca r.cl r.cc, .slice r.ua r.ul r.uc] 36 (0, 0)) := (Below.heap_alloc _ _ _ (by omega)).trans HT3.out
    obtain ⟨y0, y1, y2, y3, y4, y5, y6⟩ := bx_seven (x := .slice r.ca r.cl r.cc) (y := .slice r.ua r.ul r.uc) hT4
    have hfn := heap_new W3 (.cells #[Value.nilFunc] 84) _ rfl
    have kf := cell1B hfn
    have ff := bx_free hfn 0
    clear hfn hT4
    gi_wp2_with (refine ⟨trivial, ?_⟩; gi_at_call 46; refine (ticksOf_in (N - 1) #[.int .i64 r.x.id, .int .i64 r.x.c, .int .i64 r.x.d, .int .i64 r.x.t, .int .i64 r.x.prio, .slice r.ca r.cl r.cc, .slice r.ua r.ul r.uc] (max f 0) (min t r.x.c) _ _ _ _ _ _ _ rfl _).mono ?_; rintro e W5 ⟨rfl, rfl⟩)
    clear y0 y1 y2 y3 y4 y5 y6 kf ff
    have nA : ((((W3.alloc (.cells #[(.func (.func 45) #[] #[.pointer (some ⟨b, 0, none⟩)])] 84)).alloc (.cells #[.int .i64 r.x.id, .int .i64 r.x.c, .int .i64 r.x.d, .int .i64 r.x.t, .int .i64 r.x.prio, .slice r.ca r.cl r.cc, .slice r.ua r.ul r.uc] 36)).alloc (.cells #[.int .i64 (max f 0)] 2)).alloc (.cells #[.int .i64 (min t r.x.c)] 2)).heap[b]? = some (.cells (rowc (iw (ofN []))) 32 (0, 0)) := by
      rw [Below.heap_alloc _ _ _ (by simp; omega), Below.heap_alloc _ _ _ (by simp; omega), Below.heap_alloc _ _ _ (by simp; omega), Below.heap_alloc _ _ _ (by omega)]; exact HA3.out
    have nR : ((((W3.alloc (.cells #[(.func (.func 45) #[] #[.pointer (some ⟨b, 0, none⟩)])] 84)).alloc (.cells #[.int .i64 r.x.id, .int .i64 r.x.c, .int .i64 r.x.d, .int .i64 r.x.t, .int .i64 r.x.prio, .slice r.ca r.cl r.cc, .slice r.ua r.ul r.uc] 36)).alloc (.cells #[.int .i64 (max f 0)] 2)).alloc (.cells #[.int .i64 (min t r.x.c)] 2)).heap[(w.heap.size + 1)]? = some (.cells (rowc (iw noneW)) 32 (0, 0)) := by
      rw [Below.heap_alloc _ _ _ (by simp; omega), Below.heap_alloc _ _ _ (by simp; omega), Below.heap_alloc _ _ _ (by simp; omega), Below.heap_alloc _ _ _ (by omega)]; exact HB3.out
    have nF : ((((W3.alloc (.cells #[(.func (.func 45) #[] #[.pointer (some ⟨b, 0, none⟩)])] 84)).alloc (.cells #[.int .i64 r.x.id, .int .i64 r.x.c, .int .i64 r.x.d, .int .i64 r.x.t, .int .i64 r.x.prio, .slice r.ca r.cl r.cc, .slice r.ua r.ul r.uc] 36)).alloc (.cells #[.int .i64 (max f 0)] 2)).alloc (.cells #[.int .i64 (min t r.x.c)] 2)).heap[W3.heap.size]? = some (.cells #[(.func (.func 45) #[] #[.pointer (some ⟨b, 0, none⟩)])] 84 (0, 0)) := by
      rw [Below.heap_alloc _ _ _ (by simp; omega), Below.heap_alloc _ _ _ (by simp; omega), Below.heap_alloc _ _ _ (by simp)]; exact heap_new _ _ _ rfl
    have nK : ((((W3.alloc (.cells #[(.func (.func 45) #[] #[.pointer (some ⟨b, 0, none⟩)])] 84)).alloc (.cells #[.int .i64 r.x.id, .int .i64 r.x.c, .int .i64 r.x.d, .int .i64 r.x.t, .int .i64 r.x.prio, .slice r.ca r.cl r.cc, .slice r.ua r.ul r.uc] 36)).alloc (.cells #[.int .i64 (max f 0)] 2)).alloc (.cells #[.int .i64 (min t r.x.c)] 2)).heap[W3.heap.size + 1]? = some (.cells #[.int .i64 r.x.id, .int .i64 r.x.c, .int .i64 r.x.d, .int .i64 r.x.t, .int .i64 r.x.prio, .slice r.ca r.cl r.cc, .slice r.ua r.ul r.uc] 36 (0, 0)) := by
      rw [Below.heap_alloc _ _ _ (by simp), Below.heap_alloc _ _ _ (by simp)]; exact heap_new _ _ _ (by simp)
    have nG : ((((W3.alloc (.cells #[(.func (.func 45) #[] #[.pointer (some ⟨b, 0, none⟩)])] 84)).alloc (.cells #[.int .i64 r.x.id, .int .i64 r.x.c, .int .i64 r.x.d, .int .i64 r.x.t, .int .i64 r.x.prio, .slice r.ca r.cl r.cc, .slice r.ua r.ul r.uc] 36)).alloc (.cells #[.int .i64 (max f 0)] 2)).alloc (.cells #[.int .i64 (min t r.x.c)] 2)).heap[W3.heap.size + 1 + 1]? = some (.cells #[.int .i64 (max f 0)] 2 (0, 0)) := by
      rw [Below.heap_alloc _ _ _ (by simp)]; exact heap_new _ _ _ (by simp)
    have nU : ((((W3.alloc (.cells #[(.func (.func 45) #[] #[.pointer (some ⟨b, 0, none⟩)])] 84)).alloc (.cells #[.int .i64 r.x.id, .int .i64 r.x.c, .int .i64 r.x.d, .int .i64 r.x.t, .int .i64 r.x.prio, .slice r.ca r.cl r.cc, .slice r.ua r.ul r.uc] 36)).alloc (.cells #[.int .i64 (max f 0)] 2)).alloc (.cells #[.int .i64 (min t r.x.c)] 2)).heap[W3.heap.size + 1 + 1 + 1]? = some (.cells #[.int .i64 (min t r.x.c)] 2 (0, 0)) := heap_new _ _ _ (by simp)
    have hwL : Below w.heap.size w ((((W3.alloc (.cells #[(.func (.func 45) #[] #[.pointer (some ⟨b, 0, none⟩)])] 84)).alloc (.cells #[.int .i64 r.x.id, .int .i64 r.x.c, .int .i64 r.x.d, .int .i64 r.x.t, .int .i64 r.x.prio, .slice r.ca r.cl r.cc, .slice r.ua r.ul r.uc] 36)).alloc (.cells #[.int .i64 (max f 0)] 2)).alloc (.cells #[.int .i64 (min t r.x.c)] 2)) := (((HW3.out.alloc HW3.out.size _).alloc (by have := HW3.out.size; simp; omega) _).alloc (by have := HW3.out.size; simp; omega) _).alloc (by have := HW3.out.size; simp; omega) _
    have hsL : ((((W3.alloc (.cells #[(.func (.func 45) #[] #[.pointer (some ⟨b, 0, none⟩)])] 84)).alloc (.cells #[.int .i64 r.x.id, .int .i64 r.x.c, .int .i64 r.x.d, .int .i64 r.x.t, .int .i64 r.x.prio, .slice r.ca r.cl r.cc, .slice r.ua r.ul r.uc] 36)).alloc (.cells #[.int .i64 (max f 0)] 2)).alloc (.cells #[.int .i64 (min t r.x.c)] 2)).heap.size = W3.heap.size + 4 := by simp
    clear HA3 HB3 HT3 HW3
    generalize ((((W3.alloc (.cells #[(.func (.func 45) #[] #[.pointer (some ⟨b, 0, none⟩)])] 84)).alloc (.cells #[.int .i64 r.x.id, .int .i64 r.x.c, .int .i64 r.x.d, .int .i64 r.x.t, .int .i64 r.x.prio, .slice r.ca r.cl r.cc, .slice r.ua r.ul r.uc] 36)).alloc (.cells #[.int .i64 (max f 0)] 2)).alloc (.cells #[.int .i64 (min t r.x.c)] 2)) = wL at *
    have HI : Hid (PutI w.heap.size b W3.heap.size wL.heap.size (.func (.func 45) #[] #[.pointer (some ⟨b, 0, none⟩)]) w [] wL) := ⟨nA, nR, nF, hwL, Nat.le_refl _⟩
    have hS : SeenB w.heap.size (W3.heap.size + 1 + 1 + 1) (W3.heap.size + 1 + 1) (W3.heap.size + 1) r (max f 0) (min t r.x.c) wL := ⟨nU, nG, nK, fun w' h => HR.out.below (hwL.trans h) (Nat.le_refl _)⟩
    have HWL := Lib.hid hwL
    have hxs : Hid (rr = tickL r.x.use (max f 0) (min (min t r.x.c) (max f 0 + r.ul) - max f 0).toNat) := by
      rw [RowKit.Hid, HRR.out, putL, if_pos HM.out, hul]
    clear nA nR nF nU nG nK hwL
    have hzs : w.heap.size + 3 ≤ W3.heap.size := by omega
    refine wpIn_rangeFunc_all (w0 := wL) rfl h1 (gf := 51) (lb := #[.pointer (some ⟨W3.heap.size + 1 + 1 + 1, 0, none⟩), .pointer (some ⟨W3.heap.size + 1 + 1, 0, none⟩), .pointer (some ⟨W3.heap.size + 1, 0, none⟩)]) rfl trivial (enters_of Try.func51 (by kernel_rfl) rfl)
      (ticks_all (N - 1) (by omega) w.heap.size _ _ _ r (max f 0) (min t r.x.c) (by omega) (by omega) (by omega) (by omega) (by omega) wL hS (by omega) (by omega) (by omega) (by omega) (by omega) (by omega) (by omega)) (by omega)
      KpB.trans (KpB.put (by omega) (by omega) (by omega) (by omega)) (Below.refl _ _) (fun _ => rfl)
      (PutI w.heap.size b W3.heap.size wL.heap.size (.func (.func 45) #[] #[.pointer (some ⟨b, 0, none⟩)]) w) (putI_own _ _ _ _ _ _ _ (by omega) (Nat.le_refl _)) (putI_set (by omega) (by omega) (by omega) (by omega)) HI.out
      (fun x => { tmps := #[.agg #[.int .i64 r.x.id, .int .i64 r.x.c, .int .i64 r.x.d, .int .i64 r.x.t, .int .i64 r.x.prio, .slice r.ca r.cl r.cc, .slice r.ua r.ul r.uc], .int .i64 f, .int .i64 t, .pointer (some ⟨w.heap.size, 0, none⟩), undef, undef, .pointer (some ⟨w.heap.size + 1, 0, none⟩), .pointer (some ⟨b, 0, none⟩), .pointer (some ⟨W3.heap.size, 0, none⟩), .int .i64 x, .agg #[.int .u64 (ofN [] 0 : Int), .int .u64 (ofN [] 1 : Int), .int .u64 (ofN [] 2 : Int), .int .u64 (ofN [] 3 : Int)], .agg #[.int .i64 r.x.id, .int .i64 r.x.c, .int .i64 r.x.d, .int .i64 r.x.t, .int .i64 r.x.prio, .slice r.ca r.cl r.cc, .slice r.ua r.ul r.uc], .bool true, .bool false, undef, (.func (.func 45) #[] #[.pointer (some ⟨b, 0, none⟩)]), .agg #[.int .i64 r.x.id, .int .i64 r.x.c, .int .i64 r.x.d, .int .i64 r.x.t, .int .i64 r.x.prio, .slice r.ca r.cl r.cc, .slice r.ua r.ul r.uc], .int .i64 f, .int .i64 (max f 0), .int .i64 t, .pointer (some ⟨w.heap.size, 1, none⟩), .int .i64 r.x.c, .int .i64 (min t r.x.c), .func (.func 51) #[] #[.pointer (some ⟨W3.heap.size + 1 + 1 + 1, 0, none⟩), .pointer (some ⟨W3.heap.size + 1 + 1, 0, none⟩), .pointer (some ⟨W3.heap.size + 1, 0, none⟩)], .int .i64 x, undef, undef, undef, undef], defers := [] }) ?assign ?body ?done
    case assign =>
      intro l x W K hK
      gi_wp2
      exact hK
    case body =>
      rintro l1 pre x W ⟨hA, hR, hF, hB, hZ⟩ _
      have cF := cell1B hF
      have HPut := Lib.hid (put1_any x b (ofN pre) (Ws.ofN _) W hA)
      have hsn : Hid (withW (ofN pre) x = ofN (pre ++ [x])) := (ofN_snoc _ _).symm
      rw [hsn.out] at HPut
      have HA := Lib.hid hA
      have HR2 := Lib.hid hR
      have HF := Lib.hid hF
      have HB2 := Lib.hid hB
      have HZ := Lib.hid hZ
      have hZ4 : W3.heap.size + 4 ≤ wL.heap.size := by omega
      clear hA hR hF hB hZ HI hS hsL
      generalize wL.heap.size = Z at *
      gi_wp2_with fail
      refine ⟨trivial, (fun h => by cases h), ?_⟩
      refine (CallsIn.inRound l1 (callsIn_wide.2 HPut.out)).mono ?_
      rintro e W9 ⟨⟨v, rfl⟩, hb9, hO9⟩
      have hz := HZ.out
      have HQ : Hid (KeepsFrom Z W W9 ∧ KpB w.heap.size (W3.heap.size + 1 + 1 + 1) (W3.heap.size + 1 + 1) (W3.heap.size + 1) W W9 ∧ PutI w.heap.size b W3.heap.size Z (.func (.func 45) #[] #[.pointer (some ⟨b, 0, none⟩)]) w (pre ++ [x]) W9) :=
        ⟨hO9.keeps HA.out, hO9.kpb (by omega) (by have := HB2.out.size; omega) (by omega) (by omega) (by omega) (by omega) (by omega) (by omega), hb9, (hO9.block _ (by omega) (by omega)).trans HR2.out, (hO9.block _ (by omega) (by omega)).trans HF.out, HB2.out.trans (hO9.below (by omega) HB2.out.size), Nat.le_trans HZ.out hO9.size⟩
      clear cF HPut hb9 hO9 hz
      gi_wp2
      exact HQ.out
    case done =>
      rintro D W hD ⟨hA, hR, hF, hB, hZ⟩ hK
      rw [← hxs.out] at hA
      have HK := Lib.hid hK
      have HD := Lib.hid hD
      have HA := Lib.hid hA
      have HR2 := Lib.hid hR
      have HB2 := Lib.hid hB
      clear hA hR hF hB hZ HI hS hK hD hxs
      have HRR2 := HRR
      clear HRR
      obtain ⟨a0, a1, a2, a3⟩ := c4 (HA.out)
      generalize hY : ofN rr = Y at *
      have k0 := frozen_row (HR2.out) 0
      have k1 := frozen_row (HR2.out) 1
      have k2 := frozen_row (HR2.out) 2
      have k3 := frozen_row (HR2.out) 3
      obtain ⟨e0, e1, e2, e3⟩ := c4 (HR2.out)
      have hw := set4 (HR2.out) (iw Y)
      have hbw := (below_set (below_set (below_set (below_set HB2.out (w.heap.size + 1) (by omega) 0 (.int .u64 (Y 0 : Int))) (w.heap.size + 1) (by omega) 1 (.int .u64 (Y 1 : Int))) (w.heap.size + 1) (by omega) 2 (.int .u64 (Y 2 : Int))) (w.heap.size + 1) (by omega) 3 (.int .u64 (Y 3 : Int)))
      simp only [iw] at hw
      have hkd : ((((W.setCell ⟨w.heap.size + 1, 0, none⟩ (.int .u64 (Y 0 : Int))).setCell ⟨w.heap.size + 1, 1, none⟩ (.int .u64 (Y 1 : Int))).setCell ⟨w.heap.size + 1, 2, none⟩ (.int .u64 (Y 2 : Int))).setCell ⟨w.heap.size + 1, 3, none⟩ (.int .u64 (Y 3 : Int))).heap[D]? = some (.deferred (some [])) := (set4_other W (w.heap.size + 1) D (by have := HD.out; omega) _ _ _ _).trans HK.out
      generalize hW9 : ((((W.setCell ⟨w.heap.size + 1, 0, none⟩ (.int .u64 (Y 0 : Int))).setCell ⟨w.heap.size + 1, 1, none⟩ (.int .u64 (Y 1 : Int))).setCell ⟨w.heap.size + 1, 2, none⟩ (.int .u64 (Y 2 : Int))).setCell ⟨w.heap.size + 1, 3, none⟩ (.int .u64 (Y 3 : Int))) = W9 at *
      have HKD := Lib.hid hkd
      clear hkd
      have HBW := Lib.hid hbw
      have HW9 : Hid (W9.heap[(w.heap.size + 1)]? = some (.cells (rowc (iw Y)) 32 (0, 0))) := hw
      clear hw hbw
      gi_wp2
      have hb9 : Below (w.heap.size + 2) W9 (W9.putObj D (.deferred none)) := (Below.refl _ W9).grown (grownBy_putObj' W9 D _) (Nat.succ_le_of_lt (lt4 HW9.out)) (fun k e => by cases e; have := HD.out; omega)
      obtain ⟨q0, q1, q2, q3⟩ := c4 (old4 HW9.out hb9 (by omega))
      refine ⟨by simp, .inl ⟨_, _, rfl, run_takeDeferred HKD.out, ?_⟩⟩
      refine ⟨bv (iw Y), ?_, by rw [hY], HBW.out.trans (hb9.mono (by omega))⟩
      simp [bv, rowc, iw, results, Try.results25, go_sem, q0, q1, q2, q3]
theorem put_any (r : RT) (f t : Int) (hf : f ≤ 4611686018427387904) (w : World) (hr : r.Rd w) :
    Calls Try.prog 25 #[.agg #[.int .i64 r.x.id, .int .i64 r.x.c, .int .i64 r.x.d, .int .i64 r.x.t, .int .i64 r.x.prio, .slice r.ca r.cl r.cc, .slice r.ua r.ul r.uc], .int .i64 f, .int .i64 t] w fun e W' => e = .returned (bv (iw (ofN (putL r.x f t)))) ∧ Below w.heap.size w W' :=
  callsIn_wide.1 (put_in 3 (Nat.le_refl _) r f t hf w hr)
end Go.Proofs.Ytdmfdgadhobkpaa.Blk
