/-
  Package post's Put and Take, where the select is come to: by steps of the machine of one goroutine.
-/
import Derived.Test.YtmobimkbfmgciaaProg
import Derived.WalkKit
import Derived.WalkSpells
import Derived.KernelRfl
import Derived.Conc.LoneCalls
import Derived.Conc.LoneSelect
import Derived.Laws.Rows
namespace Go.Proofs.Ytmobimkbfmgciaa.Post
open Go.Conc Go.RowKit

def askV (t d : Int) : Value := .agg #[.int .i64 t, .int .i64 d]
theorem heap_setChan_ne (w : World) (c k cap : Nat) (buf : Array Value) (cl : Bool) (s r : Nat) (tm : Bool) (h : c ≠ k) : (w.setChan c cap buf cl s r tm).heap[k]? = w.heap[k]? := by
  simp [World.setChan, Array.getElem?_setIfInBounds_ne h]
theorem cell_setChan_ne (w : World) (c : Nat) (p : Addr) (cap : Nat) (buf : Array Value) (cl : Bool) (s r : Nat) (tm : Bool) (h : c ≠ p.block) : (w.setChan c cap buf cl s r tm).cell? p = w.cell? p :=
  World.cell?_of_block (heap_setChan_ne w c p.block cap buf cl s r tm h)
theorem frozen_setChan_ne (w : World) (c : Nat) (p : Addr) (cap : Nat) (buf : Array Value) (cl : Bool) (s r : Nat) (tm : Bool) (h : c ≠ p.block) : (w.setChan c cap buf cl s r tm).frozen? p = w.frozen? p :=
  World.frozen?_of_block (heap_setChan_ne w c p.block cap buf cl s r tm h)

set_option maxRecDepth 100000 in
set_option maxHeartbeats 2000000 in
theorem put_room (bp ch cap : Nat) (q : Array Value) (s r : Nat) (t d : Int) (w : World) (h0 : w.cell? ⟨bp, 0, none⟩ = some (.chan (some ch))) (h1 : w.cell? ⟨bp, 1, none⟩ = some (.bool false))
    (hc : w.heap[ch]? = some (.chan cap q false s r false)) (hroom : q.size < cap) :
    Calls Try.prog 11 #[.pointer (some ⟨bp, 0, none⟩), askV t d] w fun e w' => e = .returned (.bool true) ∧
      w' = (w.alloc (.cells #[.int .i64 t, .int .i64 d] 28)).setChan ch cap (q.push (askV t d)) false (s + 1) r false := by
  unfold askV
  refine calls_of_loneTo fun cs => ?_
  have e : Frame.enter Try.prog 11 #[.pointer (some ⟨bp, 0, none⟩), .agg #[.int .i64 t, .int .i64 d]] .normal = (base 11).at ⟨#[.pointer (some ⟨bp, 0, none⟩), .agg #[.int .i64 t, .int .i64 d], undef, undef, undef, undef, undef, undef, undef, undef, undef, undef, undef, undef, undef, undef], []⟩ [.code (Try.f11.body.getD .skip)] := by
    simp [Frame.enter, Frame.at, Try.func11, base, Try.f11]
  rw [e]
  have lt0 := World.block_lt_of_cell? w _ h0
  have k0 : (w.alloc (.cells #[.int .i64 t, .int .i64 d] 28)).cell? ⟨bp, 0, none⟩ = some (.chan (some ch)) := by rw [World.cell?_alloc_past _ _ _ lt0]; exact h0
  have k1 : (w.alloc (.cells #[.int .i64 t, .int .i64 d] 28)).cell? ⟨bp, 1, none⟩ = some (.bool false) := by rw [World.cell?_alloc_past _ _ _ lt0]; exact h1
  have kc : (w.alloc (.cells #[.int .i64 t, .int .i64 d] 28)).heap[ch]? = some (.chan cap q false s r false) := by
    rw [Below.heap_alloc _ _ _ (by exact (Array.getElem?_eq_some_iff.1 hc).1)]; exact hc
  refine LoneTo.goes (n := 50) ?_
  simp only [Try.f11, Option.getD_some]
  s_c stepG_seq
  s_reg
  s_op
  s_op
  s_c stepG_region_end
  s_c stepG_seq
  s_c stepG_seq
  s_reg
  s_op
  s_call Try.func19 (by kernel_rfl) Try.f19
  s_c stepG_seq
  s_reg
  s_op
  s_c stepG_region_end
  s_c stepG_seq
  s_reg
  s_op
  s_op
  s_op
  s_op
  s_op
  s_op
  s_op
  s_op
  s_op
  s_op
  s_c stepG_region_end
  s_c stepG_ret'
  s_leave1 Try.func19
  s_op
  s_c stepG_region_end
  s_cond false
  s_c stepG_skip
  s_c stepG_seq
  s_c stepG_seq
  s_reg
  s_op
  s_op
  s_op
  s_op
  s_c stepG_region_end
  s_reg
  s_op
  s_c stepG_region_end
  s_c stepG_seq
  s_reg
  s_stop
  refine LoneTo.step (step_lone_select_send_room (c := ch) (v := .agg #[.int .i64 t, .int .i64 d]) (z' := .agg #[.int .i64 0, .int .i64 0]) (cap := cap) (buf := q) (s := s) (r := r) (tm := false)
    (stepG_comm (cases := #[scase ch (.agg #[.int .i64 t, .int .i64 d]) (.agg #[.int .i64 0, .int .i64 0])]) (blocking := false) (shape := .select) (w' := w.alloc (.cells #[.int .i64 t, .int .i64 d] 28)) rfl rfl (by decide) (by simp [go_sem, execOp, scase, Act.eval]))
    kc hroom) ?_
  rw [Frame.finish_at]
  walk_nrm
  refine LoneTo.goes (n := 14) ?_
  s_op
  s_op
  s_c stepG_region_end
  s_c stepG_block
  s_cond true
  s_c stepG_seq
  s_reg
  s_op
  s_c stepG_region_end
  s_c stepG_ret'
  s_stop
  exact LoneTo.done ⟨.returned (.bool true), _, rfl, ⟨rfl, rfl⟩, rfl, rfl, rfl, rfl, _, Try.func11, by simp [results, Try.f11, Frame.at]⟩

set_option maxRecDepth 100000 in
set_option maxHeartbeats 2000000 in
theorem put_full (bp ch cap : Nat) (q : Array Value) (s r : Nat) (t d : Int) (w : World) (h0 : w.cell? ⟨bp, 0, none⟩ = some (.chan (some ch))) (h1 : w.cell? ⟨bp, 1, none⟩ = some (.bool false))
    (hc : w.heap[ch]? = some (.chan cap q false s r false)) (hfull : cap ≤ q.size) :
    Calls Try.prog 11 #[.pointer (some ⟨bp, 0, none⟩), askV t d] w fun e w' => e = .returned (.bool false) ∧
      w' = w.alloc (.cells #[.int .i64 t, .int .i64 d] 28) := by
  unfold askV
  refine calls_of_loneTo fun cs => ?_
  have e : Frame.enter Try.prog 11 #[.pointer (some ⟨bp, 0, none⟩), .agg #[.int .i64 t, .int .i64 d]] .normal = (base 11).at ⟨#[.pointer (some ⟨bp, 0, none⟩), .agg #[.int .i64 t, .int .i64 d], undef, undef, undef, undef, undef, undef, undef, undef, undef, undef, undef, undef, undef, undef], []⟩ [.code (Try.f11.body.getD .skip)] := by
    simp [Frame.enter, Frame.at, Try.func11, base, Try.f11]
  rw [e]
  have lt0 := World.block_lt_of_cell? w _ h0
  have k0 : (w.alloc (.cells #[.int .i64 t, .int .i64 d] 28)).cell? ⟨bp, 0, none⟩ = some (.chan (some ch)) := by rw [World.cell?_alloc_past _ _ _ lt0]; exact h0
  have k1 : (w.alloc (.cells #[.int .i64 t, .int .i64 d] 28)).cell? ⟨bp, 1, none⟩ = some (.bool false) := by rw [World.cell?_alloc_past _ _ _ lt0]; exact h1
  have kc : (w.alloc (.cells #[.int .i64 t, .int .i64 d] 28)).heap[ch]? = some (.chan cap q false s r false) := by
    rw [Below.heap_alloc _ _ _ (by exact (Array.getElem?_eq_some_iff.1 hc).1)]; exact hc
  refine LoneTo.goes (n := 50) ?_
  simp only [Try.f11, Option.getD_some]
  s_c stepG_seq
  s_reg
  s_op
  s_op
  s_c stepG_region_end
  s_c stepG_seq
  s_c stepG_seq
  s_reg
  s_op
  s_call Try.func19 (by kernel_rfl) Try.f19
  s_c stepG_seq
  s_reg
  s_op
  s_c stepG_region_end
  s_c stepG_seq
  s_reg
  s_op
  s_op
  s_op
  s_op
  s_op
  s_op
  s_op
  s_op
  s_op
  s_op
  s_c stepG_region_end
  s_c stepG_ret'
  s_leave1 Try.func19
  s_op
  s_c stepG_region_end
  s_cond false
  s_c stepG_skip
  s_c stepG_seq
  s_c stepG_seq
  s_reg
  s_op
  s_op
  s_op
  s_op
  s_c stepG_region_end
  s_reg
  s_op
  s_c stepG_region_end
  s_c stepG_seq
  s_reg
  s_stop
  refine LoneTo.step (step_lone_select_send_full (c := ch) (v := .agg #[.int .i64 t, .int .i64 d]) (z' := .agg #[.int .i64 0, .int .i64 0]) (cap := cap) (buf := q) (s := s) (r := r) (tm := false)
    (stepG_comm (cases := #[scase ch (.agg #[.int .i64 t, .int .i64 d]) (.agg #[.int .i64 0, .int .i64 0])]) (blocking := false) (shape := .select) (w' := w.alloc (.cells #[.int .i64 t, .int .i64 d] 28)) rfl rfl (by decide) (by simp [go_sem, execOp, scase, Act.eval]))
    kc hfull) ?_
  rw [Frame.finish_at]
  walk_nrm
  refine LoneTo.goes (n := 14) ?_
  s_op
  s_op
  s_c stepG_region_end
  s_c stepG_block
  s_cond false
  s_c stepG_seq
  s_reg
  s_op
  s_c stepG_region_end
  s_c stepG_ret'
  s_stop
  exact LoneTo.done ⟨.returned (.bool false), _, rfl, ⟨rfl, rfl⟩, rfl, rfl, rfl, rfl, _, Try.func11, by simp [results, Try.f11, Frame.at]⟩

set_option maxRecDepth 100000 in
set_option maxHeartbeats 4000000 in
theorem take_none (bp ch cap : Nat) (s r : Nat) (w : World) (h0 : w.cell? ⟨bp, 0, none⟩ = some (.chan (some ch)))
    (hc : w.heap[ch]? = some (.chan cap #[] false s r false))  :
    Calls Try.prog 14 #[.pointer (some ⟨bp, 0, none⟩)] w fun e w' => e = .returned (.tuple #[askV 0 0, .bool false]) ∧ w' = w.alloc (.cells #[.int .i64 0, .int .i64 0] 28) := by
  unfold askV at *
  refine calls_of_loneTo fun cs => ?_
  have e : Frame.enter Try.prog 14 #[.pointer (some ⟨bp, 0, none⟩)] .normal = (base 14).at ⟨#[.pointer (some ⟨bp, 0, none⟩), undef, undef, undef, undef, undef, undef, undef, undef, undef, undef, undef, undef, undef, undef, undef, undef, undef], []⟩ [.code (Try.f14.body.getD .skip)] := by
    simp [Frame.enter, Frame.at, Try.func14, base, Try.f14]
  rw [e]
  have lt0 := World.block_lt_of_cell? w _ h0
  have k0 : (w.alloc (.cells #[.int .i64 0, .int .i64 0] 28)).cell? ⟨bp, 0, none⟩ = some (.chan (some ch)) := by rw [World.cell?_alloc_past _ _ _ lt0]; exact h0
  have kc : (w.alloc (.cells #[.int .i64 0, .int .i64 0] 28)).heap[ch]? = some (.chan cap #[] false s r false) := by
    rw [Below.heap_alloc _ _ _ (by exact (Array.getElem?_eq_some_iff.1 hc).1)]; exact hc
  refine LoneTo.goes (n := 26) ?_
  simp only [Try.f14, Option.getD_some]
  s_c stepG_seq
  s_reg
  s_op
  s_op
  s_c stepG_region_end
  s_c stepG_seq
  s_c stepG_seq
  s_reg
  s_op
  s_op
  s_c stepG_region_end
  s_cond false
  s_c stepG_skip
  s_c stepG_seq
  s_reg
  s_op
  s_op
  s_op
  s_op
  s_c stepG_region_end
  s_c stepG_seq
  s_reg
  s_stop
  refine LoneTo.step (step_lone_select_default (c := ch) (z := .agg #[.int .i64 0, .int .i64 0]) (cap := cap) (s := s) (r := r) (tm := false)
    (stepG_comm (cases := #[rcase ch (.agg #[.int .i64 0, .int .i64 0])]) (blocking := false) (shape := .select) (w' := w.alloc (.cells #[.int .i64 0, .int .i64 0] 28)) rfl rfl (by decide) (by simp [go_sem, execOp, rcase, Act.eval]))
    kc) ?_
  rw [Frame.finish_at]

  walk_nrm
  refine LoneTo.goes (n := 16) ?_
  s_op
  s_op
  s_c stepG_region_end
  s_c stepG_block
  s_cond false
  s_c stepG_seq
  s_reg
  s_op
  s_op
  s_op
  s_c stepG_region_end
  s_c stepG_ret'
  s_stop
  exact LoneTo.done ⟨.returned (.tuple #[.agg #[.int .i64 0, .int .i64 0], .bool false]), _, rfl, ⟨rfl, rfl⟩, rfl, rfl, rfl, rfl, _, Try.func14, by simp [results, Try.f14, Frame.at, go_sem]⟩

set_option maxRecDepth 100000 in
set_option maxHeartbeats 4000000 in
theorem take_some (bp ch cap : Nat) (q : Array Value) (s r : Nat) (w : World) (h0 : w.cell? ⟨bp, 0, none⟩ = some (.chan (some ch)))
    (hc : w.heap[ch]? = some (.chan cap q false s r false)) (t d : Int) (hs : 0 < q.size) (hq : q.getD 0 undef = askV t d) :
    Calls Try.prog 14 #[.pointer (some ⟨bp, 0, none⟩)] w fun e w' => e = .returned (.tuple #[askV t d, .bool true]) ∧ w' = (((((w.alloc (.cells #[.int .i64 0, .int .i64 0] 28)).setChan ch cap (q.extract 1 q.size) false s (r + 1) false).alloc (.cells #[.int .i64 t, .int .i64 d] 28))).setCell ⟨w.heap.size, 0, none⟩ (.int .i64 t)).setCell ⟨w.heap.size, 1, none⟩ (.int .i64 d) := by
  unfold askV at *
  refine calls_of_loneTo fun cs => ?_
  have e : Frame.enter Try.prog 14 #[.pointer (some ⟨bp, 0, none⟩)] .normal = (base 14).at ⟨#[.pointer (some ⟨bp, 0, none⟩), undef, undef, undef, undef, undef, undef, undef, undef, undef, undef, undef, undef, undef, undef, undef, undef, undef], []⟩ [.code (Try.f14.body.getD .skip)] := by
    simp [Frame.enter, Frame.at, Try.func14, base, Try.f14]
  rw [e]
  have lt0 := World.block_lt_of_cell? w _ h0
  have k0 : (w.alloc (.cells #[.int .i64 0, .int .i64 0] 28)).cell? ⟨bp, 0, none⟩ = some (.chan (some ch)) := by rw [World.cell?_alloc_past _ _ _ lt0]; exact h0
  have kc : (w.alloc (.cells #[.int .i64 0, .int .i64 0] 28)).heap[ch]? = some (.chan cap q false s r false) := by
    rw [Below.heap_alloc _ _ _ (by exact (Array.getElem?_eq_some_iff.1 hc).1)]; exact hc
  refine LoneTo.goes (n := 26) ?_
  simp only [Try.f14, Option.getD_some]
  s_c stepG_seq
  s_reg
  s_op
  s_op
  s_c stepG_region_end
  s_c stepG_seq
  s_c stepG_seq
  s_reg
  s_op
  s_op
  s_c stepG_region_end
  s_cond false
  s_c stepG_skip
  s_c stepG_seq
  s_reg
  s_op
  s_op
  s_op
  s_op
  s_c stepG_region_end
  s_c stepG_seq
  s_reg
  s_stop
  refine LoneTo.step (step_lone_select_recv_buf (c := ch) (z := .agg #[.int .i64 0, .int .i64 0]) (cap := cap) (buf := q) (closed := false) (s := s) (r := r) (tm := false)
    (stepG_comm (cases := #[rcase ch (.agg #[.int .i64 0, .int .i64 0])]) (blocking := false) (shape := .select) (w' := w.alloc (.cells #[.int .i64 0, .int .i64 0] 28)) rfl rfl (by decide) (by simp [go_sem, execOp, rcase, Act.eval]))
    kc hs) ?_
  rw [Frame.finish_at]
  rw [hq]
  have hlt : ch < w.heap.size := (Array.getElem?_eq_some_iff.1 hc).1
  have z0 : ((w.alloc (.cells #[.int .i64 0, .int .i64 0] 28)).setChan ch cap (q.extract 1 q.size) false s (r + 1) false).cell? ⟨w.heap.size, 0, none⟩ = some (.int .i64 0) := by rw [cell_setChan_ne _ _ _ _ _ _ _ _ _ (by show ch ≠ w.heap.size; omega), World.cell?_alloc_at _ _ _ _ rfl]; rfl
  have z1 : ((w.alloc (.cells #[.int .i64 0, .int .i64 0] 28)).setChan ch cap (q.extract 1 q.size) false s (r + 1) false).cell? ⟨w.heap.size, 1, none⟩ = some (.int .i64 0) := by rw [cell_setChan_ne _ _ _ _ _ _ _ _ _ (by show ch ≠ w.heap.size; omega), World.cell?_alloc_at _ _ _ _ rfl]; rfl
  have z2 : ((w.alloc (.cells #[.int .i64 0, .int .i64 0] 28)).setChan ch cap (q.extract 1 q.size) false s (r + 1) false).frozen? ⟨w.heap.size, 0, none⟩ = false := by rw [frozen_setChan_ne _ _ _ _ _ _ _ _ _ (by show ch ≠ w.heap.size; omega), World.frozen?_alloc_at _ _ _ _ rfl]
  have z3 : ((w.alloc (.cells #[.int .i64 0, .int .i64 0] 28)).setChan ch cap (q.extract 1 q.size) false s (r + 1) false).frozen? ⟨w.heap.size, 1, none⟩ = false := by rw [frozen_setChan_ne _ _ _ _ _ _ _ _ _ (by show ch ≠ w.heap.size; omega), World.frozen?_alloc_at _ _ _ _ rfl]
  have zs : ((w.alloc (.cells #[.int .i64 0, .int .i64 0] 28)).setChan ch cap (q.extract 1 q.size) false s (r + 1) false).heap.size = w.heap.size + 1 := by rw [size_setChan]; simp
  generalize (w.alloc (.cells #[.int .i64 0, .int .i64 0] 28)).setChan ch cap (q.extract 1 q.size) false s (r + 1) false = W1 at *
  have y0 : (W1.alloc (.cells #[.int .i64 t, .int .i64 d] 28)).cell? ⟨w.heap.size, 0, none⟩ = some (.int .i64 0) := by rw [World.cell?_alloc_past _ _ _ (by rw [zs]; omega)]; exact z0
  have y1 : (W1.alloc (.cells #[.int .i64 t, .int .i64 d] 28)).cell? ⟨w.heap.size, 1, none⟩ = some (.int .i64 0) := by rw [World.cell?_alloc_past _ _ _ (by rw [zs]; omega)]; exact z1
  have y2 : (W1.alloc (.cells #[.int .i64 t, .int .i64 d] 28)).frozen? ⟨w.heap.size, 0, none⟩ = false := by rw [World.frozen?_alloc_past _ _ _ (by rw [zs]; omega)]; exact z2
  have y3 : (W1.alloc (.cells #[.int .i64 t, .int .i64 d] 28)).frozen? ⟨w.heap.size, 1, none⟩ = false := by rw [World.frozen?_alloc_past _ _ _ (by rw [zs]; omega)]; exact z3
  clear z0 z1 z2 z3 zs
  walk_nrm
  refine LoneTo.goes (n := 22) ?_
  s_op
  s_op
  s_c stepG_region_end
  s_c stepG_block
  s_cond true
  s_c stepG_seq
  s_reg
  s_op
  s_op
  s_op
  s_c stepG_region_end
  s_c stepG_seq
  s_reg
  s_op
  s_op
  s_op
  s_c stepG_region_end
  s_c stepG_ret'
  s_stop
  have x0 : (((W1.alloc (.cells #[.int .i64 t, .int .i64 d] 28)).setCell ⟨w.heap.size, 0, none⟩ (.int .i64 t)).setCell ⟨w.heap.size, 1, none⟩ (.int .i64 d)).cell? ⟨w.heap.size, 0, none⟩ = some (.int .i64 t) := by
    rw [World.cell?_setCell_other _ _ _ _ (by simp)]
    exact World.cell?_setCell_same _ _ _ y0
  have x1 : (((W1.alloc (.cells #[.int .i64 t, .int .i64 d] 28)).setCell ⟨w.heap.size, 0, none⟩ (.int .i64 t)).setCell ⟨w.heap.size, 1, none⟩ (.int .i64 d)).cell? ⟨w.heap.size, 1, none⟩ = some (.int .i64 d) :=
    World.cell?_setCell_same _ _ _ ((World.cell?_setCell_other _ _ _ _ (by simp)).trans y1)
  exact LoneTo.done ⟨.returned (.tuple #[.agg #[.int .i64 t, .int .i64 d], .bool true]), _, rfl, ⟨rfl, rfl⟩, rfl, rfl, rfl, rfl, _, Try.func14, by simp [results, Try.f14, Frame.at, go_sem, x0, x1]⟩
end Go.Proofs.Ytmobimkbfmgciaa.Post
