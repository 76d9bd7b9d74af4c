/-
  Texts of one claim, joined in build order: Cache2, Cache3.
-/
import Derived.Test.YtdmfdgadhobkpaaMg20
import Derived.RangeFuncBox
import Derived.RangeFuncNested
import Derived.RangeFuncBound
import Derived.RangeFuncCalls
import Derived.RangeFuncLeaves
import Derived.Shelf.Abstract
import Derived.Shelf.RegionOpen
import Derived.OwnWalkIn
import Derived.TacticsInMore
import Derived.LoopNIn
import Derived.LoopIn
import Derived.Maps.AppendAt
import Derived.Sort.QuietIn
/-
  Package cache: the iterator over an owner's sets.
-/
namespace Go.Proofs.Ytdmfdgadhobkpaa.Cache
open Go.RowKit Go.Shelf Go.Proofs.Ytdmfdgadhobkpaa.Bits
attribute [local go_sem] Oper.semAt_some

/-- The sets of an owner, as far as k. -/
def mine (L : List Int) (owner : Int) (k : Nat) : List Nat := (List.range k).filter fun i => L.getD i 0 == owner
theorem mine_yes (L : List Int) (owner : Int) (k : Nat) (h : (L.getD k 0 == owner) = true) : mine L owner (k + 1) = mine L owner k ++ [k] := by
  simp only [mine, List.range_succ, List.filter_append, List.filter_cons, h, List.filter_nil, if_true]
theorem mine_no (L : List Int) (owner : Int) (k : Nat) (h : (L.getD k 0 == owner) = false) : mine L owner (k + 1) = mine L owner k := by
  simp only [mine, List.range_succ, List.filter_append, List.filter_cons, h, List.filter_nil, List.append_nil, Bool.false_eq_true, if_false]
theorem mine_le (L : List Int) (owner : Int) (k : Nat) : (mine L owner k).length ≤ k := by
  have := List.length_filter_le (fun i => L.getD i 0 == owner) (List.range k)
  simpa [mine] using this
theorem mine_pre (L : List Int) (owner : Int) : ∀ {k n : Nat}, k ≤ n → mine L owner k <+: mine L owner n := by
  intro k n h
  induction n with
  | zero => obtain rfl : k = 0 := by omega
            exact List.prefix_refl _
  | succ n ih =>
    by_cases e : k = n + 1
    · subst e; exact List.prefix_refl _
    · refine (ih (by omega)).trans ?_
      cases hh : L.getD n 0 == owner with
      | true => rw [mine_yes _ _ _ hh]; exact List.prefix_append _ _
      | false => rw [mine_no _ _ _ hh]; exact List.prefix_refl _
/-- What a round keeps: all below n₀, the iterator's two boxes. -/
structure Kps (n₀ Bc Bo : Nat) (w w' : World) : Prop where
  b : Below n₀ w w'
  c : w'.heap[Bc]? = w.heap[Bc]?
  o : w'.heap[Bo]? = w.heap[Bo]?
theorem Kps.refl (n₀ Bc Bo : Nat) (w : World) : Kps n₀ Bc Bo w w := ⟨Below.refl _ _, rfl, rfl⟩
theorem Kps.trans {n₀ Bc Bo : Nat} {a b c : World} (h : Kps n₀ Bc Bo a b) (k : Kps n₀ Bc Bo b c) : Kps n₀ Bc Bo a c := ⟨h.b.trans k.b, k.c.trans h.c, k.o.trans h.o⟩
theorem Kps.drewN (n₀ Bc Bo : Nat) (w : World) (n : Nat) : Kps n₀ Bc Bo w (w.drewN n) := ⟨⟨rfl, rfl, rfl, Nat.le_refl _, fun _ _ => rfl⟩, rfl, rfl⟩
theorem Kps.put {n₀ Bc Bo : Nat} {w : World} (hn : n₀ ≤ w.heap.size) (hc : Bc < w.heap.size) (ho : Bo < w.heap.size) (W : World) (l : Nat) (o o' : Obj) (hl : w.heap.size ≤ l) (h : W.heap[l]? = some o) (h1 : o.isCells = false) (h2 : o.isWalk = false) : Kps n₀ Bc Bo W (W.putObj l o') :=
  ⟨belowK_b hn W l o o' hl h h1 h2, (grownBy_putObj' W l o').block _ (by have := (Array.getElem?_eq_some_iff.1 h).1; omega) (fun e => by cases e; omega), (grownBy_putObj' W l o').block _ (by have := (Array.getElem?_eq_some_iff.1 h).1; omega) (fun e => by cases e; omega)⟩
/-- What the iterator finds: the cache by its pointer, the owner. -/
structure Seen (n₀ Bc Bo p g : Nat) (L : List Int) (owner : Int) (w : World) : Prop where
  c : w.heap[Bc]? = some (.cells #[.pointer (some ⟨p, 0, none⟩)] 50 (0, 0))
  o : w.heap[Bo]? = some (.cells #[.int .i64 owner] 3 (0, 0))
  is : IsC w p g L
  lp : p < n₀
  lg : g < n₀
theorem Seen.below {n₀ Bc Bo p g : Nat} {L : List Int} {owner : Int} {w w' : World} (h : Seen n₀ Bc Bo p g L owner w) (hb : Kps n₀ Bc Bo w w') : Seen n₀ Bc Bo p g L owner w' :=
  ⟨hb.c.trans h.c, hb.o.trans h.o, h.is.kept (hb.b.block _ h.lp) (hb.b.block _ h.lg), h.lp, h.lg⟩
theorem cell_one {w : World} {b : Nat} {v : Value} {t : TypeId} (h : w.heap[b]? = some (.cells #[v] t (0, 0))) : w.cell? ⟨b, 0, none⟩ = some v := by simp [World.cell?, h]
theorem cast_snoc (l : List Nat) (k : Nat) : Bits.cast (l ++ [k]) = Bits.cast l ++ [(k : Int)] := by simp [Bits.cast]

set_option maxRecDepth 100000 in
set_option maxHeartbeats 4000000 in
theorem setsLit_in (n : Nat) (hn : 1 ≤ n) (l n₀ Bc Bo p g : Nat) (L : List Int) (owner : Int) (J Jx : List Int → World → Prop) (W : World) (hJ : AbidesFrom W.heap.size J)
    (hY : ∀ pre x W, J pre W → pre.length < 256 → YieldAt Fence.wide (n - 1) Try.prog l #[.int .i64 x] W fun e W' =>
      (e = .returned (.bool true) ∧ J (pre ++ [x]) W' ∧ Kps n₀ Bc Bo W W') ∨ (e = .returned (.bool false) ∧ Jx (pre ++ [x]) W'))
    (hS : Seen n₀ Bc Bo p g L owner W) (h0 : J [] W) :
    CallsIn Fence.wide n Try.prog 50 #[.func (.yield l) #[] #[], .pointer (some ⟨Bc, 0, none⟩), .pointer (some ⟨Bo, 0, none⟩)] W fun e W' => (∃ v, e = .returned v) ∧
      ((∃ ys, ys = Bits.cast (mine L owner L.length) ∧ J ys W') ∨ (∃ pre, pre <+: Bits.cast (mine L owner L.length) ∧ Jx pre W')) := by
  have hmx : (Try.prog).follows .mixedOrders = true := by kernel_rfl
  have hc := cell_one hS.c
  have hL := hS.is.2.2.2
  have HS := Lib.hid hS
  have H0 : Hid _ := h0
  have HY : Hid _ := hY
  have HJ : Hid _ := hJ
  clear h0 hY hS hJ
  refine callsIn_of_wp Try.func50 rfl trivial ?_ rfl
  simp only [Try.ntmps50, List.size_toArray, List.length_cons, List.length_nil, Nat.reduceAdd, Nat.reduceSub, Array.replicate_succ, Array.replicate_zero, List.push_toArray, List.append_toArray, List.nil_append, List.cons_append]
  gi_wp2_with (refine ⟨trivial, ?_⟩; gi_at_call 48; refine (callsIn_wide.2 (sets_any p g L _ HS.out.is)).mono ?_; rintro e w' ⟨rfl, rfl⟩)
  clear hc
  generalize hN : L.length = N at *
  gi_loopw [7] (fun iv wr => ∃ k : Nat, k ≤ N ∧ iv = .int .i64 (k : Int) ∧ Aside (J (Bits.cast (mine L owner k)) wr) ∧ Aside (Kps n₀ Bc Bo w' wr) ∧ Aside (w'.heap.size ≤ wr.heap.size)) (fun iv _ => N - (intOf iv).toNat)
  case atStart => exact ⟨0, Nat.zero_le _, rfl, H0.out, Kps.refl _ _ _ _, Nat.le_refl _⟩
  case round =>
    obtain ⟨k, hk, rfl, hJk, hbel, hsz⟩ := hrel
    by_cases hlt : k < N
    · have hS := HS.out.below hbel.out
      have hc := cell_one hS.c
      have ho := cell_one hS.o
      have hp := hS.is.ptr
      have c1 := hS.is.at k (by omega)
      have q1 : (0 : Int) ≤ (k : Int) := by omega
      have q2 : (k : Int) < (N : Int) := by omega
      rw [hN] at hp
      cases hz : L.getD k 0 == owner with
      | false =>
        have hm := Lib.hid (mine_no L owner k hz)
        generalize L.getD k 0 = z at *
        clear hS
        gi_wp2
        refine wpIn_region_quiet_lit rfl (by kernel_rfl) (by kernel_rfl) ?_
        repeat (gi_big_quiet_step (fail))
        refine wpQuietIn_step ?_ (fun K hK => ?_)
        · exact fun _ _ _ _ => trivial
        go_simp
        refine hK _ ?_
        clear hK K
        repeat (gi_big_quiet_step (fail))
        refine wpQuietIn_nil ?_
        rintro _ ⟨nq, rfl⟩
        have hJd : J (Bits.cast (mine L owner k)) (wr.drewN nq) := HJ.out _ _ _ none hJk.out ⟨rfl, rfl, rfl, Nat.le_refl _, fun _ _ _ => rfl⟩ (fun r e => by cases e)
        have hJ2 := Lib.hid hJd
        clear hJd
        gi_wp2
        go_roundw
        case rel => exact ⟨k + 1, by omega, by go_num, by rw [hm.out]; exact hJ2.out, hbel.out.trans (Kps.drewN _ _ _ _ _), hsz.out⟩
        case measure => simp [intOf]; omega
      | true =>
        have hm := Lib.hid (mine_yes L owner k hz)
        have hlen : (Bits.cast (mine L owner k)).length < 256 := by
          have := mine_le L owner k
          simp [Bits.cast]
          omega
        have hJd : J (Bits.cast (mine L owner k)) wr.drew := HJ.out _ _ _ none hJk.out ⟨rfl, rfl, rfl, Nat.le_refl _, fun _ _ _ => rfl⟩ (fun r e => by cases e)
        obtain ⟨fn, tmps, assign, body, hy, hR⟩ := HY.out _ (k : Int) wr.drew hJd hlen
        generalize L.getD k 0 = z at *
        clear hS hlen hJd
        gi_wp2
        gi_region_with_o (refine hR.mono ?_; intro e W3 h3; obtain ⟨b3, rfl, hb3⟩ : ∃ b, e = .returned (.bool b) ∧ Hid (if b then J (Bits.cast (mine L owner k) ++ [(k : Int)]) W3 ∧ Kps n₀ Bc Bo wr.drew W3 else Jx (Bits.cast (mine L owner k) ++ [(k : Int)]) W3) := (by rcases h3 with ⟨rfl, h4, h5⟩ | ⟨rfl, h4⟩; exact ⟨true, rfl, h4, h5⟩; exact ⟨false, rfl, h4⟩); clear h3)
        all_goals
          cases b3 with
          | true =>
            obtain ⟨h4, h5⟩ := hb3.out
            have h4' := Lib.hid h4
            have h5' : Hid (Kps n₀ Bc Bo wr W3) := ⟨⟨h5.b.os, h5.b.tape, h5.b.output, h5.b.size, h5.b.block⟩, h5.c, h5.o⟩
            clear h4 h5 hb3
            gi_wp2
            go_roundw
            case rel => exact ⟨k + 1, by omega, by go_num, by rw [hm.out, cast_snoc]; exact h4'.out, hbel.out.trans h5'.out, Nat.le_trans hsz.out h5'.out.b.size⟩
            case measure => simp [intOf]; omega
          | false =>
            have h4 : Jx (Bits.cast (mine L owner k) ++ [(k : Int)]) W3 := hb3.out
            have h4' := Lib.hid h4
            clear h4 hb3
            gi_wp2
            refine bodyPost_ret (results_none rfl _ _ _) rfl ?_
            refine ⟨⟨_, rfl⟩, .inr ⟨_, ?_, h4'.out⟩⟩
            rw [← cast_snoc, ← hm.out]
            rw [hN]
            exact (mine_pre L owner (show k + 1 ≤ N by omega)).map _
    · obtain rfl : k = N := by omega
      gi_wp2
      go_end0
      exact ⟨⟨_, rfl⟩, .inl ⟨_, by rw [hN], hJk.out⟩⟩
theorem sets_stops (n : Nat) (hn : 1 ≤ n) (n₀ Bc Bo p g : Nat) (L : List Int) (owner : Int) (w : World) (hS : Seen n₀ Bc Bo p g L owner w) (hle : n₀ ≤ w.heap.size) (hc : Bc < w.heap.size) (ho : Bo < w.heap.size) :
    SeqStopsK Fence.wide n Try.prog 50 #[.pointer (some ⟨Bc, 0, none⟩), .pointer (some ⟨Bo, 0, none⟩)] (fun x : Int => #[Value.int .i64 x]) (Kps n₀ Bc Bo) (fun ys => ys = Bits.cast (mine L owner L.length)) (fun pre => pre <+: Bits.cast (mine L owner L.length)) 256 w := fun l J Jx W hW hJ _ hY h0 =>
  setsLit_in n hn l n₀ Bc Bo p g L owner J Jx W hJ hY (hS.below ⟨hW.mono hle, hW.block _ hc, hW.block _ ho⟩) h0
set_option maxHeartbeats 1000000 in
theorem setsOf_in (n : Nat) (c : Option Addr) (owner : Int) (w : World) :
    CallsIn Fence.wide n Try.prog 42 #[.pointer c, .int .i64 owner] w fun e w' => e = .returned (.func (.func 50) #[] #[.pointer (some ⟨w.heap.size, 0, none⟩), .pointer (some ⟨w.heap.size + 1, 0, none⟩)]) ∧ w' = (w.alloc (.cells #[.pointer c] 50)).alloc (.cells #[.int .i64 owner] 3) := by
  refine callsIn_of_wp Try.func42 rfl trivial ?_ rfl
  simp only [Try.ntmps42, List.size_toArray, List.length_cons, List.length_nil, Nat.reduceAdd, Nat.reduceSub, Array.replicate_succ, Array.replicate_zero, List.push_toArray, List.append_toArray, List.nil_append, List.cons_append]
  gi_wp2
  go_ret
  exact ⟨rfl, rfl⟩
end Go.Proofs.Ytdmfdgadhobkpaa.Cache

/-
  Package cache: Of.
-/
namespace Go.Proofs.Ytdmfdgadhobkpaa.Cache
open Go.RowKit Go.Shelf Go.Proofs.Ytdmfdgadhobkpaa.Bits
attribute [local go_sem] Oper.semAt_some

theorem own_blk {β : Type} (B b : Nat) (X : β → Nat → Nat) : OwnFrom B (fun (s : β) W => W.heap[b]? = some (.cells (rowc (iw (X s))) 32 (0, 0))) := fun s W W' row hs hg hr =>
  (hg.block b (Array.getElem?_eq_some_iff.1 hs).1 (fun e => by
    obtain ⟨_, o, ho, hc⟩ := hr b e.symm
    rw [hs] at ho
    cases ho
    cases hc)).trans hs
theorem own_size {β : Type} (B m : Nat) : OwnFrom B (fun (_ : β) W => m ≤ W.heap.size) := fun _ _ _ _ hs hg _ => Nat.le_trans hs hg.size
theorem keeps_below {B : Nat} {W W' : World} (h : Below W.heap.size W W') : KeepsFrom B W W' := ⟨h.size, fun k _ _ hk _ => (h.block k (Array.getElem?_eq_some_iff.1 hk).1).trans hk⟩
theorem keeps_set4 (B : Nat) (w : World) (b : Nat) (x0 x1 x2 x3 : Value) : KeepsFrom B w ((((w.setCell ⟨b, 0, none⟩ x0).setCell ⟨b, 1, none⟩ x1).setCell ⟨b, 2, none⟩ x2).setCell ⟨b, 3, none⟩ x3) :=
  ((((KeepsOthers.setCell _ _ _).trans (KeepsOthers.setCell _ _ _)).trans (KeepsOthers.setCell _ _ _)).trans (KeepsOthers.setCell _ _ _)).from B
set_option maxRecDepth 100000 in
set_option maxHeartbeats 4000000 in
theorem ofc_in (n : Nat) (hn : 3 ≤ n) (c : Option Addr) (owner : Int) (l : List Int) (w : World)
    (hseq : ∀ W Bc Bo, Below w.heap.size w W → W.heap[Bc]? = some (.cells #[.pointer c] 50 (0, 0)) → W.heap[Bo]? = some (.cells #[.int .i64 owner] 3 (0, 0)) →
      SeqStopsK Fence.wide (n - 1) Try.prog 50 #[.pointer (some ⟨Bc, 0, none⟩), .pointer (some ⟨Bo, 0, none⟩)] (fun x : Int => #[Value.int .i64 x]) (Kps w.heap.size Bc Bo) (fun ys => ys = l) (fun pre => pre <+: l) 256 W) :
    CallsIn Fence.wide n Try.prog 21 #[.pointer c, .int .i64 owner] w fun e W' => e = .returned (bv (iw (ofN (if ownB owner then l else [])))) ∧ Below w.heap.size w W' := by
  have h1 : 1 ≤ n := by omega
  have HS := Lib.hid hseq
  clear hseq
  obtain ⟨r, hr⟩ : ∃ r, r = (if ownB owner then l else []) := ⟨_, rfl⟩
  rw [← hr]
  have HRR := Lib.hid hr
  clear hr
  refine callsIn_of_wp_marks Try.func21 rfl trivial ?_ rfl
  simp only [Try.ntmps21, List.size_toArray, List.length_cons, List.length_nil, Nat.reduceAdd, Nat.reduceSub, Array.replicate_succ, Array.replicate_zero, List.push_toArray, List.append_toArray, List.nil_append, List.cons_append]
  gi_wp2_with (refine ⟨trivial, ?_⟩; gi_at_call 33; refine (callsIn_wide.2 (of_n none 0 0 [] _ (rdI0 _))).mono ?_; rintro e W1 ⟨rfl, hb1⟩; rw [bvl])
  have hs1 : w.heap.size + 1 ≤ W1.heap.size := by have := hb1.size; simp at this; omega
  have nR1 : W1.heap[w.heap.size]? = some (.cells (rowc (iw noneW)) 32 (0, 0)) := old4 (heap_new _ _ _ rfl) hb1 (by simp)
  have hw1 : Below w.heap.size w W1 := ((Below.refl _ w).alloc (Nat.le_refl _) _).trans (hb1.mono (by simp))
  have nA := new4 W1 (ofN [])
  have nR : (W1.alloc (.cells #[.int .u64 (ofN [] 0 : Int), .int .u64 (ofN [] 1 : Int), .int .u64 (ofN [] 2 : Int), .int .u64 (ofN [] 3 : Int)] 32)).heap[w.heap.size]? = some (.cells (rowc (iw noneW)) 32 (0, 0)) := by rw [Below.heap_alloc _ _ _ (by omega)]; exact nR1
  have hw2 : Below w.heap.size w (W1.alloc (.cells #[.int .u64 (ofN [] 0 : Int), .int .u64 (ofN [] 1 : Int), .int .u64 (ofN [] 2 : Int), .int .u64 (ofN [] 3 : Int)] 32)) := hw1.alloc hw1.size _
  have hs2 : (W1.alloc (.cells #[.int .u64 (ofN [] 0 : Int), .int .u64 (ofN [] 1 : Int), .int .u64 (ofN [] 2 : Int), .int .u64 (ofN [] 3 : Int)] 32)).heap.size = W1.heap.size + 1 := by simp
  clear hb1 nR1
  generalize W1.alloc (.cells #[.int .u64 (ofN [] 0 : Int), .int .u64 (ofN [] 1 : Int), .int .u64 (ofN [] 2 : Int), .int .u64 (ofN [] 3 : Int)] 32) = W2 at *
  generalize W1.heap.size = b at *
  have HA := Lib.hid nA
  have HR := Lib.hid nR
  have HW := Lib.hid hw2
  clear nA nR hw1 hw2
  refine ⟨trivial, ?_⟩
  refine (callsIn_wide.2 (owns_any owner _)).mono ?_
  rintro e w' ⟨rfl, rfl⟩
  cases ho : ownB owner with
  | false =>
    have HO := Lib.hid ho
    clear ho
    obtain ⟨a0, a1, a2, a3⟩ := c4 (HA.out)
    have k0 := frozen_row (HR.out) 0
    have k1 := frozen_row (HR.out) 1
    have k2 := frozen_row (HR.out) 2
    have k3 := frozen_row (HR.out) 3
    obtain ⟨e0, e1, e2, e3⟩ := c4 (HR.out)
    have hw := set4 (HR.out) (iw (ofN []))
    have hbw := (below_set (below_set (below_set (below_set HW.out (w.heap.size) (by omega) 0 (.int .u64 (ofN [] 0 : Int))) (w.heap.size) (by omega) 1 (.int .u64 (ofN [] 1 : Int))) (w.heap.size) (by omega) 2 (.int .u64 (ofN [] 2 : Int))) (w.heap.size) (by omega) 3 (.int .u64 (ofN [] 3 : Int)))
    simp only [iw] at hw
    generalize hW9 : ((((w'.setCell ⟨w.heap.size, 0, none⟩ (.int .u64 (ofN [] 0 : Int))).setCell ⟨w.heap.size, 1, none⟩ (.int .u64 (ofN [] 1 : Int))).setCell ⟨w.heap.size, 2, none⟩ (.int .u64 (ofN [] 2 : Int))).setCell ⟨w.heap.size, 3, none⟩ (.int .u64 (ofN [] 3 : Int))) = W9 at *
    have HBW := Lib.hid hbw
    have HW9 : Hid (W9.heap[w.heap.size]? = some (.cells (rowc (iw (ofN []))) 32 (0, 0))) := hw
    clear hw hbw
    gi_wp2
    obtain ⟨q0, q1, q2, q3⟩ := c4 HW9.out
    refine ⟨bv (iw (ofN [])), ?_, ?_, HBW.out⟩
    · simp [bv, rowc, iw, results, Try.results21, go_sem, q0, q1, q2, q3]
    · rw [HRR.out, HO.out]; rfl
  | true =>
    have HO := Lib.hid ho
    clear ho
    gi_wp2_with (refine ⟨trivial, ?_⟩; gi_at_call 42; refine (setsOf_in (n - 1) c owner _).mono ?_; rintro e W3 ⟨rfl, rfl⟩)
    have nA : ((w'.alloc (.cells #[.pointer c] 50)).alloc (.cells #[.int .i64 owner] 3)).heap[b]? = some (.cells (rowc (iw (ofN []))) 32 (0, 0)) := by rw [Below.heap_alloc _ _ _ (by simp; omega), Below.heap_alloc _ _ _ (by omega)]; exact HA.out
    have nR : ((w'.alloc (.cells #[.pointer c] 50)).alloc (.cells #[.int .i64 owner] 3)).heap[w.heap.size]? = some (.cells (rowc (iw noneW)) 32 (0, 0)) := by rw [Below.heap_alloc _ _ _ (by simp; omega), Below.heap_alloc _ _ _ (by omega)]; exact HR.out
    have hwL : Below w.heap.size w ((w'.alloc (.cells #[.pointer c] 50)).alloc (.cells #[.int .i64 owner] 3)) := (HW.out.alloc HW.out.size _).alloc (by simp; omega) _
    have hsL : ((w'.alloc (.cells #[.pointer c] 50)).alloc (.cells #[.int .i64 owner] 3)).heap.size = b + 3 := by simp [hs2]
    have hcL : ((w'.alloc (.cells #[.pointer c] 50)).alloc (.cells #[.int .i64 owner] 3)).heap[b + 1]? = some (.cells #[.pointer c] 50 (0, 0)) := by rw [Below.heap_alloc _ _ _ (by simp; omega)]; exact heap_new _ _ _ hs2.symm
    have hoL : ((w'.alloc (.cells #[.pointer c] 50)).alloc (.cells #[.int .i64 owner] 3)).heap[b + 1 + 1]? = some (.cells #[.int .i64 owner] 3 (0, 0)) := heap_new _ _ _ (by simp [hs2])
    clear HA HR HW
    generalize (w'.alloc (.cells #[.pointer c] 50)).alloc (.cells #[.int .i64 owner] 3) = wL at *
    have HRR2 : Hid (r = l) := by rw [RowKit.Hid, HRR.out, HO.out]; rfl
    have hk1 : w.heap.size ≤ wL.heap.size := by omega
    refine wpIn_rangeFunc_ownG (w0 := wL) rfl h1 (gf := 50) (lb := #[.pointer (some ⟨b + 1, 0, none⟩), .pointer (some ⟨b + 1 + 1, 0, none⟩)]) rfl trivial (enters_of Try.func50 (by kernel_rfl) rfl)
      (HS.out wL (b + 1) (b + 1 + 1) hwL hcL hoL) Kps.trans (Kps.put (by omega) (by omega) (by omega)) (Below.refl _ _) (fun _ => rfl)
      (fun pre W => (((W.heap[b]? = some (.cells (rowc (iw (ofN pre))) 32 (0, 0))) ∧ (W.heap[w.heap.size]? = some (.cells (rowc (iw noneW)) 32 (0, 0)))) ∧ Below w.heap.size w W) ∧ wL.heap.size ≤ W.heap.size)
      (fun _ _ _ => False)
      (OwnFrom.and (OwnFrom.and (OwnFrom.and (own_blk _ b (fun pre : List Int => ofN pre)) (own_blk _ w.heap.size (fun _ : List Int => noneW))) (ownFrom_below (Nat.le_refl _) hk1)) (own_size _ _))
      (fun _ _ _ _ _ hs _ _ => hs)
      ⟨⟨⟨nA, nR⟩, hwL⟩, Nat.le_refl _⟩
      (fun x => { tmps := #[.pointer c, .int .i64 owner, undef, undef, .pointer (some ⟨w.heap.size, 0, none⟩), .pointer (some ⟨b, 0, none⟩), .int .i64 x, .agg #[.int .u64 (ofN [] 0 : Int), .int .u64 (ofN [] 1 : Int), .int .u64 (ofN [] 2 : Int), .int .u64 (ofN [] 3 : Int)], .int .i64 owner, .bool true, .pointer c, .int .i64 owner, .func (.func 50) #[] #[.pointer (some ⟨b + 1, 0, none⟩), .pointer (some ⟨b + 1 + 1, 0, none⟩)], .int .i64 x, undef, undef, undef, undef], defers := [] }) ?assign ?body ?done ?stop
    case assign =>
      intro l x W K hK
      gi_wp2
      exact hK
    case body =>
      rintro l1 pre x W ⟨⟨⟨hA, hR⟩, hB⟩, hZ⟩ hlt
      have hX : Ws (ofN pre) := Ws.ofN _
      obtain ⟨a0, a1, a2, a3⟩ := c4 hA
      have HA := Lib.hid hA
      have HR := Lib.hid hR
      have HB := Lib.hid hB
      have HZ := Lib.hid hZ
      have HC := Lib.hid hcL
      have HL := Lib.hid hoL
      have hsn : Hid (withW (ofN pre) x = ofN (pre ++ [x])) := (ofN_snoc _ _).symm
      clear hA hR hB hZ hcL hoL nA nR hwL
      gi_wp2_with fail
      refine ⟨trivial, (fun h => by cases h), ?_⟩
      refine (CallsIn.inRound l1 (callsIn_wide.2 (with_n hX x _))).mono ?_
      rintro e W2 ⟨rfl, hb2⟩
      rw [hsn.out]
      generalize hY : ofN (pre ++ [x]) = Y at *
      have HY := Lib.hid hY
      clear hY
      have hb2' := Lib.hid hb2
      have nX2 := Lib.hid (old4 HA.out hb2 (lt4 HA.out))
      have nR2 := Lib.hid (old4 HR.out hb2 (lt4 HR.out))
      have hbel2 := Lib.hid (HB.out.trans (hb2.mono HB.out.size))
      clear a0 a1 a2 a3 hb2
      simp only [bvl]
      have k0 := frozen_row (nX2.out) 0
      have k1 := frozen_row (nX2.out) 1
      have k2 := frozen_row (nX2.out) 2
      have k3 := frozen_row (nX2.out) 3
      obtain ⟨e0, e1, e2, e3⟩ := c4 (nX2.out)
      have hw := set4 (nX2.out) (iw Y)
      simp only [iw] at hw
      have hbw := (below_set (below_set (below_set (below_set hbel2.out (b) (by omega) 0 (.int .u64 (Y 0 : Int))) (b) (by omega) 1 (.int .u64 (Y 1 : Int))) (b) (by omega) 2 (.int .u64 (Y 2 : Int))) (b) (by omega) 3 (.int .u64 (Y 3 : Int)))
      have nR30 := (set4_other W2 (b) (w.heap.size) (by omega) (.int .u64 (Y 0 : Int)) (.int .u64 (Y 1 : Int)) (.int .u64 (Y 2 : Int)) (.int .u64 (Y 3 : Int))).trans (nR2.out)
      have hkf := keeps_set4 wL.heap.size W2 b (.int .u64 (Y 0 : Int)) (.int .u64 (Y 1 : Int)) (.int .u64 (Y 2 : Int)) (.int .u64 (Y 3 : Int))
      have hkc := set4_other W2 b (b + 1) (by omega) (.int .u64 (Y 0 : Int)) (.int .u64 (Y 1 : Int)) (.int .u64 (Y 2 : Int)) (.int .u64 (Y 3 : Int))
      have hko := set4_other W2 b (b + 1 + 1) (by omega) (.int .u64 (Y 0 : Int)) (.int .u64 (Y 1 : Int)) (.int .u64 (Y 2 : Int)) (.int .u64 (Y 3 : Int))
      have hbq : Below w.heap.size W2 (((((W2.setCell ⟨b, 0, none⟩ (.int .u64 (Y 0 : Int))).setCell ⟨b, 1, none⟩ (.int .u64 (Y 1 : Int))).setCell ⟨b, 2, none⟩ (.int .u64 (Y 2 : Int))).setCell ⟨b, 3, none⟩ (.int .u64 (Y 3 : Int)))) := below_set (below_set (below_set (below_set (Below.refl _ _) b (by omega) 0 (.int .u64 (Y 0 : Int))) b (by omega) 1 (.int .u64 (Y 1 : Int))) b (by omega) 2 (.int .u64 (Y 2 : Int))) b (by omega) 3 (.int .u64 (Y 3 : Int))
      generalize hW9 : ((((W2.setCell ⟨b, 0, none⟩ (.int .u64 (Y 0 : Int))).setCell ⟨b, 1, none⟩ (.int .u64 (Y 1 : Int))).setCell ⟨b, 2, none⟩ (.int .u64 (Y 2 : Int))).setCell ⟨b, 3, none⟩ (.int .u64 (Y 3 : Int))) = W3 at *
      have HKF := Lib.hid hkf
      have HKC := Lib.hid hkc
      have HKO := Lib.hid hko
      have HBQ := Lib.hid hbq
      clear hkf hkc hko hbq
      have HBW := Lib.hid hbw
      have HS9 : Hid (W3.heap[b]? = some (.cells (rowc (iw Y)) 32 (0, 0))) := hw
      have nR3 : Hid (W3.heap[w.heap.size]? = some (.cells (rowc (iw noneW)) 32 (0, 0))) := nR30
      clear hw hbw nR30
      gi_wp2
      have hsW := HZ.out
      refine ⟨(keeps_below hb2'.out).trans HKF.out, ⟨(hb2'.out.mono HB.out.size).trans HBQ.out, HKC.out.trans (hb2'.out.block _ (by omega)), HKO.out.trans (hb2'.out.block _ (by omega))⟩, ⟨⟨?_, nR3.out⟩, HBW.out⟩, Nat.le_trans hsW (Nat.le_trans hb2'.out.size HBQ.out.size)⟩
      rw [HY.out]
      exact HS9.out
    case done =>
      rintro D ys W hD rfl ⟨⟨⟨hA, hR⟩, hB⟩, hZ⟩ hK
      have HK := Lib.hid hK
      have HD := Lib.hid hD
      have HA := Lib.hid hA
      have HR := Lib.hid hR
      have HB := Lib.hid hB
      clear hA hR hB hZ hcL hoL nA nR hwL hK hD
      generalize hY : ofN ys = Y at *
      have HY := Lib.hid hY
      clear hY
      obtain ⟨a0, a1, a2, a3⟩ := c4 (HA.out)
      have k0 := frozen_row (HR.out) 0
      have k1 := frozen_row (HR.out) 1
      have k2 := frozen_row (HR.out) 2
      have k3 := frozen_row (HR.out) 3
      obtain ⟨e0, e1, e2, e3⟩ := c4 (HR.out)
      have hw := set4 (HR.out) (iw Y)
      have hbw := (below_set (below_set (below_set (below_set HB.out (w.heap.size) (by omega) 0 (.int .u64 (Y 0 : Int))) (w.heap.size) (by omega) 1 (.int .u64 (Y 1 : Int))) (w.heap.size) (by omega) 2 (.int .u64 (Y 2 : Int))) (w.heap.size) (by omega) 3 (.int .u64 (Y 3 : Int)))
      simp only [iw] at hw
      have hkd : (((((W.setCell ⟨w.heap.size, 0, none⟩ (.int .u64 (Y 0 : Int))).setCell ⟨w.heap.size, 1, none⟩ (.int .u64 (Y 1 : Int))).setCell ⟨w.heap.size, 2, none⟩ (.int .u64 (Y 2 : Int))).setCell ⟨w.heap.size, 3, none⟩ (.int .u64 (Y 3 : Int)))).heap[D]? = some (.deferred (some [])) := (set4_other W w.heap.size D (by have := HD.out; omega) _ _ _ _).trans HK.out
      generalize hW9 : ((((W.setCell ⟨w.heap.size, 0, none⟩ (.int .u64 (Y 0 : Int))).setCell ⟨w.heap.size, 1, none⟩ (.int .u64 (Y 1 : Int))).setCell ⟨w.heap.size, 2, none⟩ (.int .u64 (Y 2 : Int))).setCell ⟨w.heap.size, 3, none⟩ (.int .u64 (Y 3 : Int))) = W9 at *
      have HKD := Lib.hid hkd
      clear hkd
      have HBW := Lib.hid hbw
      have HW9 : Hid (W9.heap[w.heap.size]? = some (.cells (rowc (iw Y)) 32 (0, 0))) := hw
      clear hw hbw
      gi_wp2
      obtain ⟨q0, q1, q2, q3⟩ := c4 HW9.out
      have hb9 : Below (w.heap.size + 1) W9 (W9.putObj D (.deferred none)) := (Below.refl _ W9).grown (grownBy_putObj' W9 D _) (Nat.le_trans (Nat.succ_le_of_lt (lt4 HW9.out)) (Nat.le_refl _)) (fun k e => by cases e; have := HD.out; omega)
      obtain ⟨q0, q1, q2, q3⟩ := c4 (old4 HW9.out hb9 (Nat.lt_succ_self _))
      refine ⟨by simp, .inl ⟨_, _, rfl, run_takeDeferred HKD.out, ?_⟩⟩
      refine ⟨bv (iw Y), ?_, ?_, HBW.out.trans (hb9.mono (Nat.le_succ _))⟩
      · simp [bv, rowc, iw, results, Try.results21, go_sem, q0, q1, q2, q3]
      · rw [HRR2.out, HY.out]
    case stop =>
      rintro D c pre W _ _ h _
      exact h.elim
/-- The sets of an owner. -/
def ofL (L : List Int) (owner : Int) : List Int := if ownB owner then Bits.cast (mine L owner L.length) else []
theorem ofc_any (p g : Nat) (L : List Int) (owner : Int) (w : World) (h : IsC w p g L) :
    Calls Try.prog 21 #[.pointer (some ⟨p, 0, none⟩), .int .i64 owner] w fun e W' => e = .returned (bv (iw (ofN (ofL L owner)))) ∧ Below w.heap.size w W' :=
  callsIn_wide.1 (ofc_in 3 (Nat.le_refl _) (some ⟨p, 0, none⟩) owner (Bits.cast (mine L owner L.length)) w fun W Bc Bo hb hc ho =>
    sets_stops (3 - 1) (by decide) w.heap.size Bc Bo p g L owner W ⟨hc, ho, h.below hb (Nat.le_refl _), h.lt.1, h.lt.2⟩ hb.size (Array.getElem?_eq_some_iff.1 hc).1 (Array.getElem?_eq_some_iff.1 ho).1)
set_option maxRecDepth 100000 in
set_option maxHeartbeats 4000000 in
theorem setsNil_in (n : Nat) (hn : 1 ≤ n) (l Bc Bo : Nat) (J Jx : List Int → World → Prop) (W : World)
    (hc : W.heap[Bc]? = some (.cells #[.pointer none] 50 (0, 0))) (h0 : J [] W) :
    CallsIn Fence.wide n Try.prog 50 #[.func (.yield l) #[] #[], .pointer (some ⟨Bc, 0, none⟩), .pointer (some ⟨Bo, 0, none⟩)] W fun e W' => (∃ v, e = .returned v) ∧
      ((∃ ys, ys = ([] : List Int) ∧ J ys W') ∨ (∃ pre, pre <+: ([] : List Int) ∧ Jx pre W')) := by
  have c0 := cell_one hc
  have H0 : Hid _ := h0
  clear h0 hc
  refine callsIn_of_wp Try.func50 rfl trivial ?_ rfl
  simp only [Try.ntmps50, List.size_toArray, List.length_cons, List.length_nil, Nat.reduceAdd, Nat.reduceSub, Array.replicate_succ, Array.replicate_zero, List.push_toArray, List.append_toArray, List.nil_append, List.cons_append]
  gi_wp2_with (refine ⟨trivial, ?_⟩; gi_at_call 48; refine (callsIn_wide.2 (sets_nil _)).mono ?_; rintro e w' ⟨rfl, rfl⟩)
  gi_loopw [7] (fun iv wr => iv = .int .i64 0 ∧ wr = w') (fun _ _ => 0)
  case atStart => exact ⟨rfl, rfl⟩
  case round =>
    obtain ⟨rfl, rfl⟩ := hrel
    gi_wp2
    go_end0
    exact ⟨⟨_, rfl⟩, .inl ⟨_, rfl, H0.out⟩⟩
theorem of_nil (owner : Int) (w : World) :
    Calls Try.prog 21 #[.pointer none, .int .i64 owner] w fun e W' => e = .returned (bv (iw (ofN []))) ∧ Below w.heap.size w W' :=
  (callsIn_wide.1 (ofc_in 3 (Nat.le_refl _) none owner [] w fun W Bc Bo hb hc ho => fun l J Jx W1 hW _ _ _ h0 =>
    setsNil_in (3 - 1) (by decide) l Bc Bo J Jx W1 ((hW.block _ (Array.getElem?_eq_some_iff.1 hc).1).trans hc) h0)).mono fun e w' ⟨he, hb⟩ => ⟨by rw [he]; cases ownB owner <;> rfl, hb⟩
end Go.Proofs.Ytdmfdgadhobkpaa.Cache
