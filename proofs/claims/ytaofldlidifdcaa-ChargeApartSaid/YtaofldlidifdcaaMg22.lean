/-
  Texts of one claim, joined in build order: Blk1, Blk2, Blk3, Blk4, Blk5, BlkS, BlkP, Blk6, Blk7.
-/
import Derived.Test.YtaofldlidifdcaaMg21
import Derived.Lib.MinMax
import Derived.RangeFuncBox
import Derived.RangeFuncNested
import Derived.RangeFuncBound
import Derived.RangeFuncCalls
import Derived.RangeFuncLeaves
import Derived.Shelf.Abstract
import Derived.Shelf.RegionOpen
import Derived.OwnWalkIn
import Derived.TacticsInMore
import Derived.LoopNIn
import Derived.LoopIn
import Derived.Maps.AppendAt
import Derived.Sort.QuietIn
import Derived.Deep.RegionHeld3
/-
  Package blocks: the iterator over what ticks use.
-/
namespace Go.Proofs.Ytaofldlidifdcaa.Blk
open Go.RowKit Go.Shelf Go.Proofs.Ytaofldlidifdcaa.Sys Go.Proofs.Ytaofldlidifdcaa.Box Go.Proofs.Ytaofldlidifdcaa.RangeW
attribute [local go_sem] Oper.semAt_some

/-- What so many ticks use, from one on. -/
def tickL (u : List Int) (f : Int) (m : Nat) : List Int := (List.range m).map fun (j : Nat) => accI u (f + (j : Int))
theorem tickL_snoc (u : List Int) (f : Int) (m : Nat) : tickL u f (m + 1) = tickL u f m ++ [accI u (f + (m : Int))] := by simp [tickL, List.range_succ]
theorem tickL_pre (u : List Int) (f : Int) {j m : Nat} (h : j ≤ m) : tickL u f j <+: tickL u f m := by
  obtain ⟨d, rfl⟩ : ∃ d, m = j + d := ⟨m - j, by omega⟩
  unfold tickL
  rw [List.range_add, List.map_append]
  exact List.prefix_append _ _
/-- What a round keeps: all below n₀, the iterator's three boxes. -/
structure KpB (n₀ Bt Bf Bk : Nat) (w w' : World) : Prop where
  b : Below n₀ w w'
  t : w'.heap[Bt]? = w.heap[Bt]?
  f : w'.heap[Bf]? = w.heap[Bf]?
  k : w'.heap[Bk]? = w.heap[Bk]?
theorem KpB.refl (n₀ Bt Bf Bk : Nat) (w : World) : KpB n₀ Bt Bf Bk w w := ⟨Below.refl _ _, rfl, rfl, rfl⟩
theorem KpB.trans {n₀ Bt Bf Bk : Nat} {a b c : World} (h : KpB n₀ Bt Bf Bk a b) (k : KpB n₀ Bt Bf Bk b c) : KpB n₀ Bt Bf Bk a c := ⟨h.b.trans k.b, k.t.trans h.t, k.f.trans h.f, k.k.trans h.k⟩
theorem KpB.below {n₀ Bt Bf Bk : Nat} {w w' : World} (h : Below w.heap.size w w') (hn : n₀ ≤ w.heap.size) (ht : Bt < w.heap.size) (hf : Bf < w.heap.size) (hk : Bk < w.heap.size) : KpB n₀ Bt Bf Bk w w' := ⟨h.mono hn, h.block _ ht, h.block _ hf, h.block _ hk⟩
theorem KpB.put {n₀ Bt Bf Bk : Nat} {w : World} (hn : n₀ ≤ w.heap.size) (ht : Bt < w.heap.size) (hf : Bf < w.heap.size) (hk : Bk < w.heap.size) (W : World) (l : Nat) (o o' : Obj) (hl : w.heap.size ≤ l) (h : W.heap[l]? = some o) (h1 : o.isCells = false) (h2 : o.isWalk = false) : KpB n₀ Bt Bf Bk W (W.putObj l o') := by
  have hs := (Array.getElem?_eq_some_iff.1 h).1
  exact ⟨belowK_b hn W l o o' hl h h1 h2, (grownBy_putObj' W l o').block _ (by omega) (fun e => by cases e; omega), (grownBy_putObj' W l o').block _ (by omega) (fun e => by cases e; omega), (grownBy_putObj' W l o').block _ (by omega) (fun e => by cases e; omega)⟩
/-- What the iterator finds. -/
structure SeenB (n₀ Bt Bf Bk : Nat) (r : RT) (f t : Int) (w : World) : Prop where
  t : w.heap[Bt]? = some (.cells #[.int .i64 t] 2 (0, 0))
  f : w.heap[Bf]? = some (.cells #[.int .i64 f] 2 (0, 0))
  k : w.heap[Bk]? = some (.cells (taskCells r.x.id r.x.c r.x.d r.x.t r.x.prio (.slice r.ca r.cl r.cc) (.slice r.ua r.ul r.uc)) 33 (0, 0))
  rd : ∀ w', Below n₀ w w' → r.Rd w'
theorem SeenB.kept {n₀ Bt Bf Bk : Nat} {r : RT} {f t : Int} {w w' : World} (h : SeenB n₀ Bt Bf Bk r f t w) (hb : KpB n₀ Bt Bf Bk w w') : SeenB n₀ Bt Bf Bk r f t w' :=
  ⟨hb.t.trans h.t, hb.f.trans h.f, hb.k.trans h.k, fun w2 h2 => h.rd w2 (hb.b.trans h2)⟩
theorem cell1B {w : World} {b : Nat} {v : Value} {t : TypeId} (h : w.heap[b]? = some (.cells #[v] t (0, 0))) : w.cell? ⟨b, 0, none⟩ = some v := by simp [World.cell?, h]
set_option maxRecDepth 100000 in
set_option maxHeartbeats 4000000 in
theorem ticks_in (N : Nat) (hN : 1 ≤ N) (lp n₀ Bt Bf Bk : Nat) (r : RT) (f t : Int) (hf : 0 ≤ f) (hf2 : f ≤ 4611686018427387904) (ht : t ≤ 4611686018427387904) (hul : r.ul ≤ 64) (hu1 : 1 ≤ r.ul)
    (J : List Int → World → Prop) (W : World) (hJ : AbidesFrom W.heap.size J) (hst : ∀ s V v, J s V → J s (V.setCell ⟨Bt, 0, none⟩ v))
    (hY : ∀ pre (x : Int) W1, J pre W1 → pre ++ [x] <+: tickL r.x.use f (min t (f + r.ul) - f).toNat → YieldAt Fence.wide (N - 1) Try.prog lp #[.int .i64 x] W1 fun e W' => e = .returned (.bool true) ∧ J (pre ++ [x]) W' ∧ KpB n₀ Bt Bf Bk W1 W')
    (hS : SeenB n₀ Bt Bf Bk r f t W) (hn0 : n₀ ≤ W.heap.size) (hbt : n₀ ≤ Bt) (hd1 : Bf ≠ Bt) (hd2 : Bk ≠ Bt) (h0 : J [] W) :
    CallsIn Fence.wide N Try.prog 90 #[.func (.yield lp) #[] #[], .pointer (some ⟨Bt, 0, none⟩), .pointer (some ⟨Bf, 0, none⟩), .pointer (some ⟨Bk, 0, none⟩)] W fun e W' => (∃ v, e = .returned v) ∧ J (tickL r.x.use f (min t (f + r.ul) - f).toNat) W' := by
  have k0 := cell1B hS.t
  have k1 := cell1B hS.f
  obtain ⟨y0, y1, y2, y3, y4, y5, y6⟩ := bx_seven hS.k
  have fr := bx_free hS.t 0
  have hbtl := bx_lt hS.t
  have hbfl := bx_lt hS.f
  have hbkl := bx_lt hS.k
  have HY : Hid _ := hY
  have HJ : Hid _ := hJ
  obtain ⟨last, hl⟩ : ∃ last, min t (f + (r.ul : Int)) = last := ⟨_, rfl⟩
  have hl1 : last ≤ t ∧ last ≤ f + r.ul := by omega
  rw [hl] at HY ⊢
  have hS1 : SeenB n₀ Bt Bf Bk r f last (W.setCell ⟨Bt, 0, none⟩ (.int .i64 last)) := by
    have h1 := Lib.heap_setCell_same (i := 0) hS.t (.int .i64 last)
    exact ⟨by rw [h1]; rfl, (bx_other _ _ _ _ hd1 _).trans hS.f, (bx_other _ _ _ _ hd2 _).trans hS.k, fun w2 h2 => hS.rd w2 ((bx_below (Below.refl _ _) _ hbt _ _).trans h2)⟩
  have hJ1 := hst [] W (.int .i64 last) h0
  have hs1 : (W.setCell ⟨Bt, 0, none⟩ (.int .i64 last)).heap.size = W.heap.size := by simp [World.setCell]
  have HS := Lib.hid hS1
  have H0 := Lib.hid hJ1
  have ew : IntKind.i64.wrap (f + (r.ul : Int)) = f + (r.ul : Int) := by rw [IntKind.wrap_i64]; omega
  clear h0 hY hS hJ hst hS1 hJ1
  refine callsIn_of_wp Try.func90 rfl trivial ?_ rfl
  simp only [Try.ntmps90, List.size_toArray, List.length_cons, List.length_nil, Nat.reduceAdd, Nat.reduceSub, Array.replicate_succ, Array.replicate_zero, List.push_toArray, List.append_toArray, List.nil_append, List.cons_append]
  gi_wp2
  generalize hW1 : W.setCell ⟨Bt, 0, none⟩ (.int .i64 last) = W1 at *
  clear k0 k1 y0 y1 y2 y3 y4 y5 y6 fr hW1 hl
  gi_loopw [5] (fun kv wr => ∃ j : Nat, j ≤ (last - f).toNat ∧ kv = .int .i64 (f + (j : Int)) ∧ Aside (J (tickL r.x.use f j) wr) ∧ Aside (KpB n₀ Bt Bf Bk W1 wr) ∧ Aside (W1.heap.size ≤ wr.heap.size)) (fun kv _ => (last - intOf kv).toNat)
  case atStart => exact ⟨0, Nat.zero_le _, by simp, H0.out, KpB.refl _ _ _ _ _, Nat.le_refl _⟩
  case round =>
    obtain ⟨j, hj, rfl, hJj, hK, hsz⟩ := hrel
    have hS := HS.out.kept hK.out
    have k0 := cell1B hS.t
    have hz := hsz.out
    by_cases hlt : f + (j : Int) < last
    · obtain ⟨y0, y1, y2, y3, y4, y5, y6⟩ := bx_seven hS.k
      have hA := access_any r (f + (j : Int)) wr (hS.rd wr (Below.refl _ _))
      have hsn := Lib.hid (tickL_snoc r.x.use f j)
      have hpre : tickL r.x.use f j ++ [accI r.x.use (f + (j : Int))] <+: tickL r.x.use f (last - f).toNat := by
        rw [← hsn.out]; exact tickL_pre _ _ (by omega)
      have ew2 : IntKind.i64.wrap (f + (j : Int) + 1) = f + (j : Int) + 1 := by rw [IntKind.wrap_i64]; omega
      generalize accI r.x.use (f + (j : Int)) = x at *
      generalize accB r.x.use (f + (j : Int)) = ob at *
      have HPRE := Lib.hid hpre
      clear hS hpre
      gi_wp2_with fail
      refine ⟨trivial, ?_⟩
      refine (callsIn_wide.2 hA).mono ?_
      rintro e w2 ⟨rfl, hb2⟩
      have hk2 : Hid (KpB n₀ Bt Bf Bk W1 w2) := hK.out.trans (KpB.below hb2 (by omega) (by omega) (by omega) (by omega))
      have hj2 : J (tickL r.x.use f j) w2 := HJ.out _ _ _ none hJj.out ⟨hb2.os, hb2.tape, hb2.output, hb2.size, fun i hi _ => hb2.block i hi⟩ (fun r e => by cases e)
      have hz2 : W1.heap.size ≤ w2.heap.size := Nat.le_trans hz hb2.size
      obtain ⟨fn, tmps, assign, body, hy, hR⟩ := HY.out _ x w2 hj2 HPRE.out
      clear hA k0 y0 y1 y2 y3 y4 y5 y6 hb2 hj2 hK hJj hsz
      gi_wp2_with fail
      refine hR.mono ?_
      rintro e W5 ⟨rfl, hJ5, hk5⟩
      have HJ5 := Lib.hid hJ5
      have HK5 : Hid (KpB n₀ Bt Bf Bk W1 W5) := hk2.out.trans hk5
      have hs5 : W1.heap.size ≤ W5.heap.size := Nat.le_trans hz2 hk5.b.size
      clear hJ5 hk5 hR hk2
      gi_wp2
      go_roundw
      case rel => exact ⟨j + 1, by omega, by push_cast; rw [Int.add_assoc], by rw [hsn.out]; exact HJ5.out, HK5.out, hs5⟩
      case measure => simp only [intOf]; omega
    · have HE : Hid (j = (last - f).toNat) := by rw [RowKit.Hid]; omega
      clear hS
      gi_wp2
      go_end0
      exact ⟨⟨_, rfl⟩, by rw [← HE.out]; exact hJj.out⟩
end Go.Proofs.Ytaofldlidifdcaa.Blk

/-
  Package blocks: may, what a round of put does, the iterator made.
-/
namespace Go.Proofs.Ytaofldlidifdcaa.Blk
open Go.RowKit Go.Shelf Go.Proofs.Ytaofldlidifdcaa.Sys Go.Proofs.Ytaofldlidifdcaa.Box Go.Proofs.Ytaofldlidifdcaa.RangeW Go.Proofs.Ytaofldlidifdcaa.Bits
attribute [local go_sem] Oper.semAt_some

/-- All other blocks but b. -/
structure But (b : Nat) (w w' : World) : Prop where
  os : w'.os = w.os
  tape : w'.tape = w.tape
  output : w'.output = w.output
  size : w.heap.size ≤ w'.heap.size
  block : ∀ k, k < w.heap.size → k ≠ b → w'.heap[k]? = w.heap[k]?
theorem But.keeps {b B : Nat} {w w' : World} (h : But b w w') {vs : Array Value} {t : TypeId} (hb : w.heap[b]? = some (.cells vs t (0, 0))) : KeepsFrom B w w' :=
  ⟨h.size, fun k o _ hk ho => (h.block k (Array.getElem?_eq_some_iff.1 hk).1 (fun e => by subst e; rw [hb] at hk; cases hk; cases ho)).trans hk⟩
theorem But.below {b B : Nat} {w w' : World} (h : But b w w') (hB : B ≤ b) (hs : B ≤ w.heap.size) : Below B w w' := ⟨h.os, h.tape, h.output, h.size, fun k hk => h.block k (by omega) (by omega)⟩
theorem But.kpb {b n₀ Bt Bf Bk : Nat} {w w' : World} (h : But b w w') (hn : n₀ ≤ b) (hs : n₀ ≤ w.heap.size) (ht : Bt < w.heap.size) (hf : Bf < w.heap.size) (hk : Bk < w.heap.size) (h1 : Bt ≠ b) (h2 : Bf ≠ b) (h3 : Bk ≠ b) : KpB n₀ Bt Bf Bk w w' :=
  ⟨h.below hn hs, h.block _ ht h1, h.block _ hf h2, h.block _ hk h3⟩
set_option maxHeartbeats 4000000 in
set_option maxRecDepth 100000 in
theorem put1_any (x : Int) (b : Nat) (X : Nat → Nat) (hX : Ws X) (w : World) (hb : w.heap[b]? = some (.cells (rowc (iw X)) 50 (0, 0))) :
    Calls Try.prog 88 #[.int .i64 x, .pointer (some ⟨b, 0, none⟩)] w fun e w' => (∃ v, e = .returned v) ∧ w'.heap[b]? = some (.cells (rowc (iw (withW X x))) 50 (0, 0)) ∧ But b w w' := by
  obtain ⟨a0, a1, a2, a3⟩ := c4 hb
  have hW := with_n hX x w
  obtain ⟨Y, hY⟩ : ∃ Y, withW X x = Y := ⟨_, rfl⟩
  rw [hY] at hW ⊢
  simp only [bvl] at hW
  have HBK := Lib.hid hb
  clear hb hY
  go_enter Try.func88, Try.ntmps88
  go_wp2_with fail
  refine hW.mono ?_
  rintro e w2 ⟨rfl, hb2⟩
  have n2 := old4 HBK.out hb2 (lt4 HBK.out)
  have hlt := lt4 HBK.out
  have k0 := frozen_row n2 0
  have k1 := frozen_row n2 1
  have k2 := frozen_row n2 2
  have k3 := frozen_row n2 3
  obtain ⟨e0, e1, e2, e3⟩ := c4 n2
  have hw := set4 n2 (iw Y)
  simp only [iw] at hw
  have HQ : Hid (But b w ((((w2.setCell ⟨b, 0, none⟩ (.int .u64 (Y 0 : Int))).setCell ⟨b, 1, none⟩ (.int .u64 (Y 1 : Int))).setCell ⟨b, 2, none⟩ (.int .u64 (Y 2 : Int))).setCell ⟨b, 3, none⟩ (.int .u64 (Y 3 : Int)))) :=
    ⟨hb2.os, hb2.tape, hb2.output, by have := hb2.size; simpa [World.setCell] using this, fun k hk hn => (set4_other w2 b k hn _ _ _ _).trans (hb2.block k hk)⟩
  have HW := Lib.hid hw
  clear hb2 n2 hw hW a0 a1 a2 a3
  go_wp2
  go_end0
  exact ⟨⟨_, rfl⟩, HW.out, HQ.out⟩
/-- Is a task asked for? -/
def mayT (x : TaskV) : Bool := decide (1 ≤ x.c ∧ x.c ≤ 1073741824 ∧ 1 ≤ x.use.length ∧ x.use.length ≤ 64)
set_option maxHeartbeats 4000000 in
set_option maxRecDepth 100000 in
theorem mayT_any (r : RT) (w : World) (h : r.Rd w) :
    Calls Try.prog 66 #[.agg #[.int .i64 r.x.id, .int .i64 r.x.c, .int .i64 r.x.d, .int .i64 r.x.t, .int .i64 r.x.prio, .slice r.ca r.cl r.cc, .slice r.ua r.ul r.uc]] w fun e w' => e = .returned (.bool (mayT r.x)) ∧ Below w.heap.size w w' := by
  have hl := h.2.len
  unfold mayT
  rw [hl]
  have HB : ∀ o, Hid (Below w.heap.size w (w.alloc o)) := fun o => (Below.refl _ w).alloc (Nat.le_refl _) o
  clear h hl
  obtain ⟨x, ca, cl, cc, ua, ul, uc⟩ := r
  obtain ⟨id, c, d, t, p, ch, us⟩ := x
  simp only
  by_cases h1 : 1 ≤ c
  · by_cases h2 : c ≤ 1073741824
    · by_cases h3 : 1 ≤ ul
      · by_cases h4 : ul ≤ 64
        · rw [decide_eq_true (show 1 ≤ c ∧ c ≤ 1073741824 ∧ 1 ≤ ul ∧ ul ≤ 64 from ⟨h1, h2, h3, h4⟩)]
          have g1 : decide (1 ≤ c) = true := decide_eq_true h1
          have g2 : decide (c ≤ 1073741824) = true := decide_eq_true h2
          have g3 : decide ((1 : Int) ≤ (ul : Int)) = true := by simp; omega
          have g4 : decide ((ul : Int) ≤ 64) = true := by simp; omega
          clear h1 h2 h3 h4
          go_enter Try.func66, Try.ntmps66
          go_wp2
          go_ret
          exact ⟨by simp_all, (HB _).out⟩
        · rw [decide_eq_false (show ¬ (1 ≤ c ∧ c ≤ 1073741824 ∧ 1 ≤ ul ∧ ul ≤ 64) from fun h => h4 h.2.2.2)]
          have g1 : decide (1 ≤ c) = true := decide_eq_true h1
          have g2 : decide (c ≤ 1073741824) = true := decide_eq_true h2
          have g3 : decide ((1 : Int) ≤ (ul : Int)) = true := by simp; omega
          have g4 : decide ((ul : Int) ≤ 64) = false := by simp; omega
          have HH := Lib.hid h4
          clear h1 h2 h3 h4
          go_enter Try.func66, Try.ntmps66
          go_wp2
          go_ret
          exact ⟨by have := HH.out; simp_all, (HB _).out⟩
      · rw [decide_eq_false (show ¬ (1 ≤ c ∧ c ≤ 1073741824 ∧ 1 ≤ ul ∧ ul ≤ 64) from fun h => h3 h.2.2.1)]
        have g1 : decide (1 ≤ c) = true := decide_eq_true h1
        have g2 : decide (c ≤ 1073741824) = true := decide_eq_true h2
        obtain rfl : ul = 0 := by omega
        clear h1 h2 h3
        go_enter Try.func66, Try.ntmps66
        go_wp2
        go_ret
        exact ⟨by first | rfl | simp_all, (HB _).out⟩
    · rw [decide_eq_false (show ¬ (1 ≤ c ∧ c ≤ 1073741824 ∧ 1 ≤ ul ∧ ul ≤ 64) from fun h => h2 h.2.1)]
      have g1 : decide (1 ≤ c) = true := decide_eq_true h1
      have g2 : decide (c ≤ 1073741824) = false := decide_eq_false h2
      clear h1 h2
      go_enter Try.func66, Try.ntmps66
      go_wp2
      go_ret
      exact ⟨by first | rfl | simp_all, (HB _).out⟩
  · rw [decide_eq_false (show ¬ (1 ≤ c ∧ c ≤ 1073741824 ∧ 1 ≤ ul ∧ ul ≤ 64) from fun h => h1 h.1)]
    have g1 : decide (1 ≤ c) = false := decide_eq_false h1
    clear h1
    go_enter Try.func66, Try.ntmps66
    go_wp2
    go_ret
    exact ⟨by first | rfl | simp_all, (HB _).out⟩
set_option maxHeartbeats 1000000 in
theorem ticksOf_in (N : Nat) (vs : Array Value) (f t : Int) (x0 x1 x2 x3 x4 x5 x6 : Value) (hvs : vs = #[x0, x1, x2, x3, x4, x5, x6]) (w : World) :
    CallsIn Fence.wide N Try.prog 89 #[.agg vs, .int .i64 f, .int .i64 t] w fun e w' => e = .returned (.func (.func 90) #[] #[.pointer (some ⟨w.heap.size + 1 + 1, 0, none⟩), .pointer (some ⟨w.heap.size + 1, 0, none⟩), .pointer (some ⟨w.heap.size, 0, none⟩)]) ∧
      w' = ((w.alloc (.cells vs 33)).alloc (.cells #[.int .i64 f] 2)).alloc (.cells #[.int .i64 t] 2) := by
  subst hvs
  refine callsIn_of_wp Try.func89 rfl trivial ?_ rfl
  simp only [Try.ntmps89, List.size_toArray, List.length_cons, List.length_nil, Nat.reduceAdd, Nat.reduceSub, Array.replicate_succ, Array.replicate_zero, List.push_toArray, List.append_toArray, List.nil_append, List.cons_append]
  gi_wp2
  go_ret
  exact ⟨rfl, rfl⟩
end Go.Proofs.Ytaofldlidifdcaa.Blk

/-
  Package blocks: put.
-/
namespace Go.Proofs.Ytaofldlidifdcaa.Blk
open Go.RowKit Go.Shelf Go.Proofs.Ytaofldlidifdcaa.Sys Go.Proofs.Ytaofldlidifdcaa.Box Go.Proofs.Ytaofldlidifdcaa.RangeW Go.Proofs.Ytaofldlidifdcaa.Bits
attribute [local go_sem] Oper.semAt_some

theorem run_store_fnB {P : Program} (w : World) (a : Addr) (m : Mode) (f : Fn) (x y : Array Value) : (store a (.func f x y) m).run P w = stored P w a (.func f x y) m := run_store P w a _ m rfl
attribute [local go_sem] run_store_fnB
/-- What ticks from one on, below another one, use. -/
def putL (x : TaskV) (from_ til : Int) : List Int := if mayT x then tickL x.use (max from_ 0) (min (min til x.c) (max from_ 0 + x.use.length) - max from_ 0).toNat else []
/-- As far as the range has come. -/
structure PutI (n₀ b bf z : Nat) (fv : Value) (w0 : World) (pre : List Int) (W : World) : Prop where
  a : W.heap[b]? = some (.cells (rowc (iw (ofN pre))) 50 (0, 0))
  r : W.heap[(n₀ + 1)]? = some (.cells (rowc (iw noneW)) 50 (0, 0))
  f : W.heap[bf]? = some (.cells #[fv] 122 (0, 0))
  b : Below n₀ w0 W
  z : z ≤ W.heap.size
theorem own_cellsB {β : Type} (B b : Nat) (C : β → Array Value) (t : TypeId) : OwnFrom B (fun (s : β) W => W.heap[b]? = some (.cells (C s) t (0, 0))) := fun s W W' row hs hg hr =>
  (hg.block b (Array.getElem?_eq_some_iff.1 hs).1 (fun e => by
    obtain ⟨_, o, ho, hc⟩ := hr b e.symm
    rw [hs] at ho
    cases ho
    cases hc)).trans hs
theorem putI_own (n₀ b bf z : Nat) (fv : Value) (w0 : World) (B : Nat) (hB : n₀ ≤ B) (hB2 : n₀ ≤ w0.heap.size) : OwnFrom B (PutI n₀ b bf z fv w0) := fun s W W' row h hg hr =>
  ⟨own_cellsB _ b (fun s : List Int => rowc (iw (ofN s))) _ s W W' row h.a hg hr, own_cellsB _ (n₀ + 1) (fun _ : Unit => rowc (iw noneW)) _ () W W' row h.r hg hr, own_cellsB _ bf (fun _ : Unit => #[fv]) _ () W W' row h.f hg hr,
    h.b.grown hg (Nat.le_trans hB2 h.b.size) (fun k e => by have := (hr k e).1; omega), Nat.le_trans h.z hg.size⟩
theorem putI_set {n₀ b bf z : Nat} {fv : Value} {w0 : World} {Bt : Nat} (h1 : n₀ ≤ Bt) (h2 : b ≠ Bt) (h3 : n₀ + 1 ≠ Bt) (h4 : bf ≠ Bt) : ∀ s V v, PutI n₀ b bf z fv w0 s V → PutI n₀ b bf z fv w0 s (V.setCell ⟨Bt, 0, none⟩ v) := fun s V v h =>
  ⟨(bx_other _ _ _ _ h2 _).trans h.a, (bx_other _ _ _ _ h3 _).trans h.r, (bx_other _ _ _ _ h4 _).trans h.f, bx_below h.b _ h1 _ _, by have := h.z; simpa [World.setCell] using this⟩
theorem ticks_all (N : Nat) (hN : 1 ≤ N) (n₀ Bt Bf Bk : Nat) (r : RT) (f t : Int) (hf : 0 ≤ f) (hf2 : f ≤ 4611686018427387904) (ht : t ≤ 4611686018427387904) (hul : r.ul ≤ 64) (hu1 : 1 ≤ r.ul) (w : World)
    (hS : SeenB n₀ Bt Bf Bk r f t w) (hn0 : n₀ ≤ w.heap.size) (hbt : n₀ ≤ Bt) (hd1 : Bf ≠ Bt) (hd2 : Bk ≠ Bt) (hbl : Bt < w.heap.size) (hbf : Bf < w.heap.size) (hbk : Bk < w.heap.size) :
    SeqAll Fence.wide N Try.prog 90 #[.pointer (some ⟨Bt, 0, none⟩), .pointer (some ⟨Bf, 0, none⟩), .pointer (some ⟨Bk, 0, none⟩)] (fun x : Int => #[Value.int .i64 x]) (KpB n₀ Bt Bf Bk) (tickL r.x.use f (min t (f + r.ul) - f).toNat) Bt w := fun l J W hW hJ hst hY h0 =>
  ticks_in N hN l n₀ Bt Bf Bk r f t hf hf2 ht hul hu1 J W hJ hst hY (hS.kept (KpB.below hW hn0 hbl hbf hbk)) (Nat.le_trans hn0 hW.size) hbt hd1 hd2 h0
set_option maxRecDepth 100000 in
set_option maxHeartbeats 8000000 in
theorem put_in (N : Nat) (hN : 3 ≤ N) (r : RT) (f t : Int) (hf : f ≤ 4611686018427387904) (w : World) (hr : r.Rd w) :
    CallsIn Fence.wide N Try.prog 80 #[.agg #[.int .i64 r.x.id, .int .i64 r.x.c, .int .i64 r.x.d, .int .i64 r.x.t, .int .i64 r.x.prio, .slice r.ca r.cl r.cc, .slice r.ua r.ul r.uc], .int .i64 f, .int .i64 t] w fun e W' => e = .returned (bv (iw (ofN (putL r.x f t)))) ∧ Below w.heap.size w W' := by
  have h1 : 1 ≤ N := by omega
  have HR := Lib.hid hr
  have hul := hr.2.len
  obtain ⟨rr, hrr⟩ : ∃ rr, rr = putL r.x f t := ⟨_, rfl⟩
  rw [← hrr]
  have HRR := Lib.hid hrr
  clear hr hrr
  refine callsIn_of_wp_marks Try.func80 rfl trivial ?_ rfl
  simp only [Try.ntmps80, List.size_toArray, List.length_cons, List.length_nil, Nat.reduceAdd, Nat.reduceSub, Array.replicate_succ, Array.replicate_zero, List.push_toArray, List.append_toArray, List.nil_append, List.cons_append]
  gi_wp2_with fail
  refine ⟨trivial, ?_⟩
  refine (callsIn_wide.2 (of_n none 0 0 [] _ (rdI0 _))).mono ?_
  rintro e W1 ⟨rfl, hb1⟩
  rw [bvl]
  have nT1 : W1.heap[w.heap.size]? = some (.cells #[.int .i64 r.x.id, .int .i64 r.x.c, .int .i64 r.x.d, .int .i64 r.x.t, .int .i64 r.x.prio, .slice r.ca r.cl r.cc, .slice r.ua r.ul r.uc] 33 (0, 0)) := (hb1.block _ (by simp; omega)).trans ((Below.heap_alloc _ _ _ (by simp)).trans (heap_new _ _ _ rfl))
  have nR1 : W1.heap[(w.heap.size + 1)]? = some (.cells (rowc (iw noneW)) 50 (0, 0)) := (hb1.block _ (by simp)).trans (heap_new _ _ _ (by simp))
  have hw1 : Below w.heap.size w W1 := (((Below.refl _ w).alloc (Nat.le_refl _) _).alloc (by simp) _).trans (hb1.mono (by simp; omega))
  have hs1 : w.heap.size + 2 ≤ W1.heap.size := by have := hb1.size; simp at this; omega
  clear hb1
  have nA2 : (W1.alloc (.cells #[.int .u64 (ofN [] 0 : Int), .int .u64 (ofN [] 1 : Int), .int .u64 (ofN [] 2 : Int), .int .u64 (ofN [] 3 : Int)] 50)).heap[W1.heap.size]? = some (.cells (rowc (iw (ofN []))) 50 (0, 0)) := new4 W1 (ofN [])
  have nT2 : (W1.alloc (.cells #[.int .u64 (ofN [] 0 : Int), .int .u64 (ofN [] 1 : Int), .int .u64 (ofN [] 2 : Int), .int .u64 (ofN [] 3 : Int)] 50)).heap[w.heap.size]? = some (.cells #[.int .i64 r.x.id, .int .i64 r.x.c, .int .i64 r.x.d, .int .i64 r.x.t, .int .i64 r.x.prio, .slice r.ca r.cl r.cc, .slice r.ua r.ul r.uc] 33 (0, 0)) := (Below.heap_alloc _ _ _ (by omega)).trans nT1
  have nR2 : (W1.alloc (.cells #[.int .u64 (ofN [] 0 : Int), .int .u64 (ofN [] 1 : Int), .int .u64 (ofN [] 2 : Int), .int .u64 (ofN [] 3 : Int)] 50)).heap[(w.heap.size + 1)]? = some (.cells (rowc (iw noneW)) 50 (0, 0)) := (Below.heap_alloc _ _ _ (by omega)).trans nR1
  have hw2 : Below w.heap.size w (W1.alloc (.cells #[.int .u64 (ofN [] 0 : Int), .int .u64 (ofN [] 1 : Int), .int .u64 (ofN [] 2 : Int), .int .u64 (ofN [] 3 : Int)] 50)) := hw1.alloc hw1.size _
  have hs2 : (W1.alloc (.cells #[.int .u64 (ofN [] 0 : Int), .int .u64 (ofN [] 1 : Int), .int .u64 (ofN [] 2 : Int), .int .u64 (ofN [] 3 : Int)] 50)).heap.size = W1.heap.size + 1 := by simp
  have HT := Lib.hid nT2
  have HA := Lib.hid nA2
  have HB := Lib.hid nR2
  have HW := Lib.hid hw2
  clear nT1 nR1 hw1 nA2 nR2
  obtain ⟨y0, y1, y2, y3, y4, y5, y6⟩ := bx_seven (x := .slice r.ca r.cl r.cc) (y := .slice r.ua r.ul r.uc) nT2
  have hM := Lib.hid (mayT_any r (W1.alloc (.cells #[.int .u64 (ofN [] 0 : Int), .int .u64 (ofN [] 1 : Int), .int .u64 (ofN [] 2 : Int), .int .u64 (ofN [] 3 : Int)] 50)) (HR.out.below hw2 (Nat.le_refl _)))
  clear nT2 hw2
  gi_wp2_with fail
  clear y0 y1 y2 y3 y4 y5 y6
  generalize W1.alloc (.cells #[.int .u64 (ofN [] 0 : Int), .int .u64 (ofN [] 1 : Int), .int .u64 (ofN [] 2 : Int), .int .u64 (ofN [] 3 : Int)] 50) = W2 at *
  generalize W1.heap.size = b at *
  refine ⟨trivial, ?_⟩
  refine (callsIn_wide.2 hM.out).mono ?_
  rintro e W3 ⟨rfl, hb3⟩
  have HT3 : Hid (W3.heap[w.heap.size]? = some (.cells #[.int .i64 r.x.id, .int .i64 r.x.c, .int .i64 r.x.d, .int .i64 r.x.t, .int .i64 r.x.prio, .slice r.ca r.cl r.cc, .slice r.ua r.ul r.uc] 33 (0, 0))) := (hb3.block _ (by omega)).trans HT.out
  have HA3 : Hid (W3.heap[b]? = some (.cells (rowc (iw (ofN []))) 50 (0, 0))) := (hb3.block _ (by omega)).trans HA.out
  have HB3 : Hid (W3.heap[(w.heap.size + 1)]? = some (.cells (rowc (iw noneW)) 50 (0, 0))) := (hb3.block _ (by omega)).trans HB.out
  have HW3 : Hid (Below w.heap.size w W3) := HW.out.trans (hb3.mono (by omega))
  have hs3 : b + 1 ≤ W3.heap.size := by have := hb3.size; omega
  clear hb3 HT HA HB HW hM
  cases hm : mayT r.x with
  | false =>
    have HM := Lib.hid hm
    clear hm
    obtain ⟨a0, a1, a2, a3⟩ := c4 (HA3.out)
    have k0 := frozen_row (HB3.out) 0
    have k1 := frozen_row (HB3.out) 1
    have k2 := frozen_row (HB3.out) 2
    have k3 := frozen_row (HB3.out) 3
    obtain ⟨e0, e1, e2, e3⟩ := c4 (HB3.out)
    have hw := set4 (HB3.out) (iw (ofN []))
    have hbw := (below_set (below_set (below_set (below_set HW3.out (w.heap.size + 1) (by omega) 0 (.int .u64 ((ofN []) 0 : Int))) (w.heap.size + 1) (by omega) 1 (.int .u64 ((ofN []) 1 : Int))) (w.heap.size + 1) (by omega) 2 (.int .u64 ((ofN []) 2 : Int))) (w.heap.size + 1) (by omega) 3 (.int .u64 ((ofN []) 3 : Int)))
    simp only [iw] at hw
    generalize hW9 : ((((W3.setCell ⟨w.heap.size + 1, 0, none⟩ (.int .u64 ((ofN []) 0 : Int))).setCell ⟨w.heap.size + 1, 1, none⟩ (.int .u64 ((ofN []) 1 : Int))).setCell ⟨w.heap.size + 1, 2, none⟩ (.int .u64 ((ofN []) 2 : Int))).setCell ⟨w.heap.size + 1, 3, none⟩ (.int .u64 ((ofN []) 3 : Int))) = W9 at *
    have HBW := Lib.hid hbw
    have HW9 : Hid (W9.heap[(w.heap.size + 1)]? = some (.cells (rowc (iw (ofN []))) 50 (0, 0))) := hw
    clear hw hbw
    gi_wp2
    obtain ⟨q0, q1, q2, q3⟩ := c4 HW9.out
    refine ⟨bv (iw (ofN [])), ?_, ?_, HBW.out⟩
    · simp [bv, rowc, iw, results, Try.results80, go_sem, q0, q1, q2, q3]
    · rw [HRR.out, putL, HM.out]; rfl
  | true =>
    have hmt := of_decide_eq_true hm
    have HM := Lib.hid hm
    clear hm
    have hT4 : (W3.alloc (.cells #[(.func (.func 88) #[] #[.pointer (some ⟨b, 0, none⟩)])] 122)).heap[w.heap.size]? = some (.cells #[.int .i64 r.x.id, .int .i64 r.x.c, .int .i64 r.x.d, .int .i64 r.x.t, .int .i64 r.x.prio, .slice r.ca r.cl r.cc, .slice r.ua r.ul r.uc] 33 (0, 0)) := (Below.heap_alloc _ _ _ (by omega)).trans HT3.out
    obtain ⟨y0, y1, y2, y3, y4, y5, y6⟩ := bx_seven (x := .slice r.ca r.cl r.cc) (y := .slice r.ua r.ul r.uc) hT4
    have hfn := heap_new W3 (.cells #[Value.nilFunc] 122) _ rfl
    have kf := cell1B hfn
    have ff := bx_free hfn 0
    clear hfn hT4
    gi_wp2_with (refine ⟨trivial, ?_⟩; gi_at_call 89; refine (ticksOf_in (N - 1) #[.int .i64 r.x.id, .int .i64 r.x.c, .int .i64 r.x.d, .int .i64 r.x.t, .int .i64 r.x.prio, .slice r.ca r.cl r.cc, .slice r.ua r.ul r.uc] (max f 0) (min t r.x.c) _ _ _ _ _ _ _ rfl _).mono ?_; rintro e W5 ⟨rfl, rfl⟩)
    clear y0 y1 y2 y3 y4 y5 y6 kf ff
    have nA : ((((W3.alloc (.cells #[(.func (.func 88) #[] #[.pointer (some ⟨b, 0, none⟩)])] 122)).alloc (.cells #[.int .i64 r.x.id, .int .i64 r.x.c, .int .i64 r.x.d, .int .i64 r.x.t, .int .i64 r.x.prio, .slice r.ca r.cl r.cc, .slice r.ua r.ul r.uc] 33)).alloc (.cells #[.int .i64 (max f 0)] 2)).alloc (.cells #[.int .i64 (min t r.x.c)] 2)).heap[b]? = some (.cells (rowc (iw (ofN []))) 50 (0, 0)) := by
      rw [Below.heap_alloc _ _ _ (by simp; omega), Below.heap_alloc _ _ _ (by simp; omega), Below.heap_alloc _ _ _ (by simp; omega), Below.heap_alloc _ _ _ (by omega)]; exact HA3.out
    have nR : ((((W3.alloc (.cells #[(.func (.func 88) #[] #[.pointer (some ⟨b, 0, none⟩)])] 122)).alloc (.cells #[.int .i64 r.x.id, .int .i64 r.x.c, .int .i64 r.x.d, .int .i64 r.x.t, .int .i64 r.x.prio, .slice r.ca r.cl r.cc, .slice r.ua r.ul r.uc] 33)).alloc (.cells #[.int .i64 (max f 0)] 2)).alloc (.cells #[.int .i64 (min t r.x.c)] 2)).heap[(w.heap.size + 1)]? = some (.cells (rowc (iw noneW)) 50 (0, 0)) := by
      rw [Below.heap_alloc _ _ _ (by simp; omega), Below.heap_alloc _ _ _ (by simp; omega), Below.heap_alloc _ _ _ (by simp; omega), Below.heap_alloc _ _ _ (by omega)]; exact HB3.out
    have nF : ((((W3.alloc (.cells #[(.func (.func 88) #[] #[.pointer (some ⟨b, 0, none⟩)])] 122)).alloc (.cells #[.int .i64 r.x.id, .int .i64 r.x.c, .int .i64 r.x.d, .int .i64 r.x.t, .int .i64 r.x.prio, .slice r.ca r.cl r.cc, .slice r.ua r.ul r.uc] 33)).alloc (.cells #[.int .i64 (max f 0)] 2)).alloc (.cells #[.int .i64 (min t r.x.c)] 2)).heap[W3.heap.size]? = some (.cells #[(.func (.func 88) #[] #[.pointer (some ⟨b, 0, none⟩)])] 122 (0, 0)) := by
      rw [Below.heap_alloc _ _ _ (by simp; omega), Below.heap_alloc _ _ _ (by simp; omega), Below.heap_alloc _ _ _ (by simp)]; exact heap_new _ _ _ rfl
    have nK : ((((W3.alloc (.cells #[(.func (.func 88) #[] #[.pointer (some ⟨b, 0, none⟩)])] 122)).alloc (.cells #[.int .i64 r.x.id, .int .i64 r.x.c, .int .i64 r.x.d, .int .i64 r.x.t, .int .i64 r.x.prio, .slice r.ca r.cl r.cc, .slice r.ua r.ul r.uc] 33)).alloc (.cells #[.int .i64 (max f 0)] 2)).alloc (.cells #[.int .i64 (min t r.x.c)] 2)).heap[W3.heap.size + 1]? = some (.cells #[.int .i64 r.x.id, .int .i64 r.x.c, .int .i64 r.x.d, .int .i64 r.x.t, .int .i64 r.x.prio, .slice r.ca r.cl r.cc, .slice r.ua r.ul r.uc] 33 (0, 0)) := by
      rw [Below.heap_alloc _ _ _ (by simp), Below.heap_alloc _ _ _ (by simp)]; exact heap_new _ _ _ (by simp)
    have nG : ((((W3.alloc (.cells #[(.func (.func 88) #[] #[.pointer (some ⟨b, 0, none⟩)])] 122)).alloc (.cells #[.int .i64 r.x.id, .int .i64 r.x.c, .int .i64 r.x.d, .int .i64 r.x.t, .int .i64 r.x.prio, .slice r.ca r.cl r.cc, .slice r.ua r.ul r.uc] 33)).alloc (.cells #[.int .i64 (max f 0)] 2)).alloc (.cells #[.int .i64 (min t r.x.c)] 2)).heap[W3.heap.size + 1 + 1]? = some (.cells #[.int .i64 (max f 0)] 2 (0, 0)) := by
      rw [Below.heap_alloc _ _ _ (by simp)]; exact heap_new _ _ _ (by simp)
    have nU : ((((W3.alloc (.cells #[(.func (.func 88) #[] #[.pointer (some ⟨b, 0, none⟩)])] 122)).alloc (.cells #[.int .i64 r.x.id, .int .i64 r.x.c, .int .i64 r.x.d, .int .i64 r.x.t, .int .i64 r.x.prio, .slice r.ca r.cl r.cc, .slice r.ua r.ul r.uc] 33)).alloc (.cells #[.int .i64 (max f 0)] 2)).alloc (.cells #[.int .i64 (min t r.x.c)] 2)).heap[W3.heap.size + 1 + 1 + 1]? = some (.cells #[.int .i64 (min t r.x.c)] 2 (0, 0)) := heap_new _ _ _ (by simp)
    have hwL : Below w.heap.size w ((((W3.alloc (.cells #[(.func (.func 88) #[] #[.pointer (some ⟨b, 0, none⟩)])] 122)).alloc (.cells #[.int .i64 r.x.id, .int .i64 r.x.c, .int .i64 r.x.d, .int .i64 r.x.t, .int .i64 r.x.prio, .slice r.ca r.cl r.cc, .slice r.ua r.ul r.uc] 33)).alloc (.cells #[.int .i64 (max f 0)] 2)).alloc (.cells #[.int .i64 (min t r.x.c)] 2)) := (((HW3.out.alloc HW3.out.size _).alloc (by have := HW3.out.size; simp; omega) _).alloc (by have := HW3.out.size; simp; omega) _).alloc (by have := HW3.out.size; simp; omega) _
    have hsL : ((((W3.alloc (.cells #[(.func (.func 88) #[] #[.pointer (some ⟨b, 0, none⟩)])] 122)).alloc (.cells #[.int .i64 r.x.id, .int .i64 r.x.c, .int .i64 r.x.d, .int .i64 r.x.t, .int .i64 r.x.prio, .slice r.ca r.cl r.cc, .slice r.ua r.ul r.uc] 33)).alloc (.cells #[.int .i64 (max f 0)] 2)).alloc (.cells #[.int .i64 (min t r.x.c)] 2)).heap.size = W3.heap.size + 4 := by simp
    clear HA3 HB3 HT3 HW3
    generalize ((((W3.alloc (.cells #[(.func (.func 88) #[] #[.pointer (some ⟨b, 0, none⟩)])] 122)).alloc (.cells #[.int .i64 r.x.id, .int .i64 r.x.c, .int .i64 r.x.d, .int .i64 r.x.t, .int .i64 r.x.prio, .slice r.ca r.cl r.cc, .slice r.ua r.ul r.uc] 33)).alloc (.cells #[.int .i64 (max f 0)] 2)).alloc (.cells #[.int .i64 (min t r.x.c)] 2)) = wL at *
    have HI : Hid (PutI w.heap.size b W3.heap.size wL.heap.size (.func (.func 88) #[] #[.pointer (some ⟨b, 0, none⟩)]) w [] wL) := ⟨nA, nR, nF, hwL, Nat.le_refl _⟩
    have hS : SeenB w.heap.size (W3.heap.size + 1 + 1 + 1) (W3.heap.size + 1 + 1) (W3.heap.size + 1) r (max f 0) (min t r.x.c) wL := ⟨nU, nG, nK, fun w' h => HR.out.below (hwL.trans h) (Nat.le_refl _)⟩
    have HWL := Lib.hid hwL
    have hxs : Hid (rr = tickL r.x.use (max f 0) (min (min t r.x.c) (max f 0 + r.ul) - max f 0).toNat) := by
      rw [RowKit.Hid, HRR.out, putL, if_pos HM.out, hul]
    clear nA nR nF nU nG nK hwL
    have hzs : w.heap.size + 3 ≤ W3.heap.size := by omega
    refine wpIn_rangeFunc_all (w0 := wL) rfl h1 (gf := 90) (lb := #[.pointer (some ⟨W3.heap.size + 1 + 1 + 1, 0, none⟩), .pointer (some ⟨W3.heap.size + 1 + 1, 0, none⟩), .pointer (some ⟨W3.heap.size + 1, 0, none⟩)]) rfl trivial (enters_of Try.func90 (by kernel_rfl) rfl)
      (ticks_all (N - 1) (by omega) w.heap.size _ _ _ r (max f 0) (min t r.x.c) (by omega) (by omega) (by omega) (by omega) (by omega) wL hS (by omega) (by omega) (by omega) (by omega) (by omega) (by omega) (by omega)) (by omega)
      KpB.trans (KpB.put (by omega) (by omega) (by omega) (by omega)) (Below.refl _ _) (fun _ => rfl)
      (PutI w.heap.size b W3.heap.size wL.heap.size (.func (.func 88) #[] #[.pointer (some ⟨b, 0, none⟩)]) w) (putI_own _ _ _ _ _ _ _ (by omega) (Nat.le_refl _)) (putI_set (by omega) (by omega) (by omega) (by omega)) HI.out
      (fun x => { tmps := #[.agg #[.int .i64 r.x.id, .int .i64 r.x.c, .int .i64 r.x.d, .int .i64 r.x.t, .int .i64 r.x.prio, .slice r.ca r.cl r.cc, .slice r.ua r.ul r.uc], .int .i64 f, .int .i64 t, .pointer (some ⟨w.heap.size, 0, none⟩), undef, undef, .pointer (some ⟨w.heap.size + 1, 0, none⟩), .pointer (some ⟨b, 0, none⟩), .pointer (some ⟨W3.heap.size, 0, none⟩), .int .i64 x, .agg #[.int .u64 (ofN [] 0 : Int), .int .u64 (ofN [] 1 : Int), .int .u64 (ofN [] 2 : Int), .int .u64 (ofN [] 3 : Int)], .agg #[.int .i64 r.x.id, .int .i64 r.x.c, .int .i64 r.x.d, .int .i64 r.x.t, .int .i64 r.x.prio, .slice r.ca r.cl r.cc, .slice r.ua r.ul r.uc], .bool true, .bool false, undef, (.func (.func 88) #[] #[.pointer (some ⟨b, 0, none⟩)]), .agg #[.int .i64 r.x.id, .int .i64 r.x.c, .int .i64 r.x.d, .int .i64 r.x.t, .int .i64 r.x.prio, .slice r.ca r.cl r.cc, .slice r.ua r.ul r.uc], .int .i64 f, .int .i64 (max f 0), .int .i64 t, .pointer (some ⟨w.heap.size, 1, none⟩), .int .i64 r.x.c, .int .i64 (min t r.x.c), .func (.func 90) #[] #[.pointer (some ⟨W3.heap.size + 1 + 1 + 1, 0, none⟩), .pointer (some ⟨W3.heap.size + 1 + 1, 0, none⟩), .pointer (some ⟨W3.heap.size + 1, 0, none⟩)], .int .i64 x, undef, undef, undef, undef], defers := [] }) ?assign ?body ?done
    case assign =>
      intro l x W K hK
      gi_wp2
      exact hK
    case body =>
      rintro l1 pre x W ⟨hA, hR, hF, hB, hZ⟩ _
      have cF := cell1B hF
      have HPut := Lib.hid (put1_any x b (ofN pre) (Ws.ofN _) W hA)
      have hsn : Hid (withW (ofN pre) x = ofN (pre ++ [x])) := (ofN_snoc _ _).symm
      rw [hsn.out] at HPut
      have HA := Lib.hid hA
      have HR2 := Lib.hid hR
      have HF := Lib.hid hF
      have HB2 := Lib.hid hB
      have HZ := Lib.hid hZ
      have hZ4 : W3.heap.size + 4 ≤ wL.heap.size := by omega
      clear hA hR hF hB hZ HI hS hsL
      generalize wL.heap.size = Z at *
      gi_wp2_with fail
      refine ⟨trivial, (fun h => by cases h), ?_⟩
      refine (CallsIn.inRound l1 (callsIn_wide.2 HPut.out)).mono ?_
      rintro e W9 ⟨⟨v, rfl⟩, hb9, hO9⟩
      have hz := HZ.out
      have HQ : Hid (KeepsFrom Z W W9 ∧ KpB w.heap.size (W3.heap.size + 1 + 1 + 1) (W3.heap.size + 1 + 1) (W3.heap.size + 1) W W9 ∧ PutI w.heap.size b W3.heap.size Z (.func (.func 88) #[] #[.pointer (some ⟨b, 0, none⟩)]) w (pre ++ [x]) W9) :=
        ⟨hO9.keeps HA.out, hO9.kpb (by omega) (by have := HB2.out.size; omega) (by omega) (by omega) (by omega) (by omega) (by omega) (by omega), hb9, (hO9.block _ (by omega) (by omega)).trans HR2.out, (hO9.block _ (by omega) (by omega)).trans HF.out, HB2.out.trans (hO9.below (by omega) HB2.out.size), Nat.le_trans HZ.out hO9.size⟩
      clear cF HPut hb9 hO9 hz
      gi_wp2
      exact HQ.out
    case done =>
      rintro D W hD ⟨hA, hR, hF, hB, hZ⟩ hK
      rw [← hxs.out] at hA
      have HK := Lib.hid hK
      have HD := Lib.hid hD
      have HA := Lib.hid hA
      have HR2 := Lib.hid hR
      have HB2 := Lib.hid hB
      clear hA hR hF hB hZ HI hS hK hD hxs
      have HRR2 := HRR
      clear HRR
      obtain ⟨a0, a1, a2, a3⟩ := c4 (HA.out)
      generalize hY : ofN rr = Y at *
      have k0 := frozen_row (HR2.out) 0
      have k1 := frozen_row (HR2.out) 1
      have k2 := frozen_row (HR2.out) 2
      have k3 := frozen_row (HR2.out) 3
      obtain ⟨e0, e1, e2, e3⟩ := c4 (HR2.out)
      have hw := set4 (HR2.out) (iw Y)
      have hbw := (below_set (below_set (below_set (below_set HB2.out (w.heap.size + 1) (by omega) 0 (.int .u64 (Y 0 : Int))) (w.heap.size + 1) (by omega) 1 (.int .u64 (Y 1 : Int))) (w.heap.size + 1) (by omega) 2 (.int .u64 (Y 2 : Int))) (w.heap.size + 1) (by omega) 3 (.int .u64 (Y 3 : Int)))
      simp only [iw] at hw
      have hkd : ((((W.setCell ⟨w.heap.size + 1, 0, none⟩ (.int .u64 (Y 0 : Int))).setCell ⟨w.heap.size + 1, 1, none⟩ (.int .u64 (Y 1 : Int))).setCell ⟨w.heap.size + 1, 2, none⟩ (.int .u64 (Y 2 : Int))).setCell ⟨w.heap.size + 1, 3, none⟩ (.int .u64 (Y 3 : Int))).heap[D]? = some (.deferred (some [])) := (set4_other W (w.heap.size + 1) D (by have := HD.out; omega) _ _ _ _).trans HK.out
      generalize hW9 : ((((W.setCell ⟨w.heap.size + 1, 0, none⟩ (.int .u64 (Y 0 : Int))).setCell ⟨w.heap.size + 1, 1, none⟩ (.int .u64 (Y 1 : Int))).setCell ⟨w.heap.size + 1, 2, none⟩ (.int .u64 (Y 2 : Int))).setCell ⟨w.heap.size + 1, 3, none⟩ (.int .u64 (Y 3 : Int))) = W9 at *
      have HKD := Lib.hid hkd
      clear hkd
      have HBW := Lib.hid hbw
      have HW9 : Hid (W9.heap[(w.heap.size + 1)]? = some (.cells (rowc (iw Y)) 50 (0, 0))) := hw
      clear hw hbw
      gi_wp2
      have hb9 : Below (w.heap.size + 2) W9 (W9.putObj D (.deferred none)) := (Below.refl _ W9).grown (grownBy_putObj' W9 D _) (Nat.succ_le_of_lt (lt4 HW9.out)) (fun k e => by cases e; have := HD.out; omega)
      obtain ⟨q0, q1, q2, q3⟩ := c4 (old4 HW9.out hb9 (by omega))
      refine ⟨by simp, .inl ⟨_, _, rfl, run_takeDeferred HKD.out, ?_⟩⟩
      refine ⟨bv (iw Y), ?_, by rw [hY], HBW.out.trans (hb9.mono (by omega))⟩
      simp [bv, rowc, iw, results, Try.results80, go_sem, q0, q1, q2, q3]
theorem put_any (r : RT) (f t : Int) (hf : f ≤ 4611686018427387904) (w : World) (hr : r.Rd w) :
    Calls Try.prog 80 #[.agg #[.int .i64 r.x.id, .int .i64 r.x.c, .int .i64 r.x.d, .int .i64 r.x.t, .int .i64 r.x.prio, .slice r.ca r.cl r.cc, .slice r.ua r.ul r.uc], .int .i64 f, .int .i64 t] w fun e W' => e = .returned (bv (iw (ofN (putL r.x f t)))) ∧ Below w.heap.size w W' :=
  callsIn_wide.1 (put_in 3 (Nat.le_refl _) r f t hf w hr)
end Go.Proofs.Ytaofldlidifdcaa.Blk

/-
  Package blocks: Used, Before, Behind, Useful.
-/
namespace Go.Proofs.Ytaofldlidifdcaa.Blk
open Go.RowKit Go.Shelf Go.Proofs.Ytaofldlidifdcaa.Sys Go.Proofs.Ytaofldlidifdcaa.Box Go.Proofs.Ytaofldlidifdcaa.Bits

def usedN (x : TaskV) : Nat → Nat := ofN (putL x 0 x.c)
def beforeN (x : TaskV) (p : Int) : Nat → Nat := ofN (putL x 0 p)
def behindN (x : TaskV) (p : Int) : Nat → Nat := ofN (putL x p x.c)
def usefulN (x : TaskV) (p : Int) : Nat → Nat := andW (beforeN x p) (behindN x p)
theorem usefulW (x : TaskV) (p : Int) : Ws (usefulN x p) := (Ws.ofN _).and
theorem below_next {W0 a b : World} (h : Below W0.heap.size W0 a) (k : Below a.heap.size a b) : Below W0.heap.size W0 b := h.trans (k.mono h.size)
set_option maxHeartbeats 4000000 in
set_option maxRecDepth 100000 in
theorem used_any (r : RT)  (w : World) (hr : r.Rd w) :
    Calls Try.prog 65 #[.agg #[.int .i64 r.x.id, .int .i64 r.x.c, .int .i64 r.x.d, .int .i64 r.x.t, .int .i64 r.x.prio, .slice r.ca r.cl r.cc, .slice r.ua r.ul r.uc]] w fun e w' => e = .returned (bv (iw (usedN r.x))) ∧ Below w.heap.size w w' := by
  have hB0 : Below w.heap.size w ((w.alloc (.cells #[.int .i64 r.x.id, .int .i64 r.x.c, .int .i64 r.x.d, .int .i64 r.x.t, .int .i64 r.x.prio, .slice r.ca r.cl r.cc, .slice r.ua r.ul r.uc] 33)).alloc (.cells #[.int .u64 0, .int .u64 0, .int .u64 0, .int .u64 0] 50)) := ((Below.refl _ w).alloc (Nat.le_refl _) _).alloc (by simp) _
  have nR : ((w.alloc (.cells #[.int .i64 r.x.id, .int .i64 r.x.c, .int .i64 r.x.d, .int .i64 r.x.t, .int .i64 r.x.prio, .slice r.ca r.cl r.cc, .slice r.ua r.ul r.uc] 33)).alloc (.cells #[.int .u64 0, .int .u64 0, .int .u64 0, .int .u64 0] 50)).heap[w.heap.size + 1]? = some (.cells (rowc (iw noneW)) 50 (0, 0)) := heap_new _ _ _ (by simp)
  have hP := put_any r (0) (r.x.c) (by decide) ((w.alloc (.cells #[.int .i64 r.x.id, .int .i64 r.x.c, .int .i64 r.x.d, .int .i64 r.x.t, .int .i64 r.x.prio, .slice r.ca r.cl r.cc, .slice r.ua r.ul r.uc] 33)).alloc (.cells #[.int .u64 0, .int .u64 0, .int .u64 0, .int .u64 0] 50)) (hr.below hB0 (Nat.le_refl _))
  obtain ⟨Y, hY⟩ : ∃ Y, usedN r.x = Y := ⟨_, rfl⟩
  have hY2 : ofN (putL r.x (0) (r.x.c)) = Y := hY
  rw [hY2] at hP
  rw [hY]
  simp only [bvl] at hP ⊢
  have HN := Lib.hid nR
  have HB0 := Lib.hid hB0
  clear nR hB0 hr hY hY2
  go_enter Try.func65, Try.ntmps65
  go_wp2_with fail
  refine hP.mono ?_
  rintro e W1 ⟨rfl, hb1⟩
  have HRE : Hid (W1.heap[w.heap.size + 1]? = some (.cells (rowc (iw noneW)) 50 (0, 0))) := old4 HN.out hb1 (lt4 HN.out)
  have HBE : Hid (Below w.heap.size w W1) := HB0.out.trans (hb1.mono HB0.out.size)
  clear hb1 hP HN HB0
  have k0 := frozen_row HRE.out 0
  have k1 := frozen_row HRE.out 1
  have k2 := frozen_row HRE.out 2
  have k3 := frozen_row HRE.out 3
  obtain ⟨e0, e1, e2, e3⟩ := c4 HRE.out
  have hw := set4 HRE.out (iw Y)
  have hbw := below_set (below_set (below_set (below_set HBE.out (w.heap.size + 1) (by omega) 0 (.int .u64 (Y 0 : Int))) (w.heap.size + 1) (by omega) 1 (.int .u64 (Y 1 : Int))) (w.heap.size + 1) (by omega) 2 (.int .u64 (Y 2 : Int))) (w.heap.size + 1) (by omega) 3 (.int .u64 (Y 3 : Int))
  simp only [iw] at hw
  have HBW := Lib.hid hbw
  have HW9 := Lib.hid hw
  clear hw hbw
  go_wp2
  obtain ⟨q0, q1, q2, q3⟩ := c4 HW9.out
  refine bodyPost_ret (v := .agg #[.int .u64 (Y 0 : Int), .int .u64 (Y 1 : Int), .int .u64 (Y 2 : Int), .int .u64 (Y 3 : Int)]) ?_ rfl ⟨rfl, HBW.out⟩
  simp [results, Try.results65, go_sem, q0, q1, q2, q3]
set_option maxHeartbeats 4000000 in
set_option maxRecDepth 100000 in
theorem before_any (r : RT) (p : Int) (w : World) (hr : r.Rd w) :
    Calls Try.prog 81 #[.agg #[.int .i64 r.x.id, .int .i64 r.x.c, .int .i64 r.x.d, .int .i64 r.x.t, .int .i64 r.x.prio, .slice r.ca r.cl r.cc, .slice r.ua r.ul r.uc], .int .i64 p] w fun e w' => e = .returned (bv (iw (beforeN r.x p))) ∧ Below w.heap.size w w' := by
  have hB0 : Below w.heap.size w ((w.alloc (.cells #[.int .i64 r.x.id, .int .i64 r.x.c, .int .i64 r.x.d, .int .i64 r.x.t, .int .i64 r.x.prio, .slice r.ca r.cl r.cc, .slice r.ua r.ul r.uc] 33)).alloc (.cells #[.int .u64 0, .int .u64 0, .int .u64 0, .int .u64 0] 50)) := ((Below.refl _ w).alloc (Nat.le_refl _) _).alloc (by simp) _
  have nR : ((w.alloc (.cells #[.int .i64 r.x.id, .int .i64 r.x.c, .int .i64 r.x.d, .int .i64 r.x.t, .int .i64 r.x.prio, .slice r.ca r.cl r.cc, .slice r.ua r.ul r.uc] 33)).alloc (.cells #[.int .u64 0, .int .u64 0, .int .u64 0, .int .u64 0] 50)).heap[w.heap.size + 1]? = some (.cells (rowc (iw noneW)) 50 (0, 0)) := heap_new _ _ _ (by simp)
  have hP := put_any r (0) (p) (by decide) ((w.alloc (.cells #[.int .i64 r.x.id, .int .i64 r.x.c, .int .i64 r.x.d, .int .i64 r.x.t, .int .i64 r.x.prio, .slice r.ca r.cl r.cc, .slice r.ua r.ul r.uc] 33)).alloc (.cells #[.int .u64 0, .int .u64 0, .int .u64 0, .int .u64 0] 50)) (hr.below hB0 (Nat.le_refl _))
  obtain ⟨Y, hY⟩ : ∃ Y, beforeN r.x p = Y := ⟨_, rfl⟩
  have hY2 : ofN (putL r.x (0) (p)) = Y := hY
  rw [hY2] at hP
  rw [hY]
  simp only [bvl] at hP ⊢
  have HN := Lib.hid nR
  have HB0 := Lib.hid hB0
  clear nR hB0 hr hY hY2
  go_enter Try.func81, Try.ntmps81
  go_wp2_with fail
  refine hP.mono ?_
  rintro e W1 ⟨rfl, hb1⟩
  have HRE : Hid (W1.heap[w.heap.size + 1]? = some (.cells (rowc (iw noneW)) 50 (0, 0))) := old4 HN.out hb1 (lt4 HN.out)
  have HBE : Hid (Below w.heap.size w W1) := HB0.out.trans (hb1.mono HB0.out.size)
  clear hb1 hP HN HB0
  have k0 := frozen_row HRE.out 0
  have k1 := frozen_row HRE.out 1
  have k2 := frozen_row HRE.out 2
  have k3 := frozen_row HRE.out 3
  obtain ⟨e0, e1, e2, e3⟩ := c4 HRE.out
  have hw := set4 HRE.out (iw Y)
  have hbw := below_set (below_set (below_set (below_set HBE.out (w.heap.size + 1) (by omega) 0 (.int .u64 (Y 0 : Int))) (w.heap.size + 1) (by omega) 1 (.int .u64 (Y 1 : Int))) (w.heap.size + 1) (by omega) 2 (.int .u64 (Y 2 : Int))) (w.heap.size + 1) (by omega) 3 (.int .u64 (Y 3 : Int))
  simp only [iw] at hw
  have HBW := Lib.hid hbw
  have HW9 := Lib.hid hw
  clear hw hbw
  go_wp2
  obtain ⟨q0, q1, q2, q3⟩ := c4 HW9.out
  refine bodyPost_ret (v := .agg #[.int .u64 (Y 0 : Int), .int .u64 (Y 1 : Int), .int .u64 (Y 2 : Int), .int .u64 (Y 3 : Int)]) ?_ rfl ⟨rfl, HBW.out⟩
  simp [results, Try.results81, go_sem, q0, q1, q2, q3]
set_option maxHeartbeats 4000000 in
set_option maxRecDepth 100000 in
theorem behind_any (r : RT) (p : Int) (hp : p ≤ 4611686018427387904) (w : World) (hr : r.Rd w) :
    Calls Try.prog 82 #[.agg #[.int .i64 r.x.id, .int .i64 r.x.c, .int .i64 r.x.d, .int .i64 r.x.t, .int .i64 r.x.prio, .slice r.ca r.cl r.cc, .slice r.ua r.ul r.uc], .int .i64 p] w fun e w' => e = .returned (bv (iw (behindN r.x p))) ∧ Below w.heap.size w w' := by
  have hB0 : Below w.heap.size w ((w.alloc (.cells #[.int .i64 r.x.id, .int .i64 r.x.c, .int .i64 r.x.d, .int .i64 r.x.t, .int .i64 r.x.prio, .slice r.ca r.cl r.cc, .slice r.ua r.ul r.uc] 33)).alloc (.cells #[.int .u64 0, .int .u64 0, .int .u64 0, .int .u64 0] 50)) := ((Below.refl _ w).alloc (Nat.le_refl _) _).alloc (by simp) _
  have nR : ((w.alloc (.cells #[.int .i64 r.x.id, .int .i64 r.x.c, .int .i64 r.x.d, .int .i64 r.x.t, .int .i64 r.x.prio, .slice r.ca r.cl r.cc, .slice r.ua r.ul r.uc] 33)).alloc (.cells #[.int .u64 0, .int .u64 0, .int .u64 0, .int .u64 0] 50)).heap[w.heap.size + 1]? = some (.cells (rowc (iw noneW)) 50 (0, 0)) := heap_new _ _ _ (by simp)
  have hP := put_any r (p) (r.x.c) (hp) ((w.alloc (.cells #[.int .i64 r.x.id, .int .i64 r.x.c, .int .i64 r.x.d, .int .i64 r.x.t, .int .i64 r.x.prio, .slice r.ca r.cl r.cc, .slice r.ua r.ul r.uc] 33)).alloc (.cells #[.int .u64 0, .int .u64 0, .int .u64 0, .int .u64 0] 50)) (hr.below hB0 (Nat.le_refl _))
  obtain ⟨Y, hY⟩ : ∃ Y, behindN r.x p = Y := ⟨_, rfl⟩
  have hY2 : ofN (putL r.x (p) (r.x.c)) = Y := hY
  rw [hY2] at hP
  rw [hY]
  simp only [bvl] at hP ⊢
  have HN := Lib.hid nR
  have HB0 := Lib.hid hB0
  clear nR hB0 hr hY hY2
  go_enter Try.func82, Try.ntmps82
  go_wp2_with fail
  refine hP.mono ?_
  rintro e W1 ⟨rfl, hb1⟩
  have HRE : Hid (W1.heap[w.heap.size + 1]? = some (.cells (rowc (iw noneW)) 50 (0, 0))) := old4 HN.out hb1 (lt4 HN.out)
  have HBE : Hid (Below w.heap.size w W1) := HB0.out.trans (hb1.mono HB0.out.size)
  clear hb1 hP HN HB0
  have k0 := frozen_row HRE.out 0
  have k1 := frozen_row HRE.out 1
  have k2 := frozen_row HRE.out 2
  have k3 := frozen_row HRE.out 3
  obtain ⟨e0, e1, e2, e3⟩ := c4 HRE.out
  have hw := set4 HRE.out (iw Y)
  have hbw := below_set (below_set (below_set (below_set HBE.out (w.heap.size + 1) (by omega) 0 (.int .u64 (Y 0 : Int))) (w.heap.size + 1) (by omega) 1 (.int .u64 (Y 1 : Int))) (w.heap.size + 1) (by omega) 2 (.int .u64 (Y 2 : Int))) (w.heap.size + 1) (by omega) 3 (.int .u64 (Y 3 : Int))
  simp only [iw] at hw
  have HBW := Lib.hid hbw
  have HW9 := Lib.hid hw
  clear hw hbw
  go_wp2
  obtain ⟨q0, q1, q2, q3⟩ := c4 HW9.out
  refine bodyPost_ret (v := .agg #[.int .u64 (Y 0 : Int), .int .u64 (Y 1 : Int), .int .u64 (Y 2 : Int), .int .u64 (Y 3 : Int)]) ?_ rfl ⟨rfl, HBW.out⟩
  simp [results, Try.results82, go_sem, q0, q1, q2, q3]
set_option maxHeartbeats 8000000 in
set_option maxRecDepth 100000 in
theorem useful_any (r : RT) (p : Int) (hp : p ≤ 4611686018427387904) (w : World) (hr : r.Rd w) :
    Calls Try.prog 67 #[.agg #[.int .i64 r.x.id, .int .i64 r.x.c, .int .i64 r.x.d, .int .i64 r.x.t, .int .i64 r.x.prio, .slice r.ca r.cl r.cc, .slice r.ua r.ul r.uc], .int .i64 p] w fun e w' => e = .returned (bv (iw (usefulN r.x p))) ∧ Below w.heap.size w w' := by
  obtain ⟨W0, hW0⟩ : ∃ W0, (w.alloc (.cells #[.int .i64 r.x.id, .int .i64 r.x.c, .int .i64 r.x.d, .int .i64 r.x.t, .int .i64 r.x.prio, .slice r.ca r.cl r.cc, .slice r.ua r.ul r.uc] 33)).alloc (.cells #[.int .u64 0, .int .u64 0, .int .u64 0, .int .u64 0] 50) = W0 := ⟨_, rfl⟩
  have hB0 : Below w.heap.size w W0 := by rw [← hW0]; exact ((Below.refl _ w).alloc (Nat.le_refl _) _).alloc (by simp) _
  have nR : W0.heap[w.heap.size + 1]? = some (.cells (rowc (iw noneW)) 50 (0, 0)) := by rw [← hW0]; exact heap_new _ _ _ (by simp)
  have nT : W0.heap[w.heap.size]? = some (.cells (taskCells r.x.id r.x.c r.x.d r.x.t r.x.prio (.slice r.ca r.cl r.cc) (.slice r.ua r.ul r.uc)) 33 (0, 0)) := by rw [← hW0]; exact (Below.heap_alloc _ _ _ (by simp)).trans (heap_new _ _ _ rfl)
  have hs0 : W0.heap.size = w.heap.size + 2 := by rw [← hW0]; simp
  have hr0 : r.Rd W0 := hr.below hB0 (Nat.le_refl _)
  obtain ⟨Y, hY⟩ : ∃ Y, usefulN r.x p = Y := ⟨_, rfl⟩
  have hA := fun w2 (h : Below W0.heap.size W0 w2) => before_any r p w2 (hr0.below h (Nat.le_refl _))
  have hZ := fun w2 (h : Below W0.heap.size W0 w2) => behind_any r p hp w2 (hr0.below h (Nat.le_refl _))
  have hD := fun w2 => and_n (A := beforeN r.x p) (B := behindN r.x p) (Ws.ofN _) (Ws.ofN _) w2
  have hY2 : andW (beforeN r.x p) (behindN r.x p) = Y := hY
  simp only [hY2] at hD
  rw [hY]
  generalize beforeN r.x p = X1 at *
  generalize behindN r.x p = X2 at *
  simp only [bvl] at hA hZ hD ⊢
  have hkeep : ∀ w', Below W0.heap.size W0 w' → w'.cell? ⟨w.heap.size, 0, none⟩ = some (.int .i64 r.x.id) ∧ w'.cell? ⟨w.heap.size, 1, none⟩ = some (.int .i64 r.x.c) ∧ w'.cell? ⟨w.heap.size, 2, none⟩ = some (.int .i64 r.x.d) ∧ w'.cell? ⟨w.heap.size, 3, none⟩ = some (.int .i64 r.x.t) ∧ w'.cell? ⟨w.heap.size, 4, none⟩ = some (.int .i64 r.x.prio) ∧ w'.cell? ⟨w.heap.size, 5, none⟩ = some (.slice r.ca r.cl r.cc) ∧ w'.cell? ⟨w.heap.size, 6, none⟩ = some (.slice r.ua r.ul r.uc) := fun w' h => bx_seven ((h.block _ (by omega)).trans nT)
  have hkeep2 : ∀ w' v0 v1 v2 v3, Below W0.heap.size W0 w' → ((((w'.setCell ⟨w.heap.size + 1, 0, none⟩ v0).setCell ⟨w.heap.size + 1, 1, none⟩ v1).setCell ⟨w.heap.size + 1, 2, none⟩ v2).setCell ⟨w.heap.size + 1, 3, none⟩ v3).cell? ⟨w.heap.size, 0, none⟩ = some (.int .i64 r.x.id) ∧ ((((w'.setCell ⟨w.heap.size + 1, 0, none⟩ v0).setCell ⟨w.heap.size + 1, 1, none⟩ v1).setCell ⟨w.heap.size + 1, 2, none⟩ v2).setCell ⟨w.heap.size + 1, 3, none⟩ v3).cell? ⟨w.heap.size, 1, none⟩ = some (.int .i64 r.x.c) ∧ ((((w'.setCell ⟨w.heap.size + 1, 0, none⟩ v0).setCell ⟨w.heap.size + 1, 1, none⟩ v1).setCell ⟨w.heap.size + 1, 2, none⟩ v2).setCell ⟨w.heap.size + 1, 3, none⟩ v3).cell? ⟨w.heap.size, 2, none⟩ = some (.int .i64 r.x.d) ∧ ((((w'.setCell ⟨w.heap.size + 1, 0, none⟩ v0).setCell ⟨w.heap.size + 1, 1, none⟩ v1).setCell ⟨w.heap.size + 1, 2, none⟩ v2).setCell ⟨w.heap.size + 1, 3, none⟩ v3).cell? ⟨w.heap.size, 3, none⟩ = some (.int .i64 r.x.t) ∧ ((((w'.setCell ⟨w.heap.size + 1, 0, none⟩ v0).setCell ⟨w.heap.size + 1, 1, none⟩ v1).setCell ⟨w.heap.size + 1, 2, none⟩ v2).setCell ⟨w.heap.size + 1, 3, none⟩ v3).cell? ⟨w.heap.size, 4, none⟩ = some (.int .i64 r.x.prio) ∧ ((((w'.setCell ⟨w.heap.size + 1, 0, none⟩ v0).setCell ⟨w.heap.size + 1, 1, none⟩ v1).setCell ⟨w.heap.size + 1, 2, none⟩ v2).setCell ⟨w.heap.size + 1, 3, none⟩ v3).cell? ⟨w.heap.size, 5, none⟩ = some (.slice r.ca r.cl r.cc) ∧ ((((w'.setCell ⟨w.heap.size + 1, 0, none⟩ v0).setCell ⟨w.heap.size + 1, 1, none⟩ v1).setCell ⟨w.heap.size + 1, 2, none⟩ v2).setCell ⟨w.heap.size + 1, 3, none⟩ v3).cell? ⟨w.heap.size, 6, none⟩ = some (.slice r.ua r.ul r.uc) := fun w' v0 v1 v2 v3 h => bx_seven ((set4_other w' (w.heap.size + 1) (w.heap.size) (by omega) v0 v1 v2 v3).trans ((h.block _ (by omega)).trans nT))
  have hres : ∀ w', Below W0.heap.size W0 w' → w'.heap[w.heap.size + 1]? = some (.cells (rowc (iw noneW)) 50 (0, 0)) := fun w' h => (h.block _ (by omega)).trans nR
  have hBd : Below W0.heap.size W0 W0.drew := (Below.refl _ _).drew
  have HB0 := Lib.hid hB0
  clear nR nT hB0 hr hr0 hY hY2
  go_enter Try.func67, Try.ntmps67
  go_wp2_with fail

  clear hW0
  go_region_held3 (fun w' => w'.cell? ⟨w.heap.size, 0, none⟩ = some (.int .i64 r.x.id) ∧ w'.cell? ⟨w.heap.size, 1, none⟩ = some (.int .i64 r.x.c) ∧ w'.cell? ⟨w.heap.size, 2, none⟩ = some (.int .i64 r.x.d) ∧ w'.cell? ⟨w.heap.size, 3, none⟩ = some (.int .i64 r.x.t) ∧ w'.cell? ⟨w.heap.size, 4, none⟩ = some (.int .i64 r.x.prio) ∧ w'.cell? ⟨w.heap.size, 5, none⟩ = some (.slice r.ca r.cl r.cc) ∧ w'.cell? ⟨w.heap.size, 6, none⟩ = some (.slice r.ua r.ul r.uc)) (first | with_reducible exact hkeep _ hBd | exact hkeep _ (by assumption) | exact hkeep2 _ _ _ _ _ (by assumption))
    (first
      | (go_at_call 81; (with_reducible refine (hA _ (by assumption)).mono ?_); rintro e w1 ⟨rfl, hb⟩; have hBn := below_next (by assumption) hb)
      | (go_at_call 82; (with_reducible refine (hZ _ (by assumption)).mono ?_); rintro e w2 ⟨rfl, hb⟩; have hBn := below_next (by assumption) hb)
      | (go_at_call 55; (with_reducible refine (hD _).mono ?_); rintro e w3 ⟨rfl, hb⟩; have hBn := below_next (by assumption) hb; obtain ⟨e0, e1, e2, e3⟩ := c4 (hres _ hBn); have k0 := frozen_row (hres _ hBn) 0; have k1 := frozen_row (hres _ hBn) 1; have k2 := frozen_row (hres _ hBn) 2; have k3 := frozen_row (hres _ hBn) 3))
  all_goals
    have hw := set4 (hres _ hBn) (iw Y)
    have hbw := below_set (below_set (below_set (below_set (HB0.out.trans (hBn.mono HB0.out.size)) (w.heap.size + 1) (by omega) 0 (.int .u64 (Y 0 : Int))) (w.heap.size + 1) (by omega) 1 (.int .u64 (Y 1 : Int))) (w.heap.size + 1) (by omega) 2 (.int .u64 (Y 2 : Int))) (w.heap.size + 1) (by omega) 3 (.int .u64 (Y 3 : Int))
    simp only [iw] at hw
    obtain ⟨q0, q1, q2, q3⟩ := c4 hw
    have HBW := Lib.hid hbw
    clear hw hbw hkeep hkeep2 hA hZ hD hres
    go_wp2
    refine bodyPost_ret (v := .agg #[.int .u64 (Y 0 : Int), .int .u64 (Y 1 : Int), .int .u64 (Y 2 : Int), .int .u64 (Y 3 : Int)]) ?_ rfl ⟨rfl, HBW.out⟩
    simp [results, Try.results67, go_sem, q0, q1, q2, q3]
end Go.Proofs.Ytaofldlidifdcaa.Blk

/-
  Package blocks, plain: what is ahead, behind, useful, most.
-/
namespace Go.Proofs.Ytaofldlidifdcaa.Blk
open Go.RowKit Go.Shelf Go.Proofs.Ytaofldlidifdcaa.Sys Go.Proofs.Ytaofldlidifdcaa.Box Go.Proofs.Ytaofldlidifdcaa.Bits

theorem acc_mod {u : List Int} (hu : u ≠ []) {k : Int} (hk : 0 ≤ k) : accI u k = u.getD (k % (u.length : Int)).toNat 0 := by
  have : accB u k = true := decide_eq_true ⟨hu, hk⟩
  simp [accI, this]
theorem acc_rest {u : List Int} (hu : u ≠ []) {k : Int} (hk : 0 ≤ k) : accI u k = accI u (k % (u.length : Int)) := by
  have hl : 0 < u.length := List.length_pos_iff.2 hu
  rw [acc_mod hu hk, acc_mod hu (Int.emod_nonneg _ (by omega)), Int.emod_emod_of_dvd _ (Int.dvd_refl _)]
theorem tick_has (u : List Int) (f : Int) (m i : Nat) (hi : i < 256) : hasN (ofN (tickL u f m)) i = true ↔ ∃ k : Int, f ≤ k ∧ k < f + (m : Int) ∧ accI u k = (i : Int) := by
  rw [has_ofN _ _ hi, List.any_eq_true]
  unfold tickL
  constructor
  · rintro ⟨x, hx, he⟩
    obtain ⟨j, hj, rfl⟩ := List.mem_map.1 hx
    have := List.mem_range.1 hj
    exact ⟨f + (j : Int), by omega, by omega, of_decide_eq_true he⟩
  · rintro ⟨k, h1, h2, h3⟩
    refine ⟨accI u k, List.mem_map.2 ⟨(k - f).toNat, List.mem_range.2 (by omega), ?_⟩, decide_eq_true h3⟩
    congr 1
    omega
/-- Uses a tick from this one on, below another one, this set? -/
def Uses (x : TaskV) (f t : Int) (i : Nat) : Prop := ∃ k : Int, 0 ≤ k ∧ f ≤ k ∧ k < t ∧ k < x.c ∧ accI x.use k = (i : Int)
theorem put_has {x : TaskV} (hm : mayT x = true) (f t : Int) (i : Nat) (hi : i < 256) : hasN (ofN (putL x f t)) i = true ↔ Uses x f t i := by
  have h := of_decide_eq_true hm
  have hu : x.use ≠ [] := by intro e; rw [e] at h; simp at h
  have hl : 0 < x.use.length := List.length_pos_iff.2 hu
  unfold putL
  rw [if_pos hm, tick_has _ _ _ _ hi]
  constructor
  · rintro ⟨k, h1, h2, h3⟩
    exact ⟨k, by omega, by omega, by omega, by omega, h3⟩
  · rintro ⟨k, h1, h2, h3, h4, h5⟩
    -- the tick of the same set within the first turn
    have m0 := Int.emod_nonneg (k - max f 0) (show (x.use.length : Int) ≠ 0 by omega)
    have m1 := Int.emod_lt_of_pos (k - max f 0) (show (0 : Int) < (x.use.length : Int) by omega)
    have m2 : (k - max f 0) % (x.use.length : Int) ≤ k - max f 0 := by
      have e := Int.mul_ediv_add_emod (k - max f 0) (x.use.length : Int)
      have q := Int.ediv_nonneg (show 0 ≤ k - max f 0 by omega) (show (0 : Int) ≤ (x.use.length : Int) by omega)
      have := Int.mul_nonneg (show (0 : Int) ≤ (x.use.length : Int) by omega) q
      omega
    refine ⟨max f 0 + (k - max f 0) % (x.use.length : Int), by omega, by omega, ?_⟩
    rw [← h5, acc_rest hu (by omega), acc_rest hu h1]
    congr 1
    rw [Int.add_emod_emod]
    congr 1
    omega
theorem count_mono {α : Type} {p q : α → Bool} : ∀ (l : List α), (∀ x ∈ l, p x = true → q x = true) → (l.filter p).length ≤ (l.filter q).length
  | [], _ => Nat.le_refl _
  | a :: l, h => by
    have ih := count_mono l fun x hx => h x (List.mem_cons_of_mem _ hx)
    have ha := h a (List.mem_cons_self ..)
    cases hp : p a with
    | false =>
      cases hq : q a with
      | false => simpa [List.filter_cons, hp, hq] using ih
      | true => simp [List.filter_cons, hp, hq]; omega
    | true =>
      have hq := ha hp
      simp [List.filter_cons, hp, hq]; exact ih
theorem len_mono {A B : Nat → Nat} (h : ∀ i, i < 256 → hasN A i = true → hasN B i = true) : (listN A).length ≤ (listN B).length := count_mono _ fun i hi => h i (List.mem_range.1 hi)
theorem useful_has {x : TaskV} (hm : mayT x = true) (p : Int) (i : Nat) (hi : i < 256) : hasN (usefulN x p) i = true ↔ Uses x 0 p i ∧ Uses x p x.c i := by
  unfold usefulN beforeN behindN
  rw [has_and, Bool.and_eq_true, put_has hm _ _ _ hi, put_has hm _ _ _ hi]
theorem used_has {x : TaskV} (hm : mayT x = true) (i : Nat) (hi : i < 256) : hasN (usedN x) i = true ↔ Uses x 0 x.c i := put_has hm _ _ _ hi
/-- How many are useful at a place, of some; how many are used. -/
def cntU (x : TaskV) (O : Nat → Nat) (p : Int) : Nat := (listN (andW (usefulN x p) O)).length
def allU (x : TaskV) (O : Nat → Nat) : Nat := (listN (andW (usedN x) O)).length
theorem cnt_all {x : TaskV} (hm : mayT x = true) (O : Nat → Nat) (p : Int) : cntU x O p ≤ allU x O := len_mono fun i hi h => by
  rw [has_and, Bool.and_eq_true] at h ⊢
  refine ⟨?_, h.2⟩
  obtain ⟨⟨k, a, b, c, d, e⟩, _⟩ := (useful_has hm p i hi).1 h.1
  exact (used_has hm i hi).2 ⟨k, a, b, d, d, e⟩
/-- Behind one turn, with one turn to come, all is useful. -/
theorem cnt_turn {x : TaskV} (hm : mayT x = true) (O : Nat → Nat) (h2 : 2 * (x.use.length : Int) ≤ x.c) : allU x O ≤ cntU x O (x.use.length : Int) := len_mono fun i hi h => by
  have hmt := of_decide_eq_true hm
  have hu : x.use ≠ [] := by intro e; rw [e] at hmt; simp at hmt
  rw [has_and, Bool.and_eq_true] at h ⊢
  refine ⟨?_, h.2⟩
  obtain ⟨k, a, _, _, _, e⟩ := (used_has hm i hi).1 h.1
  have m0 := Int.emod_nonneg k (show (x.use.length : Int) ≠ 0 by omega)
  have m1 := Int.emod_lt_of_pos k (show (0 : Int) < (x.use.length : Int) by omega)
  refine (useful_has hm _ i hi).2 ⟨⟨k % (x.use.length : Int), m0, m0, m1, by omega, by rw [← acc_rest hu a]; exact e⟩, ⟨k % (x.use.length : Int) + (x.use.length : Int), by omega, by omega, by omega, by omega, ?_⟩⟩
  rw [acc_rest hu (by omega), Int.add_emod_right, Int.emod_emod_of_dvd _ (Int.dvd_refl _), ← acc_rest hu a]
  exact e
/-- The most so far, and where first. -/
structure MostR (x : TaskV) (O : Nat → Nat) (m : Nat) (at_ : Int) (e : Int) : Prop where
  le : ∀ p, 1 ≤ p → p < e → cntU x O p ≤ m
  z : m = 0 → at_ = 0
  at1 : 0 < m → 1 ≤ at_ ∧ at_ < e ∧ cntU x O at_ = m ∧ ∀ q, 1 ≤ q → q < at_ → cntU x O q < m
theorem MostR.none (x : TaskV) (O : Nat → Nat) : MostR x O 0 0 1 := ⟨fun p h1 h2 => by omega, fun _ => rfl, fun h => absurd h (by decide)⟩
theorem MostR.up {x : TaskV} {O : Nat → Nat} {m : Nat} {a p : Int} (h : MostR x O m a p) (h1 : 1 ≤ p) (hk : m < cntU x O p) : MostR x O (cntU x O p) p (p + 1) :=
  ⟨fun q q1 q2 => by
    by_cases e : q = p
    · rw [e]; exact Nat.le_refl _
    · have := h.le q q1 (by omega); omega, fun h0 => by omega, fun _ => ⟨h1, by omega, rfl, fun q q1 q2 => by have := h.le q q1 q2; omega⟩⟩
theorem MostR.same {x : TaskV} {O : Nat → Nat} {m : Nat} {a p : Int} (h : MostR x O m a p) (hk : cntU x O p ≤ m) : MostR x O m a (p + 1) :=
  ⟨fun q q1 q2 => by
    by_cases e : q = p
    · rw [e]; exact hk
    · exact h.le q q1 (by omega), h.z, fun h0 => by obtain ⟨a1, a2, a3⟩ := h.at1 h0; exact ⟨a1, by omega, a3⟩⟩
theorem MostR.bd {x : TaskV} {O : Nat → Nat} {m : Nat} {a e : Int} (hm : mayT x = true) (h : MostR x O m a e) : m ≤ allU x O := by
  by_cases h0 : 0 < m
  · obtain ⟨_, _, h3, _⟩ := h.at1 h0
    rw [← h3]; exact cnt_all hm O a
  · omega
/-- Where all are useful nothing more comes. -/
theorem MostR.whole {x : TaskV} {O : Nat → Nat} {m : Nat} {a e : Int} (hm : mayT x = true) (h : MostR x O m a e) (hw : m = allU x O) (C : Int) (hC : e ≤ C) : MostR x O m a C :=
  ⟨fun p _ _ => by rw [hw]; exact cnt_all hm O p, h.z, fun h0 => by obtain ⟨a1, a2, a3⟩ := h.at1 h0; exact ⟨a1, by omega, a3⟩⟩
/-- Behind two turns the most has been met. -/
theorem MostR.turns {x : TaskV} {O : Nat → Nat} {m : Nat} {a p : Int} (hm : mayT x = true) (h : MostR x O m a p) (hp : 2 * (x.use.length : Int) < p) (hC : p < x.c) : m = allU x O := by
  have hmt := of_decide_eq_true hm
  have h1 := h.bd hm
  have h2 := h.le (x.use.length : Int) (by omega) (by omega)
  have h3 := cnt_turn hm O (by omega)
  omega
end Go.Proofs.Ytaofldlidifdcaa.Blk

/-
  Package blocks: further on in a job. Plain.
-/
namespace Go.Proofs.Ytaofldlidifdcaa.Blk
open Go.RowKit Go.Shelf Go.Proofs.Ytaofldlidifdcaa.Sys Go.Proofs.Ytaofldlidifdcaa.Box Go.Proofs.Ytaofldlidifdcaa.Bits

theorem count_one {p q : Nat → Bool} (k : Nat) : ∀ (l : List Nat), l.Nodup → (∀ x ∈ l, q x = true → p x = true ∨ x = k) → (l.filter q).length ≤ (l.filter p).length + 1
  | [], _, _ => by simp
  | x :: l, hn, h => by
    obtain ⟨hx, hn⟩ := List.nodup_cons.1 hn
    have hl : ∀ y ∈ l, q y = true → p y = true ∨ y = k := fun y hy => h y (List.mem_cons_of_mem _ hy)
    by_cases e : x = k
    · have hm : (l.filter q).length ≤ (l.filter p).length := count_mono l fun y hy hq => by
        rcases hl y hy hq with h1 | h1
        · exact h1
        · subst e; subst h1; exact absurd hy hx
      simp only [List.filter_cons]
      split <;> split <;> simp <;> omega
    · have hi := count_one k l hn hl
      have h0 := h x (List.mem_cons_self ..)
      simp only [List.filter_cons]
      split
      · rename_i hq
        rcases h0 hq with h1 | h1
        · rw [if_pos h1]; simp; omega
        · exact absurd h1 e
      · split <;> simp <;> omega
theorem len_one {A B : Nat → Nat} (k : Nat) (h : ∀ i, i < 256 → hasN B i = true → hasN A i = true ∨ i = k) : (listN B).length ≤ (listN A).length + 1 := count_one k _ List.nodup_range fun i hi => h i (List.mem_range.1 hi)
theorem len_256 (A : Nat → Nat) : (listN A).length ≤ 256 := by
  have := List.length_filter_le (hasN A) (List.range 256)
  rw [List.length_range] at this
  exact this
theorem and_sub {A B : Nat → Nat} (hA : Ws A) (h : ∀ i, i < 256 → hasN A i = true → hasN B i = true) : eqN (andW A B) A = true := eqN_ext hA.and hA fun i hi => by
  rw [has_and]
  cases hq : hasN A i
  · rfl
  · rw [h i hi hq]; rfl
theorem and_sup {A B : Nat → Nat} (hA : Ws A) (hB : Ws B) (h : ∀ i, i < 256 → hasN B i = true → hasN A i = true) : eqN (andW A B) B = true := eqN_ext hA.and hB fun i hi => by
  rw [has_and]
  cases hq : hasN B i
  · cases hasN A i <;> rfl
  · rw [h i hi hq]; rfl
theorem steps_facts (x : TaskV) (p : Int) (h0 : 0 ≤ p) (hc : p < x.c) :
    eqN (andW (beforeN x p) (beforeN x (p + 1))) (beforeN x p) = true ∧ eqN (andW (behindN x p) (behindN x (p + 1))) (behindN x (p + 1)) = true ∧
      (listN (beforeN x (p + 1))).length ≤ (listN (beforeN x p)).length + 1 ∧ (listN (behindN x p)).length ≤ (listN (behindN x (p + 1))).length + 1 := by
  cases hm : mayT x
  · have e : ∀ f t, putL x f t = [] := fun f t => by unfold putL; rw [if_neg (by rw [hm]; decide)]
    unfold beforeN behindN
    rw [e, e, e, e]
    exact ⟨and_sub (Ws.ofN _) fun i _ h => h, and_sub (Ws.ofN _) fun i _ h => h, by omega, by omega⟩
  · have hb : ∀ t i, i < 256 → (hasN (beforeN x t) i = true ↔ Uses x 0 t i) := fun t i hi => put_has hm 0 t i hi
    have hd : ∀ t i, i < 256 → (hasN (behindN x t) i = true ↔ Uses x t x.c i) := fun t i hi => put_has hm t x.c i hi
    refine ⟨and_sub (Ws.ofN _) fun i hi h => ?_, and_sup (Ws.ofN _) (Ws.ofN _) fun i hi h => ?_, len_one (accI x.use p).toNat fun i hi h => ?_, len_one (accI x.use p).toNat fun i hi h => ?_⟩
    · obtain ⟨k, a, b, c, d, e⟩ := (hb _ i hi).1 h
      exact (hb _ i hi).2 ⟨k, a, b, by omega, d, e⟩
    · obtain ⟨k, a, b, c, d, e⟩ := (hd _ i hi).1 h
      exact (hd _ i hi).2 ⟨k, a, by omega, c, d, e⟩
    · obtain ⟨k, a, b, c, d, e⟩ := (hb _ i hi).1 h
      by_cases hk : k = p
      · right; rw [← hk, e]; simp
      · left; exact (hb _ i hi).2 ⟨k, a, b, by omega, d, e⟩
    · obtain ⟨k, a, b, c, d, e⟩ := (hd _ i hi).1 h
      by_cases hk : k = p
      · right; rw [← hk, e]; simp
      · left; exact (hd _ i hi).2 ⟨k, a, by omega, c, d, e⟩
end Go.Proofs.Ytaofldlidifdcaa.Blk

/-
  Package blocks: the parts of what is used. Plain.
-/
namespace Go.Proofs.Ytaofldlidifdcaa.Blk
open Go.RowKit Go.Shelf Go.Proofs.Ytaofldlidifdcaa.Sys Go.Proofs.Ytaofldlidifdcaa.Box Go.Proofs.Ytaofldlidifdcaa.Bits

theorem eq_not {A : Nat → Nat} (hA : Ws A) (h : ∀ i, i < 256 → ¬ hasN A i = true) : eqN A noneW = true := eqN_ext hA Ws.none fun i hi => by
  rw [has_none]
  cases hq : hasN A i
  · rfl
  · exact absurd hq (h i hi)
theorem eq_iff {A B : Nat → Nat} (hA : Ws A) (hB : Ws B) (h : ∀ i, i < 256 → (hasN A i = true ↔ hasN B i = true)) : eqN A B = true := eqN_ext hA hB fun i hi => by
  have := h i hi
  cases ha : hasN A i <;> cases hb : hasN B i <;> simp_all
theorem eq_rfl {A : Nat → Nat} (hA : Ws A) : eqN A A = true := eqN_ext hA hA fun _ _ => rfl
theorem parts_facts9 (x : TaskV) (p : Int) (h0 : 0 ≤ p) :
    eqN (orL [beforeN x p, behindN x p]) (usedN x) = true ∧ eqN (andW (beforeN x p) (behindN x p)) (usefulN x p) = true ∧ eqN (usefulN x 0) noneW = true ∧ eqN (usefulN x x.c) noneW = true ∧
      eqN (beforeN x x.c) (usedN x) = true ∧ eqN (behindN x 0) (usedN x) = true := by
  have hX : Ws (beforeN x p) := Ws.ofN _
  have hY : Ws (behindN x p) := Ws.ofN _
  refine ⟨eq_iff (Ws.orL (ws2 hX hY)) (Ws.ofN _) fun i hi => ?_, eq_rfl hX.and, eq_not (usefulW _ _) fun i hi => ?_, eq_not (usefulW _ _) fun i hi => ?_, eq_rfl (Ws.ofN _), eq_rfl (Ws.ofN _)⟩
  · rw [has_orL]
    simp only [List.any_cons, List.any_nil, Bool.or_false, Bool.or_eq_true]
    cases hm : mayT x
    · have e : ∀ f t, putL x f t = [] := fun f t => by unfold putL; rw [if_neg (by rw [hm]; decide)]
      unfold beforeN behindN usedN
      rw [e, e, e]
      exact or_self_iff
    · have hb : hasN (beforeN x p) i = true ↔ Uses x 0 p i := put_has hm 0 p i hi
      have hd : hasN (behindN x p) i = true ↔ Uses x p x.c i := put_has hm p x.c i hi
      rw [hb, hd, used_has hm i hi]
      constructor
      · rintro (⟨k, a, b, c, d, e⟩ | ⟨k, a, b, c, d, e⟩)
        · exact ⟨k, a, b, d, d, e⟩
        · exact ⟨k, a, a, d, d, e⟩
      · rintro ⟨k, a, b, c, d, e⟩
        by_cases hk : k < p
        · exact .inl ⟨k, a, b, hk, d, e⟩
        · exact .inr ⟨k, a, by omega, d, d, e⟩
  · cases hm : mayT x
    · have e : ∀ f t, putL x f t = [] := fun f t => by unfold putL; rw [if_neg (by rw [hm]; decide)]
      unfold usefulN beforeN behindN
      rw [e, e, has_and]
      have hz : hasN (ofN []) i = false := by rw [show ofN [] = noneW from rfl, has_none]
      rw [hz]; decide
    · rw [useful_has hm 0 i hi]
      rintro ⟨⟨k, a, b, c, d, e⟩, _⟩
      omega
  · cases hm : mayT x
    · have e : ∀ f t, putL x f t = [] := fun f t => by unfold putL; rw [if_neg (by rw [hm]; decide)]
      unfold usefulN beforeN behindN
      rw [e, e, has_and]
      have hz : hasN (ofN []) i = false := by rw [show ofN [] = noneW from rfl, has_none]
      rw [hz]; decide
    · rw [useful_has hm x.c i hi]
      rintro ⟨_, ⟨k, a, b, c, d, e⟩⟩
      omega
end Go.Proofs.Ytaofldlidifdcaa.Blk

/-
  Package blocks: Most.
-/
namespace Go.Proofs.Ytaofldlidifdcaa.Blk
open Go.RowKit Go.Shelf Go.Proofs.Ytaofldlidifdcaa.Sys Go.Proofs.Ytaofldlidifdcaa.Box Go.Proofs.Ytaofldlidifdcaa.Bits

def MostP (x : TaskV) (O : Nat → Nat) (w : World) (e : Ending) (w' : World) : Prop := ∃ (m : Nat) (a : Int), e = .returned (.tuple #[.int .i64 (m : Int), .int .i64 a]) ∧ MostR x O m a x.c ∧ Below w.heap.size w w'
set_option maxHeartbeats 16000000 in
set_option maxRecDepth 100000 in
theorem most_any (r : RT) (hm : mayT r.x = true) (O : Nat → Nat) (hO : Ws O) (w : World) (hr : r.Rd w) :
    Calls Try.prog 46 #[.agg #[.int .i64 r.x.id, .int .i64 r.x.c, .int .i64 r.x.d, .int .i64 r.x.t, .int .i64 r.x.prio, .slice r.ca r.cl r.cc, .slice r.ua r.ul r.uc], .agg #[.int .u64 (O 0 : Int), .int .u64 (O 1 : Int), .int .u64 (O 2 : Int), .int .u64 (O 3 : Int)]] w (MostP r.x O w) := by
  have hmt := of_decide_eq_true hm
  have hul := hr.2.len
  rw [hul] at hmt
  obtain ⟨t1, t2, t3, t4⟩ := hmt
  have HM := Lib.hid hm
  have HU := Lib.hid hul
  have hB0 : Below w.heap.size w ((w.alloc (.cells #[.int .i64 r.x.id, .int .i64 r.x.c, .int .i64 r.x.d, .int .i64 r.x.t, .int .i64 r.x.prio, .slice r.ca r.cl r.cc, .slice r.ua r.ul r.uc] 33)).alloc (.cells #[.int .u64 (O 0 : Int), .int .u64 (O 1 : Int), .int .u64 (O 2 : Int), .int .u64 (O 3 : Int)] 50)) := ((Below.refl _ w).alloc (Nat.le_refl _) _).alloc (by simp) _
  have nT0 : ((w.alloc (.cells #[.int .i64 r.x.id, .int .i64 r.x.c, .int .i64 r.x.d, .int .i64 r.x.t, .int .i64 r.x.prio, .slice r.ca r.cl r.cc, .slice r.ua r.ul r.uc] 33)).alloc (.cells #[.int .u64 (O 0 : Int), .int .u64 (O 1 : Int), .int .u64 (O 2 : Int), .int .u64 (O 3 : Int)] 50)).heap[w.heap.size]? = some (.cells #[.int .i64 r.x.id, .int .i64 r.x.c, .int .i64 r.x.d, .int .i64 r.x.t, .int .i64 r.x.prio, .slice r.ca r.cl r.cc, .slice r.ua r.ul r.uc] 33 (0, 0)) := (Below.heap_alloc _ _ _ (by simp)).trans (heap_new _ _ _ rfl)
  have nO0 : ((w.alloc (.cells #[.int .i64 r.x.id, .int .i64 r.x.c, .int .i64 r.x.d, .int .i64 r.x.t, .int .i64 r.x.prio, .slice r.ca r.cl r.cc, .slice r.ua r.ul r.uc] 33)).alloc (.cells #[.int .u64 (O 0 : Int), .int .u64 (O 1 : Int), .int .u64 (O 2 : Int), .int .u64 (O 3 : Int)] 50)).heap[w.heap.size + 1]? = some (.cells (rowc (iw O)) 50 (0, 0)) := heap_new _ _ _ (by simp)
  have hM := mayT_any r ((w.alloc (.cells #[.int .i64 r.x.id, .int .i64 r.x.c, .int .i64 r.x.d, .int .i64 r.x.t, .int .i64 r.x.prio, .slice r.ca r.cl r.cc, .slice r.ua r.ul r.uc] 33)).alloc (.cells #[.int .u64 (O 0 : Int), .int .u64 (O 1 : Int), .int .u64 (O 2 : Int), .int .u64 (O 3 : Int)] 50)) (hr.below hB0 (Nat.le_refl _))
  rw [hm] at hM
  have HR := Lib.hid hr
  have HT0 := Lib.hid nT0
  have HO0 := Lib.hid nO0
  have HB0 := Lib.hid hB0
  have HMY := Lib.hid hM
  have HOW := Lib.hid hO
  clear nT0 nO0 hB0 hM hr hm hul hO
  go_enter Try.func46, Try.ntmps46
  obtain ⟨y0, y1, y2, y3, y4, y5, y6⟩ := bx_seven HT0.out
  go_wp2
  go_step3
  go_wp2_with fail
  clear y0 y1 y2 y3 y4 y5 y6
  refine HMY.out.mono ?_
  rintro e W1 ⟨rfl, hb1⟩
  have HT : Hid (∀ w2, Below W1.heap.size W1 w2 → w2.heap[w.heap.size]? = some (.cells (taskCells r.x.id r.x.c r.x.d r.x.t r.x.prio (.slice r.ca r.cl r.cc) (.slice r.ua r.ul r.uc)) 33 (0, 0))) := fun w2 h => (h.block _ (by have := hb1.size; simp at this; omega)).trans ((hb1.block _ (by simp; omega)).trans HT0.out)
  have HO : Hid (∀ w2, Below W1.heap.size W1 w2 → w2.heap[w.heap.size + 1]? = some (.cells (rowc (iw O)) 50 (0, 0))) := fun w2 h => (h.block _ (by have := hb1.size; simp at this; omega)).trans ((hb1.block _ (by simp)).trans HO0.out)
  have HB1 : Hid (Below w.heap.size w W1) := HB0.out.trans (hb1.mono HB0.out.size)
  have HR1 : Hid (∀ w2, Below W1.heap.size W1 w2 → r.Rd w2) := fun w2 h => HR.out.below (HB1.out.trans (h.mono HB1.out.size)) (Nat.le_refl _)
  clear hb1 HT0 HO0 HB0 HMY HR
  obtain ⟨Z, hZ⟩ : ∃ Z, andW (usedN r.x) O = Z := ⟨_, rfl⟩
  have hZW : Ws Z := by rw [← hZ]; exact (Ws.ofN _).and
  have hAll : Hid (allU r.x O = (listN Z).length) := by rw [RowKit.Hid, allU, hZ]
  have hUs := fun w2 (h : Below W1.heap.size W1 w2) => used_any r w2 (HR1.out w2 h)
  have hAn := fun w2 => and_n (A := usedN r.x) (B := O) (Ws.ofN _) HOW.out w2
  have hLn := fun w2 => len_n hZW w2
  simp only [hZ] at hAn
  generalize usedN r.x = U at *
  simp only [bvl] at hUs hAn hLn
  obtain ⟨N, hN⟩ : ∃ N : Nat, (listN Z).length = N := ⟨_, rfl⟩
  simp only [hN] at hLn hAll
  have HUs := Lib.hid hUs
  have HAn := Lib.hid hAn
  have HLn := Lib.hid hLn
  clear hUs hAn hLn hZ hN
  go_wp2_with fail
  refine Calm.wp_region_calm (B := W1.heap.size) (W := W1) (by kernel_rfl) (by kernel_rfl) (by kernel_rfl) (Nat.le_refl _) (Below.refl _ _).drew ?_
  apply Exists.intro
  repeat (first
    | (apply Calm.calm_skip
       · rfl
       intro N hN
       go_simp
       apply hN.out
       clear hN N)
    | (apply Calm.calm_val
       · rfl
       · intro w hB hF K hK
         unfold Calm.opAt
         obtain ⟨y0, y1, y2, y3, y4, y5, y6⟩ := bx_seven (HT.out w hB)
         obtain ⟨o0, o1, o2, o3⟩ := c4 (HO.out w hB)
         go_simp
         first
           | (simp only [Calm.upon_value]
              exact hK.out _ _ rfl (Below.refl _ _))
           | (simp only [Calm.upon_enter]
              with_reducible refine (HUs.out _ (by assumption)).mono ?_
              rintro e w' ⟨rfl, hb⟩
              exact ⟨_, rfl, hK.out _ _ rfl hb⟩)
           | (simp only [Calm.upon_enter]
              with_reducible refine (HAn.out _).mono ?_
              rintro e w' ⟨rfl, hb⟩
              exact ⟨_, rfl, hK.out _ _ rfl hb⟩)
           | (simp only [Calm.upon_enter]
              with_reducible refine (HLn.out _).mono ?_
              rintro e w' ⟨rfl, hb⟩
              exact ⟨_, rfl, hK.out _ _ rfl hb⟩)
       intro N hN
       go_simp
       apply hN.out
       clear hN N))
  apply Calm.calm_nil
  intro w3 hB3 _
  have HB3 := Lib.hid hB3
  clear hB3 HUs HAn HLn hZW
  go_wp2
  go_step3
  go_wp2
  go_loopg [6, 7, 9] r.x.c.toNat (fun gg nv av pv wr => ∃ (m : Nat) (a p : Int), 1 ≤ p ∧ p ≤ r.x.c ∧ (r.x.c - p).toNat ≤ gg ∧ nv = .int .i64 (m : Int) ∧ av = .int .i64 a ∧ pv = .int .i64 p ∧ Aside (MostR r.x O m a p) ∧ Aside (Below W1.heap.size W1 wr))
  case atStart => exact ⟨0, 0, 1, by omega, t1, by omega, rfl, rfl, rfl, MostR.none _ _, HB3.out⟩
  case round =>
    obtain ⟨m, a, p, p1, p2, hg, rfl, rfl, rfl, hMR, hB⟩ := hrel
    clear HB3
    obtain ⟨y0, y1, y2, y3, y4, y5, y6⟩ := bx_seven (HT.out wr hB.out)
    by_cases hlt : p < r.x.c
    · by_cases hw : m = N
      · have hwz : ((m : Int) == (N : Int)) = true := by simp; omega
        have HE : Hid (MostP r.x O w (.returned (.tuple #[.int .i64 (m : Int), .int .i64 a])) wr) := ⟨m, a, rfl, hMR.out.whole HM.out (hw.trans hAll.out.symm) _ p2, HB1.out.trans (hB.out.mono HB1.out.size)⟩
        clear hw hMR hB
        go_wp2
        rw [Exit.noGoto_ret]
        go_ret2
        exact HE.out
      · have hwz : ((m : Int) == (N : Int)) = false := by simp; omega
        have htn : ¬ 2 * (r.ul : Int) < p := fun h => hw ((hMR.out.turns HM.out (by rw [HU.out]; exact h) hlt).trans hAll.out)
        have ew : IntKind.i64.wrap (2 * (r.ul : Int)) = 2 * (r.ul : Int) := by rw [IntKind.wrap_i64]; omega
        obtain ⟨Z2, hZ2⟩ : ∃ Z2, andW (usefulN r.x p) O = Z2 := ⟨_, rfl⟩
        have hZW : Ws Z2 := by rw [← hZ2]; exact (usefulW _ _).and
        have hC : Hid (cntU r.x O p = (listN Z2).length) := by rw [RowKit.Hid, cntU, hZ2]
        have hUs := fun w2 (h : Below wr.heap.size wr w2) => useful_any r p (by omega) w2 (HR1.out w2 (hB.out.trans (h.mono hB.out.size)))
        have hAn := fun w2 => and_n (A := usefulN r.x p) (B := O) (usefulW _ _) HOW.out w2
        have hLn := fun w2 => len_n hZW w2
        have HT2 : Hid (∀ w2, Below wr.heap.size wr w2 → w2.heap[w.heap.size]? = some (.cells (taskCells r.x.id r.x.c r.x.d r.x.t r.x.prio (.slice r.ca r.cl r.cc) (.slice r.ua r.ul r.uc)) 33 (0, 0))) := fun w2 h => HT.out w2 (hB.out.trans (h.mono hB.out.size))
        have HO2 : Hid (∀ w2, Below wr.heap.size wr w2 → w2.heap[w.heap.size + 1]? = some (.cells (rowc (iw O)) 50 (0, 0))) := fun w2 h => HO.out w2 (hB.out.trans (h.mono hB.out.size))
        simp only [hZ2] at hAn
        generalize usefulN r.x p = U2 at *
        simp only [bvl] at hUs hAn hLn
        obtain ⟨K, hK⟩ : ∃ K : Nat, (listN Z2).length = K := ⟨_, rfl⟩
        simp only [hK] at hLn hC
        have HUs := Lib.hid hUs
        have HAn := Lib.hid hAn
        have HLn := Lib.hid hLn
        clear hUs hAn hLn hZ2 hK hw
        go_wp2_with fail
        clear y0 y1 y2 y3 y4 y5 y6
        refine Calm.wp_region_calm (B := wr.heap.size) (W := wr) (by kernel_rfl) (by kernel_rfl) (by kernel_rfl) (Nat.le_refl _) (Below.refl _ _).drew ?_
        apply Exists.intro
        repeat (first
          | (apply Calm.calm_skip
             · rfl
             intro N hN
             go_simp
             apply hN.out
             clear hN N)
          | (apply Calm.calm_val
             · rfl
             · intro w hB hF K hK
               unfold Calm.opAt
               obtain ⟨y0, y1, y2, y3, y4, y5, y6⟩ := bx_seven (HT2.out w hB)
               obtain ⟨o0, o1, o2, o3⟩ := c4 (HO2.out w hB)
               go_simp
               first
                 | (simp only [Calm.upon_value]
                    exact hK.out _ _ rfl (Below.refl _ _))
                 | (simp only [Calm.upon_enter]
                    with_reducible refine (HUs.out _ (by assumption)).mono ?_
                    rintro e w' ⟨rfl, hb⟩
                    exact ⟨_, rfl, hK.out _ _ rfl hb⟩)
                 | (simp only [Calm.upon_enter]
                    with_reducible refine (HAn.out _).mono ?_
                    rintro e w' ⟨rfl, hb⟩
                    exact ⟨_, rfl, hK.out _ _ rfl hb⟩)
                 | (simp only [Calm.upon_enter]
                    with_reducible refine (HLn.out _).mono ?_
                    rintro e w' ⟨rfl, hb⟩
                    exact ⟨_, rfl, hK.out _ _ rfl hb⟩)
             intro N hN
             go_simp
             apply hN.out
             clear hN N))
        apply Calm.calm_nil
        intro w5 hB5 _
        obtain ⟨y0, y1, y2, y3, y4, y5, y6⟩ := bx_seven (HT2.out w5 hB5)
        have HB5 : Hid (Below W1.heap.size W1 w5) := hB.out.trans (hB5.mono hB.out.size)
        have HC : Hid (K = cntU r.x O p) := hC.out.symm
        clear hB5 HUs HAn HLn hZW HT2 HO2 hB hC
        by_cases hk : m < K
        · have HQ : Hid (MostR r.x O K p (p + 1)) := by rw [RowKit.Hid, HC.out]; exact hMR.out.up p1 (by rw [← HC.out]; exact hk)
          clear hMR HC
          go_wp2
          go_roundg (r.x.c - (p + 1)).toNat
          case measure => omega
          case rel => exact ⟨K, p, p + 1, by omega, by omega, by omega, rfl, rfl, rfl, HQ.out, HB5.out⟩
        · have HQ : Hid (MostR r.x O m a (p + 1)) := hMR.out.same (by rw [← HC.out]; omega)
          clear hMR HC
          go_wp2
          go_roundg (r.x.c - (p + 1)).toNat
          case measure => omega
          case rel => exact ⟨m, a, p + 1, by omega, by omega, by omega, rfl, rfl, rfl, HQ.out, HB5.out⟩
    · obtain rfl : p = r.x.c := by omega
      have HE : Hid (MostP r.x O w (.returned (.tuple #[.int .i64 (m : Int), .int .i64 a])) wr) := ⟨m, a, rfl, hMR.out, HB1.out.trans (hB.out.mono HB1.out.size)⟩
      clear hMR hB
      go_wp2
      go_ret2
      exact HE.out
end Go.Proofs.Ytaofldlidifdcaa.Blk

/-
  Package blocks: Most of any task.
-/
namespace Go.Proofs.Ytaofldlidifdcaa.Blk
open Go.RowKit Go.Shelf Go.Proofs.Ytaofldlidifdcaa.Sys Go.Proofs.Ytaofldlidifdcaa.Box Go.Proofs.Ytaofldlidifdcaa.Bits

theorem u64_bdB {a : Int} (h : (Lit.int .u64 a).wf = true) : 0 ≤ a ∧ a < 18446744073709551616 := by
  have := h
  simp [Lit.wf, IntKind.min, IntKind.max, IntKind.signed, IntKind.bits] at this
  omega
theorem bits_of {x y z u : Int} (hx : (Lit.int .u64 x).wf = true) (hy : (Lit.int .u64 y).wf = true) (hz : (Lit.int .u64 z).wf = true) (hu : (Lit.int .u64 u).wf = true) :
    ∃ A, Ws A ∧ (.agg #[.int .u64 x, .int .u64 y, .int .u64 z, .int .u64 u] : Value) = bv (iw A) := by
  obtain ⟨x0, x1⟩ := u64_bdB hx
  obtain ⟨y0, y1⟩ := u64_bdB hy
  obtain ⟨z0, z1⟩ := u64_bdB hz
  obtain ⟨u0, u1⟩ := u64_bdB hu
  refine ⟨fun j => if j = 0 then x.toNat else if j = 1 then y.toNat else if j = 2 then z.toNat else u.toNat, fun j hj => ?_, ?_⟩
  · match j, hj with
    | 0, _ => simp; omega
    | 1, _ => simp; omega
    | 2, _ => simp; omega
    | 3, _ => simp; omega
  · unfold bv rowc iw
    simp
    omega
theorem has_no {x : TaskV} (hm : mayT x = false) (p : Int) (i : Nat) (_hi : i < 256) : hasN (usefulN x p) i = false := by
  have e : ∀ f t, putL x f t = [] := fun f t => by unfold putL; rw [if_neg (by rw [hm]; decide)]
  unfold usefulN beforeN behindN
  rw [e, e, has_and, show ofN [] = noneW from rfl, has_none]
  rfl
theorem cnt_no {x : TaskV} (hm : mayT x = false) (O : Nat → Nat) (p : Int) : cntU x O p = 0 := by
  have h : cntU x O p ≤ (listN noneW).length := len_mono fun i hi h => by
    rw [has_and, has_no hm p i hi] at h
    rw [Bool.false_and] at h
    cases h
  rw [show (listN noneW).length = 0 by decide +kernel] at h
  omega
theorem MostR.no {x : TaskV} (hm : mayT x = false) (O : Nat → Nat) (e : Int) : MostR x O 0 0 e := ⟨fun p _ _ => Nat.le_of_eq (cnt_no hm O p), fun _ => rfl, fun h => absurd h (by decide)⟩
set_option maxHeartbeats 4000000 in
set_option maxRecDepth 100000 in
theorem most_no (r : RT) (hm : mayT r.x = false) (O : Nat → Nat) (w : World) (hr : r.Rd w) :
    Calls Try.prog 46 #[.agg #[.int .i64 r.x.id, .int .i64 r.x.c, .int .i64 r.x.d, .int .i64 r.x.t, .int .i64 r.x.prio, .slice r.ca r.cl r.cc, .slice r.ua r.ul r.uc], .agg #[.int .u64 (O 0 : Int), .int .u64 (O 1 : Int), .int .u64 (O 2 : Int), .int .u64 (O 3 : Int)]] w (MostP r.x O w) := by
  have HQ : Hid (MostR r.x O 0 0 r.x.c) := MostR.no hm O _
  have hB0 : Below w.heap.size w ((w.alloc (.cells #[.int .i64 r.x.id, .int .i64 r.x.c, .int .i64 r.x.d, .int .i64 r.x.t, .int .i64 r.x.prio, .slice r.ca r.cl r.cc, .slice r.ua r.ul r.uc] 33)).alloc (.cells #[.int .u64 (O 0 : Int), .int .u64 (O 1 : Int), .int .u64 (O 2 : Int), .int .u64 (O 3 : Int)] 50)) := ((Below.refl _ w).alloc (Nat.le_refl _) _).alloc (by simp) _
  have nT0 : ((w.alloc (.cells #[.int .i64 r.x.id, .int .i64 r.x.c, .int .i64 r.x.d, .int .i64 r.x.t, .int .i64 r.x.prio, .slice r.ca r.cl r.cc, .slice r.ua r.ul r.uc] 33)).alloc (.cells #[.int .u64 (O 0 : Int), .int .u64 (O 1 : Int), .int .u64 (O 2 : Int), .int .u64 (O 3 : Int)] 50)).heap[w.heap.size]? = some (.cells (taskCells r.x.id r.x.c r.x.d r.x.t r.x.prio (.slice r.ca r.cl r.cc) (.slice r.ua r.ul r.uc)) 33 (0, 0)) := (Below.heap_alloc _ _ _ (by simp)).trans (heap_new _ _ _ rfl)
  have hM := mayT_any r ((w.alloc (.cells #[.int .i64 r.x.id, .int .i64 r.x.c, .int .i64 r.x.d, .int .i64 r.x.t, .int .i64 r.x.prio, .slice r.ca r.cl r.cc, .slice r.ua r.ul r.uc] 33)).alloc (.cells #[.int .u64 (O 0 : Int), .int .u64 (O 1 : Int), .int .u64 (O 2 : Int), .int .u64 (O 3 : Int)] 50)) (hr.below hB0 (Nat.le_refl _))
  rw [hm] at hM
  have HT0 := Lib.hid nT0
  have HB0 := Lib.hid hB0
  have HMY := Lib.hid hM
  clear nT0 hB0 hM hr hm
  go_enter Try.func46, Try.ntmps46
  obtain ⟨y0, y1, y2, y3, y4, y5, y6⟩ := bx_seven HT0.out
  go_wp2
  go_step3
  go_wp2_with fail
  clear y0 y1 y2 y3 y4 y5 y6
  refine HMY.out.mono ?_
  rintro e W1 ⟨rfl, hb1⟩
  have HE : Hid (MostP r.x O w (.returned (.tuple #[.int .i64 0, .int .i64 0])) W1) := ⟨0, 0, rfl, HQ.out, HB0.out.trans (hb1.mono HB0.out.size)⟩
  clear hb1 HT0 HB0 HMY HQ
  go_wp2
  rw [Exit.noGoto_ret]
  go_ret2
  exact HE.out
/-- Of any task. -/
theorem most_all (r : RT) (O : Nat → Nat) (hO : Ws O) (w : World) (hr : r.Rd w) :
    Calls Try.prog 46 #[.agg #[.int .i64 r.x.id, .int .i64 r.x.c, .int .i64 r.x.d, .int .i64 r.x.t, .int .i64 r.x.prio, .slice r.ca r.cl r.cc, .slice r.ua r.ul r.uc], .agg #[.int .u64 (O 0 : Int), .int .u64 (O 1 : Int), .int .u64 (O 2 : Int), .int .u64 (O 3 : Int)]] w (MostP r.x O w) := by
  cases hm : mayT r.x
  · exact most_no r hm O w hr
  · exact most_any r hm O hO w hr
end Go.Proofs.Ytaofldlidifdcaa.Blk
