/-
  Package blocks: the iterator over what ticks use.
-/
import Derived.Test.YtdmfdgadhobkpaaAcc
import Derived.Test.YtdmfdgadhobkpaaRangeW
import Derived.Lib.MinMax
import Derived.RangeFuncBox
import Derived.RangeFuncNested
import Derived.RangeFuncBound
import Derived.RangeFuncCalls
import Derived.RangeFuncLeaves
import Derived.Shelf.Abstract
import Derived.Shelf.RegionOpen
import Derived.OwnWalkIn
import Derived.TacticsInMore
import Derived.LoopNIn
import Derived.LoopIn
import Derived.Maps.AppendAt
import Derived.Sort.QuietIn
namespace Go.Proofs.Ytdmfdgadhobkpaa.Blk
open Go.RowKit Go.Shelf Go.Proofs.Ytdmfdgadhobkpaa.Sys Go.Proofs.Ytdmfdgadhobkpaa.Box Go.Proofs.Ytdmfdgadhobkpaa.RangeW
attribute [local go_sem] Oper.semAt_some

/-- What so many ticks use, from one on. -/
def tickL (u : List Int) (f : Int) (m : Nat) : List Int := (List.range m).map fun (j : Nat) => accI u (f + (j : Int))
theorem tickL_snoc (u : List Int) (f : Int) (m : Nat) : tickL u f (m + 1) = tickL u f m ++ [accI u (f + (m : Int))] := by simp [tickL, List.range_succ]
theorem tickL_pre (u : List Int) (f : Int) {j m : Nat} (h : j ≤ m) : tickL u f j <+: tickL u f m := by
  obtain ⟨d, rfl⟩ : ∃ d, m = j + d := ⟨m - j, by omega⟩
  unfold tickL
  rw [List.range_add, List.map_append]
  exact List.prefix_append _ _
/-- What a round keeps: all below n₀, the iterator's three boxes. -/
structure KpB (n₀ Bt Bf Bk : Nat) (w w' : World) : Prop where
  b : Below n₀ w w'
  t : w'.heap[Bt]? = w.heap[Bt]?
  f : w'.heap[Bf]? = w.heap[Bf]?
  k : w'.heap[Bk]? = w.heap[Bk]?
theorem KpB.refl (n₀ Bt Bf Bk : Nat) (w : World) : KpB n₀ Bt Bf Bk w w := ⟨Below.refl _ _, rfl, rfl, rfl⟩
theorem KpB.trans {n₀ Bt Bf Bk : Nat} {a b c : World} (h : KpB n₀ Bt Bf Bk a b) (k : KpB n₀ Bt Bf Bk b c) : KpB n₀ Bt Bf Bk a c := ⟨h.b.trans k.b, k.t.trans h.t, k.f.trans h.f, k.k.trans h.k⟩
theorem KpB.below {n₀ Bt Bf Bk : Nat} {w w' : World} (h : Below w.heap.size w w') (hn : n₀ ≤ w.heap.size) (ht : Bt < w.heap.size) (hf : Bf < w.heap.size) (hk : Bk < w.heap.size) : KpB n₀ Bt Bf Bk w w' := ⟨h.mono hn, h.block _ ht, h.block _ hf, h.block _ hk⟩
theorem KpB.put {n₀ Bt Bf Bk : Nat} {w : World} (hn : n₀ ≤ w.heap.size) (ht : Bt < w.heap.size) (hf : Bf < w.heap.size) (hk : Bk < w.heap.size) (W : World) (l : Nat) (o o' : Obj) (hl : w.heap.size ≤ l) (h : W.heap[l]? = some o) (h1 : o.isCells = false) (h2 : o.isWalk = false) : KpB n₀ Bt Bf Bk W (W.putObj l o') := by
  have hs := (Array.getElem?_eq_some_iff.1 h).1
  exact ⟨belowK_b hn W l o o' hl h h1 h2, (grownBy_putObj' W l o').block _ (by omega) (fun e => by cases e; omega), (grownBy_putObj' W l o').block _ (by omega) (fun e => by cases e; omega), (grownBy_putObj' W l o').block _ (by omega) (fun e => by cases e; omega)⟩
/-- What the iterator finds. -/
structure SeenB (n₀ Bt Bf Bk : Nat) (r : RT) (f t : Int) (w : World) : Prop where
  t : w.heap[Bt]? = some (.cells #[.int .i64 t] 2 (0, 0))
  f : w.heap[Bf]? = some (.cells #[.int .i64 f] 2 (0, 0))
  k : w.heap[Bk]? = some (.cells (taskCells r.x.id r.x.c r.x.d r.x.t r.x.prio (.slice r.ca r.cl r.cc) (.slice r.ua r.ul r.uc)) 36 (0, 0))
  rd : ∀ w', Below n₀ w w' → r.Rd w'
theorem SeenB.kept {n₀ Bt Bf Bk : Nat} {r : RT} {f t : Int} {w w' : World} (h : SeenB n₀ Bt Bf Bk r f t w) (hb : KpB n₀ Bt Bf Bk w w') : SeenB n₀ Bt Bf Bk r f t w' :=
  ⟨hb.t.trans h.t, hb.f.trans h.f, hb.k.trans h.k, fun w2 h2 => h.rd w2 (hb.b.trans h2)⟩
theorem cell1B {w : World} {b : Nat} {v : Value} {t : TypeId} (h : w.heap[b]? = some (.cells #[v] t (0, 0))) : w.cell? ⟨b, 0, none⟩ = some v := by simp [World.cell?, h]
set_option maxRecDepth 100000 in
set_option maxHeartbeats 4000000 in
theorem ticks_in (N : Nat) (hN : 1 ≤ N) (lp n₀ Bt Bf Bk : Nat) (r : RT) (f t : Int) (hf : 0 ≤ f) (hf2 : f ≤ 4611686018427387904) (ht : t ≤ 4611686018427387904) (hul : r.ul ≤ 64) (hu1 : 1 ≤ r.ul)
    (J : List Int → World → Prop) (W : World) (hJ : AbidesFrom W.heap.size J) (hst : ∀ s V v, J s V → J s (V.setCell ⟨Bt, 0, none⟩ v))
    (hY : ∀ pre (x : Int) W1, J pre W1 → pre ++ [x] <+: tickL r.x.use f (min t (f + r.ul) - f).toNat → YieldAt Fence.wide (N - 1) Try.prog lp #[.int .i64 x] W1 fun e W' => e = .returned (.bool true) ∧ J (pre ++ [x]) W' ∧ KpB n₀ Bt Bf Bk W1 W')
    (hS : SeenB n₀ Bt Bf Bk r f t W) (hn0 : n₀ ≤ W.heap.size) (hbt : n₀ ≤ Bt) (hd1 : Bf ≠ Bt) (hd2 : Bk ≠ Bt) (h0 : J [] W) :
    CallsIn Fence.wide N Try.prog 51 #[.func (.yield lp) #[] #[], .pointer (some ⟨Bt, 0, none⟩), .pointer (some ⟨Bf, 0, none⟩), .pointer (some ⟨Bk, 0, none⟩)] W fun e W' => (∃ v, e = .returned v) ∧ J (tickL r.x.use f (min t (f + r.ul) - f).toNat) W' := by
  have k0 := cell1B hS.t
  have k1 := cell1B hS.f
  obtain ⟨y0, y1, y2, y3, y4, y5, y6⟩ := bx_seven hS.k
  have fr := bx_free hS.t 0
  have hbtl := bx_lt hS.t
  have hbfl := bx_lt hS.f
  have hbkl := bx_lt hS.k
  have HY : Hid _ := hY
  have HJ : Hid _ := hJ
  obtain ⟨last, hl⟩ : ∃ last, min t (f + (r.ul : Int)) = last := ⟨_, rfl⟩
  have hl1 : last ≤ t ∧ last ≤ f + r.ul := by omega
  rw [hl] at HY ⊢
  have hS1 : SeenB n₀ Bt Bf Bk r f last (W.setCell ⟨Bt, 0, none⟩ (.int .i64 last)) := by
    have h1 := Lib.heap_setCell_same (i := 0) hS.t (.int .i64 last)
    exact ⟨by rw [h1]; rfl, (bx_other _ _ _ _ hd1 _).trans hS.f, (bx_other _ _ _ _ hd2 _).trans hS.k, fun w2 h2 => hS.rd w2 ((bx_below (Below.refl _ _) _ hbt _ _).trans h2)⟩
  have hJ1 := hst [] W (.int .i64 last) h0
  have hs1 : (W.setCell ⟨Bt, 0, none⟩ (.int .i64 last)).heap.size = W.heap.size := by simp [World.setCell]
  have HS := Lib.hid hS1
  have H0 := Lib.hid hJ1
  have ew : IntKind.i64.wrap (f + (r.ul : Int)) = f + (r.ul : Int) := by rw [IntKind.wrap_i64]; omega
  clear h0 hY hS hJ hst hS1 hJ1
  refine callsIn_of_wp Try.func51 rfl trivial ?_ rfl
  simp only [Try.ntmps51, List.size_toArray, List.length_cons, List.length_nil, Nat.reduceAdd, Nat.reduceSub, Array.replicate_succ, Array.replicate_zero, List.push_toArray, List.append_toArray, List.nil_append, List.cons_append]
  gi_wp2
  generalize hW1 : W.setCell ⟨Bt, 0, none⟩ (.int .i64 last) = W1 at *
  clear k0 k1 y0 y1 y2 y3 y4 y5 y6 fr hW1 hl
  gi_loopw [5] (fun kv wr => ∃ j : Nat, j ≤ (last - f).toNat ∧ kv = .int .i64 (f + (j : Int)) ∧ Aside (J (tickL r.x.use f j) wr) ∧ Aside (KpB n₀ Bt Bf Bk W1 wr) ∧ Aside (W1.heap.size ≤ wr.heap.size)) (fun kv _ => (last - intOf kv).toNat)
  case atStart => exact ⟨0, Nat.zero_le _, by simp, H0.out, KpB.refl _ _ _ _ _, Nat.le_refl _⟩
  case round =>
    obtain ⟨j, hj, rfl, hJj, hK, hsz⟩ := hrel
    have hS := HS.out.kept hK.out
    have k0 := cell1B hS.t
    have hz := hsz.out
    by_cases hlt : f + (j : Int) < last
    · obtain ⟨y0, y1, y2, y3, y4, y5, y6⟩ := bx_seven hS.k
      have hA := access_any r (f + (j : Int)) wr (hS.rd wr (Below.refl _ _))
      have hsn := Lib.hid (tickL_snoc r.x.use f j)
      have hpre : tickL r.x.use f j ++ [accI r.x.use (f + (j : Int))] <+: tickL r.x.use f (last - f).toNat := by
        rw [← hsn.out]; exact tickL_pre _ _ (by omega)
      have ew2 : IntKind.i64.wrap (f + (j : Int) + 1) = f + (j : Int) + 1 := by rw [IntKind.wrap_i64]; omega
      generalize accI r.x.use (f + (j : Int)) = x at *
      generalize accB r.x.use (f + (j : Int)) = ob at *
      have HPRE := Lib.hid hpre
      clear hS hpre
      gi_wp2_with fail
      refine ⟨trivial, ?_⟩
      refine (callsIn_wide.2 hA).mono ?_
      rintro e w2 ⟨rfl, hb2⟩
      have hk2 : Hid (KpB n₀ Bt Bf Bk W1 w2) := hK.out.trans (KpB.below hb2 (by omega) (by omega) (by omega) (by omega))
      have hj2 : J (tickL r.x.use f j) w2 := HJ.out _ _ _ none hJj.out ⟨hb2.os, hb2.tape, hb2.output, hb2.size, fun i hi _ => hb2.block i hi⟩ (fun r e => by cases e)
      have hz2 : W1.heap.size ≤ w2.heap.size := Nat.le_trans hz hb2.size
      obtain ⟨fn, tmps, assign, body, hy, hR⟩ := HY.out _ x w2 hj2 HPRE.out
      clear hA k0 y0 y1 y2 y3 y4 y5 y6 hb2 hj2 hK hJj hsz
      gi_wp2_with fail
      refine hR.mono ?_
      rintro e W5 ⟨rfl, hJ5, hk5⟩
      have HJ5 := Lib.hid hJ5
      have HK5 : Hid (KpB n₀ Bt Bf Bk W1 W5) := hk2.out.trans hk5
      have hs5 : W1.heap.size ≤ W5.heap.size := Nat.le_trans hz2 hk5.b.size
      clear hJ5 hk5 hR hk2
      gi_wp2
      go_roundw
      case rel => exact ⟨j + 1, by omega, by push_cast; rw [Int.add_assoc], by rw [hsn.out]; exact HJ5.out, HK5.out, hs5⟩
      case measure => simp only [intOf]; omega
    · have HE : Hid (j = (last - f).toNat) := by rw [RowKit.Hid]; omega
      clear hS
      gi_wp2
      go_end0
      exact ⟨⟨_, rfl⟩, by rw [← HE.out]; exact hJj.out⟩
end Go.Proofs.Ytdmfdgadhobkpaa.Blk
