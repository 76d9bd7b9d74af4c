/-
  Package cache: the iterator over an owner's sets.
-/
import Derived.Test.YtjilplfcmkipfaaCache1
import Derived.RangeFuncBox
import Derived.RangeFuncNested
import Derived.RangeFuncBound
import Derived.RangeFuncCalls
import Derived.RangeFuncLeaves
import Derived.Shelf.Abstract
import Derived.Shelf.RegionOpen
import Derived.OwnWalkIn
import Derived.TacticsInMore
import Derived.LoopNIn
import Derived.LoopIn
import Derived.Maps.AppendAt
import Derived.Sort.QuietIn
namespace Go.Proofs.Ytjilplfcmkipfaa.Cache
open Go.RowKit Go.Shelf Go.Proofs.Ytjilplfcmkipfaa.Bits
attribute [local go_sem] Oper.semAt_some

/-- The sets of an owner, as far as k. -/
def mine (L : List Int) (owner : Int) (k : Nat) : List Nat := (List.range k).filter fun i => L.getD i 0 == owner
theorem mine_yes (L : List Int) (owner : Int) (k : Nat) (h : (L.getD k 0 == owner) = true) : mine L owner (k + 1) = mine L owner k ++ [k] := by
  simp only [mine, List.range_succ, List.filter_append, List.filter_cons, h, List.filter_nil, if_true]
theorem mine_no (L : List Int) (owner : Int) (k : Nat) (h : (L.getD k 0 == owner) = false) : mine L owner (k + 1) = mine L owner k := by
  simp only [mine, List.range_succ, List.filter_append, List.filter_cons, h, List.filter_nil, List.append_nil, Bool.false_eq_true, if_false]
theorem mine_le (L : List Int) (owner : Int) (k : Nat) : (mine L owner k).length ≤ k := by
  have := List.length_filter_le (fun i => L.getD i 0 == owner) (List.range k)
  simpa [mine] using this
theorem mine_pre (L : List Int) (owner : Int) : ∀ {k n : Nat}, k ≤ n → mine L owner k <+: mine L owner n := by
  intro k n h
  induction n with
  | zero => obtain rfl : k = 0 := by omega
            exact List.prefix_refl _
  | succ n ih =>
    by_cases e : k = n + 1
    · subst e; exact List.prefix_refl _
    · refine (ih (by omega)).trans ?_
      cases hh : L.getD n 0 == owner with
      | true => rw [mine_yes _ _ _ hh]; exact List.prefix_append _ _
      | false => rw [mine_no _ _ _ hh]; exact List.prefix_refl _
/-- What a round keeps: all below n₀, the iterator's two boxes. -/
structure Kps (n₀ Bc Bo : Nat) (w w' : World) : Prop where
  b : Below n₀ w w'
  c : w'.heap[Bc]? = w.heap[Bc]?
  o : w'.heap[Bo]? = w.heap[Bo]?
theorem Kps.refl (n₀ Bc Bo : Nat) (w : World) : Kps n₀ Bc Bo w w := ⟨Below.refl _ _, rfl, rfl⟩
theorem Kps.trans {n₀ Bc Bo : Nat} {a b c : World} (h : Kps n₀ Bc Bo a b) (k : Kps n₀ Bc Bo b c) : Kps n₀ Bc Bo a c := ⟨h.b.trans k.b, k.c.trans h.c, k.o.trans h.o⟩
theorem Kps.drewN (n₀ Bc Bo : Nat) (w : World) (n : Nat) : Kps n₀ Bc Bo w (w.drewN n) := ⟨⟨rfl, rfl, rfl, Nat.le_refl _, fun _ _ => rfl⟩, rfl, rfl⟩
theorem Kps.put {n₀ Bc Bo : Nat} {w : World} (hn : n₀ ≤ w.heap.size) (hc : Bc < w.heap.size) (ho : Bo < w.heap.size) (W : World) (l : Nat) (o o' : Obj) (hl : w.heap.size ≤ l) (h : W.heap[l]? = some o) (h1 : o.isCells = false) (h2 : o.isWalk = false) : Kps n₀ Bc Bo W (W.putObj l o') :=
  ⟨belowK_b hn W l o o' hl h h1 h2, (grownBy_putObj' W l o').block _ (by have := (Array.getElem?_eq_some_iff.1 h).1; omega) (fun e => by cases e; omega), (grownBy_putObj' W l o').block _ (by have := (Array.getElem?_eq_some_iff.1 h).1; omega) (fun e => by cases e; omega)⟩
/-- What the iterator finds: the cache by its pointer, the owner. -/
structure Seen (n₀ Bc Bo p g : Nat) (L : List Int) (owner : Int) (w : World) : Prop where
  c : w.heap[Bc]? = some (.cells #[.pointer (some ⟨p, 0, none⟩)] 24 (0, 0))
  o : w.heap[Bo]? = some (.cells #[.int .i64 owner] 3 (0, 0))
  is : IsC w p g L
  lp : p < n₀
  lg : g < n₀
theorem Seen.below {n₀ Bc Bo p g : Nat} {L : List Int} {owner : Int} {w w' : World} (h : Seen n₀ Bc Bo p g L owner w) (hb : Kps n₀ Bc Bo w w') : Seen n₀ Bc Bo p g L owner w' :=
  ⟨hb.c.trans h.c, hb.o.trans h.o, h.is.kept (hb.b.block _ h.lp) (hb.b.block _ h.lg), h.lp, h.lg⟩
theorem cell_one {w : World} {b : Nat} {v : Value} {t : TypeId} (h : w.heap[b]? = some (.cells #[v] t (0, 0))) : w.cell? ⟨b, 0, none⟩ = some v := by simp [World.cell?, h]
theorem cast_snoc (l : List Nat) (k : Nat) : Bits.cast (l ++ [k]) = Bits.cast l ++ [(k : Int)] := by simp [Bits.cast]

set_option maxRecDepth 100000 in
set_option maxHeartbeats 4000000 in
theorem setsLit_in (n : Nat) (hn : 1 ≤ n) (l n₀ Bc Bo p g : Nat) (L : List Int) (owner : Int) (J Jx : List Int → World → Prop) (W : World) (hJ : AbidesFrom W.heap.size J)
    (hY : ∀ pre x W, J pre W → pre.length < 256 → YieldAt Fence.wide (n - 1) Try.prog l #[.int .i64 x] W fun e W' =>
      (e = .returned (.bool true) ∧ J (pre ++ [x]) W' ∧ Kps n₀ Bc Bo W W') ∨ (e = .returned (.bool false) ∧ Jx (pre ++ [x]) W'))
    (hS : Seen n₀ Bc Bo p g L owner W) (h0 : J [] W) :
    CallsIn Fence.wide n Try.prog 39 #[.func (.yield l) #[] #[], .pointer (some ⟨Bc, 0, none⟩), .pointer (some ⟨Bo, 0, none⟩)] W fun e W' => (∃ v, e = .returned v) ∧
      ((∃ ys, ys = Bits.cast (mine L owner L.length) ∧ J ys W') ∨ (∃ pre, pre <+: Bits.cast (mine L owner L.length) ∧ Jx pre W')) := by
  have hmx : (Try.prog).follows .mixedOrders = true := by kernel_rfl
  have hc := cell_one hS.c
  have hL := hS.is.2.2.2
  have HS := Lib.hid hS
  have H0 : Hid _ := h0
  have HY : Hid _ := hY
  have HJ : Hid _ := hJ
  clear h0 hY hS hJ
  refine callsIn_of_wp Try.func39 rfl trivial ?_ rfl
  simp only [Try.ntmps39, List.size_toArray, List.length_cons, List.length_nil, Nat.reduceAdd, Nat.reduceSub, Array.replicate_succ, Array.replicate_zero, List.push_toArray, List.append_toArray, List.nil_append, List.cons_append]
  gi_wp2_with (refine ⟨trivial, ?_⟩; gi_at_call 26; refine (callsIn_wide.2 (sets_any p g L _ HS.out.is)).mono ?_; rintro e w' ⟨rfl, rfl⟩)
  clear hc
  generalize hN : L.length = N at *
  gi_loopw [7] (fun iv wr => ∃ k : Nat, k ≤ N ∧ iv = .int .i64 (k : Int) ∧ Aside (J (Bits.cast (mine L owner k)) wr) ∧ Aside (Kps n₀ Bc Bo w' wr) ∧ Aside (w'.heap.size ≤ wr.heap.size)) (fun iv _ => N - (intOf iv).toNat)
  case atStart => exact ⟨0, Nat.zero_le _, rfl, H0.out, Kps.refl _ _ _ _, Nat.le_refl _⟩
  case round =>
    obtain ⟨k, hk, rfl, hJk, hbel, hsz⟩ := hrel
    by_cases hlt : k < N
    · have hS := HS.out.below hbel.out
      have hc := cell_one hS.c
      have ho := cell_one hS.o
      have hp := hS.is.ptr
      have c1 := hS.is.at k (by omega)
      have q1 : (0 : Int) ≤ (k : Int) := by omega
      have q2 : (k : Int) < (N : Int) := by omega
      rw [hN] at hp
      cases hz : L.getD k 0 == owner with
      | false =>
        have hm := Lib.hid (mine_no L owner k hz)
        generalize L.getD k 0 = z at *
        clear hS
        gi_wp2
        refine wpIn_region_quiet_lit rfl (by kernel_rfl) (by kernel_rfl) ?_
        repeat (gi_big_quiet_step (fail))
        refine wpQuietIn_step ?_ (fun K hK => ?_)
        · exact fun _ _ _ _ => trivial
        go_simp
        refine hK _ ?_
        clear hK K
        repeat (gi_big_quiet_step (fail))
        refine wpQuietIn_nil ?_
        rintro _ ⟨nq, rfl⟩
        have hJd : J (Bits.cast (mine L owner k)) (wr.drewN nq) := HJ.out _ _ _ none hJk.out ⟨rfl, rfl, rfl, Nat.le_refl _, fun _ _ _ => rfl⟩ (fun r e => by cases e)
        have hJ2 := Lib.hid hJd
        clear hJd
        gi_wp2
        go_roundw
        case rel => exact ⟨k + 1, by omega, by go_num, by rw [hm.out]; exact hJ2.out, hbel.out.trans (Kps.drewN _ _ _ _ _), hsz.out⟩
        case measure => simp [intOf]; omega
      | true =>
        have hm := Lib.hid (mine_yes L owner k hz)
        have hlen : (Bits.cast (mine L owner k)).length < 256 := by
          have := mine_le L owner k
          simp [Bits.cast]
          omega
        have hJd : J (Bits.cast (mine L owner k)) wr.drew := HJ.out _ _ _ none hJk.out ⟨rfl, rfl, rfl, Nat.le_refl _, fun _ _ _ => rfl⟩ (fun r e => by cases e)
        obtain ⟨fn, tmps, assign, body, hy, hR⟩ := HY.out _ (k : Int) wr.drew hJd hlen
        generalize L.getD k 0 = z at *
        clear hS hlen hJd
        gi_wp2
        gi_region_with_o (refine hR.mono ?_; intro e W3 h3; obtain ⟨b3, rfl, hb3⟩ : ∃ b, e = .returned (.bool b) ∧ Hid (if b then J (Bits.cast (mine L owner k) ++ [(k : Int)]) W3 ∧ Kps n₀ Bc Bo wr.drew W3 else Jx (Bits.cast (mine L owner k) ++ [(k : Int)]) W3) := (by rcases h3 with ⟨rfl, h4, h5⟩ | ⟨rfl, h4⟩; exact ⟨true, rfl, h4, h5⟩; exact ⟨false, rfl, h4⟩); clear h3)
        all_goals
          cases b3 with
          | true =>
            obtain ⟨h4, h5⟩ := hb3.out
            have h4' := Lib.hid h4
            have h5' : Hid (Kps n₀ Bc Bo wr W3) := ⟨⟨h5.b.os, h5.b.tape, h5.b.output, h5.b.size, h5.b.block⟩, h5.c, h5.o⟩
            clear h4 h5 hb3
            gi_wp2
            go_roundw
            case rel => exact ⟨k + 1, by omega, by go_num, by rw [hm.out, cast_snoc]; exact h4'.out, hbel.out.trans h5'.out, Nat.le_trans hsz.out h5'.out.b.size⟩
            case measure => simp [intOf]; omega
          | false =>
            have h4 : Jx (Bits.cast (mine L owner k) ++ [(k : Int)]) W3 := hb3.out
            have h4' := Lib.hid h4
            clear h4 hb3
            gi_wp2
            refine bodyPost_ret (results_none rfl _ _ _) rfl ?_
            refine ⟨⟨_, rfl⟩, .inr ⟨_, ?_, h4'.out⟩⟩
            rw [← cast_snoc, ← hm.out]
            rw [hN]
            exact (mine_pre L owner (show k + 1 ≤ N by omega)).map _
    · obtain rfl : k = N := by omega
      gi_wp2
      go_end0
      exact ⟨⟨_, rfl⟩, .inl ⟨_, by rw [hN], hJk.out⟩⟩
theorem sets_stops (n : Nat) (hn : 1 ≤ n) (n₀ Bc Bo p g : Nat) (L : List Int) (owner : Int) (w : World) (hS : Seen n₀ Bc Bo p g L owner w) (hle : n₀ ≤ w.heap.size) (hc : Bc < w.heap.size) (ho : Bo < w.heap.size) :
    SeqStopsK Fence.wide n Try.prog 39 #[.pointer (some ⟨Bc, 0, none⟩), .pointer (some ⟨Bo, 0, none⟩)] (fun x : Int => #[Value.int .i64 x]) (Kps n₀ Bc Bo) (fun ys => ys = Bits.cast (mine L owner L.length)) (fun pre => pre <+: Bits.cast (mine L owner L.length)) 256 w := fun l J Jx W hW hJ _ hY h0 =>
  setsLit_in n hn l n₀ Bc Bo p g L owner J Jx W hJ hY (hS.below ⟨hW.mono hle, hW.block _ hc, hW.block _ ho⟩) h0
set_option maxHeartbeats 1000000 in
theorem setsOf_in (n : Nat) (c : Option Addr) (owner : Int) (w : World) :
    CallsIn Fence.wide n Try.prog 30 #[.pointer c, .int .i64 owner] w fun e w' => e = .returned (.func (.func 39) #[] #[.pointer (some ⟨w.heap.size, 0, none⟩), .pointer (some ⟨w.heap.size + 1, 0, none⟩)]) ∧ w' = (w.alloc (.cells #[.pointer c] 24)).alloc (.cells #[.int .i64 owner] 3) := by
  refine callsIn_of_wp Try.func30 rfl trivial ?_ rfl
  simp only [Try.ntmps30, List.size_toArray, List.length_cons, List.length_nil, Nat.reduceAdd, Nat.reduceSub, Array.replicate_succ, Array.replicate_zero, List.push_toArray, List.append_toArray, List.nil_append, List.cons_append]
  gi_wp2
  go_ret
  exact ⟨rfl, rfl⟩
end Go.Proofs.Ytjilplfcmkipfaa.Cache
