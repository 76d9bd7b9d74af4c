/-
  Package qpa: the iterator over deadlines, with what is left.
-/
import Derived.Test.YtajkckjpfbkpmaaQpa1
import Derived.Test.YtajkckjpfbkpmaaDem12
import Derived.Test.YtajkckjpfbkpmaaScope
import Derived.RangeFuncBox
import Derived.RangeFuncNested
import Derived.RangeFuncBound
import Derived.RangeFuncCalls
import Derived.RangeFuncLeaves
import Derived.Shelf.Abstract
import Derived.Shelf.RegionOpen
import Derived.OwnWalkIn
import Derived.TacticsInMore
import Derived.LoopNIn
import Derived.LoopIn
import Derived.Maps.AppendAt
import Derived.Sort.QuietIn
import Derived.Lib.MinMax
namespace Go.Proofs.Ytajkckjpfbkpmaa.Dem
open Go.RowKit Go.Shelf Go.Proofs.Ytajkckjpfbkpmaa.Ari
attribute [local go_sem] Oper.semAt_some

/-- What a round keeps: all below n₀, the iterator's two boxes from B on. -/
structure Kp2 (n₀ B : Nat) (w w' : World) : Prop where
  b : Below n₀ w w'
  k : ∀ j, B ≤ j → j < B + 2 → w'.heap[j]? = w.heap[j]?
theorem Kp2.refl (n₀ B : Nat) (w : World) : Kp2 n₀ B w w := ⟨Below.refl _ _, fun _ _ _ => rfl⟩
theorem Kp2.trans {n₀ B : Nat} {a b c : World} (h : Kp2 n₀ B a b) (k : Kp2 n₀ B b c) : Kp2 n₀ B a c := ⟨h.b.trans k.b, fun j h1 h2 => (k.k j h1 h2).trans (h.k j h1 h2)⟩
theorem Kp2.below {n₀ B : Nat} {w w' : World} (h : Below w.heap.size w w') (hn : n₀ ≤ w.heap.size) (hB : B + 2 ≤ w.heap.size) : Kp2 n₀ B w w' := ⟨h.mono hn, fun j _ h2 => h.block j (by omega)⟩
theorem Kp2.put {n₀ B : Nat} {w : World} (hn : n₀ ≤ w.heap.size) (hB : B + 2 ≤ w.heap.size) (W : World) (l : Nat) (o o' : Obj) (hl : w.heap.size ≤ l) (h : W.heap[l]? = some o) (h1 : o.isCells = false) (h2 : o.isWalk = false) : Kp2 n₀ B W (W.putObj l o') :=
  ⟨belowK_b hn W l o o' hl h h1 h2, fun j _ hj => (grownBy_putObj' W l o').block _ (by have := (Array.getElem?_eq_some_iff.1 h).1; omega) (fun e => by cases e; omega)⟩
structure Seen2 (n₀ B : Nat) (A : Option Addr) (n c : Nat) (l : List Dm) (A2 : Option Addr) (m c2 : Nat) (q : List (Int × Int)) (w : World) : Prop where
  s : w.heap[B]? = some (.cells #[.slice A n c] 25 (0, 0))
  f : w.heap[B + 1]? = some (.cells #[.slice A2 m c2] 27 (0, 0))
  rd : ∀ w', Below n₀ w w' → RdD w' A n l ∧ RdK w' A2 m q
theorem Seen2.kept {n₀ B : Nat} {A : Option Addr} {n c : Nat} {l : List Dm} {A2 : Option Addr} {m c2 : Nat} {q : List (Int × Int)} {w w' : World} (h : Seen2 n₀ B A n c l A2 m c2 q w) (hb : Kp2 n₀ B w w') : Seen2 n₀ B A n c l A2 m c2 q w' :=
  ⟨(hb.k _ (Nat.le_refl _) (by omega)).trans h.s, (hb.k _ (by omega) (by omega)).trans h.f, fun w2 h2 => h.rd w2 (hb.b.trans h2)⟩
/-- The times, with what is left at them. -/
def withL (l : List Dm) (q : List (Int × Int)) (L : List Int) : List (Int × Int) := L.map fun t => (t, leftI l q t)
theorem withL_snoc (l : List Dm) (q : List (Int × Int)) (L : List Int) (t : Int) : withL l q (L ++ [t]) = withL l q L ++ [(t, leftI l q t)] := by simp [withL]
theorem withL_append (l : List Dm) (q : List (Int × Int)) (a b : List Int) : withL l q (a ++ b) = withL l q a ++ withL l q b := by simp [withL]

set_option maxRecDepth 100000 in
set_option maxHeartbeats 4000000 in
theorem points_in (N : Nat) (hN : 1 ≤ N) (lp n₀ B : Nat) (A : Option Addr) (n c : Nat) (l : List Dm) (ho : Oks l) (P : Int) (hP : Per l P) (hP1 : P ≤ 1048575) (A2 : Option Addr) (m c2 : Nat) (q : List (Int × Int)) (hoq : OksB q) (J Jx : List (Int × Int) → World → Prop) (W : World) (hJ : AbidesFrom W.heap.size J)
    (hY : ∀ pre (x : Int × Int) W, J pre W → pre.length < 1048577 → YieldAt Fence.wide (N - 1) Try.prog lp #[.int .i64 x.1, .int .i64 x.2] W fun e W' =>
      (e = .returned (.bool true) ∧ J (pre ++ [x]) W' ∧ Kp2 n₀ B W W') ∨ (e = .returned (.bool false) ∧ Jx (pre ++ [x]) W'))
    (hS : Seen2 n₀ B A n c l A2 m c2 q W) (hn0 : n₀ ≤ W.heap.size) (hB : B + 2 ≤ W.heap.size) (h0 : J [] W) :
    CallsIn Fence.wide N Try.prog 32 #[.func (.yield lp) #[] #[], .pointer (some ⟨B, 0, none⟩), .pointer (some ⟨B + 1, 0, none⟩)] W fun e W' => (∃ v, e = .returned v) ∧
      ((∃ ys, ys = withL l q (pts l q P) ∧ J ys W') ∨ (∃ pre, pre <+: withL l q (pts l q P) ∧ Jx pre W')) := by
  have k0 := cell1 hS.s
  have k1 := cell1 hS.f
  have HS := Lib.hid hS
  have H0 : Hid _ := h0
  have HY : Hid _ := hY
  have HJ : Hid _ := hJ
  have HO := Lib.hid ho
  have HOQ := Lib.hid hoq
  have eb := end_bd hoq hP.pos hP1
  have HPP := Lib.hid hP
  clear h0 hY hS hJ ho hoq hP
  obtain ⟨R1, R2⟩ := HS.out.rd W (Below.refl _ _)
  have HEN := Lib.hid (end_any A n c l HO.out P HPP.out A2 m c2 q W R1 R2)
  have HPT : Hid (pts l q P = if l = [] then [] else dls l (endI q P + 1) (nextI l 0)) := rfl
  obtain ⟨E, hE⟩ : ∃ E, endI q P = E := ⟨_, rfl⟩
  rw [hE] at HEN HPT eb
  obtain ⟨E0, E1⟩ := eb
  clear R1 R2 hE
  have HNX := fun w h => Lib.hid (next_any A n c l HO.out 0 (Int.le_refl 0) (by decide) w h)
  have hx0 := next_up HO.out (Int.le_refl 0)
  generalize nextI l 0 = X0 at *
  refine callsIn_of_wp Try.func32 rfl trivial ?_ rfl
  simp only [Try.ntmps32, List.size_toArray, List.length_cons, List.length_nil, Nat.reduceAdd, Nat.reduceSub, Array.replicate_succ, Array.replicate_zero, List.push_toArray, List.append_toArray, List.nil_append, List.cons_append]
  gi_wp2_with (refine ⟨trivial, ?_⟩; gi_at_call 33; refine (callsIn_wide.2 HEN.out).mono ?_; rintro e w1 ⟨rfl, hb⟩; have hk1 : Kp2 n₀ B W w1 := Kp2.below hb hn0 hB; have kk1 := cell1 (HS.out.kept hk1).s)
  have HJ1 : Hid (J [] w1) := HJ.out _ _ _ none H0.out ⟨hb.os, hb.tape, hb.output, hb.size, fun j hj _ => hb.block j hj⟩ (fun r e => by cases e)
  have hsz1 : W.heap.size ≤ w1.heap.size := hb.size
  have HK1 := Lib.hid hk1
  clear k0 k1 hb HEN H0 hk1
  refine ⟨trivial, ?_⟩
  refine (callsIn_wide.2 (HNX w1 ((HS.out.kept HK1.out).rd _ (Below.refl _ _)).1).out).mono ?_
  rintro e w2 ⟨rfl, hb⟩
  have hk2 : Kp2 n₀ B W w2 := HK1.out.trans (Kp2.below hb (by omega) (by omega))
  have hj2 : J [] w2 := HJ.out _ _ _ none HJ1.out ⟨hb.os, hb.tape, hb.output, hb.size, fun j hj _ => hb.block j hj⟩ (fun r e => by cases e)
  have HK2 := Lib.hid hk2
  have HJ2 := Lib.hid hj2
  have hsz2 : W.heap.size ≤ w2.heap.size := Nat.le_trans hsz1 hb.size
  clear hb hk2 hj2 HJ1 HK1 hsz1 kk1 HNX
  gi_wp2
  gi_loopw [5, 6] (fun tv sv wr => ∃ (X : Int) (D : List Int), tv = .int .i64 X ∧ sv = .bool (decide (0 < n)) ∧ 0 ≤ X ∧ X ≤ 2097152 ∧ Aside (pts l q P = D ++ if l = [] then [] else dls l (E + 1) X) ∧ Aside (J (withL l q D) wr) ∧ Aside (Kp2 n₀ B W wr) ∧ Aside (W.heap.size ≤ wr.heap.size)) (fun tv _ _ => (E + 1 - intOf tv).toNat)
  case atStart => exact ⟨X0, [], rfl, rfl, hx0.1, by omega, HPT.out, HJ2.out, HK2.out, hsz2⟩
  case round =>
    obtain ⟨X, D, rfl, rfl, x0, x1, hpre, hJp, hK, hsz⟩ := hrel
    have hS := HS.out.kept hK.out
    by_cases hn : n = 0
    · have hd : decide (0 < n) = false := by simp; omega
      have hl : l = [] := List.eq_nil_of_length_eq_zero (by rw [(hS.rd _ (Below.refl _ _)).1.1]; exact hn)
      rw [hd]
      clear hS
      gi_wp2
      go_end0
      exact ⟨⟨_, rfl⟩, .inl ⟨_, by rw [hpre.out, if_pos hl, List.append_nil], hJp.out⟩⟩
    · have hd : decide (0 < n) = true := by simp; omega
      have hl : l ≠ [] := by intro h; subst h; exact hn (hS.rd _ (Below.refl _ _)).1.1.symm
      have k0 := cell1 hS.s
      rw [hd]
      by_cases hx : X < E + 1
      · have hg : decide (X ≤ E) = true := by simp; omega
        have hst : Hid (pts l q P = (D ++ [X]) ++ if l = [] then [] else dls l (E + 1) (nextI l X)) := by
          rw [RowKit.Hid, hpre.out, if_neg hl, if_neg hl, dls_step HO.out hl hx, List.append_assoc]; rfl
        have hlen : (withL l q D).length < 1048577 := by
          have h1 := congrArg List.length hpre.out
          rw [List.length_append] at h1
          have h2 : (pts l q P).length ≤ (E + 1).toNat := by
            rw [HPT.out, if_neg hl]
            have h3 := dls_len HO.out hl (E + 1) _ X0 (Nat.le_refl _)
            omega
          simp only [withL, List.length_map]
          omega
        have hlt2 := next_gt HO.out hl X
        have xu := next_up HO.out x0
        obtain ⟨R1, R2⟩ := hS.rd wr (Below.refl _ _)
        have hOf := Lib.hid (of_any A n c l HO.out X x0 (by omega) wr R1)
        have wb := work_bd l HO.out x0 (show X ≤ 4194304 by omega)
        have hb1 := held_bd HOQ.out X
        have hlf : Hid (leftI l q X = X - work l X - heldAt q X) := rfl
        have hAt := fun w h => Lib.hid (at_any A2 m c2 q X w h)
        have hll : l.length ≤ 64 := by rw [R1.1]; exact R1.2.1
        obtain ⟨K, hK2⟩ : ∃ K, work l X = K := ⟨_, rfl⟩
        obtain ⟨H, hH⟩ : ∃ H, heldAt q X = H := ⟨_, rfl⟩
        rw [hK2] at hOf wb hlf
        simp only [hH] at hAt hlf hb1
        have e1 : IntKind.i64.wrap (X - K) = X - K := by rw [IntKind.wrap_i64]; omega
        have e2 : IntKind.i64.wrap (X - K - H) = X - K - H := by rw [IntKind.wrap_i64]; omega
        have HX := fun w h => Lib.hid (next_any A n c l HO.out X x0 (by omega) w h)
        rw [hd] at HX
        have hst2 : Hid (withL l q (D ++ [X]) = withL l q D ++ [(X, X - K - H)]) := by rw [RowKit.Hid, withL_snoc, hlf.out]
        generalize nextI l X = X2 at *
        clear hS R1 R2 hK2 hH hlf wb hb1 hll
        gi_wp2_with fail
        refine ⟨trivial, ?_⟩
        refine (callsIn_wide.2 hOf.out).mono ?_
        rintro e W3 ⟨rfl, hb3⟩
        have hk3 : Kp2 n₀ B W W3 := hK.out.trans (Kp2.below hb3 (by have := hsz.out; omega) (by have := hsz.out; omega))
        have hj3 : J (withL l q D) W3 := HJ.out _ _ _ none hJp.out ⟨hb3.os, hb3.tape, hb3.output, hb3.size, fun j hj _ => hb3.block j hj⟩ (fun r e => by cases e)
        have hsz3 : W.heap.size ≤ W3.heap.size := Nat.le_trans hsz.out hb3.size
        have k3 := cell1 (HS.out.kept hk3).f
        have HK3 := Lib.hid hk3
        have HJ3 := Lib.hid hj3
        clear hb3 hk3 hj3 hOf k0 hK hJp
        gi_wp2_with fail
        refine ⟨trivial, ?_⟩
        refine (callsIn_wide.2 (hAt W3 ((HS.out.kept HK3.out).rd _ (Below.refl _ _)).2).out).mono ?_
        rintro e W4 ⟨rfl, hb4⟩
        have hk4 : Kp2 n₀ B W W4 := HK3.out.trans (Kp2.below hb4 (by omega) (by omega))
        have hj4 : J (withL l q D) W4 := HJ.out _ _ _ none HJ3.out ⟨hb4.os, hb4.tape, hb4.output, hb4.size, fun j hj _ => hb4.block j hj⟩ (fun r e => by cases e)
        have hsz4 : W.heap.size ≤ W4.heap.size := Nat.le_trans hsz3 hb4.size
        have HK4 := Lib.hid hk4
        have HJ4 := Lib.hid hj4
        obtain ⟨fn, tmps, assign, body, hy, hR⟩ := HY.out (withL l q D) (X, X - K - H) W4 hj4 hlen
        clear hb4 hk4 hj4 hAt k3 HK3 HJ3 hlen
        gi_wp2_with fail
        refine hR.mono ?_
        rintro e W5 (⟨rfl, hJ5, hk5⟩ | ⟨rfl, hJx5⟩)
        · have HJ5 := Lib.hid hJ5
          have HK5 : Hid (Kp2 n₀ B W W5) := HK4.out.trans hk5
          have hs5 : W.heap.size ≤ W5.heap.size := Nat.le_trans hsz4 hk5.b.size
          have hS5 := HS.out.kept HK5.out
          have q0 := cell1 hS5.s
          have hrd := (hS5.rd _ (Below.refl _ _)).1
          have hN := Lib.hid (HX W5 hrd).out
          clear hJ5 hk5 HJ4 HK4 hS5 hrd hR HX
          gi_wp2_with fail
          refine ⟨trivial, ?_⟩
          refine (callsIn_wide.2 hN.out).mono ?_
          rintro e W6 ⟨rfl, hb6⟩
          have hj6 : J (withL l q (D ++ [X])) W6 := by
            rw [hst2.out]
            exact HJ.out _ _ _ none HJ5.out ⟨hb6.os, hb6.tape, hb6.output, hb6.size, fun j hj _ => hb6.block j hj⟩ (fun r e => by cases e)
          have HJ6 := Lib.hid hj6
          have HK6 : Hid (Kp2 n₀ B W W6) := HK5.out.trans (Kp2.below hb6 (by omega) (by omega))
          have hs6 : W.heap.size ≤ W6.heap.size := Nat.le_trans hs5 hb6.size
          clear hj6 hb6 hN q0 HJ5 HK5
          gi_wp2
          go_roundw
          case rel => exact ⟨X2, D ++ [X], rfl, rfl, xu.1, by omega, hst.out, HJ6.out, HK6.out, hs6⟩
          case measure => simp only [intOf]; omega
        · clear HJ4 HK4 hR HX
          gi_wp2
          refine bodyPost_ret (results_none rfl _ _ _) rfl ?_
          exact ⟨⟨_, rfl⟩, .inr ⟨_, ⟨_, by rw [← hst2.out, ← withL_append, ← hst.out]⟩, hJx5⟩⟩
      · have hg : decide (X ≤ E) = false := by simp; omega
        clear hS k0
        have HXX := Lib.hid hx
        gi_wp2_with (refine ⟨(fun f e => by cases e), ?_⟩)
        go_end0
        exact ⟨⟨_, rfl⟩, .inl ⟨_, by rw [hpre.out, if_neg hl, dls_end (by have := HXX.out; omega), List.append_nil], hJp.out⟩⟩
theorem points_stops (N : Nat) (hN : 1 ≤ N) (n₀ B : Nat) (A : Option Addr) (n c : Nat) (l : List Dm) (ho : Oks l) (P : Int) (hP : Per l P) (hP1 : P ≤ 1048575) (A2 : Option Addr) (m c2 : Nat) (q : List (Int × Int)) (hoq : OksB q) (w : World)
    (hS : Seen2 n₀ B A n c l A2 m c2 q w) (hle : n₀ ≤ w.heap.size) (hB : B + 2 ≤ w.heap.size) :
    SeqStopsK Fence.wide N Try.prog 32 #[.pointer (some ⟨B, 0, none⟩), .pointer (some ⟨B + 1, 0, none⟩)] (fun x : Int × Int => #[Value.int .i64 x.1, Value.int .i64 x.2]) (Kp2 n₀ B) (fun ys => ys = withL l q (pts l q P)) (fun pre => pre <+: withL l q (pts l q P)) 1048577 w := fun lp J Jx W hW hJ _ hY h0 =>
  points_in N hN lp n₀ B A n c l ho P hP hP1 A2 m c2 q hoq J Jx W hJ hY (hS.kept (Kp2.below hW hle hB)) (Nat.le_trans hle hW.size) (Nat.le_trans hB hW.size) h0
set_option maxHeartbeats 1000000 in
theorem pointsOf_in (N : Nat) (A : Option Addr) (n c : Nat) (A2 : Option Addr) (m c2 : Nat) (w : World) :
    CallsIn Fence.wide N Try.prog 20 #[.slice A n c, .slice A2 m c2] w fun e w' => e = .returned (.func (.func 32) #[] #[.pointer (some ⟨w.heap.size, 0, none⟩), .pointer (some ⟨w.heap.size + 1, 0, none⟩)]) ∧
      w' = (w.alloc (.cells #[.slice A n c] 25)).alloc (.cells #[.slice A2 m c2] 27) := by
  refine callsIn_of_wp Try.func20 rfl trivial ?_ rfl
  simp only [Try.ntmps20, List.size_toArray, List.length_cons, List.length_nil, Nat.reduceAdd, Nat.reduceSub, Array.replicate_succ, Array.replicate_zero, List.push_toArray, List.append_toArray, List.nil_append, List.cons_append]
  gi_wp2
  go_ret
  exact ⟨rfl, rfl⟩
end Go.Proofs.Ytajkckjpfbkpmaa.Dem
