/-
  Package demand: the iterator over deadlines.
-/
import Derived.Test.YtcgfaddegglnkaaDem11
import Derived.Test.YtcgfaddegglnkaaScope
import Derived.RangeFuncBox
import Derived.RangeFuncNested
import Derived.RangeFuncBound
import Derived.RangeFuncCalls
import Derived.RangeFuncLeaves
import Derived.Shelf.Abstract
import Derived.Shelf.RegionOpen
import Derived.OwnWalkIn
import Derived.TacticsInMore
import Derived.LoopNIn
import Derived.LoopIn
import Derived.Maps.AppendAt
import Derived.Sort.QuietIn
import Derived.Lib.MinMax
namespace Go.Proofs.Ytcgfaddegglnkaa.Dem
open Go.RowKit Go.Shelf Go.Proofs.Ytcgfaddegglnkaa.Ari
attribute [local go_sem] Oper.semAt_some

theorem cell1 {w : World} {b : Nat} {v : Value} {t : TypeId} (h : w.heap[b]? = some (.cells #[v] t (0, 0))) : w.cell? ⟨b, 0, none⟩ = some v := by simp [World.cell?, h]
/-- What a round keeps: all below n₀, the iterator's three boxes from B on. -/
structure Kp3 (n₀ B : Nat) (w w' : World) : Prop where
  b : Below n₀ w w'
  k : ∀ j, B ≤ j → j < B + 3 → w'.heap[j]? = w.heap[j]?
theorem Kp3.refl (n₀ B : Nat) (w : World) : Kp3 n₀ B w w := ⟨Below.refl _ _, fun _ _ _ => rfl⟩
theorem Kp3.trans {n₀ B : Nat} {a b c : World} (h : Kp3 n₀ B a b) (k : Kp3 n₀ B b c) : Kp3 n₀ B a c := ⟨h.b.trans k.b, fun j h1 h2 => (k.k j h1 h2).trans (h.k j h1 h2)⟩
theorem Kp3.below {n₀ B : Nat} {w w' : World} (h : Below w.heap.size w w') (hn : n₀ ≤ w.heap.size) (hB : B + 3 ≤ w.heap.size) : Kp3 n₀ B w w' := ⟨h.mono hn, fun j _ h2 => h.block j (by omega)⟩
theorem Kp3.put {n₀ B : Nat} {w : World} (hn : n₀ ≤ w.heap.size) (hB : B + 3 ≤ w.heap.size) (W : World) (l : Nat) (o o' : Obj) (hl : w.heap.size ≤ l) (h : W.heap[l]? = some o) (h1 : o.isCells = false) (h2 : o.isWalk = false) : Kp3 n₀ B W (W.putObj l o') :=
  ⟨belowK_b hn W l o o' hl h h1 h2, fun j _ hj => (grownBy_putObj' W l o').block _ (by have := (Array.getElem?_eq_some_iff.1 h).1; omega) (fun e => by cases e; omega)⟩
/-- What the iterator finds. -/
structure Seen3 (n₀ B : Nat) (A : Option Addr) (n c : Nat) (l : List Dm) (frm til : Int) (w : World) : Prop where
  s : w.heap[B]? = some (.cells #[.slice A n c] 24 (0, 0))
  f : w.heap[B + 1]? = some (.cells #[.int .i64 frm] 2 (0, 0))
  t : w.heap[B + 2]? = some (.cells #[.int .i64 til] 2 (0, 0))
  rd : ∀ w', Below n₀ w w' → RdD w' A n l
theorem Seen3.kept {n₀ B : Nat} {A : Option Addr} {n c : Nat} {l : List Dm} {frm til : Int} {w w' : World} (h : Seen3 n₀ B A n c l frm til w) (hb : Kp3 n₀ B w w') : Seen3 n₀ B A n c l frm til w' :=
  ⟨(hb.k _ (Nat.le_refl _) (by omega)).trans h.s, (hb.k _ (by omega) (by omega)).trans h.f, (hb.k _ (by omega) (by omega)).trans h.t, fun w2 h2 => h.rd w2 (hb.b.trans h2)⟩
/-- A time that is handed on. -/
abbrev Tm := {t : Int // 0 ≤ t ∧ t ≤ 1048576}
def tms (l : List Tm) : List Int := l.map (·.1)
theorem tms_snoc (l : List Tm) (x : Tm) : tms (l ++ [x]) = tms l ++ [x.1] := by simp [tms]
theorem tms_nil : tms [] = [] := rfl
theorem dls_pre {L pre r : List Int} (h : L = pre ++ r) : pre <+: L := ⟨r, h.symm⟩

set_option maxRecDepth 100000 in
set_option maxHeartbeats 4000000 in
theorem deadlines_in (N : Nat) (hN : 1 ≤ N) (lp n₀ B : Nat) (A : Option Addr) (n c : Nat) (l : List Dm) (ho : Oks l) (frm til : Int) (f0 : 0 ≤ frm) (f1 : frm ≤ 1048576) (t1 : til ≤ 1048576) (J Jx : List Tm → World → Prop) (W : World) (hJ : AbidesFrom W.heap.size J)
    (hY : ∀ pre (x : Tm) W, J pre W → pre.length < til.toNat + 1 → YieldAt Fence.wide (N - 1) Try.prog lp #[.int .i64 x.1] W fun e W' =>
      (e = .returned (.bool true) ∧ J (pre ++ [x]) W' ∧ Kp3 n₀ B W W') ∨ (e = .returned (.bool false) ∧ Jx (pre ++ [x]) W'))
    (hS : Seen3 n₀ B A n c l frm til W) (hn0 : n₀ ≤ W.heap.size) (hB : B + 3 ≤ W.heap.size) (h0 : J [] W) :
    CallsIn Fence.wide N Try.prog 44 #[.func (.yield lp) #[] #[], .pointer (some ⟨B, 0, none⟩), .pointer (some ⟨B + 1, 0, none⟩), .pointer (some ⟨B + 2, 0, none⟩)] W fun e W' => (∃ v, e = .returned v) ∧
      ((∃ ys, tms ys = dlsOf l frm til ∧ J ys W') ∨ (∃ pre, tms pre <+: dlsOf l frm til ∧ Jx pre W')) := by
  have k0 := cell1 hS.s
  have k1 := cell1 hS.f
  have k2 := cell1 hS.t
  have HS := Lib.hid hS
  have H0 : Hid _ := h0
  have HY : Hid _ := hY
  have HJ : Hid _ := hJ
  have HO := Lib.hid ho
  clear h0 hY hS hJ ho
  obtain ⟨F, hF, F0, F1⟩ : ∃ F, max frm 1 = F ∧ 1 ≤ F ∧ F ≤ 1048576 := ⟨_, rfl, by omega, by omega⟩
  have hFF := Lib.hid hF
  have eF : IntKind.i64.wrap (F - 1) = F - 1 := by rw [IntKind.wrap_i64]; omega
  refine callsIn_of_wp Try.func44 rfl trivial ?_ rfl
  simp only [Try.ntmps44, List.size_toArray, List.length_cons, List.length_nil, Nat.reduceAdd, Nat.reduceSub, Array.replicate_succ, Array.replicate_zero, List.push_toArray, List.append_toArray, List.nil_append, List.cons_append]
  refine Row0.wpIn_scope_straight ?_
  gi_wp2_with (refine ⟨trivial, ?_⟩; gi_at_call 12; refine (callsIn_wide.2 (next_any A n c l HO.out (F - 1) (by omega) (by omega) _ (HS.out.rd _ (Below.refl _ _)))).mono ?_; rintro e w' ⟨rfl, hb⟩)
  have hJ0 : J [] w' := HJ.out _ _ _ none H0.out ⟨hb.os, hb.tape, hb.output, hb.size, fun j hj _ => hb.block j hj⟩ (fun r e => by cases e)
  have HJ0 := Lib.hid hJ0
  have HK0 : Hid (Kp3 n₀ B W w') := Kp3.below hb hn0 hB
  have hs0 : W.heap.size ≤ w'.heap.size := hb.size
  have HX0 : Hid (dlsOf l frm til = if l = [] then [] else dls l til (nextI l (F - 1))) := by rw [RowKit.Hid, ← hFF.out]; rfl
  have xb := next_up HO.out (show 0 ≤ F - 1 by omega)
  generalize nextI l (F - 1) = X0 at *
  clear hJ0 hb k0 k1 k2 hF hFF H0
  refine wpIn_label ?_
  gi_wp2
  gi_loopw [5, 6] (fun tv sv wr => ∃ (X : Int) (pre : List Tm), tv = .int .i64 X ∧ sv = .bool (decide (0 < n)) ∧ 0 ≤ X ∧ X ≤ 2097152 ∧ Aside (dlsOf l frm til = tms pre ++ if l = [] then [] else dls l til X) ∧ Aside (J pre wr) ∧ Aside (Kp3 n₀ B W wr) ∧ Aside (W.heap.size ≤ wr.heap.size)) (fun tv _ _ => (til - intOf tv).toNat)
  case atStart => exact ⟨X0, [], rfl, rfl, xb.1, by omega, HX0.out, HJ0.out, HK0.out, hs0⟩
  case round =>
    obtain ⟨X, pre, rfl, rfl, x0, x1, hpre, hJp, hK, hsz⟩ := hrel
    have hS := HS.out.kept hK.out
    by_cases hn : n = 0
    · have hd : decide (0 < n) = false := by simp; omega
      have hl : l = [] := List.eq_nil_of_length_eq_zero (by rw [(hS.rd _ (Below.refl _ _)).1]; exact hn)
      rw [hd]
      clear hS
      gi_wp2
      try simp only [Exit.noGoto]
      go_end0
      exact ⟨⟨_, rfl⟩, .inl ⟨pre, by rw [hpre.out, if_pos hl, List.append_nil], hJp.out⟩⟩
    · have hd : decide (0 < n) = true := by simp; omega
      have hl : l ≠ [] := by intro h; subst h; exact hn (hS.rd _ (Below.refl _ _)).1.symm
      have k2 := cell1 hS.t
      rw [hd]
      by_cases hx : X < til
      · have hg : decide (til ≤ X) = false := by simp; omega
        have hst : Hid (dlsOf l frm til = tms (pre ++ [⟨X, x0, by omega⟩]) ++ if l = [] then [] else dls l til (nextI l X)) := by
          rw [RowKit.Hid, hpre.out, if_neg hl, if_neg hl, dls_step HO.out hl hx, tms_snoc, List.append_assoc]; rfl
        have hlen : pre.length < til.toNat + 1 := by
          have h1 := congrArg List.length hpre.out
          rw [List.length_append] at h1
          simp only [tms, List.length_map] at h1
          have h2 : (dlsOf l frm til).length ≤ til.toNat := by
            unfold dlsOf
            rw [if_neg hl]
            have h3 := dls_len HO.out hl til _ (nextI l (max frm 1 - 1)) (Nat.le_refl _)
            have h4 := next_gt HO.out hl (max frm 1 - 1)
            omega
          omega
        have hgt := next_gt HO.out hl X
        obtain ⟨fn, tmps, assign, body, hy, hR⟩ := HY.out pre ⟨X, x0, by omega⟩ wr hJp.out hlen
        have xu := next_up HO.out x0
        clear hS hlen
        gi_wp2_with fail
        refine hR.mono ?_
        rintro e W3 (⟨rfl, hJ3, hk3⟩ | ⟨rfl, hJx3⟩)
        · have HJ3 := Lib.hid hJ3
          have HK3 : Hid (Kp3 n₀ B W W3) := hK.out.trans hk3
          have hs3 : W.heap.size ≤ W3.heap.size := Nat.le_trans hsz.out hk3.b.size
          have hS3 := HS.out.kept HK3.out
          have q0 := cell1 hS3.s
          have hrd := hS3.rd _ (Below.refl _ _)
          have hN := Lib.hid (next_any A n c l HO.out X x0 (by omega) W3 hrd)
          rw [hd] at hN
          clear hJ3 hk3 hJp hK hS3 hrd k2 hR
          gi_wp2_with fail
          refine ⟨trivial, ?_⟩
          refine (callsIn_wide.2 hN.out).mono ?_
          rintro e W4 ⟨rfl, hb4⟩
          have hJ4 : J (pre ++ [⟨X, x0, by omega⟩]) W4 := HJ.out _ _ _ none HJ3.out ⟨hb4.os, hb4.tape, hb4.output, hb4.size, fun j hj _ => hb4.block j hj⟩ (fun r e => by cases e)
          have HJ4 := Lib.hid hJ4
          have HK4 : Hid (Kp3 n₀ B W W4) := HK3.out.trans (Kp3.below hb4 (by omega) (by omega))
          have hs4 : W.heap.size ≤ W4.heap.size := Nat.le_trans hs3 hb4.size
          clear hJ4 hb4 hN q0 HJ3 HK3
          generalize nextI l X = X2 at *
          gi_wp2
          go_roundw
          case rel => exact ⟨X2, pre ++ [(⟨X, x0, by omega⟩ : Tm)], rfl, rfl, xu.1, by omega, hst.out, HJ4.out, HK4.out, hs4⟩
          case measure => simp only [intOf]; omega
        · clear hJp hK hR k2
          gi_wp2
          try simp only [Exit.noGoto]
          go_end0
          exact ⟨⟨_, rfl⟩, .inr ⟨_, ⟨_, hst.out.symm⟩, hJx3⟩⟩
      · have hg : decide (til ≤ X) = true := by simp; omega
        clear hS
        gi_wp2_with (refine ⟨(fun f e => by cases e), ?_⟩)
        try simp only [Exit.noGoto]
        go_end0
        exact ⟨⟨_, rfl⟩, .inl ⟨pre, by rw [hpre.out, if_neg hl, dls_end (by omega), List.append_nil], hJp.out⟩⟩
theorem deadlines_stops (N : Nat) (hN : 1 ≤ N) (n₀ B : Nat) (A : Option Addr) (n c : Nat) (l : List Dm) (ho : Oks l) (frm til : Int) (f0 : 0 ≤ frm) (f1 : frm ≤ 1048576) (t1 : til ≤ 1048576) (w : World)
    (hS : Seen3 n₀ B A n c l frm til w) (hle : n₀ ≤ w.heap.size) (hB : B + 3 ≤ w.heap.size) :
    SeqStopsK Fence.wide N Try.prog 44 #[.pointer (some ⟨B, 0, none⟩), .pointer (some ⟨B + 1, 0, none⟩), .pointer (some ⟨B + 2, 0, none⟩)] (fun x : Tm => #[Value.int .i64 x.1]) (Kp3 n₀ B) (fun ys => tms ys = dlsOf l frm til) (fun pre => tms pre <+: dlsOf l frm til) (til.toNat + 1) w := fun lp J Jx W hW hJ _ hY h0 =>
  deadlines_in N hN lp n₀ B A n c l ho frm til f0 f1 t1 J Jx W hJ hY (hS.kept (Kp3.below hW hle hB)) (Nat.le_trans hle hW.size) (Nat.le_trans hB hW.size) h0
set_option maxHeartbeats 1000000 in
theorem deadlinesOf_in (N : Nat) (A : Option Addr) (n c : Nat) (frm til : Int) (w : World) :
    CallsIn Fence.wide N Try.prog 27 #[.slice A n c, .int .i64 frm, .int .i64 til] w fun e w' => e = .returned (.func (.func 44) #[] #[.pointer (some ⟨w.heap.size, 0, none⟩), .pointer (some ⟨w.heap.size + 1, 0, none⟩), .pointer (some ⟨w.heap.size + 2, 0, none⟩)]) ∧
      w' = ((w.alloc (.cells #[.slice A n c] 24)).alloc (.cells #[.int .i64 frm] 2)).alloc (.cells #[.int .i64 til] 2) := by
  refine callsIn_of_wp Try.func27 rfl trivial ?_ rfl
  simp only [Try.ntmps27, List.size_toArray, List.length_cons, List.length_nil, Nat.reduceAdd, Nat.reduceSub, Array.replicate_succ, Array.replicate_zero, List.push_toArray, List.append_toArray, List.nil_append, List.cons_append]
  gi_wp2
  go_ret
  exact ⟨rfl, rfl⟩
end Go.Proofs.Ytcgfaddegglnkaa.Dem
