/-
  Texts of one claim, joined in build order: Acc, Tsk1.
-/
import Derived.Test.YtaofldlidifdcaaMg16
import Derived.Deep.QuietTactic
import Derived.BigQuiet
import Derived.Deep.LoopGhost
/-
  Package tasks: Access; the reference's.
-/
namespace Go.Proofs.Ytaofldlidifdcaa.Sys
open Go.RowKit Go.Proofs.Ytaofldlidifdcaa.Box

/-- Which set a tick uses, and whether it uses one. -/
def accB (u : List Int) (k : Int) : Bool := decide (u ≠ [] ∧ 0 ≤ k)
def accI (u : List Int) (k : Int) : Int := if accB u k then u.getD (k % (u.length : Int)).toNat 0 else 0
theorem below_dnS {B : Nat} {w w1 : World} (h : Below B w w1) (n : Nat) : Below B w (w1.drewN n) := ⟨h.os, h.tape, h.output, h.size, h.block⟩
set_option maxHeartbeats 4000000 in
set_option maxRecDepth 100000 in
theorem access_any (r : RT) (k : Int) (w : World) (h : r.Rd w) :
    Calls Try.prog 35 #[.agg #[.int .i64 r.x.id, .int .i64 r.x.c, .int .i64 r.x.d, .int .i64 r.x.t, .int .i64 r.x.prio, .slice r.ca r.cl r.cc, .slice r.ua r.ul r.uc], .int .i64 k] w fun e w' => e = .returned (.tuple #[.int .i64 (accI r.x.use k), .bool (accB r.x.use k)]) ∧ Below w.heap.size w w' := by
  obtain ⟨_, hu, h1, h2, h3⟩ := h
  obtain ⟨x, ca, cl, cc, ua, ul, uc⟩ := r
  obtain ⟨id, c, d, t, p, ch, us⟩ := x
  simp only at *
  have hln := hu.1
  have HB : ∀ o, Hid (Below w.heap.size w (w.alloc o)) := fun o => (Below.refl _ w).alloc (Nat.le_refl _) o
  by_cases hl : ul = 0
  · subst hl
    obtain rfl : us = [] := List.eq_nil_of_length_eq_zero hln
    clear hln hu
    go_enter Try.func35, Try.ntmps35
    go_wp2
    go_ret2
    exact ⟨by simp [accI, accB], (HB _).out⟩
  · have hne : us ≠ [] := fun e => by subst e; exact hl (by simpa using hln.symm)
    have hz : ((ul : Int) == 0) = false := by simp; omega
    by_cases hk : k < 0
    · have ea : accB us k = false := by simp [accB]; omega
      have ei : accI us k = 0 := by simp [accI, ea]
      rw [ea, ei]
      clear ea ei hne hln hu
      go_enter Try.func35, Try.ntmps35
      go_wp2
      go_ret2
      exact ⟨rfl, (HB _).out⟩
    · have ea : accB us k = true := by simp [accB, hne]; omega
      have ei : accI us k = us.getD (k % (ul : Int)).toNat 0 := by simp only [accI, ea, if_true, hln]
      rw [ea, ei]
      have m0 := Int.emod_nonneg k (show (ul : Int) ≠ 0 by omega)
      have m1 := Int.emod_lt_of_pos k (show (0 : Int) < (ul : Int) by omega)
      obtain ⟨m, hm, hml⟩ : ∃ m : Nat, k % (ul : Int) = (m : Int) ∧ m < ul := ⟨(k % (ul : Int)).toNat, by omega, by omega⟩
      rw [hm, Int.toNat_natCast]
      obtain ⟨b, o, rfl, hc⟩ := hu.2 (by omega)
      have hcm := hc m hml
      have hbl := World.block_lt_of_cell? _ _ hcm
      have hcm' : ∀ ob, (w.alloc ob).cell? ⟨b, o + m, none⟩ = some (.int .i64 (us.getD m 0)) := fun ob => (World.cell?_alloc_past _ _ _ hbl).trans hcm
      have hk0 : 0 ≤ k := by omega
      have q0 : (0 : Int) ≤ (m : Int) := by omega
      have q1 : (m : Int) < (ul : Int) := by omega
      generalize us.getD m 0 = v at *
      clear ea ei hne hln hu hc hk m0 m1
      go_enter Try.func35, Try.ntmps35
      go_wp2
      go_quiet (fail)
      go_wp2
      go_ret2
      exact ⟨rfl, below_dnS (HB _).out _⟩
end Go.Proofs.Ytaofldlidifdcaa.Sys

/-
  Package tasks: within, chunks, what is far, Right: of a task that is right.
-/
namespace Go.Proofs.Ytaofldlidifdcaa.Tsk
open Go.RowKit Go.Proofs.Ytaofldlidifdcaa.Sys Go.Proofs.Ytaofldlidifdcaa.Box

theorem cellsT {w : World} {a : Addr} {v : Value} (h : w.cell? a = some v) (o : Obj) : (w.alloc o).cell? a = some v := (World.cell?_alloc_lt _ _ _ (World.block_lt_of_cell? w a h)).trans h
theorem heap_newT (w : World) (o : Obj) (b : Nat) (hb : b = w.heap.size) : (w.alloc o).heap[b]? = some o := by subst hb; exact heap_alloc_new w o
theorem within_i (n a b : Int) (w : World) : Calls Try.prog 61 #[.int .i64 n, .int .i64 a, .int .i64 b] w fun e w' => e = .returned (.bool (decide (a ≤ n) && decide (n ≤ b))) ∧ w = w' := by
  by_cases h1 : a ≤ n
  · have e1 : decide (a ≤ n) = true := decide_eq_true h1
    rw [e1, Bool.true_and]
    go_enter Try.func61, Try.ntmps61
    go_wp2
    go_ret
    exact ⟨rfl, rfl⟩
  · have e1 : decide (a ≤ n) = false := decide_eq_false h1
    rw [e1, Bool.false_and]
    go_enter Try.func61, Try.ntmps61
    go_wp2
    go_ret
    exact ⟨rfl, rfl⟩
theorem within_l (n a b : Int) (w : World) : Calls Try.prog 62 #[.int .i64 n, .int .i64 a, .int .i64 b] w fun e w' => e = .returned (.bool (decide (a ≤ n) && decide (n ≤ b))) ∧ w = w' := by
  by_cases h1 : a ≤ n
  · have e1 : decide (a ≤ n) = true := decide_eq_true h1
    rw [e1, Bool.true_and]
    go_enter Try.func62, Try.ntmps62
    go_wp2
    go_ret
    exact ⟨rfl, rfl⟩
  · have e1 : decide (a ≤ n) = false := decide_eq_false h1
    rw [e1, Bool.false_and]
    go_enter Try.func62, Try.ntmps62
    go_wp2
    go_ret
    exact ⟨rfl, rfl⟩
theorem within_yes (n a b : Int) (w : World) (h : a ≤ n ∧ n ≤ b) : Calls Try.prog 61 #[.int .i64 n, .int .i64 a, .int .i64 b] w fun e w' => e = .returned (.bool true) ∧ w = w' := by
  have := within_i n a b w
  rwa [decide_eq_true h.1, decide_eq_true h.2] at this
theorem within_yesl (n a b : Int) (w : World) (h : a ≤ n ∧ n ≤ b) : Calls Try.prog 62 #[.int .i64 n, .int .i64 a, .int .i64 b] w fun e w' => e = .returned (.bool true) ∧ w = w' := by
  have := within_l n a b w
  rwa [decide_eq_true h.1, decide_eq_true h.2] at this
/-- Chunks of so much work. -/
structure ChOk (l : List Int) (c : Int) : Prop where
  p : ∀ k ∈ l, 1 ≤ k
  s : l ≠ [] → l.sum = c
  n : l.length ≤ 64
theorem sum_take (l : List Int) (i : Nat) (hi : i < l.length) : (l.take (i + 1)).sum = (l.take i).sum + l.getD i 0 := by
  rw [List.take_succ_eq_append_getElem hi, List.sum_append]
  simp [List.getD_eq_getElem?_getD, hi]
theorem sum_rest (l : List Int) (hp : ∀ k ∈ l, 1 ≤ k) : 0 ≤ l.sum := by
  induction l with
  | nil => simp
  | cons a l ih =>
    have h1 := hp a (List.mem_cons_self ..)
    have h2 := ih fun k hk => hp k (List.mem_cons_of_mem _ hk)
    rw [List.sum_cons]
    omega
theorem sum_front (l : List Int) (hp : ∀ k ∈ l, 1 ≤ k) (i : Nat) : 0 ≤ (l.take i).sum ∧ (l.take i).sum ≤ l.sum := by
  refine ⟨sum_rest _ fun k hk => hp k (List.mem_of_mem_take hk), ?_⟩
  have h1 : l.sum = (l.take i).sum + (l.drop i).sum := by rw [← List.sum_append, List.take_append_drop]
  have h2 := sum_rest (l.drop i) fun k hk => hp k (List.mem_of_mem_drop hk)
  omega
set_option maxRecDepth 100000 in
theorem chunks_ok (A : Option Addr) (n cp : Nat) (l : List Int) (c : Int) (w : World) (h : SlI w A n cp l) (ho : ChOk l c) (hc : c ≤ 1073741824) :
    Calls Try.prog 78 #[.slice A n cp, .int .i64 c] w fun e w' => e = .returned (.bool true) ∧ w = w' := by
  have hn := h.len
  have hz := h.2.2.2
  have HH := Lib.hid h
  have HO := Lib.hid ho
  have hcm := h.2.2.1
  have hnc := h.2.1
  have h64 := ho.n
  rw [hn] at h64
  clear h ho
  go_enter Try.func78, Try.ntmps78
  go_wp2_with fail
  go_loopg [5, 11] n (fun gg v5 v11 wr => ∃ (i : Nat) (t : Int), i ≤ n ∧ n - i ≤ gg ∧ v5 = .int .i64 t ∧ v11 = .int .i64 (i : Int) ∧ t = c - (l.take i).sum ∧ w = wr)
  case atStart => exact ⟨0, c, by omega, by omega, rfl, rfl, by simp, rfl⟩
  case round =>
    obtain ⟨i, t, hi, hgk, rfl, rfl, ht, rfl⟩ := hrel
    by_cases hlt : i < n
    · obtain ⟨b, o, rfl, hcs⟩ := HH.out.1.2 (by omega)
      have c0 := hcs i hlt
      have hs := sum_take l i (by omega)
      have hf := sum_front l HO.out.p i
      have hf1 := sum_front l HO.out.p (i + 1)
      have hsum := HO.out.s (fun e => by rw [e] at hn; simp at hn; omega)
      have hv1 : 1 ≤ l.getD i 0 := by
        have hil : i < l.length := by omega
        rw [List.getD_eq_getElem?_getD, List.getElem?_eq_getElem hil]
        exact HO.out.p _ (List.getElem_mem hil)
      obtain ⟨t', ht'⟩ : ∃ t', c - (l.take (i + 1)).sum = t' := ⟨_, rfl⟩
      have HT := Lib.hid ht'
      generalize l.getD i 0 = v at *
      have KW := within_yesl v 1 t w ⟨hv1, by omega⟩
      have et : t - v = t' := by omega
      have e1 : (i : Int) < (n : Int) := by omega
      have b1 : 0 ≤ t' := by omega
      have b2 : t' ≤ 1073741824 := by omega
      clear hcs hs hf hf1 hsum ht ht'
      go_wp2_with fail
      refine KW.mono ?_
      rintro e w1 ⟨rfl, rfl⟩
      clear KW c0
      go_wp2
      go_roundg (n - (i + 1))
      case measure => omega
      case rel => exact ⟨i + 1, t', by omega, by omega, by first | rfl | rw [et], by go_num, HT.out.symm, rfl⟩
    · have hie : i = n := by omega
      subst hie
      have e1 : ¬ (i : Int) < (i : Int) := by omega
      have hall : l.take i = l := List.take_of_length_le (by omega)
      rw [hall] at ht
      rcases Nat.eq_zero_or_pos i with h0 | h0
      · have e0 : ((i : Int) == 0) = true := by simp [h0]
        clear ht hall
        go_wp2
        go_ret
        exact ⟨rfl, rfl⟩
      · have e0 : ((i : Int) == 0) = false := beq_eq_false_iff_ne.2 (by omega)
        have hsum := HO.out.s (fun e => by rw [e] at hn; simp at hn; omega)
        have ht0 : t = 0 := by omega
        subst ht0
        have e2 : decide ((i : Int) ≤ 64) = true := by simp; omega
        clear ht hall hsum
        go_wp2
        go_ret
        exact ⟨rfl, rfl⟩
theorem far_no (u S : Int) (b : Nat) (w : World) (ha : w.cell? ⟨b, 0, none⟩ = some (.int .i64 S)) (h : 0 ≤ u ∧ u < S) :
    Calls Try.prog 77 #[.int .i64 u, .pointer (some ⟨b, 0, none⟩)] w fun e w' => e = .returned (.bool false) ∧ w = w' := by
  have e1 : decide (u < 0) = false := by simp; omega
  have e2 : decide (S ≤ u) = false := by simp; omega
  go_enter Try.func77, Try.ntmps77
  go_wp2
  go_ret
  exact ⟨rfl, rfl⟩
theorem index_no (A : Option Addr) (n cp : Nat) (l : List Int) (S : Int) (b : Nat) (w : World) (h : SlI w A n cp l) (ha : w.cell? ⟨b, 0, none⟩ = some (.int .i64 S)) (ho : ∀ u ∈ l, 0 ≤ u ∧ u < S) :
    Calls Try.prog 87 #[.slice A n cp, .func (.func 77) #[] #[.pointer (some ⟨b, 0, none⟩)]] w fun e w' => e = .returned (.int .i64 (-1)) ∧ w = w' := by
  have hn := h.len
  have HH := Lib.hid h
  have HO := Lib.hid ho
  have HA := Lib.hid ha
  have hcm := h.2.2.1
  have hnc := h.2.1
  clear h ho ha
  go_enter Try.func87, Try.ntmps87
  go_wp2_with fail
  go_loopg [8] n (fun gg v8 wr => ∃ (i : Nat), i ≤ n ∧ n - i ≤ gg ∧ v8 = .int .i64 (i : Int) ∧ w = wr)
  case atStart => exact ⟨0, by omega, by omega, rfl, rfl⟩
  case round =>
    obtain ⟨i, hi, hgk, rfl, rfl⟩ := hrel
    by_cases hlt : i < n
    · obtain ⟨b', o, rfl, hcs⟩ := HH.out.1.2 (by omega)
      have c0 := hcs i hlt
      have hv1 : 0 ≤ l.getD i 0 ∧ l.getD i 0 < S := by
        have hil : i < l.length := by omega
        rw [List.getD_eq_getElem?_getD, List.getElem?_eq_getElem hil]
        exact HO.out _ (List.getElem_mem hil)
      generalize l.getD i 0 = v at *
      have KF := far_no v S b w HA.out hv1
      have e1 : (i : Int) < (n : Int) := by omega
      clear hcs hv1
      go_wp2_with fail
      refine KF.mono ?_
      rintro e w1 ⟨rfl, rfl⟩
      clear KF c0
      go_wp2
      go_roundg (n - (i + 1))
      case measure => omega
      case rel => exact ⟨i + 1, by omega, by omega, by go_num, rfl⟩
    · have hie : i = n := by omega
      subst hie
      have e1 : ¬ (i : Int) < (i : Int) := by omega
      go_wp2
      go_ret
      exact ⟨rfl, rfl⟩
theorem contains_no (A : Option Addr) (n cp : Nat) (l : List Int) (S : Int) (b : Nat) (w : World) (h : SlI w A n cp l) (ha : w.cell? ⟨b, 0, none⟩ = some (.int .i64 S)) (ho : ∀ u ∈ l, 0 ≤ u ∧ u < S) :
    Calls Try.prog 79 #[.slice A n cp, .func (.func 77) #[] #[.pointer (some ⟨b, 0, none⟩)]] w fun e w' => e = .returned (.bool false) ∧ w = w' := by
  have KI := index_no A n cp l S b w h ha ho
  clear h ha ho
  go_enter Try.func79, Try.ntmps79
  go_wp2_with fail
  refine KI.mono ?_
  rintro e w1 ⟨rfl, rfl⟩
  go_wp2
  go_ret
  exact ⟨rfl, rfl⟩
/-- A task that is right. -/
structure RightT (S : Int) (x : TaskV) : Prop where
  i1 : 1 ≤ x.id ∧ x.id ≤ 99
  p1 : 1 ≤ x.prio ∧ x.prio ≤ 99
  c1 : 1 ≤ x.c ∧ x.c ≤ x.d
  d1 : 1 ≤ x.d ∧ x.d ≤ x.t
  t1 : x.t ≤ 1073741824
  ch : ChOk x.chunks x.c
  ul : x.use.length ≤ 64
  us : ∀ u ∈ x.use, 0 ≤ u ∧ u < S
set_option maxRecDepth 100000 in
set_option maxHeartbeats 4000000 in
theorem right_ok (r : RT) (S : Int) (w : World) (hr : r.Rd w) (h : RightT S r.x) :
    Calls Try.prog 63 #[.agg #[.int .i64 r.x.id, .int .i64 r.x.c, .int .i64 r.x.d, .int .i64 r.x.t, .int .i64 r.x.prio, .slice r.ca r.cl r.cc, .slice r.ua r.ul r.uc], .int .i64 S] w fun e w' => e = .returned (.int .i64 0) ∧ Below w.heap.size w w' := by
  obtain ⟨w1, hw1⟩ : ∃ w1, (w.alloc (.cells #[.int .i64 r.x.id, .int .i64 r.x.c, .int .i64 r.x.d, .int .i64 r.x.t, .int .i64 r.x.prio, .slice r.ca r.cl r.cc, .slice r.ua r.ul r.uc] 33)).alloc (.cells #[.int .i64 S] 3) = w1 := ⟨_, rfl⟩
  have hB1 : Below w.heap.size w w1 := by rw [← hw1]; exact ((Below.refl _ w).alloc (Nat.le_refl _) _).alloc (by simp) _
  have nT : w1.heap[w.heap.size]? = some (.cells (taskCells r.x.id r.x.c r.x.d r.x.t r.x.prio (.slice r.ca r.cl r.cc) (.slice r.ua r.ul r.uc)) 33 (0, 0)) := by rw [← hw1]; exact (Below.heap_alloc _ _ _ (by simp)).trans (heap_newT _ _ _ rfl)
  have nS : w1.heap[w.heap.size + 1]? = some (.cells #[.int .i64 S] 3 (0, 0)) := by rw [← hw1]; exact heap_newT _ _ _ (by simp)
  have hr1 : r.Rd w1 := hr.below hB1 (Nat.le_refl _)
  have hul := hr1.2.len
  have K1 := within_yes r.x.id 1 99 w1 h.i1
  have K2 := within_yes r.x.prio 1 99 w1 h.p1
  have K3 := within_yesl r.x.c 1 r.x.d w1 h.c1
  have K4 := within_yesl r.x.d 1 r.x.t w1 h.d1
  have K5 := chunks_ok r.ca r.cl r.cc r.x.chunks r.x.c w1 hr1.1 h.ch (by have := h.c1; have := h.d1; have := h.t1; omega)
  have ha : w1.cell? ⟨w.heap.size + 1, 0, none⟩ = some (.int .i64 S) := by simp only [World.cell?, nS]; rfl
  have K6 := contains_no r.ua r.ul r.uc r.x.use S (w.heap.size + 1) w1 hr1.2 ha h.us
  have e1 : ¬ (1073741824 : Int) < r.x.t := by have := h.t1; omega
  have e2 : ¬ (64 : Int) < (r.ul : Int) := by have := h.ul; omega
  have e3 : decide ((64 : Int) < (r.ul : Int)) = false := decide_eq_false e2
  have HB := Lib.hid hB1
  obtain ⟨y0, y1, y2, y3, y4, y5, y6⟩ := bx_seven nT
  clear hB1 nT nS hr1 hr h hul ha
  go_enter Try.func63, Try.ntmps63
  go_wp2_with fail
  try rw [hw1]
  refine K1.mono ?_
  rintro e w2 ⟨rfl, rfl⟩
  go_wp2_with fail
  refine K2.mono ?_
  rintro e w2 ⟨rfl, rfl⟩
  go_wp2_with fail
  refine K3.mono ?_
  rintro e w2 ⟨rfl, rfl⟩
  go_wp2_with fail
  refine K4.mono ?_
  rintro e w2 ⟨rfl, rfl⟩
  go_wp2_with fail
  refine K5.mono ?_
  rintro e w2 ⟨rfl, rfl⟩
  go_wp2_with fail
  refine K6.mono ?_
  rintro e w2 ⟨rfl, rfl⟩
  go_wp2
  go_ret
  exact ⟨rfl, HB.out⟩
end Go.Proofs.Ytaofldlidifdcaa.Tsk
