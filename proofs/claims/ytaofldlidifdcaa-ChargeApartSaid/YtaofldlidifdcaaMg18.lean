/-
  Texts of one claim, joined in build order: Tsk2.
-/
import Derived.Test.YtaofldlidifdcaaMg17
import Derived.Maps.OwnSet
import Derived.BigRegion
/-
  Package tasks: Check, of a system that is right.
-/
namespace Go.Proofs.Ytaofldlidifdcaa.Tsk
open Go.RowKit Go.Maps Go.Proofs.Ytaofldlidifdcaa.Sys Go.Proofs.Ytaofldlidifdcaa.Box

noncomputable abbrev boolEl : Value → Option (DataW Unit × List MemPlace) := plainElem Try.prog 4
theorem keyI : Keyed Try.prog 3 := int_keyed Try.underlying3
theorem zeroB (w : World) : (zeroValue 4).run Try.prog w = .ok (.bool false) w := by kernel_rfl
theorem elem_inv {P : Program} {e : TypeId} (he : P.underlying e = some .bool) {v : Value} {d : DataW Unit} {ps : List MemPlace} (h : plainElem (H := Unit) P e v = some (d, ps)) : ∃ x, v = .bool x ∧ d = .lit (.bool x) := by
  unfold plainElem at h
  rw [he] at h
  cases v <;> simp at h
  exact ⟨_, rfl, h.1.symm⟩
theorem bool_inv {v : Value} {d : DataW Unit} {ps : List MemPlace} (h : boolEl v = some (d, ps)) : ∃ x, v = .bool x ∧ d = .lit (.bool x) := elem_inv Try.underlying4 h
theorem own_exactB {w : World} {b n : Nat} {D : DataW Unit} (h : w.ownsMap Try.prog 3 boolEl b n D) : w.ownsMap Try.prog 3 boolEl b (Maps.size D) D := by
  obtain ⟨es, clock, hb, F, hs, rfl⟩ := h
  refine ⟨es, clock, hb, F, ?_, rfl⟩
  simp [Maps.size, length_sorted]
/-- Block b is a set of these numbers. -/
def SetB (w : World) (b m : Nat) (ps : List Int) : Prop :=
  ∃ D : DataW Unit, w.ownsMap Try.prog 3 boolEl b m D ∧ ∀ x, (Lit.int .i64 x).wf = true → D.atKey (.int .i64 x) (.lit (.bool false)) = .lit (.bool (decide (x ∈ ps)))
theorem SetB.kept {w w' : World} {b m : Nat} {ps : List Int} (h : SetB w b m ps) (hk : w'.heap[b]? = w.heap[b]?) : SetB w' b m ps := by
  obtain ⟨D, ⟨es, clock, hb, r⟩, h2⟩ := h
  exact ⟨D, ⟨es, clock, hk.trans hb, r⟩, h2⟩
theorem SetB.lt {w : World} {b m : Nat} {ps : List Int} (h : SetB w b m ps) : b < w.heap.size := by
  obtain ⟨D, ⟨es, clock, hb, r⟩, h2⟩ := h
  exact (Array.getElem?_eq_some_iff.1 hb).1
theorem SetB.look {w : World} {b m : Nat} {ps : List Int} (h : SetB w b m ps) {x : Int} (hx : (Lit.int .i64 x).wf = true) :
    (Instr.lookup 109 (.map (some b)) (.int .i64 x) false).run Try.prog w = .ok (.bool (decide (x ∈ ps))) w := by
  obtain ⟨D, ho, hd⟩ := h
  obtain ⟨v, qs, hrun, hv⟩ := ho.lookup keyI Try.underlying109 (zeroB w) (plainElem_bool (H := Unit) Try.underlying4 false) (keyOf_int_mk Try.underlying3 hx)
  obtain ⟨y, rfl, e⟩ := bool_inv hv
  rw [hd x hx] at e
  simp only [DataW.lit.injEq, Lit.bool.injEq] at e
  rw [hrun, e]
theorem SetB.store {w : World} {b m : Nat} {ps : List Int} (h : SetB w b m ps) {x : Int} (hx : (Lit.int .i64 x).wf = true) (hm : m < maxLen) :
    ∃ w', (Instr.mapUpdate 109 (.map (some b)) (.int .i64 x) (.bool true)).run Try.prog w = .ok () w' ∧ SetB w' b (m + 1) (x :: ps) ∧ w.mapTurned w' b := by
  obtain ⟨D, ho, hd⟩ := h
  obtain ⟨w', hrun, ho', ht⟩ := ho.store keyI Try.underlying109 hm (keyOf_int_mk Try.underlying3 hx) (plainElem_bool (H := Unit) Try.underlying4 true)
  refine ⟨w', hrun, ⟨_, ho', fun y hy => ?_⟩, ht⟩
  by_cases e : y = x
  · subst e
    rw [atKey_put_same (k := .int .i64 y) ho.isMap trivial]
    simp
  · have hne : (Lit.int .i64 y) ≠ (Lit.int .i64 x) := by simpa using e
    rw [atKey_put_other hne, hd y hy]
    simp [e]
theorem SetB.made (w : World) : SetB (w.alloc (.map #[] 0)) w.heap.size 0 [] := ⟨.map [], World.ownsMap_made _ _ _ _, fun _ _ => rfl⟩
/-- A system that is right. -/
structure RightS (S R : Int) (n : Nat) (q : List RT) : Prop where
  s : 0 ≤ S ∧ S ≤ 256
  r : 0 ≤ R ∧ R ≤ 1000
  n1 : 1 ≤ n
  n64 : n ≤ 64
  t : ∀ i, i < n → RightT S (q.getD i default).x
  inc : ∀ i, i + 1 < n → (q.getD i default).x.id < (q.getD (i + 1) default).x.id
  pr : ∀ i j, i < j → j < n → (q.getD i default).x.prio ≠ (q.getD j default).x.prio
def priosF (q : List RT) : Nat → List Int
  | 0 => []
  | i + 1 => (q.getD i default).x.prio :: priosF q i
theorem prios_mem (q : List RT) : ∀ i x, x ∈ priosF q i → ∃ j, j < i ∧ x = (q.getD j default).x.prio
  | 0, x, h => by cases h
  | i + 1, x, h => by
    rcases List.mem_cons.1 h with e | e
    · exact ⟨i, Nat.lt_succ_self i, e⟩
    · obtain ⟨j, h1, h2⟩ := prios_mem q i x e
      exact ⟨j, by omega, h2⟩
def lastF (q : List RT) : Nat → Int
  | 0 => 0
  | i + 1 => (q.getD i default).x.id
theorem wf_small {v : Int} (h0 : 0 ≤ v) (h1 : v ≤ 1073741824) : (Lit.int .i64 v).wf = true := by simp [Lit.wf, IntKind.min, IntKind.max, IntKind.signed, IntKind.bits]; omega
set_option maxRecDepth 100000 in
set_option maxHeartbeats 8000000 in
theorem check_ok (S R : Int) (A : Option Addr) (n c : Nat) (q : List RT) (w : World) (hr : RdT w A n q) (hnc : n ≤ c) (hcm : c ≤ 9223372036854775807) (h : RightS S R n q) :
    Calls Try.prog 44 #[.agg #[.int .i64 S, .int .i64 R, .slice A n c]] w fun e w' => e = .returned (.int .i64 0) ∧ Below w.heap.size w w' := by
  obtain ⟨w1, hw1⟩ : ∃ w1, w.alloc (.cells #[.int .i64 S, .int .i64 R, .slice A n c] 28) = w1 := ⟨_, rfl⟩
  have hB1 : Below w.heap.size w w1 := by rw [← hw1]; exact (Below.refl _ w).alloc (Nat.le_refl _) _
  have nS : w1.heap[w.heap.size]? = some (.cells #[.int .i64 S, .int .i64 R, .slice A n c] 28 (0, 0)) := by rw [← hw1]; exact heap_newT _ _ _ rfl
  have hsz1 : w1.heap.size = w.heap.size + 1 := by rw [← hw1]; simp
  have K1 := within_yes S 0 256 w1 h.s
  have K2 := within_yesl R 0 1000 w1 h.r
  have e1 : ((n : Int) == 0) = false := beq_eq_false_iff_ne.2 (by have := h.n1; omega)
  have e2 : ¬ (64 : Int) < (n : Int) := by have := h.n64; omega
  have HB1 := Lib.hid hB1
  have HNS := Lib.hid nS
  have HR := Lib.hid hr
  have HS := Lib.hid h
  have hn64 := h.n64
  obtain ⟨s0, s1, s2⟩ := bx_three nS
  have hmm := @run_makeMap Try.prog
  clear hB1 nS hr h
  go_enter Try.func44, Try.ntmps44
  go_wp2
  go_step3
  go_wp2_with fail
  try rw [hw1]
  refine K1.mono ?_
  rintro e w2 ⟨rfl, rfl⟩
  go_wp2_with fail
  refine K2.mono ?_
  rintro e w2 ⟨rfl, rfl⟩
  have X1 := cellsT s0
  have X2 := cellsT s1
  have X3 := cellsT s2
  go_wp2_with fail
  go_step3
  go_wp2_with fail
  obtain ⟨w3, hw3⟩ : ∃ w3, w1.alloc (.map #[] 0) = w3 := ⟨_, rfl⟩
  rw [hw3]
  have HM3 : Hid (SetB w3 (w.heap.size + 1) 0 []) := by rw [← hw3, ← hsz1]; exact SetB.made w1
  have HB3 : Hid (Below w.heap.size w w3) := by rw [← hw3]; exact HB1.out.alloc HB1.out.size _
  have HS3 : Hid (w3.heap[w.heap.size]? = some (.cells #[.int .i64 S, .int .i64 R, .slice A n c] 28 (0, 0))) := by rw [← hw3]; exact (Below.heap_alloc _ _ _ (bx_lt HNS.out)).trans HNS.out
  clear hw3 K1 K2 X1 X2 X3 s0 s1 s2 HB1 HNS hsz1 hw1
  go_loopg [3, 4, 34] n (fun gg v3 v4 v34 wr => ∃ (i : Nat), i ≤ n ∧ n - i ≤ gg ∧ v3 = .int .i64 0 ∧ v4 = .int .i64 (lastF q i) ∧ v34 = .int .i64 (i : Int) ∧ Aside (SetB wr (w.heap.size + 1) i (priosF q i)) ∧ Aside (Below w.heap.size w wr) ∧ Aside (wr.heap[w.heap.size]? = some (.cells #[.int .i64 S, .int .i64 R, .slice A n c] 28 (0, 0))))
  case atStart => exact ⟨0, by omega, by omega, rfl, rfl, rfl, HM3.out, HB3.out, HS3.out⟩
  case round =>
    obtain ⟨i, hi, hgk, rfl, rfl, rfl, hM, hB, hX⟩ := hrel
    clear HM3 HB3 HS3
    obtain ⟨s0, s1, s2⟩ := bx_three hX.out
    by_cases hlt : i < n
    · have hro := HR.out.below hB.out (Nat.le_refl _)
      obtain ⟨b, o, rfl, hcs⟩ := hro.ad (by omega)
      obtain ⟨y0, y1, y2, y3, y4, y5, y6⟩ := hcs i hlt
      have hrr := hro.getRd hlt
      have hrt := HS.out.t i hlt
      have hlast : lastF q i < (q.getD i default).x.id := by
        cases i with
        | zero => have := hrt.i1; show (0 : Int) < _; omega
        | succ i => exact HS.out.inc i hlt
      have hnew : (q.getD i default).x.prio ∉ priosF q i := fun hm => by
        obtain ⟨j, hj, e⟩ := prios_mem q i _ hm
        exact HS.out.pr j i hj hlt e.symm
      have hl1 : lastF q (i + 1) = (q.getD i default).x.id := rfl
      have hp1 : priosF q (i + 1) = (q.getD i default).x.prio :: priosF q i := rfl
      generalize q.getD i default = r at *
      obtain ⟨w4, hw4⟩ : ∃ w4, wr.alloc (.cells #[.int .i64 r.x.id, .int .i64 r.x.c, .int .i64 r.x.d, .int .i64 r.x.t, .int .i64 r.x.prio, .slice r.ca r.cl r.cc, .slice r.ua r.ul r.uc] 33) = w4 := ⟨_, rfl⟩
      have hT4 : w4.heap[wr.heap.size]? = some (.cells (taskCells r.x.id r.x.c r.x.d r.x.t r.x.prio (.slice r.ca r.cl r.cc) (.slice r.ua r.ul r.uc)) 33 (0, 0)) := by rw [← hw4]; exact heap_newT _ _ _ rfl
      have hB4 : Below wr.heap.size wr w4 := by rw [← hw4]; exact (Below.refl _ wr).alloc (Nat.le_refl _) _
      have hX4 : w4.heap[w.heap.size]? = some (.cells #[.int .i64 S, .int .i64 R, .slice (some ⟨b, o, none⟩) n c] 28 (0, 0)) := (hB4.block _ (bx_lt hX.out)).trans hX.out
      have KR := right_ok r S w4 (hrr.below hB4 (Nat.le_refl _)) hrt
      obtain ⟨z0, z1, z2, z3, z4, z5, z6⟩ := bx_seven hT4
      obtain ⟨t0, t1, t2⟩ := bx_three hX4
      have HT4 := Lib.hid hT4
      have HB4 := Lib.hid hB4
      have HX4 := Lib.hid hX4
      have HL1 := Lib.hid hl1
      have HP1 := Lib.hid hp1
      have HNEW := Lib.hid hnew
      have HLAST := Lib.hid hlast
      have HPR : Hid (1 ≤ r.x.prio ∧ r.x.prio ≤ 99) := hrt.p1
      have e3 : (i : Int) < (n : Int) := by omega
      clear hcs hro hrr hrt hlast hnew hl1 hp1 hT4 hB4 hX4
      go_wp2_with fail
      try rw [hw4]
      clear hw4 y0 y1 y2 y3 y4 y5 y6 s0 s1 s2 z0 z1 z2 z3 z4 z5 z6 t0 t1 t2
      refine KR.mono ?_
      rintro e w5 ⟨rfl, hb5⟩
      have hs4 := HB4.out.size
      have hM5 : SetB w5 (w.heap.size + 1) i (priosF q i) := hM.out.kept ((hb5.block _ (Nat.lt_of_lt_of_le hM.out.lt hs4)).trans (HB4.out.block _ hM.out.lt))
      have hT5 := (hb5.block _ (bx_lt HT4.out)).trans HT4.out
      have hX5 := (hb5.block _ (bx_lt HX4.out)).trans HX4.out
      have HB5 : Hid (Below w.heap.size w w5) := (hB.out.trans (HB4.out.mono hB.out.size)).trans (hb5.mono (Nat.le_trans hB.out.size hs4))
      have hlk := hM5.look (wf_small (v := r.x.prio) (by have := HPR.out; omega) (by have := HPR.out; omega))
      rw [decide_eq_false HNEW.out] at hlk
      obtain ⟨w6, hr6, hm6, ht6⟩ := (show SetB w5.drew (w.heap.size + 1) i (priosF q i) from hM5.kept rfl).store (wf_small (v := r.x.prio) (by have := HPR.out; omega) (by have := HPR.out; omega)) (by unfold maxLen; omega)
      have hg6 : ∀ j, j ≠ w.heap.size + 1 → j < w5.heap.size → w6.heap[j]? = w5.heap[j]? := fun j hj hl => ht6.grown.block j hl (fun e => hj (Option.some.inj e))
      have hX6 : Hid (w6.heap[w.heap.size]? = some (.cells #[.int .i64 S, .int .i64 R, .slice (some ⟨b, o, none⟩) n c] 28 (0, 0))) := (hg6 _ (by omega) (bx_lt hX5)).trans hX5
      have HB6 : Hid (Below w.heap.size w w6) := HB5.out.trans ⟨ht6.grown.os, ht6.grown.tape, ht6.grown.output, (show w5.heap.size ≤ w6.heap.size from ht6.grown.size), fun j hj => by
        rcases Nat.lt_or_ge j w5.heap.size with e | e
        · exact hg6 j (by omega) e
        · have := HB5.out.size; omega⟩
      have HM6 : Hid (SetB w6 (w.heap.size + 1) (i + 1) (priosF q (i + 1))) := by rw [HP1.out]; exact hm6
      obtain ⟨z0, z1, z2, z3, z4, z5, z6⟩ := bx_seven hT5
      have hml := hM.out.lt
      obtain ⟨v0, v1, v2, v3, v4, v5, v6⟩ := bx_seven ((hg6 _ (by omega) (bx_lt hT5)).trans hT5)
      have hle : ¬ r.x.id ≤ lastF q i := by have := HLAST.out; omega
      clear KR hb5 hM hB hX hM5 hT5 hX5 hm6 ht6 hg6
      go_wp2_with fail
      go_region
      go_wp2
      go_roundg (n - (i + 1))
      case measure => omega
      case rel => exact ⟨i + 1, by omega, by omega, rfl, by rw [HL1.out], by go_num, HM6.out, HB6.out, hX6.out⟩
    · have hie : i = n := by omega
      subst hie
      have e3 : ¬ (i : Int) < (i : Int) := by omega
      have HE := Lib.hid hB.out
      clear hM hB hX
      go_wp2
      go_ret
      exact ⟨rfl, HE.out⟩
end Go.Proofs.Ytaofldlidifdcaa.Tsk
