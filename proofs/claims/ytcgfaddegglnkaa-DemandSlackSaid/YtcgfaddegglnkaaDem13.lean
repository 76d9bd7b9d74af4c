/-
  Package demand: Slack.
-/
import Derived.Test.YtcgfaddegglnkaaDem12
import Derived.Lib.SliceRun
import Derived.Lib.BufferMore
namespace Go.Proofs.Ytcgfaddegglnkaa.Dem
open Go.RowKit Go.Shelf Go.Proofs.Ytcgfaddegglnkaa.Ari
attribute [local go_sem] Oper.semAt_some

theorem own_cells {β : Type} (B b : Nat) (X : β → Array Value) (T : TypeId) : OwnFrom B (fun (s : β) W => W.heap[b]? = some (.cells (X s) T (0, 0))) := fun s W W' row hs hg hr =>
  (hg.block b (Array.getElem?_eq_some_iff.1 hs).1 (fun e => by
    obtain ⟨_, o, ho, hc⟩ := hr b e.symm
    rw [hs] at ho
    cases ho
    cases hc)).trans hs
theorem own_sz {β : Type} (B m : Nat) : OwnFrom B (fun (_ : β) W => m ≤ W.heap.size) := fun _ _ _ _ hs hg _ => Nat.le_trans hs hg.size
theorem keeps_bl {B : Nat} {W W' : World} (h : Below W.heap.size W W') : KeepsFrom B W W' := ⟨h.size, fun k _ _ hk _ => (h.block k (Array.getElem?_eq_some_iff.1 hk).1).trans hk⟩
theorem free1 {w : World} {b : Nat} {v : Value} {t : TypeId} (h : w.heap[b]? = some (.cells #[v] t (0, 0))) : w.frozen? ⟨b, 0, none⟩ = false := by simp [World.frozen?, h]
theorem set1 {w : World} {b : Nat} {v : Value} {t : TypeId} (h : w.heap[b]? = some (.cells #[v] t (0, 0))) (x : Value) : (w.setCell ⟨b, 0, none⟩ x).heap[b]? = some (.cells #[x] t (0, 0)) := by
  have := Lib.heap_setCell_same (i := 0) h x
  rw [this]
  rfl
theorem set1_other (w : World) (b k : Nat) (hk : k ≠ b) (x : Value) : (w.setCell ⟨b, 0, none⟩ x).heap[k]? = w.heap[k]? := Below.heap_setCell _ _ _ _ hk
/-- What best and met hold behind these times. -/
def best (l : List Dm) (pre : List Tm) : Int := mins ((tms pre).map fun t => t - work l t)
theorem best_snoc (l : List Dm) (pre : List Tm) (x : Tm) : best l (pre ++ [x]) = if pre = [] then x.1 - work l x.1 else min (best l pre) (x.1 - work l x.1) := by
  unfold best
  rw [tms_snoc, List.map_append, List.map_cons, List.map_nil, mins_snoc]
  cases pre <;> simp [tms]

set_option maxRecDepth 100000 in
set_option maxHeartbeats 4000000 in
theorem slack_in (N : Nat) (hN : 3 ≤ N) (A : Option Addr) (n c : Nat) (l : List Dm) (ho : Oks l) (frm til : Int) (f0 : 0 ≤ frm) (f1 : frm ≤ 1048576) (t0 : 0 ≤ til) (t1 : til ≤ 1048576) (w : World) (hr : RdD w A n l) :
    CallsIn Fence.wide N Try.prog 16 #[.slice A n c, .int .i64 frm, .int .i64 til] w fun e W' => e = .returned (.tuple #[.int .i64 (slackI l frm til), .bool (decide (dlsOf l frm til ≠ []))]) ∧ Below w.heap.size w W' := by
  have h1 : 1 ≤ N := by omega
  have HR := Lib.hid hr
  have HO := Lib.hid ho
  have hln := hr.1
  have hn := hr.2.1
  clear hr ho
  have e1 : IntKind.i64.wrap (til - frm) = til - frm := by rw [IntKind.wrap_i64]; omega
  have e2 : decide ((1048576 : Int) < til - frm) = false := by simp; omega
  refine callsIn_of_wp_marks Try.func16 rfl trivial ?_ rfl
  simp only [Try.ntmps16, List.size_toArray, List.length_cons, List.length_nil, Nat.reduceAdd, Nat.reduceSub, Array.replicate_succ, Array.replicate_zero, List.push_toArray, List.append_toArray, List.nil_append, List.cons_append]
  have hw3 : Below w.heap.size w ((((w.alloc (.cells #[.slice A n c] 24)).alloc (.cells #[.int .i64 0] 2)).alloc (.cells #[.bool false] 4)).alloc (.cells #[.int .i64 frm, .int .i64 til] 2)) := ((((Below.refl _ w).alloc (Nat.le_refl _) _).alloc (by simp) _).alloc (by simp; omega) _).alloc (by simp; omega) _
  have hr3 := HR.out.below hw3 (Nat.le_refl _)
  have ht3 : Rd ((((w.alloc (.cells #[.slice A n c] 24)).alloc (.cells #[.int .i64 0] 2)).alloc (.cells #[.bool false] 4)).alloc (.cells #[.int .i64 frm, .int .i64 til] 2)) .i64 (some ⟨w.heap.size + 3, 0, none⟩) 2 [frm, til] := rd_new' _ _ _ _ [frm, til] _ 2 (by simp) (by simp) rfl (by decide)
  have HM := Lib.hid (may_any A n c l HO.out _ 2 2 [frm, til] _ hr3 ht3 (by decide) (by simp [mins]; omega) (by simp [maxs]; omega))
  have HK : Hid (∀ w1, Below ((((w.alloc (.cells #[.slice A n c] 24)).alloc (.cells #[.int .i64 0] 2)).alloc (.cells #[.bool false] 4)).alloc (.cells #[.int .i64 frm, .int .i64 til] 2)).heap.size ((((w.alloc (.cells #[.slice A n c] 24)).alloc (.cells #[.int .i64 0] 2)).alloc (.cells #[.bool false] 4)).alloc (.cells #[.int .i64 frm, .int .i64 til] 2)) w1 → w1.heap[w.heap.size]? = some (.cells #[.slice A n c] 24 (0, 0)) ∧ w1.heap[w.heap.size + 1]? = some (.cells #[.int .i64 0] 2 (0, 0)) ∧ w1.heap[w.heap.size + 2]? = some (.cells #[.bool false] 4 (0, 0)) ∧ w.heap.size + 4 ≤ w1.heap.size) := fun w1 h => by
    have hz := h.size
    simp at hz
    refine ⟨(h.block _ (by simp; omega)).trans ?_, (h.block _ (by simp)).trans ?_, (h.block _ (by simp)).trans ?_, by omega⟩
    · rw [Below.heap_alloc _ _ _ (by simp; omega), Below.heap_alloc _ _ _ (by simp; omega), Below.heap_alloc _ _ _ (by simp)]; exact heap_alloc_new _ _
    · rw [Below.heap_alloc _ _ _ (by simp), Below.heap_alloc _ _ _ (by simp)]; exact (by simpa using heap_alloc_new (w.alloc (.cells #[.slice A n c] 24)) (.cells #[.int .i64 0] 2))
    · rw [Below.heap_alloc _ _ _ (by simp)]; exact (by simpa using heap_alloc_new ((w.alloc (.cells #[.slice A n c] 24)).alloc (.cells #[.int .i64 0] 2)) (.cells #[.bool false] 4))
  have HW3 := Lib.hid hw3
  clear hr3 ht3 hw3
  gi_wp2_with (first
    | (refine ⟨trivial, ?_⟩; gi_at_call 20; refine (callsIn_wide.2 HM.out).mono ?_; rintro e w1 ⟨rfl, hb⟩; obtain ⟨b0, b1, b2, hz1⟩ := HK.out w1 hb; have k0 := cell1 b0; have k1 : ((w1.alloc (.cells #[.int .i64 0] 2)).alloc (.cells #[.bool false] 4)).cell? ⟨w.heap.size, 0, none⟩ = some (.slice A n c) := cell1 ((Below.heap_alloc _ _ _ (by simp; omega)).trans ((Below.heap_alloc _ _ _ (by omega)).trans b0)))
    | (refine ⟨trivial, ?_⟩; gi_at_call 27; refine (deadlinesOf_in (N - 1) A n c frm til _).mono ?_; rintro e w2 ⟨rfl, rfl⟩))
  have hw1 : Below w.heap.size w w1 := HW3.out.trans (hb.mono HW3.out.size)
  clear hb HM HK HW3 k0 k1
  generalize hbz : w1.heap.size = b at *
  have hL1 : (((((w1.alloc (.cells #[.int .i64 0] 2)).alloc (.cells #[.bool false] 4)).alloc (.cells #[.slice A n c] 24)).alloc (.cells #[.int .i64 frm] 2)).alloc (.cells #[.int .i64 til] 2)).heap.size = b + 5 := by simp [hbz]
  have hLw : Below b w1 (((((w1.alloc (.cells #[.int .i64 0] 2)).alloc (.cells #[.bool false] 4)).alloc (.cells #[.slice A n c] 24)).alloc (.cells #[.int .i64 frm] 2)).alloc (.cells #[.int .i64 til] 2)) :=
    (((((Below.refl _ w1).alloc (by omega) _).alloc (by simp; omega) _).alloc (by simp; omega) _).alloc (by simp; omega) _).alloc (by simp; omega) _
  have nB : (((((w1.alloc (.cells #[.int .i64 0] 2)).alloc (.cells #[.bool false] 4)).alloc (.cells #[.slice A n c] 24)).alloc (.cells #[.int .i64 frm] 2)).alloc (.cells #[.int .i64 til] 2)).heap[b]? = some (.cells #[.int .i64 0] 2 (0, 0)) := by
    rw [Below.heap_alloc _ _ _ (by simp; omega), Below.heap_alloc _ _ _ (by simp; omega), Below.heap_alloc _ _ _ (by simp; omega), Below.heap_alloc _ _ _ (by simp; omega), ← hbz]; exact heap_alloc_new _ _
  have nM : (((((w1.alloc (.cells #[.int .i64 0] 2)).alloc (.cells #[.bool false] 4)).alloc (.cells #[.slice A n c] 24)).alloc (.cells #[.int .i64 frm] 2)).alloc (.cells #[.int .i64 til] 2)).heap[b + 1]? = some (.cells #[.bool false] 4 (0, 0)) := by
    rw [Below.heap_alloc _ _ _ (by simp; omega), Below.heap_alloc _ _ _ (by simp; omega), Below.heap_alloc _ _ _ (by simp; omega), ← hbz]; exact (by simpa using heap_alloc_new (w1.alloc (.cells #[.int .i64 0] 2)) (.cells #[.bool false] 4))
  have nS : (((((w1.alloc (.cells #[.int .i64 0] 2)).alloc (.cells #[.bool false] 4)).alloc (.cells #[.slice A n c] 24)).alloc (.cells #[.int .i64 frm] 2)).alloc (.cells #[.int .i64 til] 2)).heap[b + 1 + 1]? = some (.cells #[.slice A n c] 24 (0, 0)) := by
    rw [Below.heap_alloc _ _ _ (by simp; omega), Below.heap_alloc _ _ _ (by simp; omega), ← hbz]; exact (by simpa using heap_alloc_new ((w1.alloc (.cells #[.int .i64 0] 2)).alloc (.cells #[.bool false] 4)) (.cells #[.slice A n c] 24))
  have nF : (((((w1.alloc (.cells #[.int .i64 0] 2)).alloc (.cells #[.bool false] 4)).alloc (.cells #[.slice A n c] 24)).alloc (.cells #[.int .i64 frm] 2)).alloc (.cells #[.int .i64 til] 2)).heap[b + 1 + 1 + 1]? = some (.cells #[.int .i64 frm] 2 (0, 0)) := by
    rw [Below.heap_alloc _ _ _ (by simp; omega), ← hbz]; exact (by simpa using heap_alloc_new (((w1.alloc (.cells #[.int .i64 0] 2)).alloc (.cells #[.bool false] 4)).alloc (.cells #[.slice A n c] 24)) (.cells #[.int .i64 frm] 2))
  have nT : (((((w1.alloc (.cells #[.int .i64 0] 2)).alloc (.cells #[.bool false] 4)).alloc (.cells #[.slice A n c] 24)).alloc (.cells #[.int .i64 frm] 2)).alloc (.cells #[.int .i64 til] 2)).heap[b + 1 + 1 + 2]? = some (.cells #[.int .i64 til] 2 (0, 0)) := by
    rw [← hbz]; exact (by simpa using heap_alloc_new ((((w1.alloc (.cells #[.int .i64 0] 2)).alloc (.cells #[.bool false] 4)).alloc (.cells #[.slice A n c] 24)).alloc (.cells #[.int .i64 frm] 2)) (.cells #[.int .i64 til] 2))
  generalize (((((w1.alloc (.cells #[.int .i64 0] 2)).alloc (.cells #[.bool false] 4)).alloc (.cells #[.slice A n c] 24)).alloc (.cells #[.int .i64 frm] 2)).alloc (.cells #[.int .i64 til] 2)) = wL at *
  have a0 := (hLw.block _ (show w.heap.size < b by omega)).trans b0
  have a1 := (hLw.block _ (show w.heap.size + 1 < b by omega)).trans b1
  have a2 := (hLw.block _ (show w.heap.size + 2 < b by omega)).trans b2
  have hwL : Below w.heap.size w wL := hw1.trans (hLw.mono (by omega))
  have hS : Seen3 w.heap.size (b + 1 + 1) A n c l frm til wL := ⟨nS, nF, nT, fun w' h => HR.out.below (hwL.trans h) (Nat.le_refl _)⟩
  clear b0 b1 b2 nS nF nT hLw hw1 hbz
  refine wpIn_rangeFunc_ownG (w0 := wL) rfl h1 (gf := 44) (lb := #[.pointer (some ⟨b + 1 + 1, 0, none⟩), .pointer (some ⟨b + 1 + 1 + 1, 0, none⟩), .pointer (some ⟨b + 1 + 1 + 2, 0, none⟩)]) rfl trivial (enters_of Try.func44 (by kernel_rfl) rfl)
    (deadlines_stops (N - 1) (by omega) w.heap.size (b + 1 + 1) A n c l HO.out frm til f0 f1 t1 wL hS hwL.size (by omega)) Kp3.trans (Kp3.put (by omega) (by omega)) (Below.refl _ _) (fun _ => rfl)
    (fun pre W => (((W.heap[b]? = some (.cells #[.int .i64 (best l pre)] 2 (0, 0)) ∧ W.heap[b + 1]? = some (.cells #[.bool (!pre.isEmpty)] 4 (0, 0))) ∧ (W.heap[w.heap.size]? = some (.cells #[.slice A n c] 24 (0, 0)) ∧ (W.heap[w.heap.size + 1]? = some (.cells #[.int .i64 0] 2 (0, 0)) ∧ W.heap[w.heap.size + 2]? = some (.cells #[.bool false] 4 (0, 0))))) ∧ Below w.heap.size w W) ∧ wL.heap.size ≤ W.heap.size)
    (fun _ _ _ => False)
    (OwnFrom.and (OwnFrom.and (OwnFrom.and (OwnFrom.and (own_cells _ b (fun pre : List Tm => #[.int .i64 (best l pre)]) _) (own_cells _ (b + 1) (fun pre : List Tm => #[.bool (!pre.isEmpty)]) _)) (OwnFrom.and (own_cells _ w.heap.size (fun _ : List Tm => #[.slice A n c]) _) (OwnFrom.and (own_cells _ (w.heap.size + 1) (fun _ : List Tm => #[.int .i64 0]) _) (own_cells _ (w.heap.size + 2) (fun _ : List Tm => #[.bool false]) _)))) (ownFrom_below (Nat.le_refl _) (by omega))) (own_sz _ _))
    (fun _ _ _ _ _ hs _ _ => hs)
    ⟨⟨⟨⟨nB, nM⟩, a0, a1, a2⟩, hwL⟩, Nat.le_refl _⟩
    (fun x => { tmps := #[.slice A n c, .int .i64 frm, .int .i64 til, .pointer (some ⟨w.heap.size, 0, none⟩), undef, undef, .pointer (some ⟨w.heap.size + 1, 0, none⟩), .pointer (some ⟨w.heap.size + 1 + 1, 0, none⟩), .pointer (some ⟨b, 0, none⟩), .pointer (some ⟨b + 1, 0, none⟩), .int .i64 x.1, undef, undef, .slice A n c, .int .i64 frm, .int .i64 til, .slice (some ⟨w.heap.size + 1 + 1 + 1, 0, none⟩) 2 2, .bool true, .bool false, .bool false, .int .i64 til, .int .i64 frm, .int .i64 (til - frm), .bool false, .bool false, .slice A n c, .int .i64 frm, .int .i64 til, .func (.func 44) #[] #[.pointer (some ⟨b + 1 + 1, 0, none⟩), .pointer (some ⟨b + 1 + 1 + 1, 0, none⟩), .pointer (some ⟨b + 1 + 1 + 2, 0, none⟩)], .int .i64 x.1, undef, undef, undef, undef, undef, undef, undef, undef, undef, undef, undef, undef, undef, undef, undef, undef, undef, undef, undef, undef, undef, undef], defers := [] }) ?assign ?body ?done ?stop
  case assign =>
    intro l x W K hK
    gi_wp2
    exact hK
  case body =>
    rintro l1 pre x W ⟨⟨⟨⟨hA, hM⟩, h0, h01, h02⟩, hB⟩, hZ⟩ hlt
    have hsn := Lib.hid (best_snoc l pre x)
    obtain ⟨X, hX0, hX1⟩ := x
    simp only at hsn ⊢
    have c0 := cell1 h0
    have cA := cell1 hA
    have cM := cell1 hM
    have wb := work_bd l HO.out hX0 (show X ≤ 4194304 by omega)
    have hOf := Lib.hid (of_any A n c l HO.out X hX0 (by omega) W (HR.out.below hB (Nat.le_refl _)))
    generalize work l X = K at *
    have wx : IntKind.i64.wrap (X - K) = X - K := by rw [IntKind.wrap_i64]; omega
    gi_wp2_with fail
    refine ⟨trivial, (fun h => by cases h), ?_⟩
    refine (CallsIn.inRound l1 (callsIn_wide.2 hOf.out)).mono ?_
    rintro e W2 ⟨rfl, hb2⟩
    have gb : b < W.heap.size := by omega
    have hA2 := (hb2.block _ gb).trans hA
    have hM2 := (hb2.block _ (show b + 1 < W.heap.size by omega)).trans hM
    have h02' := (hb2.block _ (show w.heap.size < W.heap.size by omega)).trans h0
    have h012 := (hb2.block _ (show w.heap.size + 1 < W.heap.size by omega)).trans h01
    have h022 := (hb2.block _ (show w.heap.size + 2 < W.heap.size by omega)).trans h02
    have hB2 := hB.trans (hb2.mono hB.size)
    have hZ2 := Nat.le_trans hZ hb2.size
    have hKF : KeepsFrom wL.heap.size W W2 := keeps_bl hb2
    have hK3 : Kp3 w.heap.size (b + 1 + 1) W W2 := Kp3.below hb2 hB.size (by omega)
    have cA2 := cell1 hA2
    have cM2 := cell1 hM2
    have fA2 := free1 hA2
    have fM2 := free1 hM2
    have HI : Hid (KeepsFrom wL.heap.size W W2 ∧ Kp3 w.heap.size (b + 1 + 1) W W2 ∧ (((W2.heap[b]? = some (.cells #[.int .i64 (best l pre)] 2 (0, 0)) ∧ W2.heap[b + 1]? = some (.cells #[.bool (!pre.isEmpty)] 4 (0, 0))) ∧ (W2.heap[w.heap.size]? = some (.cells #[.slice A n c] 24 (0, 0)) ∧ (W2.heap[w.heap.size + 1]? = some (.cells #[.int .i64 0] 2 (0, 0)) ∧ W2.heap[w.heap.size + 2]? = some (.cells #[.bool false] 4 (0, 0))))) ∧ Below w.heap.size w W2) ∧ wL.heap.size ≤ W2.heap.size) := ⟨hKF, hK3, ⟨⟨⟨hA2, hM2⟩, h02', h012, h022⟩, hB2⟩, hZ2⟩
    have HS : Hid (∀ y : Int, KeepsFrom wL.heap.size W ((W2.setCell ⟨b, 0, none⟩ (.int .i64 y)).setCell ⟨b + 1, 0, none⟩ (.bool true)) ∧ Kp3 w.heap.size (b + 1 + 1) W ((W2.setCell ⟨b, 0, none⟩ (.int .i64 y)).setCell ⟨b + 1, 0, none⟩ (.bool true)) ∧
        (((((W2.setCell ⟨b, 0, none⟩ (.int .i64 y)).setCell ⟨b + 1, 0, none⟩ (.bool true)).heap[b]? = some (.cells #[.int .i64 y] 2 (0, 0)) ∧ ((W2.setCell ⟨b, 0, none⟩ (.int .i64 y)).setCell ⟨b + 1, 0, none⟩ (.bool true)).heap[b + 1]? = some (.cells #[.bool true] 4 (0, 0))) ∧
          (((W2.setCell ⟨b, 0, none⟩ (.int .i64 y)).setCell ⟨b + 1, 0, none⟩ (.bool true)).heap[w.heap.size]? = some (.cells #[.slice A n c] 24 (0, 0)) ∧ (((W2.setCell ⟨b, 0, none⟩ (.int .i64 y)).setCell ⟨b + 1, 0, none⟩ (.bool true)).heap[w.heap.size + 1]? = some (.cells #[.int .i64 0] 2 (0, 0)) ∧ ((W2.setCell ⟨b, 0, none⟩ (.int .i64 y)).setCell ⟨b + 1, 0, none⟩ (.bool true)).heap[w.heap.size + 2]? = some (.cells #[.bool false] 4 (0, 0))))) ∧ Below w.heap.size w ((W2.setCell ⟨b, 0, none⟩ (.int .i64 y)).setCell ⟨b + 1, 0, none⟩ (.bool true))) ∧ wL.heap.size ≤ ((W2.setCell ⟨b, 0, none⟩ (.int .i64 y)).setCell ⟨b + 1, 0, none⟩ (.bool true)).heap.size) := fun y => by
      have o : ∀ k, k ≠ b → k ≠ b + 1 → ((W2.setCell ⟨b, 0, none⟩ (.int .i64 y)).setCell ⟨b + 1, 0, none⟩ (.bool true)).heap[k]? = W2.heap[k]? := fun k k1 k2 => (set1_other _ _ _ k2 _).trans (set1_other _ _ _ k1 _)
      refine ⟨hKF.trans (((KeepsOthers.setCell _ _ _).trans (KeepsOthers.setCell _ _ _)).from _), hK3.trans ⟨⟨rfl, rfl, rfl, by simp [World.setCell], fun j hj => o j (by omega) (by omega)⟩, fun j h1 h2 => o j (by omega) (by omega)⟩, ⟨⟨⟨⟨(set1_other _ _ _ (by omega) _).trans (set1 hA2 _), ?_⟩, (o _ (by omega) (by omega)).trans h02', (o _ (by omega) (by omega)).trans h012, (o _ (by omega) (by omega)).trans h022⟩, hB2.trans ⟨rfl, rfl, rfl, by simp [World.setCell], fun j hj => o j (by omega) (by omega)⟩⟩, by simpa [World.setCell] using hZ2⟩⟩
      exact set1 ((set1_other _ _ _ (by omega) _).trans hM2) _
    clear hA hM h0 h01 h02 hB hZ hA2 hM2 h02' h012 h022 hB2 hZ2 hKF hK3 c0 cA cM hOf hb2 nB nM a0 a1 a2 hwL hS wb
    have hne : (pre ++ [(⟨X, hX0, hX1⟩ : Tm)]).isEmpty = false := by cases pre <;> rfl
    cases pre with
    | nil =>
      have hbest := Lib.hid (hsn.out.trans (if_pos rfl))
      simp only [List.isEmpty_nil, Bool.not_true] at cM2
      have HN := Lib.hid hne
      clear hne HI hsn
      gi_wp2
      simp only [ownPostG, hbest.out, HN.out, Bool.not_false]
      exact HS.out (X - K)
    | cons p r =>
      have hb0 : best l ((p :: r) ++ [(⟨X, hX0, hX1⟩ : Tm)]) = min (best l (p :: r)) (X - K) := hsn.out.trans (if_neg (by simp))
      have hbest := Lib.hid hb0
      simp only [List.isEmpty_cons, Bool.not_false] at cM2 HI
      have HN := Lib.hid hne
      obtain ⟨M, hM⟩ : ∃ M, best l (p :: r) = M := ⟨_, rfl⟩
      rw [hM] at cA2 hbest HI
      clear hne hsn hb0 hM
      by_cases hlt' : X - K < M
      · rw [show min M (X - K) = X - K by omega] at hbest
        clear HI
        gi_wp2
        simp only [ownPostG, hbest.out, HN.out, Bool.not_false]
        exact HS.out (X - K)
      · rw [show min M (X - K) = M by omega] at hbest
        clear HS
        gi_wp2
        simp only [ownPostG, hbest.out, HN.out, Bool.not_false]
        exact HI.out
  case done =>
    have hmx : (Try.prog).follows .mixedOrders = true := by kernel_rfl
    rintro D ys W hD hys ⟨⟨⟨⟨hA, hM⟩, h0, h01, h02⟩, hB⟩, hZ⟩ hK
    have hbst : Hid (best l ys = slackI l frm til) := by rw [RowKit.Hid]; unfold best slackI slackL; rw [hys]
    have hemp : Hid ((!ys.isEmpty) = decide (dlsOf l frm til ≠ [])) := by
      rw [RowKit.Hid, ← hys]
      cases ys <;> simp [tms]
    clear nB nM a0 a1 a2 hwL hS
    have cA := cell1 hA
    have cM := cell1 hM
    have c1 := cell1 h01
    have c2 := cell1 h02
    have g1 := free1 h01
    have g2 := free1 h02
    rw [hbst.out] at cA
    rw [hemp.out] at cM
    obtain ⟨S, hS⟩ : ∃ S, slackI l frm til = S := ⟨_, rfl⟩
    obtain ⟨E, hE⟩ : ∃ E, decide (dlsOf l frm til ≠ []) = E := ⟨_, rfl⟩
    rw [hS] at cA
    rw [hE] at cM
    have HSS := Lib.hid hS
    have HEE := Lib.hid hE
    clear hS hE
    have hD2 : w.heap.size + 2 < D := by omega
    obtain ⟨W9, hW9⟩ : ∃ W9, ((W.setCell ⟨w.heap.size + 1, 0, none⟩ (.int .i64 S)).setCell ⟨w.heap.size + 1 + 1, 0, none⟩ (.bool E)).drew = W9 := ⟨_, rfl⟩
    have o : ∀ k, k ≠ w.heap.size + 1 → k ≠ w.heap.size + 2 → W9.heap[k]? = W.heap[k]? := fun k k1 k2 => by rw [← hW9]; exact (set1_other (W.setCell _ _) _ _ k2 _).trans (set1_other W _ _ k1 _)
    have n1 : W9.heap[w.heap.size + 1]? = some (.cells #[.int .i64 S] 2 (0, 0)) := by rw [← hW9]; exact (set1_other (W.setCell _ _) _ _ (by omega) _).trans (set1 h01 _)
    have n2 : W9.heap[w.heap.size + 2]? = some (.cells #[.bool E] 4 (0, 0)) := by rw [← hW9]; exact set1 (w := W.setCell _ _) ((set1_other W _ _ (by omega) _).trans h02) _
    have hkd : W9.heap[D]? = some (.deferred (some [])) := (o D (by omega) (by omega)).trans hK
    have hb9 : Below w.heap.size w W9 := hB.trans ⟨by rw [← hW9]; rfl, by rw [← hW9]; rfl, by rw [← hW9]; rfl, by rw [← hW9]; simp [World.setCell], fun j hj => o j (by omega) (by omega)⟩
    have HKD := Lib.hid hkd
    have HN1 := Lib.hid n1
    have HN2 := Lib.hid n2
    have HB9 := Lib.hid hb9
    clear hkd n1 n2 hb9 o hA hM h0 h01 h02 hB hK hbst hemp
    gi_wp2
    gi_region_with_o (fail)
    all_goals
      clear hW9 cA cM c1 c2 g1 g2
      gi_wp2
      have hb9 : Below (w.heap.size + 3) W9 (W9.putObj D (.deferred none)) := (Below.refl _ W9).grown (grownBy_putObj' W9 D _) (by have := (Array.getElem?_eq_some_iff.1 HN2.out).1; omega) (fun k e => by cases e; omega)
      have q1 := cell1 ((hb9.block _ (by omega)).trans HN1.out)
      have q2 := cell1 ((hb9.block _ (by omega)).trans HN2.out)
      refine ⟨by simp, .inl ⟨_, _, rfl, run_takeDeferred HKD.out, ?_⟩⟩
      refine ⟨.tuple #[.int .i64 S, .bool E], ?_, by rw [HSS.out, HEE.out], HB9.out.trans (hb9.mono (by omega))⟩
      simp [results, Try.results16, go_sem, q1, q2]
  case stop =>
    rintro D c pre W _ _ h _
    exact h.elim
theorem slack_any (A : Option Addr) (n c : Nat) (l : List Dm) (ho : Oks l) (frm til : Int) (f0 : 0 ≤ frm) (f1 : frm ≤ 1048576) (t0 : 0 ≤ til) (t1 : til ≤ 1048576) (w : World) (hr : RdD w A n l) :
    Calls Try.prog 16 #[.slice A n c, .int .i64 frm, .int .i64 til] w fun e W' => e = .returned (.tuple #[.int .i64 (slackI l frm til), .bool (decide (dlsOf l frm til ≠ []))]) ∧ Below w.heap.size w W' :=
  callsIn_wide.1 (slack_in 3 (Nat.le_refl _) A n c l ho frm til f0 f1 t0 t1 w hr)
end Go.Proofs.Ytcgfaddegglnkaa.Dem
