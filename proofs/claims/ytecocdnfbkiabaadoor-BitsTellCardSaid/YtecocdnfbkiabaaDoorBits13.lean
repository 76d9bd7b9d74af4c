/-
  Package bits: List.
-/
import Derived.Test.YtecocdnfbkiabaaDoorBits12
namespace Go.Proofs.YtecocdnfbkiabaaDoor.Bits
open Go.RowKit Go.Shelf
attribute [local go_sem] Oper.semAt_some

theorem infoI64 : (Tryd.prog.info? 3).map (fun i => (i.zero, i.size, i.bytes)) = some (some (.int .i64 0), 1, 8) := by kernel_rfl
set_option maxRecDepth 100000 in
set_option maxHeartbeats 4000000 in
/-- The numbers of a set, rising. -/
theorem list_in (n : Nat) (hn : 3 ≤ n) (A : Nat → Nat) (hA : Ws A) (w : World) (hT : TabAt 0 Lib.deBruijn64tab w) :
    CallsIn Fence.wide n Tryd.prog 15 #[bv (iw A)] w fun e W' => ∃ v, e = .returned v ∧ W'.ownsRow w.heap.size 3 1 v (listN A).length ((cast (listN A)).map (Value.int .i64)) ∧ (v = .slice none 0 0 ↔ listN A = []) ∧ Below w.heap.size w W' := by
  have h1 : 1 ≤ n := by omega
  obtain ⟨i0, hi, hz0, hz1, hz2⟩ := info_parts infoI64
  have hlt0 := TabAt.lt hT
  have HT : Hid (TabAt 0 Lib.deBruijn64tab w) := hT
  have HA : Hid (Ws A) := hA
  clear hT hA
  refine callsIn_of_wp_marks Tryd.func15 rfl trivial ?_ rfl
  simp only [Tryd.ntmps15, List.size_toArray, List.length_cons, List.length_nil, Nat.reduceAdd, Nat.reduceSub, Array.replicate_succ, Array.replicate_zero, List.push_toArray, List.append_toArray, List.nil_append, List.cons_append]
  have e : bv (iw A) = .agg #[.int .u64 (A 0 : Int), .int .u64 (A 1 : Int), .int .u64 (A 2 : Int), .int .u64 (A 3 : Int)] := rfl
  rw [e]
  have hw0 := World.size_alloc w (.cells #[.int .u64 (A 0 : Int), .int .u64 (A 1 : Int), .int .u64 (A 2 : Int), .int .u64 (A 3 : Int)] 27)
  gi_wp2_with (refine ⟨trivial, ?_⟩; gi_at_call 31; refine (all_in (n - 1) A _).mono ?_; rintro e w' ⟨rfl, rfl⟩)
  clear hw0
  obtain ⟨W0, hW0⟩ : ∃ W0, w.alloc (.cells #[.int .u64 (A 0 : Int), .int .u64 (A 1 : Int), .int .u64 (A 2 : Int), .int .u64 (A 3 : Int)] 27) = W0 := ⟨_, rfl⟩
  have hz : W0.heap.size = w.heap.size + 1 := by rw [← hW0]; simp
  have hB0 : Below w.heap.size w W0 := by rw [← hW0]; exact (Below.refl _ w).alloc (Nat.le_refl _) _
  have bO := Boxed.new W0 22 (.slice none 0 0)
  rw [hz] at bO
  have hB2 : Below w.heap.size w ((W0.alloc (.cells #[.slice none 0 0] 22)).alloc (.cells (rowc (iw A)) 27)) := (hB0.alloc hB0.size _).alloc (by have := hB0.size; simp; omega) _
  have hBn : ((W0.alloc (.cells #[.slice none 0 0] 22)).alloc (.cells (rowc (iw A)) 27)).heap[w.heap.size + 2]? = some (.cells (rowc (iw A)) 27 (0, 0)) := heap_new _ _ _ (by simp [hz])
  rw [hW0]
  refine wpIn_rangeFunc_ownG (w0 := (W0.alloc (.cells #[.slice none 0 0] 22)).alloc (.cells (rowc (iw A)) 27)) rfl h1 (gf := 33) (lb := #[.pointer (some ⟨w.heap.size + 1 + 1, 0, none⟩)]) rfl trivial (enters_of Tryd.func33 (by kernel_rfl) rfl)
    (all_stops (n - 1) (by omega) (w.heap.size + 2) w.heap.size A HA.out _ hBn (TabAt.below HT.out hB2 hlt0) hlt0) belowK_t (belowK_b (by simp; omega)) (Below.refl _ _) (fun _ => rfl)
    (fun pre W => (∃ v, Boxed W (w.heap.size + 1) 22 v ∧ W.ownsRow w.heap.size 3 1 v pre.length (pre.map (Value.int .i64)) ∧ (v = .slice none 0 0 ↔ pre = [])) ∧ Below w.heap.size w W)
    (fun _ _ _ => False)
    (OwnFrom.and (Own.from (holdsRow_own w.heap.size (w.heap.size + 1) 22 3 1 (fun pre : List Int => pre.length) (fun pre => pre.map (Value.int .i64)) (fun pre v => v = .slice none 0 0 ↔ pre = [])) _) (ownFrom_below (Nat.le_refl _) (by simp; omega)))
    (fun _ _ _ _ _ hs _ _ => hs)
    ⟨⟨_, bO.alloc _, World.ownsRow_nil _ _ _ _, by simp⟩, hB2⟩
    (fun x => { tmps := #[.agg #[.int .u64 (A 0 : Int), .int .u64 (A 1 : Int), .int .u64 (A 2 : Int), .int .u64 (A 3 : Int)], .pointer (some ⟨w.heap.size, 0, none⟩), .slice none 0 0, .pointer (some ⟨w.heap.size + 1, 0, none⟩), .int .i64 x, .agg #[.int .u64 (A 0 : Int), .int .u64 (A 1 : Int), .int .u64 (A 2 : Int), .int .u64 (A 3 : Int)], .func (.func 33) #[] #[.pointer (some ⟨w.heap.size + 1 + 1, 0, none⟩)], .int .i64 x, undef, undef, undef, undef, undef], defers := [] }) ?assign ?body ?done ?stop
  case assign =>
    intro l x W K hK
    gi_wp2
    exact hK
  case body =>
    rintro l pre x W ⟨⟨v, hv, hrow, hnil⟩, hB⟩ hlt
    have hc := hv.cell
    gi_wp2_with (gi_at_builtin; refine wpListIn_append_own _ rfl _ _ 22 rfl w.heap.size 3 i0 (.int .i64 0) 1 8 Tryd.underlying22 hi hz0 hz1 hz2 rfl (by decide) _ _ _ rfl (hrow.alloc _) ⟨W.heap.size, 0, none⟩ 1 1 [.int .i64 x] rfl rfl (cell_one_new _ _ _) (by simp [Value.oneCell']) (by unfold maxLen; omega) (by omega) (by have := hB.size; simp; omega) ?_; intro v' w1 hown' hgrow _; obtain ⟨g', cap', rfl⟩ := ownsRow_succ hown'; obtain ⟨hv1, hv2, hr2, hk2, hb2⟩ := hv.appended (by decide) hrow hB.size (Nat.le_succ _) hown' hgrow; have hc1 := hv1.cell; have hf1 := hv1.frozen)
    exact ⟨hk2.from _, hb2, ⟨_, hv2, by simpa using hr2, by simp⟩, hB.trans hb2⟩
  case done =>
    rintro D ys W hD rfl ⟨⟨v, hv, hrow, hnil⟩, hB⟩ hK
    have hc := hv.cell
    gi_wp2
    refine ⟨by simp, .inl ⟨_, _, rfl, run_takeDeferred hK, ?_⟩⟩
    exact ⟨_, results_tmp rfl _ _ _, v, rfl, by simpa [cast] using ownsRow_putObj hrow _ hK rfl, by simpa [cast] using hnil, hB.trans (belowK_b (w := w) (Nat.le_refl _) W D _ _ (by simp at hD; omega) hK rfl rfl)⟩
  case stop =>
    rintro D c pre W _ _ h _
    exact h.elim
theorem list_any (A : Nat → Nat) (hA : Ws A) (w : World) (hT : TabAt 0 Lib.deBruijn64tab w) :
    Calls Tryd.prog 15 #[bv (iw A)] w fun e W' => ∃ v, e = .returned v ∧ W'.ownsRow w.heap.size 3 1 v (listN A).length ((cast (listN A)).map (Value.int .i64)) ∧ (v = .slice none 0 0 ↔ listN A = []) ∧ Below w.heap.size w W' :=
  callsIn_wide.1 (list_in 3 (Nat.le_refl _) A hA w hT)
end Go.Proofs.YtecocdnfbkiabaaDoor.Bits
