/-
  Texts of one claim, joined in build order: Tsk3, Tsk4.
-/
import Derived.Test.YtaofldlidifdcaaMg18
import Derived.Deep.RegionLaw
import Derived.Laws.Cover3
/-
  Package tasks: own, Find, of a task that is there.
-/
namespace Go.Proofs.Ytaofldlidifdcaa.Tsk
open Go.RowKit Go.Maps Go.Proofs.Ytaofldlidifdcaa.Sys Go.Proofs.Ytaofldlidifdcaa.Box

theorem info_int : (Try.prog.info? 3).map (fun i => (i.zero, i.size, i.bytes)) = some (some (.int .i64 0), 1, 8) := by kernel_rfl
theorem eql_int (a : Option Addr) (l c : Nat) (w : World) : (binOp .eql 31 (.slice a l c) (.slice none 0 0)).run Try.prog w = .ok (.bool a.isNone) w := by
  simp only [binOp]
  simp [run_equal_slice_nil w 31 3 a l c Try.underlying31]
set_option maxHeartbeats 2000000 in
set_option maxRecDepth 100000 in
theorem clone_int (A : Option Addr) (n c : Nat) (l : List Int) (w : World) (hr : SlI w A n c l) (hn : n ≤ 4294967296) :
    Calls Try.prog 76 #[.slice A n c] w fun e w' => ∃ A' c', e = .returned (.slice A' n c') ∧ SlI w' A' n c' l ∧ (∀ a, A' = some a → w.heap.size ≤ a.block) ∧ Below w.heap.size w w' := by
  obtain ⟨i0, hi0, hz0, hz1, hz2⟩ := info_parts info_int
  have hln := hr.len
  cases A with
  | none =>
    obtain ⟨rfl, rfl⟩ := hr.2.2.2 rfl
    obtain rfl : l = [] := List.eq_nil_of_length_eq_zero hln
    clear hr
    have en : ∀ w, (binOp .eql 31 (.slice none 0 0) (.slice none 0 0)).run Try.prog w = .ok (.bool true) w := fun w => eql_int none 0 0 w
    go_enter Try.func76, Try.ntmps76
    go_wp2
    go_ret
    exact ⟨none, 0, rfl, ⟨⟨rfl, fun h => absurd h (Nat.lt_irrefl _)⟩, Nat.le_refl _, by decide, fun _ => ⟨rfl, rfl⟩⟩, fun a e => (by cases e), Below.refl _ _⟩
  | some ad =>
    have hB0 : Hid ((w.alloc (.cells #[] 3)).ownsRow w.heap.size 3 1 (.slice (some ⟨w.heap.size, 0, none⟩) 0 0) 0 ([].map (Value.int .i64))) :=
      ⟨rfl, .inr ⟨w.heap.size, 0, #[], rfl, Nat.le_refl _, heap_alloc_new _ _, Nat.le_refl _, by unfold maxLen; decide, rfl, rfl⟩⟩
    have hr1 := hr.below ((Below.refl _ w).alloc (Nat.le_refl _) (.cells #[] 3)) (Nat.le_refl _)
    have hL1 : Hid ((l.map (Value.int .i64)).length = n * 1) := by show _ = _; simp [hln]
    have hN1 : Hid (∀ a, some ad = some a → ∀ j u, (l.map (Value.int .i64))[j]? = some u → (w.alloc (.cells #[] 3)).cell? (a.add j) = some u) := fun a e j u hj => by
      cases e
      have hj2 : j < n := by have := (List.getElem?_eq_some_iff.1 hj).1; simp at this; omega
      obtain ⟨b, o, e, hc⟩ := hr1.1.2 (by omega)
      cases e
      rw [Row0.plain_add', hc j hj2, ← hj, List.getElem?_map, List.getD_eq_getElem?_getD, List.getElem?_eq_getElem (by omega)]
      rfl
    clear hr hr1
    have en : ∀ w, (binOp .eql 31 (.slice (some ad) n c) (.slice none 0 0)).run Try.prog w = .ok (.bool false) w := fun w => eql_int (some ad) n c w
    go_enter Try.func76, Try.ntmps76
    go_wp2_with (at_builtin; refine Row0.wpList_append_sl rfl (.tmp 5) (.tmp 6) 31 rfl w.heap.size 3 i0 (.int .i64 0) 1 8 Try.underlying31 hi0 hz0 hz1 hz2 rfl (by decide) _ _ _ rfl hB0.out (some ad) n c (l.map (Value.int .i64)) rfl (fun e => by cases e) hL1.out hN1.out (fun u hu => by obtain ⟨x, _, rfl⟩ := List.mem_map.1 hu; rfl) (by unfold maxLen; omega) (by omega) (by simp) ?_; intro v6 W6 ho6 hg6; replace hg6 : (w.alloc (.cells #[] 3)).grownBy W6 (some w.heap.size) := hg6)
    have hb : Below w.heap.size w W6 := ((Below.refl _ w).alloc (Nat.le_refl _) _).grown hg6 (by simp) (fun j e => by cases e; exact Nat.le_refl _)
    rw [show ([].map (Value.int .i64) ++ l.map (Value.int .i64)) = l.map (Value.int .i64) from rfl, Nat.zero_add] at ho6
    obtain ⟨A', c', rfl, h1, h2, h3, h4, h5⟩ := own_rdI ho6
    have HF : Hid (∀ a, A' = some a → w.heap.size ≤ a.block) := fun a e => (h4 a e).1
    have HO : Hid (SlI W6 A' n c' l) := ⟨h1, h2, h3, h5⟩
    have HB := Lib.hid hb
    clear ho6 hb hg6 h1 h4 h5
    go_wp2
    go_ret
    exact ⟨A', c', rfl, HO.out, HF.out, HB.out⟩
theorem info_long : (Try.prog.info? 2).map (fun i => (i.zero, i.size, i.bytes)) = some (some (.int .i64 0), 1, 8) := by kernel_rfl
theorem eql_long (a : Option Addr) (l c : Nat) (w : World) : (binOp .eql 30 (.slice a l c) (.slice none 0 0)).run Try.prog w = .ok (.bool a.isNone) w := by
  simp only [binOp]
  simp [run_equal_slice_nil w 30 2 a l c Try.underlying30]
set_option maxHeartbeats 2000000 in
set_option maxRecDepth 100000 in
theorem clone_long (A : Option Addr) (n c : Nat) (l : List Int) (w : World) (hr : SlI w A n c l) (hn : n ≤ 4294967296) :
    Calls Try.prog 75 #[.slice A n c] w fun e w' => ∃ A' c', e = .returned (.slice A' n c') ∧ SlI w' A' n c' l ∧ (∀ a, A' = some a → w.heap.size ≤ a.block) ∧ Below w.heap.size w w' := by
  obtain ⟨i0, hi0, hz0, hz1, hz2⟩ := info_parts info_long
  have hln := hr.len
  cases A with
  | none =>
    obtain ⟨rfl, rfl⟩ := hr.2.2.2 rfl
    obtain rfl : l = [] := List.eq_nil_of_length_eq_zero hln
    clear hr
    have en : ∀ w, (binOp .eql 30 (.slice none 0 0) (.slice none 0 0)).run Try.prog w = .ok (.bool true) w := fun w => eql_long none 0 0 w
    go_enter Try.func75, Try.ntmps75
    go_wp2
    go_ret
    exact ⟨none, 0, rfl, ⟨⟨rfl, fun h => absurd h (Nat.lt_irrefl _)⟩, Nat.le_refl _, by decide, fun _ => ⟨rfl, rfl⟩⟩, fun a e => (by cases e), Below.refl _ _⟩
  | some ad =>
    have hB0 : Hid ((w.alloc (.cells #[] 2)).ownsRow w.heap.size 2 1 (.slice (some ⟨w.heap.size, 0, none⟩) 0 0) 0 ([].map (Value.int .i64))) :=
      ⟨rfl, .inr ⟨w.heap.size, 0, #[], rfl, Nat.le_refl _, heap_alloc_new _ _, Nat.le_refl _, by unfold maxLen; decide, rfl, rfl⟩⟩
    have hr1 := hr.below ((Below.refl _ w).alloc (Nat.le_refl _) (.cells #[] 2)) (Nat.le_refl _)
    have hL1 : Hid ((l.map (Value.int .i64)).length = n * 1) := by show _ = _; simp [hln]
    have hN1 : Hid (∀ a, some ad = some a → ∀ j u, (l.map (Value.int .i64))[j]? = some u → (w.alloc (.cells #[] 2)).cell? (a.add j) = some u) := fun a e j u hj => by
      cases e
      have hj2 : j < n := by have := (List.getElem?_eq_some_iff.1 hj).1; simp at this; omega
      obtain ⟨b, o, e, hc⟩ := hr1.1.2 (by omega)
      cases e
      rw [Row0.plain_add', hc j hj2, ← hj, List.getElem?_map, List.getD_eq_getElem?_getD, List.getElem?_eq_getElem (by omega)]
      rfl
    clear hr hr1
    have en : ∀ w, (binOp .eql 30 (.slice (some ad) n c) (.slice none 0 0)).run Try.prog w = .ok (.bool false) w := fun w => eql_long (some ad) n c w
    go_enter Try.func75, Try.ntmps75
    go_wp2_with (at_builtin; refine Row0.wpList_append_sl rfl (.tmp 5) (.tmp 6) 30 rfl w.heap.size 2 i0 (.int .i64 0) 1 8 Try.underlying30 hi0 hz0 hz1 hz2 rfl (by decide) _ _ _ rfl hB0.out (some ad) n c (l.map (Value.int .i64)) rfl (fun e => by cases e) hL1.out hN1.out (fun u hu => by obtain ⟨x, _, rfl⟩ := List.mem_map.1 hu; rfl) (by unfold maxLen; omega) (by omega) (by simp) ?_; intro v6 W6 ho6 hg6; replace hg6 : (w.alloc (.cells #[] 2)).grownBy W6 (some w.heap.size) := hg6)
    have hb : Below w.heap.size w W6 := ((Below.refl _ w).alloc (Nat.le_refl _) _).grown hg6 (by simp) (fun j e => by cases e; exact Nat.le_refl _)
    rw [show ([].map (Value.int .i64) ++ l.map (Value.int .i64)) = l.map (Value.int .i64) from rfl, Nat.zero_add] at ho6
    obtain ⟨A', c', rfl, h1, h2, h3, h4, h5⟩ := own_rdI ho6
    have HF : Hid (∀ a, A' = some a → w.heap.size ≤ a.block) := fun a e => (h4 a e).1
    have HO : Hid (SlI W6 A' n c' l) := ⟨h1, h2, h3, h5⟩
    have HB := Lib.hid hb
    clear ho6 hb hg6 h1 h4 h5
    go_wp2
    go_ret
    exact ⟨A', c', rfl, HO.out, HF.out, HB.out⟩
/-- Seven stores into a block of seven cells. -/
def putT (w : World) (b : Nat) (v0 v1 v2 v3 v4 v5 v6 : Value) : World := (((((((w.setCell ⟨b, 0, none⟩ v0).setCell ⟨b, 1, none⟩ v1).setCell ⟨b, 2, none⟩ v2).setCell ⟨b, 3, none⟩ v3).setCell ⟨b, 4, none⟩ v4).setCell ⟨b, 5, none⟩ v5).setCell ⟨b, 6, none⟩ v6)
theorem putT_same {w : World} {b : Nat} {t : TypeId} {u0 u1 u2 u3 u4 u5 u6 : Value} (h : w.heap[b]? = some (.cells #[u0, u1, u2, u3, u4, u5, u6] t (0, 0))) (v0 v1 v2 v3 v4 v5 v6 : Value) :
    (putT w b v0 v1 v2 v3 v4 v5 v6).heap[b]? = some (.cells #[v0, v1, v2, v3, v4, v5, v6] t (0, 0)) := by
  have h1 := Lib.heap_setCell_same (i := 0) h v0
  have h2 := Lib.heap_setCell_same (i := 1) h1 v1
  have h3 := Lib.heap_setCell_same (i := 2) h2 v2
  have h4 := Lib.heap_setCell_same (i := 3) h3 v3
  have h5 := Lib.heap_setCell_same (i := 4) h4 v4
  have h6 := Lib.heap_setCell_same (i := 5) h5 v5
  have h7 := Lib.heap_setCell_same (i := 6) h6 v6
  unfold putT
  rw [h7]
  simp
theorem putT_other (w : World) (b j : Nat) (hj : j ≠ b) (v0 v1 v2 v3 v4 v5 v6 : Value) : (putT w b v0 v1 v2 v3 v4 v5 v6).heap[j]? = w.heap[j]? := by
  unfold putT
  iterate 7 rw [Below.heap_setCell _ _ _ _ (by simpa using hj)]
theorem putT_size (w : World) (b : Nat) (v0 v1 v2 v3 v4 v5 v6 : Value) : (putT w b v0 v1 v2 v3 v4 v5 v6).heap.size = w.heap.size := by simp [putT, World.setCell]
theorem set_rest (w : World) (a : Addr) (v : Value) : (w.setCell a v).os = w.os ∧ (w.setCell a v).tape = w.tape ∧ (w.setCell a v).output = w.output := ⟨rfl, rfl, rfl⟩
theorem putT_rest (w : World) (b : Nat) (v0 v1 v2 v3 v4 v5 v6 : Value) : (putT w b v0 v1 v2 v3 v4 v5 v6).os = w.os ∧ (putT w b v0 v1 v2 v3 v4 v5 v6).tape = w.tape ∧ (putT w b v0 v1 v2 v3 v4 v5 v6).output = w.output := by
  unfold putT
  simp only [set_rest, and_self]
theorem putT_below {B : Nat} {w w1 : World} (h : Below B w w1) (b : Nat) (hb : B ≤ b) (v0 v1 v2 v3 v4 v5 v6 : Value) : Below B w (putT w1 b v0 v1 v2 v3 v4 v5 v6) :=
  ⟨(putT_rest w1 b v0 v1 v2 v3 v4 v5 v6).1.trans h.os, (putT_rest w1 b v0 v1 v2 v3 v4 v5 v6).2.1.trans h.tape, (putT_rest w1 b v0 v1 v2 v3 v4 v5 v6).2.2.trans h.output, by rw [putT_size]; exact h.size, fun j hj => (putT_other w1 b j (by omega) v0 v1 v2 v3 v4 v5 v6).trans (h.block j hj)⟩
theorem next_b {w a b : World} (h : Below w.heap.size w a) (k : Below a.heap.size a b) : Below w.heap.size w b := h.trans (k.mono h.size)
theorem seven {w : World} {b : Nat} {t : TypeId} {u0 u1 u2 u3 u4 u5 u6 : Value} (h : w.heap[b]? = some (.cells #[u0, u1, u2, u3, u4, u5, u6] t (0, 0))) : w.cell? ⟨b, 0, none⟩ = some u0 ∧ w.cell? ⟨b, 1, none⟩ = some u1 ∧ w.cell? ⟨b, 2, none⟩ = some u2 ∧ w.cell? ⟨b, 3, none⟩ = some u3 ∧ w.cell? ⟨b, 4, none⟩ = some u4 ∧ w.cell? ⟨b, 5, none⟩ = some u5 ∧ w.cell? ⟨b, 6, none⟩ = some u6 := by
  refine ⟨?_, ?_, ?_, ?_, ?_, ?_, ?_⟩ <;> simp [World.cell?, h]
set_option maxHeartbeats 8000000 in
set_option maxRecDepth 100000 in
theorem own_any (r : RT) (w : World) (hr : r.Rd w) (h1 : r.cl ≤ 4294967296) (h2 : r.ul ≤ 4294967296) :
    Calls Try.prog 60 #[.agg #[.int .i64 r.x.id, .int .i64 r.x.c, .int .i64 r.x.d, .int .i64 r.x.t, .int .i64 r.x.prio, .slice r.ca r.cl r.cc, .slice r.ua r.ul r.uc]] w fun e w' => ∃ r' : RT, r'.x = r.x ∧ r'.Rd w' ∧ (∀ a, r'.ca = some a ∨ r'.ua = some a → w.heap.size ≤ a.block) ∧ e = .returned (.agg #[.int .i64 r'.x.id, .int .i64 r'.x.c, .int .i64 r'.x.d, .int .i64 r'.x.t, .int .i64 r'.x.prio, .slice r'.ca r'.cl r'.cc, .slice r'.ua r'.ul r'.uc]) ∧ Below w.heap.size w w' := by
  obtain ⟨w1, hw1⟩ : ∃ w1, (w.alloc (.cells #[.int .i64 r.x.id, .int .i64 r.x.c, .int .i64 r.x.d, .int .i64 r.x.t, .int .i64 r.x.prio, .slice r.ca r.cl r.cc, .slice r.ua r.ul r.uc] 33)).alloc (.cells #[.int .i64 0, .int .i64 0, .int .i64 0, .int .i64 0, .int .i64 0, .slice none 0 0, .slice none 0 0] 33) = w1 := ⟨_, rfl⟩
  have HB1 : Hid (Below w.heap.size w w1) := by rw [← hw1]; exact ((Below.refl _ w).alloc (Nat.le_refl _) _).alloc (by simp) _
  have HT1 : Hid (w1.heap[w.heap.size]? = some (.cells #[.int .i64 r.x.id, .int .i64 r.x.c, .int .i64 r.x.d, .int .i64 r.x.t, .int .i64 r.x.prio, .slice r.ca r.cl r.cc, .slice r.ua r.ul r.uc] 33 (0, 0))) := by rw [← hw1]; exact (Below.heap_alloc _ _ _ (by simp)).trans (heap_newT _ _ _ rfl)
  have HZ1 : Hid (w1.heap[w.heap.size + 1]? = some (.cells #[.int .i64 0, .int .i64 0, .int .i64 0, .int .i64 0, .int .i64 0, .slice none 0 0, .slice none 0 0] 33 (0, 0))) := by rw [← hw1]; exact heap_newT _ _ _ (by simp)
  have HR1 := Lib.hid (hr.below HB1.out (Nat.le_refl _))
  have hs1 : w1.heap.size = w.heap.size + 2 := by rw [← hw1]; simp
  have KC : Hid (∀ w2, Below w1.heap.size w1 w2 → Calls Try.prog 75 #[.slice r.ca r.cl r.cc] w2 fun e w' => ∃ A' c', e = .returned (.slice A' r.cl c') ∧ SlI w' A' r.cl c' r.x.chunks ∧ (∀ a, A' = some a → w2.heap.size ≤ a.block) ∧ Below w2.heap.size w2 w') := fun w2 h => clone_long r.ca r.cl r.cc r.x.chunks w2 (HR1.out.1.below h (Nat.le_refl _)) h1
  have KU : Hid (∀ w2, Below w1.heap.size w1 w2 → Calls Try.prog 76 #[.slice r.ua r.ul r.uc] w2 fun e w' => ∃ A' c', e = .returned (.slice A' r.ul c') ∧ SlI w' A' r.ul c' r.x.use ∧ (∀ a, A' = some a → w2.heap.size ≤ a.block) ∧ Below w2.heap.size w2 w') := fun w2 h => clone_int r.ua r.ul r.uc r.x.use w2 (HR1.out.2.below h (Nat.le_refl _)) h2
  have HT : Hid (∀ w2, Below w1.heap.size w1 w2 → w2.heap[w.heap.size]? = some (.cells #[.int .i64 r.x.id, .int .i64 r.x.c, .int .i64 r.x.d, .int .i64 r.x.t, .int .i64 r.x.prio, .slice r.ca r.cl r.cc, .slice r.ua r.ul r.uc] 33 (0, 0))) := fun w2 h => (h.block _ (by omega)).trans HT1.out
  have HZ : Hid (∀ w2, Below w1.heap.size w1 w2 → w2.heap[w.heap.size + 1]? = some (.cells #[.int .i64 0, .int .i64 0, .int .i64 0, .int .i64 0, .int .i64 0, .slice none 0 0, .slice none 0 0] 33 (0, 0))) := fun w2 h => (h.block _ (by omega)).trans HZ1.out
  have hBd : Below w1.heap.size w1 w1.drew := (Below.refl _ _).drew
  obtain ⟨y0, y1, y2, y3, y4, y5, y6⟩ := seven HT1.out
  clear hr h1 h2
  go_enter Try.func60, Try.ntmps60
  go_wp2_with fail
  try rw [hw1]
  clear hw1
  go_region_law
    (first
      | (go_simp; go_at_call 75; (with_reducible refine (KC.out _ (by assumption)).mono ?_); rintro e w2 ⟨A1, c1, rfl, hS1, hF1, hb⟩; have hBn := next_b (by assumption) hb; obtain ⟨z0, z1, z2, z3, z4, z5, z6⟩ := seven (HT.out _ hBn))
      | (go_simp; go_at_call 76; (with_reducible refine (KU.out _ (by assumption)).mono ?_); rintro e w3 ⟨A2, c2, rfl, hS2, hF2, hb2⟩; have hBm := next_b (by assumption) hb2; obtain ⟨x0, x1, x2, x3, x4, x5, x6⟩ := seven (HT.out _ hBm); have f5 := bx_free (HT.out _ hBm) 5; have f6 := bx_free (HT.out _ hBm) 6))
  all_goals
    have hS1' : SlI w3 A1 r.cl c1 r.x.chunks := hS1.below hb2 (Nat.le_refl _)
    have hs2 : w1.heap.size ≤ w2.heap.size := hBn.size
    have hT5 : ((w3.setCell ⟨w.heap.size, 5, none⟩ (.slice A1 r.cl c1)).setCell ⟨w.heap.size, 6, none⟩ (.slice A2 r.ul c2)).heap[w.heap.size]? = some (.cells #[.int .i64 r.x.id, .int .i64 r.x.c, .int .i64 r.x.d, .int .i64 r.x.t, .int .i64 r.x.prio, .slice A1 r.cl c1, .slice A2 r.ul c2] 33 (0, 0)) :=
      Lib.heap_setCell_same (i := 6) (Lib.heap_setCell_same (i := 5) (HT.out _ hBm) _) _
    have hk5 : ∀ j, j ≠ w.heap.size → ((w3.setCell ⟨w.heap.size, 5, none⟩ (.slice A1 r.cl c1)).setCell ⟨w.heap.size, 6, none⟩ (.slice A2 r.ul c2)).heap[j]? = w3.heap[j]? := fun j hj => (bx_other _ _ _ _ hj _).trans (bx_other _ _ _ _ hj _)
    have hs5 : ((w3.setCell ⟨w.heap.size, 5, none⟩ (.slice A1 r.cl c1)).setCell ⟨w.heap.size, 6, none⟩ (.slice A2 r.ul c2)).heap.size = w3.heap.size := by simp [World.setCell]
    have hB5 : Below w.heap.size w ((w3.setCell ⟨w.heap.size, 5, none⟩ (.slice A1 r.cl c1)).setCell ⟨w.heap.size, 6, none⟩ (.slice A2 r.ul c2)) := by
      have h := HB1.out.trans (hBm.mono HB1.out.size)
      exact ⟨h.os, h.tape, h.output, by rw [hs5]; exact h.size, fun j hj => (hk5 j (by omega)).trans (h.block j hj)⟩
    have hZm := HZ.out _ hBm
    have hr5 : SlI ((w3.setCell ⟨w.heap.size, 5, none⟩ (.slice A1 r.cl c1)).setCell ⟨w.heap.size, 6, none⟩ (.slice A2 r.ul c2)) A1 r.cl c1 r.x.chunks ∧ SlI ((w3.setCell ⟨w.heap.size, 5, none⟩ (.slice A1 r.cl c1)).setCell ⟨w.heap.size, 6, none⟩ (.slice A2 r.ul c2)) A2 r.ul c2 r.x.use :=
      ⟨hS1'.kept fun a e => hk5 _ (by have h := hF1 a e; (try simp at h); omega), hS2.kept fun a e => hk5 _ (by have h := hF2 a e; (try simp at h); omega)⟩
    generalize (w3.setCell ⟨w.heap.size, 5, none⟩ (.slice A1 r.cl c1)).setCell ⟨w.heap.size, 6, none⟩ (.slice A2 r.ul c2) = w5 at *
    have hZ5 := (hk5 (w.heap.size + 1) (by omega)).trans hZm
    have hW := putT_same hZ5 (.int .i64 r.x.id) (.int .i64 r.x.c) (.int .i64 r.x.d) (.int .i64 r.x.t) (.int .i64 r.x.prio) (.slice A1 r.cl c1) (.slice A2 r.ul c2)
    have hBW := putT_below hB5 (w.heap.size + 1) (by omega) (.int .i64 r.x.id) (.int .i64 r.x.c) (.int .i64 r.x.d) (.int .i64 r.x.t) (.int .i64 r.x.prio) (.slice A1 r.cl c1) (.slice A2 r.ul c2)
    have hRW : (RT.mk r.x A1 r.cl c1 A2 r.ul c2).Rd (putT w5 (w.heap.size + 1) (.int .i64 r.x.id) (.int .i64 r.x.c) (.int .i64 r.x.d) (.int .i64 r.x.t) (.int .i64 r.x.prio) (.slice A1 r.cl c1) (.slice A2 r.ul c2)) :=
      ⟨hr5.1.kept fun a e => putT_other _ _ _ (by have h := hF1 a e; (try simp at h); omega) _ _ _ _ _ _ _, hr5.2.kept fun a e => putT_other _ _ _ (by have h := hF2 a e; (try simp at h); omega) _ _ _ _ _ _ _⟩
    obtain ⟨t0, t1, t2, t3, t4, t5, t6⟩ := seven hT5
    obtain ⟨g0, g1, g2, g3, g4, g5, g6⟩ := seven hZ5
    have m0 := bx_free hZ5 0
    have m1 := bx_free hZ5 1
    have m2 := bx_free hZ5 2
    have m3 := bx_free hZ5 3
    have m4 := bx_free hZ5 4
    have m5 := bx_free hZ5 5
    have m6 := bx_free hZ5 6
    have HFR : Hid (∀ a, A1 = some a ∨ A2 = some a → w.heap.size ≤ a.block) := fun a e => by
      rcases e with e | e
      · have h := hF1 a e; (try simp at h); omega
      · have h := hF2 a e; (try simp at h); omega
    unfold putT at hW hBW hRW
    have HW := Lib.hid hW
    have HBW := Lib.hid hBW
    have HRW := Lib.hid hRW
    clear hW hBW hRW hT5 hk5 hs5 hB5 hZm hr5 hZ5 hS1 hS2 hS1' hF1 hF2 hb hb2 hBn hBm HT HZ KC KU HR1 HT1 HZ1 HB1 hBd
    go_wp2
    obtain ⟨q0, q1, q2, q3, q4, q5, q6⟩ := seven HW.out
    refine bodyPost_ret (v := .agg #[.int .i64 r.x.id, .int .i64 r.x.c, .int .i64 r.x.d, .int .i64 r.x.t, .int .i64 r.x.prio, .slice A1 r.cl c1, .slice A2 r.ul c2]) ?_ rfl ⟨RT.mk r.x A1 r.cl c1 A2 r.ul c2, rfl, HRW.out, HFR.out, rfl, HBW.out⟩
    simp [results, Try.results60, go_sem, q0, q1, q2, q3, q4, q5, q6]
end Go.Proofs.Ytaofldlidifdcaa.Tsk

/-
  Package tasks: Find, of a task that is there.
-/
namespace Go.Proofs.Ytaofldlidifdcaa.Tsk
open Go.RowKit Go.Maps Go.Proofs.Ytaofldlidifdcaa.Sys Go.Proofs.Ytaofldlidifdcaa.Box

theorem is_any (r : RT) (x : Int) (b : Nat) (w : World) (ha : w.cell? ⟨b, 0, none⟩ = some (.int .i64 x)) :
    Calls Try.prog 59 #[.agg #[.int .i64 r.x.id, .int .i64 r.x.c, .int .i64 r.x.d, .int .i64 r.x.t, .int .i64 r.x.prio, .slice r.ca r.cl r.cc, .slice r.ua r.ul r.uc], .pointer (some ⟨b, 0, none⟩)] w fun e w' => e = .returned (.bool (r.x.id == x)) ∧ Below w.heap.size w w' := by
  have ha2 := cellsT ha
  have hB := (Below.refl _ w).alloc (Nat.le_refl _) (.cells #[.int .i64 r.x.id, .int .i64 r.x.c, .int .i64 r.x.d, .int .i64 r.x.t, .int .i64 r.x.prio, .slice r.ca r.cl r.cc, .slice r.ua r.ul r.uc] 33)
  have HB := Lib.hid hB
  clear ha hB
  go_enter Try.func59, Try.ntmps59
  go_wp2
  go_ret
  exact ⟨rfl, HB.out⟩
set_option maxRecDepth 100000 in
theorem index_at (A : Option Addr) (n c : Nat) (q : List RT) (x : Int) (k b : Nat) (w : World) (hr : RdT w A n q) (hc : c ≤ 9223372036854775807) (hnc : n ≤ c) (ha : w.cell? ⟨b, 0, none⟩ = some (.int .i64 x)) (hk : k < n) (hx : (q.getD k default).x.id = x) (hne : ∀ i, i < k → (q.getD i default).x.id ≠ x) :
    Calls Try.prog 58 #[.slice A n c, .func (.func 59) #[] #[.pointer (some ⟨b, 0, none⟩)]] w fun e w' => e = .returned (.int .i64 (k : Int)) ∧ Below w.heap.size w w' := by
  have HR := Lib.hid hr
  have HA := Lib.hid ha
  have HX := Lib.hid hx
  have HN := Lib.hid hne
  clear hr ha hx hne
  go_enter Try.func58, Try.ntmps58
  go_wp2_with fail
  go_loopg [8] (k + 1) (fun gg v8 wr => ∃ (i : Nat), i ≤ k ∧ k + 1 - i ≤ gg ∧ v8 = .int .i64 (i : Int) ∧ Aside (Below w.heap.size w wr))
  case atStart => exact ⟨0, by omega, by omega, rfl, Below.refl _ _⟩
  case round =>
    obtain ⟨i, hi, hgk, rfl, hB⟩ := hrel
    obtain ⟨b', o, rfl, hcs⟩ := (HR.out.below hB.out (Nat.le_refl _)).ad (by omega)
    obtain ⟨y0, y1, y2, y3, y4, y5, y6⟩ := hcs i (by omega)
    have hai : wr.cell? ⟨b, 0, none⟩ = some (.int .i64 x) := (World.cell?_of_block (a := ⟨b, 0, none⟩) (hB.out.block _ (World.block_lt_of_cell? w _ HA.out))).trans HA.out
    have hcase : (i = k ∧ (q.getD i default).x.id = x) ∨ (i < k ∧ ((q.getD i default).x.id == x) = false) := by
      by_cases e : i = k
      · subst e; exact .inl ⟨rfl, HX.out⟩
      · exact .inr ⟨by omega, beq_eq_false_iff_ne.2 (HN.out i (by omega))⟩
    have KI := fun r => is_any r x b wr hai
    have e1 : (i : Int) < (n : Int) := by omega
    generalize q.getD i default = r at *
    have KR := KI r
    clear KI hcs hai
    rcases hcase with ⟨rfl, hid⟩ | ⟨hik, hid⟩
    · have hbt : (r.x.id == x) = true := by simp [hid]
      rw [hbt] at KR
      clear hbt hid
      go_wp2_with fail
      refine KR.mono ?_
      rintro e w1 ⟨rfl, hb⟩
      have HE : Hid (Below w.heap.size w w1) := hB.out.trans (hb.mono hB.out.size)
      clear hb hB y0 y1 y2 y3 y4 y5 y6
      go_wp2
      go_ret
      exact ⟨rfl, HE.out⟩
    · rw [hid] at KR
      clear hid
      go_wp2_with fail
      refine KR.mono ?_
      rintro e w1 ⟨rfl, hb⟩
      have HE : Hid (Below w.heap.size w w1) := hB.out.trans (hb.mono hB.out.size)
      clear hb hB y0 y1 y2 y3 y4 y5 y6
      go_wp2
      go_roundg (k + 1 - (i + 1))
      case measure => omega
      case rel => exact ⟨i + 1, by omega, by omega, by go_num, HE.out⟩
theorem ids_lt {S R : Int} {n : Nat} {q : List RT} (h : RightS S R n q) : ∀ j i, i < j → j < n → (q.getD i default).x.id < (q.getD j default).x.id := by
  intro j
  induction j with
  | zero => intro i h1; omega
  | succ j ih =>
    intro i h1 h2
    have h3 := h.inc j h2
    by_cases e : i = j
    · subst e; exact h3
    · have := ih i (by omega) (by omega); omega
set_option maxRecDepth 100000 in
set_option maxHeartbeats 8000000 in
theorem find_ok (S R : Int) (A : Option Addr) (n c : Nat) (q : List RT) (k : Nat) (w : World) (hr : RdT w A n q) (hnc : n ≤ c) (hcm : c ≤ 9223372036854775807) (h : RightS S R n q) (hk : k < n) :
    Calls Try.prog 43 #[.agg #[.int .i64 S, .int .i64 R, .slice A n c], .int .i64 (q.getD k default).x.id] w fun e w' => ∃ r' : RT, r'.x = (q.getD k default).x ∧ r'.Rd w' ∧ (∀ a, r'.ca = some a ∨ r'.ua = some a → w.heap.size ≤ a.block) ∧ e = .returned (.tuple #[.agg #[.int .i64 r'.x.id, .int .i64 r'.x.c, .int .i64 r'.x.d, .int .i64 r'.x.t, .int .i64 r'.x.prio, .slice r'.ca r'.cl r'.cc, .slice r'.ua r'.ul r'.uc], .bool true]) ∧ Below w.heap.size w w' := by
  have hne : ∀ i, i < k → (q.getD i default).x.id ≠ (q.getD k default).x.id := fun i hi => by have := ids_lt h k i hi hk; omega
  have hrt := h.t k hk
  have hrr := hr.getRd hk
  have hcl : (q.getD k default).cl ≤ 4294967296 := by have h1 := hrr.1.len; have h2 := hrt.ch.n; omega
  have hul : (q.getD k default).ul ≤ 4294967296 := by have h1 := hrr.2.len; have h2 := hrt.ul; omega
  obtain ⟨id, hid⟩ : ∃ id, (q.getD k default).x.id = id := ⟨_, rfl⟩
  rw [hid] at hne ⊢
  obtain ⟨w1, hw1⟩ : ∃ w1, ((w.alloc (.cells #[.int .i64 S, .int .i64 R, .slice A n c] 28)).alloc (.cells #[.int .i64 id] 3)).alloc (.cells #[.int .i64 0, .int .i64 0, .int .i64 0, .int .i64 0, .int .i64 0, .slice none 0 0, .slice none 0 0] 33) = w1 := ⟨_, rfl⟩
  have hB1 : Below w.heap.size w w1 := by rw [← hw1]; exact (((Below.refl _ w).alloc (Nat.le_refl _) _).alloc (by simp) _).alloc (by simp; omega) _
  have nS : w1.heap[w.heap.size]? = some (.cells #[.int .i64 S, .int .i64 R, .slice A n c] 28 (0, 0)) := by rw [← hw1, Below.heap_alloc _ _ _ (by simp; omega), Below.heap_alloc _ _ _ (by simp)]; exact heap_newT _ _ _ rfl
  have nI : w1.heap[w.heap.size + 1]? = some (.cells #[.int .i64 id] 3 (0, 0)) := by rw [← hw1, Below.heap_alloc _ _ _ (by simp)]; exact heap_newT _ _ _ (by simp)
  have nZ : w1.heap[w.heap.size + 1 + 1]? = some (.cells #[.int .i64 0, .int .i64 0, .int .i64 0, .int .i64 0, .int .i64 0, .slice none 0 0, .slice none 0 0] 33 (0, 0)) := by rw [← hw1]; exact heap_newT _ _ _ (by simp)
  have hr1 := hr.below hB1 (Nat.le_refl _)
  have ha : w1.cell? ⟨w.heap.size + 1, 0, none⟩ = some (.int .i64 id) := by simp only [World.cell?, nI]; rfl
  have KI := index_at A n c q id k (w.heap.size + 1) w1 hr1 hcm hnc ha hk hid hne
  have HB1 := Lib.hid hB1
  have HS1 := Lib.hid nS
  have HZ1 := Lib.hid nZ
  have HR1 := Lib.hid hr1
  have hs1 : w1.heap.size = w.heap.size + 3 := by rw [← hw1]; simp
  obtain ⟨s0, s1, s2⟩ := bx_three nS
  clear hr h hrt hrr hne hB1 nS nI nZ hr1 ha hid
  go_enter Try.func43, Try.ntmps43
  go_wp2_with fail
  try rw [hw1]
  clear hw1
  refine KI.mono ?_
  rintro e w2 ⟨rfl, hb2⟩
  have hr2 := HR1.out.below hb2 (Nat.le_refl _)
  obtain ⟨b, o, rfl, hcs⟩ := hr2.ad (by omega)
  obtain ⟨y0, y1, y2, y3, y4, y5, y6⟩ := hcs k hk
  have hrr2 := hr2.getRd hk
  have hS2 := (hb2.block _ (bx_lt HS1.out)).trans HS1.out
  have hZ2 := (hb2.block _ (bx_lt HZ1.out)).trans HZ1.out
  have HZ2 := Lib.hid hZ2
  have HB2 : Hid (Below w.heap.size w w2) := HB1.out.trans (hb2.mono HB1.out.size)
  clear s0 s1 s2
  obtain ⟨s0, s1, s2⟩ := bx_three hS2
  have hs2 := hb2.size
  have e1 : (k : Int) < (n : Int) := by omega
  obtain ⟨r, hrq⟩ : ∃ r, q.getD k default = r := ⟨_, rfl⟩
  have HRQ := Lib.hid hrq
  rw [hrq] at y0 y1 y2 y3 y4 y5 y6 hrr2 hcl hul
  clear hrq
  have KO := own_any r w2 hrr2 hcl hul
  clear hr2 hcs hrr2 hS2 hZ2 hb2 KI HS1 HZ1 HR1 HB1 hcl hul
  go_wp2_with fail
  refine KO.mono ?_
  rintro e w3 ⟨r', hx, hr3, hf3, rfl, hb3⟩
  have hZ3 := (hb3.block _ (bx_lt HZ2.out)).trans HZ2.out
  have hB3 : Below w.heap.size w w3 := HB2.out.trans (hb3.mono HB2.out.size)
  clear KO y0 y1 y2 y3 y4 y5 y6 s0 s1 s2
  have hW := putT_same hZ3 (.int .i64 r'.x.id) (.int .i64 r'.x.c) (.int .i64 r'.x.d) (.int .i64 r'.x.t) (.int .i64 r'.x.prio) (.slice r'.ca r'.cl r'.cc) (.slice r'.ua r'.ul r'.uc)
  have hBW := putT_below hB3 (w.heap.size + 1 + 1) (by omega) (.int .i64 r'.x.id) (.int .i64 r'.x.c) (.int .i64 r'.x.d) (.int .i64 r'.x.t) (.int .i64 r'.x.prio) (.slice r'.ca r'.cl r'.cc) (.slice r'.ua r'.ul r'.uc)
  have hRW : r'.Rd (putT w3 (w.heap.size + 1 + 1) (.int .i64 r'.x.id) (.int .i64 r'.x.c) (.int .i64 r'.x.d) (.int .i64 r'.x.t) (.int .i64 r'.x.prio) (.slice r'.ca r'.cl r'.cc) (.slice r'.ua r'.ul r'.uc)) :=
    hr3.kept fun a e => putT_other _ _ _ (by have h := hf3 a e; omega) _ _ _ _ _ _ _
  obtain ⟨g0, g1, g2, g3, g4, g5, g6⟩ := seven hZ3
  have m0 := bx_free hZ3 0
  have m1 := bx_free hZ3 1
  have m2 := bx_free hZ3 2
  have m3 := bx_free hZ3 3
  have m4 := bx_free hZ3 4
  have m5 := bx_free hZ3 5
  have m6 := bx_free hZ3 6
  have HFR : Hid (∀ a, r'.ca = some a ∨ r'.ua = some a → w.heap.size ≤ a.block) := fun a e => by have h := hf3 a e; omega
  unfold putT at hW hBW hRW
  have HW := Lib.hid hW
  have HBW := Lib.hid hBW
  have HRW := Lib.hid hRW
  have HX := Lib.hid hx
  clear hW hBW hRW hZ3 hB3 hb3 hr3 hf3 HZ2 HB2 hx
  go_wp2
  obtain ⟨q0, q1, q2, q3, q4, q5, q6⟩ := seven HW.out
  refine bodyPost_ret (v := .tuple #[.agg #[.int .i64 r'.x.id, .int .i64 r'.x.c, .int .i64 r'.x.d, .int .i64 r'.x.t, .int .i64 r'.x.prio, .slice r'.ca r'.cl r'.cc, .slice r'.ua r'.ul r'.uc], .bool true]) ?_ rfl ⟨r', HX.out.trans (congrArg RT.x HRQ.out.symm), HRW.out, HFR.out, rfl, HBW.out⟩
  simp [results, Try.results43, go_sem, q0, q1, q2, q3, q4, q5, q6]
end Go.Proofs.Ytaofldlidifdcaa.Tsk
