/-
  Texts of one claim, joined in build order: Sys3, Sys4, Sys5, Made.
-/
import Derived.Test.YtaofldlidifdcaaMg15
import Derived.Deep.LoopGhost
import Derived.Deep.QuietTactic
import Derived.BigQuiet
import Derived.Deep.RegionHeld3
import Derived.Deep.RegionLaw
import Derived.Deep.DeepCutAuto
import Derived.Lib.SmallJoins
/-
  Systems by numbers: a task.
-/
namespace Go.Proofs.Ytaofldlidifdcaa.Sys
open Go.RowKit Go.Proofs.Ytaofldlidifdcaa.Box

theorem periods_at (x : Int) : periods.getD (x % 8).toNat 0 ∈ periods := by
  obtain ⟨m, hm, h⟩ : ∃ m : Nat, (x % 8).toNat = m ∧ m < 8 := ⟨_, rfl, by omega⟩
  rw [hm]
  match m, h with
  | 0, _ => decide
  | 1, _ => decide
  | 2, _ => decide
  | 3, _ => decide
  | 4, _ => decide
  | 5, _ => decide
  | 6, _ => decide
  | 7, _ => decide
theorem heap_at (w : World) (o : Obj) (n : Nat) (h : n = w.heap.size) : (w.alloc o).heap[n]? = some o := by subst h; exact heap_alloc_new w o
def taskCells (id c d t p : Int) (x y : Value) : Array Value := #[.int .i64 id, .int .i64 c, .int .i64 d, .int .i64 t, .int .i64 p, x, y]
theorem bx_seven {w : World} {b : Nat} {id c d t p : Int} {x y : Value} {T : TypeId} (h : w.heap[b]? = some (.cells (taskCells id c d t p x y) T (0, 0))) :
    w.cell? ⟨b, 0, none⟩ = some (.int .i64 id) ∧ w.cell? ⟨b, 1, none⟩ = some (.int .i64 c) ∧ w.cell? ⟨b, 2, none⟩ = some (.int .i64 d) ∧ w.cell? ⟨b, 3, none⟩ = some (.int .i64 t) ∧ w.cell? ⟨b, 4, none⟩ = some (.int .i64 p) ∧ w.cell? ⟨b, 5, none⟩ = some x ∧ w.cell? ⟨b, 6, none⟩ = some y := by
  simp [World.cell?, h, taskCells]
theorem bx_set5 {w : World} {b : Nat} {id c d t p : Int} {x y : Value} {T : TypeId} (h : w.heap[b]? = some (.cells (taskCells id c d t p x y) T (0, 0))) (v : Value) :
    (w.setCell ⟨b, 5, none⟩ v).heap[b]? = some (.cells (taskCells id c d t p v y) T (0, 0)) := by
  have h1 := Lib.heap_setCell_same (i := 5) h v
  rw [h1]
  simp [taskCells]
theorem bx_set6 {w : World} {b : Nat} {id c d t p : Int} {x y : Value} {T : TypeId} (h : w.heap[b]? = some (.cells (taskCells id c d t p x y) T (0, 0))) (v : Value) :
    (w.setCell ⟨b, 6, none⟩ v).heap[b]? = some (.cells (taskCells id c d t p x v) T (0, 0)) := by
  have h1 := Lib.heap_setCell_same (i := 6) h v
  rw [h1]
  simp [taskCells]
theorem bx_six {w : World} {b : Nat} {x0 x1 x2 x3 x4 x5 : Value} {T : TypeId} (h : w.heap[b]? = some (.cells #[x0, x1, x2, x3, x4, x5] T (0, 0))) :
    w.cell? ⟨b, 0, none⟩ = some x0 ∧ w.cell? ⟨b, 1, none⟩ = some x1 ∧ w.cell? ⟨b, 2, none⟩ = some x2 ∧ w.cell? ⟨b, 3, none⟩ = some x3 ∧ w.cell? ⟨b, 4, none⟩ = some x4 ∧ w.cell? ⟨b, 5, none⟩ = some x5 := by
  simp [World.cell?, h]
def numV (v : Row0.NumV) : Value := .agg #[.int .i64 v.c, .int .i64 v.d, .int .i64 v.t, .int .i64 v.p, .int .i64 v.k, .slice v.ua v.ul v.uc]
def put7 (w : World) (b : Nat) (id c d t p : Int) (x y : Value) : World :=
  ((((((w.setCell ⟨b, 0, none⟩ (.int .i64 id)).setCell ⟨b, 1, none⟩ (.int .i64 c)).setCell ⟨b, 2, none⟩ (.int .i64 d)).setCell ⟨b, 3, none⟩ (.int .i64 t)).setCell ⟨b, 4, none⟩ (.int .i64 p)).setCell ⟨b, 5, none⟩ x).setCell ⟨b, 6, none⟩ y
theorem put7_same {w : World} {b : Nat} {id c d t p : Int} {x y : Value} {T : TypeId} (h : w.heap[b]? = some (.cells (taskCells id c d t p x y) T (0, 0))) (id' c' d' t' p' : Int) (x' y' : Value) :
    (put7 w b id' c' d' t' p' x' y').heap[b]? = some (.cells (taskCells id' c' d' t' p' x' y') T (0, 0)) := by
  have h0 := Lib.heap_setCell_same (i := 0) h (.int .i64 id')
  have h1 := Lib.heap_setCell_same (i := 1) h0 (.int .i64 c')
  have h2 := Lib.heap_setCell_same (i := 2) h1 (.int .i64 d')
  have h3 := Lib.heap_setCell_same (i := 3) h2 (.int .i64 t')
  have h4 := Lib.heap_setCell_same (i := 4) h3 (.int .i64 p')
  have h5 := Lib.heap_setCell_same (i := 5) h4 x'
  have h6 := Lib.heap_setCell_same (i := 6) h5 y'
  unfold put7
  rw [h6]
  simp [taskCells]
theorem put7_other (w : World) (b j : Nat) (hj : j ≠ b) (id c d t p : Int) (x y : Value) : (put7 w b id c d t p x y).heap[j]? = w.heap[j]? :=
  (bx_other _ _ _ _ hj _).trans ((bx_other _ _ _ _ hj _).trans ((bx_other _ _ _ _ hj _).trans ((bx_other _ _ _ _ hj _).trans ((bx_other _ _ _ _ hj _).trans ((bx_other _ _ _ _ hj _).trans (bx_other _ _ _ _ hj _))))))
theorem put7_below {B : Nat} {w w' : World} (h : Below B w w') (b : Nat) (hb : B ≤ b) (id c d t p : Int) (x y : Value) : Below B w (put7 w' b id c d t p x y) :=
  bx_below (bx_below (bx_below (bx_below (bx_below (bx_below (bx_below h _ hb _ _) _ hb _ _) _ hb _ _) _ hb _ _) _ hb _ _) _ hb _ _) _ hb _ _
theorem put7_size (w : World) (b : Nat) (id c d t p : Int) (x y : Value) : (put7 w b id c d t p x y).heap.size = w.heap.size := by simp [put7, World.setCell]
theorem own_form {w : World} {base : Nat} {e : TypeId} {size : Nat} {v : Value} {n : Nat} {xs : List Value} (h : w.ownsRow base e size v n xs) : ∃ A c, v = .slice A n c := by
  rcases h.2 with ⟨rfl, rfl⟩ | ⟨g, cap, cur, rfl, _⟩
  · exact ⟨none, 0, rfl⟩
  · exact ⟨_, _, rfl⟩
/-- A row that is read, as it is handed in. -/
theorem row_rdI {w : World} {a : Option Addr} {len cap : Nat} {zs : List Int} (h : Row0.IsRow .i64 w a len cap zs) : ∀ j, j < len → ∃ ad x, a = some ad ∧ w.cell? (ad.add j) = some (.int .i64 x) := by
  intro j hj
  rcases h with ⟨_, rfl, _⟩ | ⟨x, rfl, h1, h2, h3, h4, h5⟩
  · omega
  · exact ⟨_, _, rfl, h4 j (by omega)⟩
/-- The task of a place, made of a task by numbers: what comes back. -/
structure Made1 (w w' : World) (i : Nat) (S : Int) (v : Value) (x : TaskV) : Prop where
  ok : TOk i S x
  val : ∃ ca cl cc ua ul uc, v = .agg (taskCells x.id x.c x.d x.t x.prio (.slice ca cl cc) (.slice ua ul uc)) ∧ RdI w' ca cl x.chunks ∧ RdI w' ua ul x.use ∧ (∀ a, ca = some a → w.heap.size ≤ a.block ∧ a.block < w'.heap.size) ∧ (∀ a, ua = some a → w.heap.size ≤ a.block ∧ a.block < w'.heap.size) ∧
    cl ≤ cc ∧ cc ≤ 9223372036854775807 ∧ ul ≤ uc ∧ uc ≤ 9223372036854775807 ∧ (ca = none → cl = 0 ∧ cc = 0) ∧ (ua = none → ul = 0 ∧ uc = 0)
set_option maxHeartbeats 8000000 in
set_option maxRecDepth 100000 in
theorem task_any (v : Row0.NumV) (i : Nat) (hi : i < 6) (sets : Nat) (h1 : 1 ≤ sets) (h2 : sets ≤ 8) (w : World) (hr : Row0.IsRow .i64 w v.ua v.ul v.uc v.uz) :
    Calls Try.prog 42 #[numV v, .int .i64 (i : Int), .int .i64 (sets : Int)] w fun e w' => ∃ u x, e = .returned u ∧ Made1 w w' i (sets : Int) u x ∧ Below w.heap.size w w' := by
  obtain ⟨i0, hi0, hz0, hz1, hz2⟩ := info_parts' info64
  obtain ⟨j0, hj0, hy0, hy1, hy2⟩ := info_parts' infoInt
  obtain ⟨c, d, t, p, k, ua, ul, uc, uz⟩ := v
  unfold numV
  simp only at hr ⊢
  have HR := Lib.hid (row_rdI hr)
  have hul : ul ≤ 9223372036854775807 := by
    rcases hr with ⟨_, rfl, _⟩ | ⟨x, _, h1, h2, _⟩
    · decide
    · unfold maxLen at h2; omega
  clear hr
  have htp := periods_at t
  have et := Row0.and_i64 t 3 (by decide) 7 rfl
  obtain ⟨m, hm, hm8⟩ : ∃ m : Nat, t % 8 = (m : Int) ∧ m < 8 := ⟨(t % 8).toNat, by omega, by omega⟩
  have et2 : Go.bits .and .i64 t 7 = (m : Int) := et.trans hm
  rw [hm, Int.toNat_natCast] at htp
  have ht := period_bd htp
  clear et
  obtain ⟨T, hT⟩ : ∃ T : Nat, periods.getD m 0 = (T : Int) := ⟨(periods.getD m 0).toNat, by omega⟩
  have hper : ∀ h, ([.int .i64 4, .int .i64 5, .int .i64 6, .int .i64 8, .int .i64 10, .int .i64 12, .int .i64 20, .int .i64 24] : List Value)[m]'h = .int .i64 (T : Int) := by
    intro h
    rw [← hT]
    match m, hm8 with
    | 0, _ => rfl
    | 1, _ => rfl
    | 2, _ => rfl
    | 3, _ => rfl
    | 4, _ => rfl
    | 5, _ => rfl
    | 6, _ => rfl
    | 7, _ => rfl
  rw [hT] at ht htp
  have HTP := Lib.hid htp
  clear hT htp
  have hd0 := Int.emod_nonneg d (show (T : Int) ≠ 0 by omega)
  have hd1 := Int.emod_lt_of_pos d (show (0 : Int) < (T : Int) by omega)
  obtain ⟨D, hD, D1, D2⟩ : ∃ D : Nat, 1 + d % (T : Int) = (D : Int) ∧ 1 ≤ D ∧ D ≤ T := ⟨(1 + d % (T : Int)).toNat, by omega, by omega, by omega⟩
  have hwD : IntKind.i64.wrap (D : Int) = (D : Int) := by rw [IntKind.wrap_i64]; omega
  have hc0 := Int.emod_nonneg c (show (D : Int) ≠ 0 by omega)
  have hc1 := Int.emod_lt_of_pos c (show (0 : Int) < (D : Int) by omega)
  obtain ⟨C, hC, C1, C2⟩ : ∃ C : Nat, 1 + c % (D : Int) = (C : Int) ∧ 1 ≤ C ∧ C ≤ D := ⟨(1 + c % (D : Int)).toNat, by omega, by omega, by omega⟩
  have hwC : IntKind.i64.wrap (C : Int) = (C : Int) := by rw [IntKind.wrap_i64]; omega
  have hp0 := Int.emod_nonneg p (show (9 : Int) ≠ 0 by omega)
  have hp1 := Int.emod_lt_of_pos p (show (0 : Int) < 9 by omega)
  obtain ⟨R, hR, R1, R2⟩ : ∃ R : Nat, 1 + p % 9 = (R : Int) ∧ 1 ≤ R ∧ R ≤ 9 := ⟨(1 + p % 9).toNat, by omega, by omega, by omega⟩
  clear hd0 hd1 hc0 hc1 hp0 hp1
  have hwR : IntKind.i64.wrap (R : Int) = (R : Int) := by rw [IntKind.wrap_i64]; omega
  have hwP : IntKind.i64.wrap (10 * (R : Int)) = 10 * (R : Int) := by rw [IntKind.wrap_i64]; omega
  have hwQ : IntKind.i64.wrap (10 * (R : Int) + (i : Int)) = 10 * (R : Int) + (i : Int) := by rw [IntKind.wrap_i64]; omega
  have hwI : IntKind.i64.wrap ((i : Int) + 1) = (i : Int) + 1 := by rw [IntKind.wrap_i64]; omega
  have c1 := fun w => rest_any d T (by omega) (by omega) w
  have c2 := fun w => rest_any c D (by omega) (by omega) w
  have c3 := fun w => rest_any p 9 (by omega) (by omega) w
  go_enter Try.func42, Try.ntmps42
  go_wp2_with fail
  refine (c1 _).mono ?_
  rintro e w' ⟨rfl, rfl⟩
  go_wp2_with fail
  refine (c2 _).mono ?_
  rintro e w' ⟨rfl, rfl⟩
  go_wp2_with fail
  refine (c3 _).mono ?_
  rintro e w' ⟨rfl, rfl⟩
  go_wp2_with fail
  obtain ⟨W4, hW4⟩ : ∃ W4, (((w.alloc (.cells #[.int .i64 c, .int .i64 d, .int .i64 t, .int .i64 p, .int .i64 k, .slice ua ul uc] 63)).alloc (.cells #[.int .i64 0, .int .i64 0, .int .i64 0, .int .i64 0, .int .i64 0, .slice none 0 0, .slice none 0 0] 33)).alloc (.cells #[.int .i64 4, .int .i64 5, .int .i64 6, .int .i64 8, .int .i64 10, .int .i64 12, .int .i64 20, .int .i64 24] 103)).alloc (.cells #[.int .i64 ((i : Int) + 1), .int .i64 (C : Int), .int .i64 (D : Int), .int .i64 (T : Int), .int .i64 (10 * (R : Int) + (i : Int)), .slice none 0 0, .slice none 0 0] 33) = W4 := ⟨_, rfl⟩
  rw [hW4]
  have hB4 : Hid (Below w.heap.size w W4) := by rw [← hW4]; exact ((((Below.refl _ w).alloc (Nat.le_refl _) _).alloc (by simp) _).alloc (by simp; omega) _).alloc (by simp; omega) _
  have hN4 : Hid (W4.heap[w.heap.size]? = some (.cells #[.int .i64 c, .int .i64 d, .int .i64 t, .int .i64 p, .int .i64 k, .slice ua ul uc] 63 (0, 0))) := by
    rw [← hW4]; exact (Below.heap_alloc _ _ _ (by simp; omega)).trans ((Below.heap_alloc _ _ _ (by simp; omega)).trans ((Below.heap_alloc _ _ _ (by simp)).trans (bx_new _ _ _)))
  have hZ4 : Hid (W4.heap[w.heap.size + 1]? = some (.cells (taskCells 0 0 0 0 0 (.slice none 0 0) (.slice none 0 0)) 33 (0, 0))) := by
    rw [← hW4]; exact (Below.heap_alloc _ _ _ (by simp)).trans ((Below.heap_alloc _ _ _ (by simp)).trans (heap_at _ _ _ (by simp)))
  have hX4 : Hid (W4.heap[w.heap.size + 1 + 1 + 1]? = some (.cells (taskCells ((i : Int) + 1) (C : Int) (D : Int) (T : Int) (10 * (R : Int) + (i : Int)) (.slice none 0 0) (.slice none 0 0)) 33 (0, 0))) := by
    rw [← hW4]; exact heap_at _ _ _ (by simp)
  have hs4 : W4.heap.size = w.heap.size + 4 := by rw [← hW4]; simp
  clear hW4 hper c1 c2 c3 et2
  go_loopg [12, 13] C (fun gg fv kv wr => ∃ (f kk n : Nat) (cv : Value) (chs : List Int), 1 ≤ kk ∧ kk ≤ C ∧ f < kk ∧ C - kk ≤ gg ∧ fv = .int .i64 (f : Int) ∧ kv = .int .i64 (kk : Int) ∧ n ≤ f ∧
    Aside (chs.sum = (f : Int) ∧ ∀ x ∈ chs, 1 ≤ x) ∧ Aside (wr.ownsRow (w.heap.size + 4) 2 1 cv n (chs.map (Value.int .i64))) ∧
    Aside (wr.heap[w.heap.size + 1 + 1 + 1]? = some (.cells (taskCells ((i : Int) + 1) (C : Int) (D : Int) (T : Int) (10 * (R : Int) + (i : Int)) cv (.slice none 0 0)) 33 (0, 0))) ∧
    Aside (wr.heap[w.heap.size]? = some (.cells #[.int .i64 c, .int .i64 d, .int .i64 t, .int .i64 p, .int .i64 k, .slice ua ul uc] 63 (0, 0))) ∧
    Aside (wr.heap[w.heap.size + 1]? = some (.cells (taskCells 0 0 0 0 0 (.slice none 0 0) (.slice none 0 0)) 33 (0, 0))) ∧ Aside (w.heap.size + 4 ≤ wr.heap.size) ∧ Aside (Below w.heap.size w wr))
  case atStart => exact ⟨0, 1, 0, .slice none 0 0, [], Nat.le_refl _, C1, by decide, by omega, rfl, rfl, Nat.le_refl _, ⟨rfl, fun x h => by cases h⟩, World.ownsRow_nil _ _ _ _, hX4.out, hN4.out, hZ4.out, by show _ ≤ _; omega, hB4.out⟩
  case round =>
    obtain ⟨f, kk, n, cv, chs, g1, g2, g3, hg, rfl, rfl, hnf, hch, hown, hX, hN, hZ, hsz, BW⟩ := hrel
    clear hX4 hN4 hZ4 hB4 hs4
    by_cases hlt : kk < C
    · have hltz : (kk : Int) < (C : Int) := by omega
      obtain ⟨k0, k1, k2, k3, k4, k5⟩ := bx_six hN.out
      clear k0 k1 k2 k3 k5
      obtain ⟨B, hB⟩ : ∃ B, (Go.bits .and .i64 (k / 2 ^ kk) 1 == 1) = B := ⟨_, rfl⟩
      cases B with
      | false =>
        go_wp2
        go_roundg (C - (kk + 1))
        case measure => omega
        case rel => exact ⟨f, kk + 1, n, cv, chs, by omega, by omega, by omega, by omega, rfl, by go_num, hnf, hch.out, hown.out, hX.out, hN.out, hZ.out, hsz.out, BW.out⟩
      | true =>
        obtain ⟨x0, x1, x2, x3, x4, x5, x6⟩ := bx_seven hX.out
        clear x0 x1 x2 x3 x4 x6
        have hw1 : IntKind.i64.wrap ((kk : Int) - (f : Int)) = (kk : Int) - (f : Int) := by rw [IntKind.wrap_i64]; omega
        have hsz' := hsz.out
        go_wp2_with (at_builtin; refine wpList_append_own _ rfl _ _ 30 rfl (w.heap.size + 4) 2 i0 (.int .i64 0) 1 8 Try.underlying30 hi0 hz0 hz1 hz2 rfl (by decide) cv n _ rfl (hown.out.alloc _) ⟨wr.heap.size, 0, none⟩ 1 1 [.int .i64 ((kk : Int) - (f : Int))] rfl rfl (fun j u hj => cell_one' wr (.int .i64 ((kk : Int) - (f : Int))) 2 j u hj) (by simp [Value.oneCell']) (by unfold maxLen; omega) (by omega) (by simp; omega) ?_; intro v' w4 hown' hgrow _; obtain ⟨A', c', rfl⟩ := own_form hown'; have hob : ∀ j, cv.ownBlock = some j → w.heap.size + 4 ≤ j := (fun j e => (hown.out.lt j e).1); have hbk : ∀ j, j < w.heap.size + 4 → w4.heap[j]? = wr.heap[j]? := (fun j hj => (hgrow.block j (by simp; omega) (fun e => by have := hob j e.symm; omega)).trans (Below.heap_alloc _ _ _ (by omega))); have hX4 := (hbk _ (by omega)).trans hX.out; obtain ⟨x0, x1, x2, x3, x4, x5, x6⟩ := bx_seven hX4; have f5 := bx_free hX4 5; clear x0 x1 x2 x3 x4 x6)
        have hX5 : Hid ((w4.setCell ⟨w.heap.size + 1 + 1 + 1, 5, none⟩ (.slice A' (n + 1) c')).heap[w.heap.size + 1 + 1 + 1]? = some (.cells (taskCells ((i : Int) + 1) (C : Int) (D : Int) (T : Int) (10 * (R : Int) + (i : Int)) (.slice A' (n + 1) c') (.slice none 0 0)) 33 (0, 0))) := bx_set5 hX4 _
        have hN5 : Hid ((w4.setCell ⟨w.heap.size + 1 + 1 + 1, 5, none⟩ (.slice A' (n + 1) c')).heap[w.heap.size]? = some (.cells #[.int .i64 c, .int .i64 d, .int .i64 t, .int .i64 p, .int .i64 k, .slice ua ul uc] 63 (0, 0))) := (bx_other _ _ _ _ (by omega) _).trans ((hbk _ (by omega)).trans hN.out)
        have hZ5 : Hid ((w4.setCell ⟨w.heap.size + 1 + 1 + 1, 5, none⟩ (.slice A' (n + 1) c')).heap[w.heap.size + 1]? = some (.cells (taskCells 0 0 0 0 0 (.slice none 0 0) (.slice none 0 0)) 33 (0, 0))) := (bx_other _ _ _ _ (by omega) _).trans ((hbk _ (by omega)).trans hZ.out)
        have hO5 : Hid ((w4.setCell ⟨w.heap.size + 1 + 1 + 1, 5, none⟩ (.slice A' (n + 1) c')).ownsRow (w.heap.size + 4) 2 1 (.slice A' (n + 1) c') (n + 1) ((chs ++ [(kk : Int) - (f : Int)]).map (Value.int .i64))) := own_set (by rw [List.map_append]; exact hown') (by omega) _ _
        have hB5 : Hid (Below w.heap.size w w4) := (BW.out.alloc BW.out.size _).grown hgrow (by simp; omega) (fun j e => by have := hob j e; omega)
        have hS5 : Hid (w.heap.size + 4 ≤ w4.heap.size) := by have := hgrow.size; simp at this; show _ ≤ _; omega
        have hB6 : Hid (Below w.heap.size w (w4.setCell ⟨w.heap.size + 1 + 1 + 1, 5, none⟩ (.slice A' (n + 1) c'))) := bx_below hB5.out _ (by omega) _ _
        have hS6 : Hid (w.heap.size + 4 ≤ (w4.setCell ⟨w.heap.size + 1 + 1 + 1, 5, none⟩ (.slice A' (n + 1) c')).heap.size) := by have := hS5.out; show _ ≤ _; simpa [World.setCell] using this
        have hC5 : Hid ((chs ++ [(kk : Int) - (f : Int)]).sum = (kk : Int) ∧ ∀ x ∈ chs ++ [(kk : Int) - (f : Int)], 1 ≤ x) := ⟨by rw [List.sum_append, hch.out.1]; simp; omega, fun x hx => by
          rcases List.mem_append.1 hx with h | h
          · exact hch.out.2 x h
          · simp at h; omega⟩
        clear hX4 hbk hgrow hown' hob hown hX hN hZ BW f5 hB5 hS5 hch hsz
        go_wp2
        go_roundg (C - (kk + 1))
        case measure => omega
        case rel => exact ⟨kk, kk + 1, n + 1, _, _, by omega, by omega, by omega, by omega, rfl, by go_num, by omega, hC5.out, hO5.out, hX5.out, hN5.out, hZ5.out, hS6.out, hB6.out⟩
    · obtain rfl : kk = C := by omega
      have hltz : ¬ (kk : Int) < (kk : Int) := by omega
      clear hlt hg g2
      go_upto_if 66 with fail
      go_cut [] (fun wx => ∃ (n : Nat) (cv : Value) (chs : List Int), n ≤ 30 ∧ (∀ x ∈ chs, 1 ≤ x) ∧ (chs ≠ [] → chs.sum = (kk : Int)) ∧ wx.ownsRow (w.heap.size + 4) 2 1 cv n (chs.map (Value.int .i64)) ∧
        wx.heap[w.heap.size + 1 + 1 + 1]? = some (.cells (taskCells ((i : Int) + 1) (kk : Int) (D : Int) (T : Int) (10 * (R : Int) + (i : Int)) cv (.slice none 0 0)) 33 (0, 0)) ∧
        wx.heap[w.heap.size]? = some (.cells #[.int .i64 c, .int .i64 d, .int .i64 t, .int .i64 p, .int .i64 k, .slice ua ul uc] 63 (0, 0)) ∧
        wx.heap[w.heap.size + 1]? = some (.cells (taskCells 0 0 0 0 0 (.slice none 0 0) (.slice none 0 0)) 33 (0, 0)) ∧ w.heap.size + 4 ≤ wx.heap.size ∧ Below w.heap.size w wx)
      case first =>
        by_cases hf : 0 < f
        · have hfz : (0 : Int) < (f : Int) := by omega
          obtain ⟨x0, x1, x2, x3, x4, x5, x6⟩ := bx_seven hX.out
          clear x0 x1 x2 x3 x4 x6
          have hw1 : IntKind.i64.wrap ((kk : Int) - (f : Int)) = (kk : Int) - (f : Int) := by rw [IntKind.wrap_i64]; omega
          have hsz' := hsz.out
          go_wp2_with (at_builtin; refine wpList_append_own _ rfl _ _ 30 rfl (w.heap.size + 4) 2 i0 (.int .i64 0) 1 8 Try.underlying30 hi0 hz0 hz1 hz2 rfl (by decide) cv n _ rfl (hown.out.alloc _) ⟨wr.heap.size, 0, none⟩ 1 1 [.int .i64 ((kk : Int) - (f : Int))] rfl rfl (fun j u hj => cell_one' wr (.int .i64 ((kk : Int) - (f : Int))) 2 j u hj) (by simp [Value.oneCell']) (by unfold maxLen; omega) (by omega) (by simp; omega) ?_; intro v' w4 hown' hgrow _; obtain ⟨A', c', rfl⟩ := own_form hown'; have hob : ∀ j, cv.ownBlock = some j → w.heap.size + 4 ≤ j := (fun j e => (hown.out.lt j e).1); have hbk : ∀ j, j < w.heap.size + 4 → w4.heap[j]? = wr.heap[j]? := (fun j hj => (hgrow.block j (by simp; omega) (fun e => by have := hob j e.symm; omega)).trans (Below.heap_alloc _ _ _ (by omega))); have hX4 := (hbk _ (by omega)).trans hX.out; obtain ⟨x0, x1, x2, x3, x4, x5, x6⟩ := bx_seven hX4; have f5 := bx_free hX4 5; clear x0 x1 x2 x3 x4 x6)
          have hX5 := bx_set5 hX4 (.slice A' (n + 1) c')
          have hN5 := (bx_other w4 (w.heap.size + 1 + 1 + 1) 5 w.heap.size (by omega) (.slice A' (n + 1) c')).trans ((hbk _ (by omega)).trans hN.out)
          have hZ5 := (bx_other w4 (w.heap.size + 1 + 1 + 1) 5 (w.heap.size + 1) (by omega) (.slice A' (n + 1) c')).trans ((hbk _ (by omega)).trans hZ.out)
          have hO5 : (w4.setCell ⟨w.heap.size + 1 + 1 + 1, 5, none⟩ (.slice A' (n + 1) c')).ownsRow (w.heap.size + 4) 2 1 (.slice A' (n + 1) c') (n + 1) ((chs ++ [(kk : Int) - (f : Int)]).map (Value.int .i64)) := own_set (by rw [List.map_append]; exact hown') (by omega) _ _
          have hB5 : Below w.heap.size w w4 := (BW.out.alloc BW.out.size _).grown hgrow (by simp; omega) (fun j e => by have := hob j e; omega)
          have hS5 : w.heap.size + 4 ≤ w4.heap.size := by have := hgrow.size; simp at this; omega
          have hB6 : Below w.heap.size w (w4.setCell ⟨w.heap.size + 1 + 1 + 1, 5, none⟩ (.slice A' (n + 1) c')) := bx_below hB5 _ (by omega) _ _
          have hS6 : w.heap.size + 4 ≤ (w4.setCell ⟨w.heap.size + 1 + 1 + 1, 5, none⟩ (.slice A' (n + 1) c')).heap.size := by simpa [World.setCell] using hS5
          have hC5 : (∀ x ∈ chs ++ [(kk : Int) - (f : Int)], 1 ≤ x) ∧ (chs ++ [(kk : Int) - (f : Int)]).sum = (kk : Int) := ⟨fun x hx => by
            rcases List.mem_append.1 hx with h | h
            · exact hch.out.2 x h
            · simp at h; omega, by rw [List.sum_append, hch.out.1]; simp; omega⟩
          have HF := Lib.hid (And.intro hX5 (And.intro hN5 (And.intro hZ5 (And.intro hO5 (And.intro hB6 (And.intro hS6 hC5))))))
          clear hX4 hbk hgrow hown' hob hown hX hN hZ BW f5 hB5 hS5 hch hsz hX5 hN5 hZ5 hO5 hB6 hS6 hC5
          go_wp2
          go_meet
          obtain ⟨hX5, hN5, hZ5, hO5, hB6, hS6, hC5⟩ := HF.out
          exact ⟨n + 1, _, _, by omega, hC5.1, fun _ => hC5.2, hO5, hX5, hN5, hZ5, hS6, hB6⟩
        · have hfz : ¬ (0 : Int) < (f : Int) := by omega
          go_wp2
          go_meet
          refine ⟨n, cv, chs, by omega, hch.out.2, fun hne => ?_, hown.out, hX.out, hN.out, hZ.out, hsz.out, BW.out⟩
          have h1 := sum_len _ hch.out.2
          have h2 := hch.out.1
          have h3 : 0 < chs.length := List.length_pos_iff.2 hne
          omega
      case rest =>
        obtain ⟨n2, cv2, chs2, g5, g6, g7, hown2, hX2, hN2, hZ2, hsz2, BW2⟩ := hcut
        obtain ⟨ca, cc, rfl, hrd, hc1, hc2, hc3, hc4⟩ := own_rdI hown2
        have hRD := Lib.hid hrd
        have hX5 := Lib.hid hX2
        have hN5 := Lib.hid hN2
        have hZ5 := Lib.hid hZ2
        have HC3 := Lib.hid hc3
        have HB5 := Lib.hid BW2
        have HCH := Lib.hid (And.intro g6 g7)
        generalize wc = W5 at *
        clear hown2 hX2 hN2 hZ2 hrd hc3 BW2 hown hX hN hZ hsz BW hch g6 g7
        go_wp2_with fail
        go_loopg [14] (min ul 5) (fun gg kv wr => ∃ (j : Nat) (uv : Value) (us : List Int), j ≤ min ul 5 ∧ min ul 5 - j ≤ gg ∧ kv = .int .i64 (j : Int) ∧ us.length = j ∧
          Aside (∀ x ∈ us, 0 ≤ x ∧ x < (sets : Int)) ∧ Aside (wr.ownsRow W5.heap.size 3 1 uv j (us.map (Value.int .i64))) ∧
          Aside (wr.heap[w.heap.size + 1 + 1 + 1]? = some (.cells (taskCells ((i : Int) + 1) (kk : Int) (D : Int) (T : Int) (10 * (R : Int) + (i : Int)) (.slice ca n2 cc) uv) 33 (0, 0))) ∧
          Aside (wr.heap[w.heap.size]? = some (.cells #[.int .i64 c, .int .i64 d, .int .i64 t, .int .i64 p, .int .i64 k, .slice ua ul uc] 63 (0, 0))) ∧
          Aside (wr.heap[w.heap.size + 1]? = some (.cells (taskCells 0 0 0 0 0 (.slice none 0 0) (.slice none 0 0)) 33 (0, 0))) ∧ Aside (W5.heap.size ≤ wr.heap.size) ∧ Aside (Below w.heap.size w wr) ∧ Aside (RdI wr ca n2 chs2))
        case atStart => exact ⟨0, .slice none 0 0, [], Nat.zero_le _, by omega, rfl, rfl, (fun x h => by cases h), World.ownsRow_nil _ _ _ _, hX5.out, hN5.out, hZ5.out, Nat.le_refl _, HB5.out, hRD.out⟩
        case round =>
          obtain ⟨j, uv, us, hj, hg, rfl, hul2, hus, hown, hX, hN, hZ, hsz, BW, hrd⟩ := hrel
          clear hRD hX5 hN5 hZ5 HB5
          obtain ⟨k0, k1, k2, k3, k4, k5⟩ := bx_six hN.out
          clear k0 k1 k2 k3 k4
          by_cases hlt2 : j < min ul 5
          · have hz1' : (j : Int) < (ul : Int) := by omega
            have hz2' : (j : Int) < 5 := by omega
            obtain ⟨ad, x, rfl, hx⟩ := HR.out j (by omega)
            have hadl := World.block_lt_of_cell? _ _ hx
            have hxr : wr.cell? (ad.add j) = some (.int .i64 x) := (BW.out.cell hadl).trans hx
            have hsz' := hsz.out
            have hW5 := bx_lt hX.out
            have hS5 : Hid (w.heap.size + 4 ≤ W5.heap.size) := hsz2
            have hkeep : ∀ w', Lo (w.heap.size + 1) wr w' → w'.cell? ⟨w.heap.size, 5, none⟩ = some (.slice (some ad) ul uc) ∧ w'.cell? (ad.add j) = some (.int .i64 x) := fun w' h => ⟨h.cell (by simp) k5, h.cell (by omega) hxr⟩
            have hLR : Lo (w.heap.size + 1) wr wr := Lo.refl (by omega)
            have hrest := fun w => rest_any x sets (by omega) (by omega) w
            obtain ⟨y, hy, hyw⟩ : ∃ y, x % (sets : Int) = y ∧ 0 ≤ y ∧ y < (sets : Int) := ⟨_, rfl, Int.emod_nonneg _ (by omega), Int.emod_lt_of_pos _ (by omega)⟩
            rw [hy] at hrest
            obtain ⟨x0, x1, x2, x3, x4, x5, x6⟩ := bx_seven hX.out
            clear x0 x1 x2 x3 x4 x5 hy
            have hO3 : ∀ o, Hid ((wr.alloc o).drew.ownsRow W5.heap.size 3 1 uv j (us.map (Value.int .i64))) := fun o => (hown.out.alloc o).drew
            have HC3' : Hid (∀ j u, ([.int .i64 y] : List Value)[j]? = some u → (wr.alloc (.cells #[.int .i64 y] 3)).drew.cell? ((⟨wr.heap.size, 0, none⟩ : Addr).add j) = some u) := cell_one' wr (.int .i64 y) 3
            have hob : ∀ j, uv.ownBlock = some j → W5.heap.size ≤ j := fun j e => (hown.out.lt j e).1
            obtain ⟨uA, uc', rfl⟩ := own_form hown.out
            have hbk : ∀ o w4, (wr.alloc o).drew.grownBy w4 (Value.ownBlock (.slice uA j uc')) → ∀ j, j < W5.heap.size → w4.heap[j]? = wr.heap[j]? := fun o w4 hg j hj => (hg.block j (by simp; omega) (fun e => by have := hob j e.symm; omega)).trans (Below.heap_alloc _ _ _ (by omega))
            have hXg := fun o w4 hg => (hbk o w4 hg _ (show w.heap.size + 1 + 1 + 1 < W5.heap.size by omega)).trans hX.out
            have hLg : ∀ o w4, (wr.alloc o).drew.grownBy w4 (Value.ownBlock (.slice uA j uc')) → Lo (w.heap.size + 1) wr w4 := fun o w4 hg => ⟨by have := hg.size; simp at this; omega, fun j hj => hbk o w4 hg j (by omega)⟩
            go_wp2_with fail
            have xx6 : ∀ o, (wr.alloc o).drew.cell? ⟨w.heap.size + 1 + 1 + 1, 6, none⟩ = some (.slice uA j uc') := fun o => (World.cell?_of_block (a := ⟨w.heap.size + 1 + 1 + 1, 6, none⟩) (Below.heap_alloc wr o _ (by simp; omega))).trans x6
            go_region_law
              (first
                | (refine Row0.step_append_sl (by rfl) (.tmp 87) (.tmp 95) 31 (by rfl) W5.heap.size 3 j0 (.int .i64 0) 1 8 Try.underlying31 hj0 hy0 hy1 hy2 rfl (by decide) _ j _ (by rfl) (hO3 _).out (some ⟨wr.heap.size, 0, none⟩) 1 1 [.int .i64 y] (by rfl) (fun e => by cases e) rfl (fun a e => by cases e; exact HC3'.out) (by simp [Value.oneCell']) (by unfold maxLen; omega) (by omega) (by simp; omega) ?_; intro v' w4 hown' hgrow; obtain ⟨A', c', rfl⟩ := own_form hown'; have hL4 := hLg _ _ hgrow; have hX4 := hXg _ _ hgrow; have z6 := (bx_seven hX4).2.2.2.2.2.2; have f6 := bx_free hX4 6)
                | (go_simp; go_at_call 41; refine (hrest _).mono ?_; rintro e w' ⟨rfl, rfl⟩))
            all_goals
              have hbk4 := hbk _ _ hgrow
              have hL4 := hLg _ _ hgrow
              have hX4 := hXg _ _ hgrow
              have hX5 : Hid ((w4.setCell ⟨w.heap.size + 1 + 1 + 1, 6, none⟩ (.slice A' (j + 1) c')).heap[w.heap.size + 1 + 1 + 1]? = some (.cells (taskCells ((i : Int) + 1) (kk : Int) (D : Int) (T : Int) (10 * (R : Int) + (i : Int)) (.slice ca n2 cc) (.slice A' (j + 1) c')) 33 (0, 0))) := bx_set6 hX4 _
              have hN5 : Hid ((w4.setCell ⟨w.heap.size + 1 + 1 + 1, 6, none⟩ (.slice A' (j + 1) c')).heap[w.heap.size]? = some (.cells #[.int .i64 c, .int .i64 d, .int .i64 t, .int .i64 p, .int .i64 k, .slice (some ad) ul uc] 63 (0, 0))) := (bx_other _ _ _ _ (by omega) _).trans ((hbk4 _ (by omega)).trans hN.out)
              have hZ5 : Hid ((w4.setCell ⟨w.heap.size + 1 + 1 + 1, 6, none⟩ (.slice A' (j + 1) c')).heap[w.heap.size + 1]? = some (.cells (taskCells 0 0 0 0 0 (.slice none 0 0) (.slice none 0 0)) 33 (0, 0))) := (bx_other _ _ _ _ (by omega) _).trans ((hbk4 _ (by omega)).trans hZ.out)
              have hO5 : Hid ((w4.setCell ⟨w.heap.size + 1 + 1 + 1, 6, none⟩ (.slice A' (j + 1) c')).ownsRow W5.heap.size 3 1 (.slice A' (j + 1) c') (j + 1) ((us ++ [y]).map (Value.int .i64))) := own_set (by rw [List.map_append]; exact hown') (by omega) _ _
              have hB5 : Below w.heap.size w w4 := ((BW.out.alloc BW.out.size _).drew).grown hgrow (by simp; omega) (fun j e => by have := hob j e; omega)
              have hB6 : Hid (Below w.heap.size w (w4.setCell ⟨w.heap.size + 1 + 1 + 1, 6, none⟩ (.slice A' (j + 1) c'))) := bx_below hB5 _ (by omega) _ _
              have hS6 : Hid (W5.heap.size ≤ (w4.setCell ⟨w.heap.size + 1 + 1 + 1, 6, none⟩ (.slice A' (j + 1) c')).heap.size) := by have := hgrow.size; simp at this; show _ ≤ _; simp [World.setCell]; omega
              have hR6 : Hid (RdI (w4.setCell ⟨w.heap.size + 1 + 1 + 1, 6, none⟩ (.slice A' (j + 1) c')) ca n2 chs2) := hrd.out.kept (fun a e => by have := HC3.out a e; exact (bx_other _ _ _ _ (by omega) _).trans (hbk4 _ (by omega)))
              have hU5 : Hid (∀ x ∈ us ++ [y], 0 ≤ x ∧ x < (sets : Int)) := fun x hx => by
                rcases List.mem_append.1 hx with h | h
                · exact hus.out x h
                · simp at h; subst h; exact hyw
              clear hbk4 hL4 hX4 hbk hXg hLg hgrow hown' hob hown hX hN hZ BW f6 z6 hB5 hsz hrd hkeep hLR hO3 HC3' k5 hxr x6 hrest hus
              go_wp2
              go_roundg (min ul 5 - (j + 1))
              case measure => omega
              case rel => exact ⟨j + 1, _, us ++ [y], by omega, by omega, by go_num, by simp [hul2], hU5.out, hO5.out, hX5.out, hN5.out, hZ5.out, hS6.out, hB6.out, hR6.out⟩
          · have hnl : decide ((j : Int) < (ul : Int) ∧ (j : Int) < 5) = false := by simp; omega
            obtain ⟨uA, ucc, rfl, hrdu, hu1, hu2, hu3, hu4⟩ := own_rdI hown.out
            have hX4 := hX.out
            obtain ⟨x0, x1, x2, x3, x4, x5, x6⟩ := bx_seven hX4
            obtain ⟨r0, r1, r2, r3, r4, r5, r6⟩ := bx_seven hZ.out
            have f0 := bx_free hZ.out 0
            have f1 := bx_free hZ.out 1
            have f2 := bx_free hZ.out 2
            have f3 := bx_free hZ.out 3
            have f4 := bx_free hZ.out 4
            have f5 := bx_free hZ.out 5
            have f6 := bx_free hZ.out 6
            have HF : Hid ((put7 wr (w.heap.size + 1) ((i : Int) + 1) (kk : Int) (D : Int) (T : Int) (10 * (R : Int) + (i : Int)) (.slice ca n2 cc) (.slice uA j ucc)).heap[w.heap.size + 1]? = some (.cells (taskCells ((i : Int) + 1) (kk : Int) (D : Int) (T : Int) (10 * (R : Int) + (i : Int)) (.slice ca n2 cc) (.slice uA j ucc)) 33 (0, 0)) ∧
                (∃ x, Made1 w (put7 wr (w.heap.size + 1) ((i : Int) + 1) (kk : Int) (D : Int) (T : Int) (10 * (R : Int) + (i : Int)) (.slice ca n2 cc) (.slice uA j ucc)) i (sets : Int) (.agg (taskCells ((i : Int) + 1) (kk : Int) (D : Int) (T : Int) (10 * (R : Int) + (i : Int)) (.slice ca n2 cc) (.slice uA j ucc))) x) ∧
                Below w.heap.size w (put7 wr (w.heap.size + 1) ((i : Int) + 1) (kk : Int) (D : Int) (T : Int) (10 * (R : Int) + (i : Int)) (.slice ca n2 cc) (.slice uA j ucc))) := by
              refine ⟨put7_same hZ.out _ _ _ _ _ _ _, ⟨⟨(i : Int) + 1, (kk : Int), (D : Int), (T : Int), 10 * (R : Int) + (i : Int), chs2, us⟩, ⟨rfl, by show (1 : Int) ≤ (kk : Int); omega, by show (kk : Int) ≤ (D : Int); omega, by show (D : Int) ≤ (T : Int); omega, HTP.out, ⟨(R : Int), by omega, by omega, rfl⟩, HCH.out.1, HCH.out.2, hus.out, by show us.length ≤ 5; omega⟩, ?_⟩, put7_below BW.out _ (by omega) _ _ _ _ _ _ _⟩
              have hs9 := hsz.out
              refine ⟨ca, n2, cc, uA, j, ucc, rfl, hrd.out.kept (fun a e => put7_other _ _ _ (by have := HC3.out a e; omega) _ _ _ _ _ _ _), hrdu.kept (fun a e => put7_other _ _ _ (by have := hu3 a e; omega) _ _ _ _ _ _ _), fun a e => ?_, fun a e => ?_, hc1, hc2, hu1, hu2, hc4, hu4⟩
              · rw [put7_size]; have := HC3.out a e; omega
              · rw [put7_size]; have := hu3 a e; omega
            clear hX hN hZ BW hown hrd hrdu hu1 hu2 hu3 hu4 hX4 hus hsz
            by_cases hju : j < ul
            · have hz1' : (j : Int) < (ul : Int) := by omega
              have hz2' : ¬ (j : Int) < 5 := by omega
              go_wp2
              obtain ⟨q0, q1, q2, q3, q4, q5, q6⟩ := bx_seven HF.out.1
              unfold put7 at q0 q1 q2 q3 q4 q5 q6
              refine bodyPost_ret (v := .agg (taskCells ((i : Int) + 1) (kk : Int) (D : Int) (T : Int) (10 * (R : Int) + (i : Int)) (.slice ca n2 cc) (.slice uA j ucc))) ?_ rfl ⟨_, rfl, HF.out.2.1, HF.out.2.2⟩
              simp [results, Try.results42, go_sem, q0, q1, q2, q3, q4, q5, q6, taskCells]
            · have hz1' : ¬ (j : Int) < (ul : Int) := by omega
              go_wp2
              obtain ⟨q0, q1, q2, q3, q4, q5, q6⟩ := bx_seven HF.out.1
              unfold put7 at q0 q1 q2 q3 q4 q5 q6
              refine bodyPost_ret (v := .agg (taskCells ((i : Int) + 1) (kk : Int) (D : Int) (T : Int) (10 * (R : Int) + (i : Int)) (.slice ca n2 cc) (.slice uA j ucc))) ?_ rfl ⟨_, rfl, HF.out.2.1, HF.out.2.2⟩
              simp [results, Try.results42, go_sem, q0, q1, q2, q3, q4, q5, q6, taskCells]
end Go.Proofs.Ytaofldlidifdcaa.Sys

/-
  Systems by numbers: rows of tasks, and of tasks by numbers, that lie in memory.
-/
namespace Go.Proofs.Ytaofldlidifdcaa.Sys
open Go.RowKit Go.Proofs.Ytaofldlidifdcaa.Box

/-- A slice of whole numbers that is read, with its capacity. -/
def SlI (w : World) (A : Option Addr) (n c : Nat) (l : List Int) : Prop := RdI w A n l ∧ n ≤ c ∧ c ≤ 9223372036854775807 ∧ (A = none → n = 0 ∧ c = 0)
/-- A task with its two rows' places. -/
structure RT where
  x : TaskV
  ca : Option Addr
  cl : Nat
  cc : Nat
  ua : Option Addr
  ul : Nat
  uc : Nat
  deriving Inhabited
def RT.vals (r : RT) : Array Value := taskCells r.x.id r.x.c r.x.d r.x.t r.x.prio (.slice r.ca r.cl r.cc) (.slice r.ua r.ul r.uc)
def RT.val (r : RT) : Value := .agg r.vals
def RT.Rd (w : World) (r : RT) : Prop := SlI w r.ca r.cl r.cc r.x.chunks ∧ SlI w r.ua r.ul r.uc r.x.use
theorem SlI.below {w w1 : World} {A : Option Addr} {n c : Nat} {l : List Int} (h : SlI w A n c l) {B : Nat} (hb : Below B w w1) (hB : w.heap.size ≤ B) : SlI w1 A n c l := ⟨h.1.below hb hB, h.2⟩
theorem SlI.kept {w w1 : World} {A : Option Addr} {n c : Nat} {l : List Int} (h : SlI w A n c l) (hk : ∀ a, A = some a → w1.heap[a.block]? = w.heap[a.block]?) : SlI w1 A n c l := ⟨h.1.kept hk, h.2⟩
theorem SlI.len {w : World} {A : Option Addr} {n c : Nat} {l : List Int} (h : SlI w A n c l) : l.length = n := h.1.1
theorem RT.Rd.below {w w1 : World} {r : RT} (h : r.Rd w) {B : Nat} (hb : Below B w w1) (hB : w.heap.size ≤ B) : r.Rd w1 := ⟨h.1.below hb hB, h.2.below hb hB⟩
theorem RT.Rd.kept {w w1 : World} {r : RT} (h : r.Rd w) (hk : ∀ a, r.ca = some a ∨ r.ua = some a → w1.heap[a.block]? = w.heap[a.block]?) : r.Rd w1 := ⟨h.1.kept fun a e => hk a (.inl e), h.2.kept fun a e => hk a (.inr e)⟩
/-- A task's seven cells. -/
structure Cs7 (w : World) (b o : Nat) (r : RT) : Prop where
  c0 : w.cell? ⟨b, o, none⟩ = some (.int .i64 r.x.id)
  c1 : w.cell? ⟨b, o + 1, none⟩ = some (.int .i64 r.x.c)
  c2 : w.cell? ⟨b, o + 2, none⟩ = some (.int .i64 r.x.d)
  c3 : w.cell? ⟨b, o + 3, none⟩ = some (.int .i64 r.x.t)
  c4 : w.cell? ⟨b, o + 4, none⟩ = some (.int .i64 r.x.prio)
  c5 : w.cell? ⟨b, o + 5, none⟩ = some (.slice r.ca r.cl r.cc)
  c6 : w.cell? ⟨b, o + 6, none⟩ = some (.slice r.ua r.ul r.uc)
theorem Cs7.block {w w1 : World} {b o : Nat} {r : RT} (h : Cs7 w b o r) (hk : w1.heap[b]? = w.heap[b]?) : Cs7 w1 b o r :=
  ⟨(World.cell?_of_block (a := ⟨b, o, none⟩) hk).trans h.c0, (World.cell?_of_block (a := ⟨b, o + 1, none⟩) hk).trans h.c1, (World.cell?_of_block (a := ⟨b, o + 2, none⟩) hk).trans h.c2, (World.cell?_of_block (a := ⟨b, o + 3, none⟩) hk).trans h.c3, (World.cell?_of_block (a := ⟨b, o + 4, none⟩) hk).trans h.c4, (World.cell?_of_block (a := ⟨b, o + 5, none⟩) hk).trans h.c5, (World.cell?_of_block (a := ⟨b, o + 6, none⟩) hk).trans h.c6⟩
/-- A row of tasks that is read. -/
structure RdT (w : World) (A : Option Addr) (n : Nat) (q : List RT) : Prop where
  ln : q.length = n
  ad : 0 < n → ∃ b o, A = some ⟨b, o, none⟩ ∧ ∀ j, j < n → Cs7 w b (o + j * 7) (q.getD j default)
  rd : ∀ r ∈ q, r.Rd w
theorem RdT.below {w w1 : World} {A : Option Addr} {n : Nat} {q : List RT} (h : RdT w A n q) {B : Nat} (hb : Below B w w1) (hB : w.heap.size ≤ B) : RdT w1 A n q :=
  ⟨h.ln, fun hn => by
    obtain ⟨b, o, e, hc⟩ := h.ad hn
    have hl : b < w.heap.size := World.block_lt_of_cell? w _ (hc 0 hn).c0
    exact ⟨b, o, e, fun j hj => (hc j hj).block (hb.block b (Nat.lt_of_lt_of_le hl hB))⟩, fun r hr => (h.rd r hr).below hb hB⟩
theorem RdT.getRd {w : World} {A : Option Addr} {n : Nat} {q : List RT} (h : RdT w A n q) {j : Nat} (hj : j < n) : (q.getD j default).Rd w := by
  have : j < q.length := by rw [h.ln]; exact hj
  rw [List.getD_eq_getElem?_getD, List.getElem?_eq_getElem this]
  exact h.rd _ (List.getElem_mem _)
def flat7 (q : List RT) : List Value := q.flatMap fun r => r.vals.toList
theorem flat7_snoc (q : List RT) (r : RT) : flat7 (q ++ [r]) = flat7 q ++ r.vals.toList := by simp [flat7]
theorem vals_len (r : RT) : r.vals.toList.length = 7 := rfl
theorem flat7_length (q : List RT) : (flat7 q).length = q.length * 7 := by
  induction q with
  | nil => rfl
  | cons p q ih =>
    have e : flat7 (p :: q) = p.vals.toList ++ flat7 q := by simp [flat7]
    rw [e, List.length_append, ih, vals_len, List.length_cons]
    omega
theorem flat7_get (q : List RT) : ∀ j, j < q.length → ∀ k, k < 7 → (flat7 q)[j * 7 + k]? = (q.getD j default).vals.toList[k]? := by
  induction q with
  | nil => intro j hj; simp at hj
  | cons p q ih =>
    intro j hj k hk
    have e : flat7 (p :: q) = p.vals.toList ++ flat7 q := by simp [flat7]
    rw [e]
    cases j with
    | zero =>
      rw [List.getElem?_append_left (by rw [vals_len]; omega)]
      simp
    | succ j =>
      rw [List.getElem?_append_right (by rw [vals_len]; omega), vals_len, show (j + 1) * 7 + k - 7 = j * 7 + k by omega, ih j (by simpa using hj) k hk]
      simp
theorem flat7_one (q : List RT) : ∀ u ∈ flat7 q, u.oneCell' = true := by
  intro u hu
  obtain ⟨p, _, h⟩ := List.mem_flatMap.1 hu
  simp [RT.vals, taskCells] at h
  rcases h with rfl | rfl | rfl | rfl | rfl | rfl | rfl <;> rfl
/-- A row of tasks of the call's own is read. -/
theorem own_rdT {w : World} {base n : Nat} {v : Value} {q : List RT} {t : TypeId} (h : w.ownsRow base t 7 v n (flat7 q)) (hr : ∀ r ∈ q, r.Rd w) :
    ∃ A c, v = .slice A n c ∧ RdT w A n q ∧ n ≤ c ∧ c ≤ 9223372036854775807 ∧ (∀ a, A = some a → base ≤ a.block ∧ a.block < w.heap.size) ∧ (A = none → n = 0 ∧ c = 0) := by
  have hl : q.length = n := by have := h.1; rw [flat7_length] at this; omega
  have hlt := h.lt
  rcases h.2 with ⟨rfl, rfl⟩ | ⟨g, cap, cur, rfl, hb, hh, hnc, hm, _⟩
  · exact ⟨none, 0, rfl, ⟨hl, fun h => absurd h (by decide), hr⟩, Nat.le_refl _, by decide, (fun a e => by cases e), fun _ => ⟨rfl, rfl⟩⟩
  · refine ⟨_, cap, rfl, ⟨hl, fun _ => ⟨g, 0, rfl, fun j hj => ?_⟩, hr⟩, hnc, by unfold maxLen at hm; omega, (fun a e => by cases e; exact ⟨hb, (hlt _ rfl).2⟩), fun e => by cases e⟩
    have hc : ∀ k, k < 7 → w.cell? ⟨g, 0 + j * 7 + k, none⟩ = (q.getD j default).vals.toList[k]? := fun k hk => by
      have c1 := h.cellAt (j * 7 + k) (by omega)
      rw [flat7_get q j (by omega) k hk] at c1
      rw [show 0 + j * 7 + k = j * 7 + k by omega]
      exact c1
    exact ⟨hc 0 (by decide), hc 1 (by decide), hc 2 (by decide), hc 3 (by decide), hc 4 (by decide), hc 5 (by decide), hc 6 (by decide)⟩

theorem own_belowS {B : Nat} {e : TypeId} {k : Nat} {v : Value} {n : Nat} {xs : List Value} {w w' : World} (h : w.ownsRow B e k v n xs) (hb : Below w.heap.size w w') : w'.ownsRow B e k v n xs :=
  h.kept (row := none) ⟨hb.os, hb.tape, hb.output, hb.size, fun j hj _ => hb.block j hj⟩ (by cases v.ownBlock <;> simp)
theorem below_undrew {w w1 : World} (h : Below w.drew.heap.size w.drew w1) : Below w.heap.size w w1 := ⟨h.os, h.tape, h.output, h.size, h.block⟩
theorem size_a (w : World) (o : Obj) : w.heap.size ≤ (w.alloc o).heap.size := by simp
/-- A row's blocks, apart from another one. -/
theorem RT.Rd.grown {w w1 : World} {r : RT} {row : Option Nat} (h : r.Rd w) (hg : w.grownBy w1 row) (hk : ∀ a, r.ca = some a ∨ r.ua = some a → row ≠ some a.block ∧ a.block < w.heap.size) : r.Rd w1 :=
  h.kept fun a e => hg.block _ (hk a e).2 fun e2 => (hk a e).1 e2.symm
theorem rt_getD_snoc (q : List RT) (r : RT) (i : Nat) (h : i ≤ q.length) : (q ++ [r]).getD i default = if i < q.length then q.getD i default else r := by
  rw [List.getD_eq_getElem?_getD, List.getD_eq_getElem?_getD]
  by_cases hi : i < q.length
  · rw [if_pos hi, List.getElem?_append_left hi]
  · rw [if_neg hi, List.getElem?_append_right (by omega), show i - q.length = 0 by omega]
    rfl
theorem cells_new (w : World) (vs : Array Value) (t : TypeId) : ∀ j u, vs.toList[j]? = some u → (w.alloc (.cells vs t)).drew.cell? ((⟨w.heap.size, 0, none⟩ : Addr).add j) = some u := by
  intro j u hj
  have h : (w.alloc (.cells vs t)).drew.heap[w.heap.size]? = some (.cells vs t (0, 0)) := heap_alloc_new _ _
  rw [Row0.plain_add', Nat.zero_add]
  simp only [World.cell?, h]
  simpa using hj
theorem cells_newp (w : World) (vs : Array Value) (t : TypeId) : ∀ j u, vs.toList[j]? = some u → (w.alloc (.cells vs t)).cell? ((⟨w.heap.size, 0, none⟩ : Addr).add j) = some u := cells_new w vs t
theorem vals_one (r : RT) : ∀ u ∈ r.vals.toList, u.oneCell' = true := by
  intro u h
  simp [RT.vals, taskCells] at h
  rcases h with rfl | rfl | rfl | rfl | rfl | rfl | rfl <;> rfl
/-! Tasks by numbers. -/
structure Cs6 (w : World) (b o : Nat) (v : Row0.NumV) : Prop where
  c0 : w.cell? ⟨b, o, none⟩ = some (.int .i64 v.c)
  c1 : w.cell? ⟨b, o + 1, none⟩ = some (.int .i64 v.d)
  c2 : w.cell? ⟨b, o + 2, none⟩ = some (.int .i64 v.t)
  c3 : w.cell? ⟨b, o + 3, none⟩ = some (.int .i64 v.p)
  c4 : w.cell? ⟨b, o + 4, none⟩ = some (.int .i64 v.k)
  c5 : w.cell? ⟨b, o + 5, none⟩ = some (.slice v.ua v.ul v.uc)
theorem Cs6.block {w w1 : World} {b o : Nat} {v : Row0.NumV} (h : Cs6 w b o v) (hk : w1.heap[b]? = w.heap[b]?) : Cs6 w1 b o v :=
  ⟨(World.cell?_of_block (a := ⟨b, o, none⟩) hk).trans h.c0, (World.cell?_of_block (a := ⟨b, o + 1, none⟩) hk).trans h.c1, (World.cell?_of_block (a := ⟨b, o + 2, none⟩) hk).trans h.c2, (World.cell?_of_block (a := ⟨b, o + 3, none⟩) hk).trans h.c3, (World.cell?_of_block (a := ⟨b, o + 4, none⟩) hk).trans h.c4, (World.cell?_of_block (a := ⟨b, o + 5, none⟩) hk).trans h.c5⟩
def vals6 (v : Row0.NumV) : List Value := [.int .i64 v.c, .int .i64 v.d, .int .i64 v.t, .int .i64 v.p, .int .i64 v.k, .slice v.ua v.ul v.uc]
structure RdN (w : World) (A : Option Addr) (n : Nat) (q : List Row0.NumV) : Prop where
  ln : q.length = n
  ad : 0 < n → ∃ b o, A = some ⟨b, o, none⟩ ∧ ∀ j, j < n → Cs6 w b (o + j * 6) (q.getD j default)
  rd : ∀ v ∈ q, Row0.IsRow .i64 w v.ua v.ul v.uc v.uz
theorem isRow_below {w w1 : World} {a : Option Addr} {len cap : Nat} {zs : List Int} (h : Row0.IsRow .i64 w a len cap zs) {B : Nat} (hb : Below B w w1) (hB : w.heap.size ≤ B) : Row0.IsRow .i64 w1 a len cap zs := by
  rcases h with h | ⟨x, h1, h2, h3, h4, h5, h6⟩
  · exact .inl h
  · refine .inr ⟨x, h1, h2, h3, h4, fun i hi => ?_, h6⟩
    have hc := h5 i hi
    have hl := World.block_lt_of_cell? w _ hc
    exact (World.cell?_of_block (a := x.add i) (hb.block _ (Nat.lt_of_lt_of_le hl hB))).trans hc
theorem RdN.below {w w1 : World} {A : Option Addr} {n : Nat} {q : List Row0.NumV} (h : RdN w A n q) {B : Nat} (hb : Below B w w1) (hB : w.heap.size ≤ B) : RdN w1 A n q :=
  ⟨h.ln, fun hn => by
    obtain ⟨b, o, e, hc⟩ := h.ad hn
    have hl : b < w.heap.size := World.block_lt_of_cell? w _ (hc 0 hn).c0
    exact ⟨b, o, e, fun j hj => (hc j hj).block (hb.block b (Nat.lt_of_lt_of_le hl hB))⟩, fun r hr => isRow_below (h.rd r hr) hb hB⟩
theorem nums_rdN {w : World} {a : Option Addr} {len cap : Nat} {q : List Row0.NumV} (h : Row0.IsNums w a len cap q) : RdN w a len q := by
  refine ⟨h.ln, fun hn => ?_, fun v hv => ?_⟩
  · obtain ⟨b, o, rfl⟩ := h.ad hn
    refine ⟨b, o, rfl, fun j hj => ?_⟩
    have hx := h.at_ _ rfl j hj
    rw [Row0.plain_add'] at hx
    have g1 := hx.d
    have g2 := hx.t
    have g3 := hx.p
    have g4 := hx.k
    have g5 := hx.u
    rw [Row0.plain_add'] at g1 g2 g3 g4 g5
    exact ⟨hx.c, g1, g2, g3, g4, g5⟩
  · obtain ⟨j, hj, rfl⟩ := List.getElem_of_mem hv
    obtain ⟨b, o, e⟩ := h.ad (by have := h.ln; omega)
    have hx := h.at_ _ e j (by rw [← h.ln]; exact hj)
    rw [List.getD_eq_getElem?_getD, List.getElem?_eq_getElem hj] at hx
    exact hx.row
theorem RdN.getRow {w : World} {A : Option Addr} {n : Nat} {q : List Row0.NumV} (h : RdN w A n q) {j : Nat} (hj : j < n) : Row0.IsRow .i64 w (q.getD j default).ua (q.getD j default).ul (q.getD j default).uc (q.getD j default).uz := by
  have : j < q.length := by rw [h.ln]; exact hj
  rw [List.getD_eq_getElem?_getD, List.getElem?_eq_getElem this]
  exact h.rd _ (List.getElem_mem _)
def flat6 (q : List Row0.NumV) : List Value := q.flatMap vals6
theorem flat6_snoc (q : List Row0.NumV) (r : Row0.NumV) : flat6 (q ++ [r]) = flat6 q ++ vals6 r := by simp [flat6]
theorem flat6_length (q : List Row0.NumV) : (flat6 q).length = q.length * 6 := by
  induction q with
  | nil => rfl
  | cons p q ih =>
    have e : flat6 (p :: q) = vals6 p ++ flat6 q := by simp [flat6]
    rw [e, List.length_append, ih, List.length_cons]
    show 6 + _ = _
    omega
theorem flat6_get (q : List Row0.NumV) : ∀ j, j < q.length → ∀ k, k < 6 → (flat6 q)[j * 6 + k]? = (vals6 (q.getD j default))[k]? := by
  induction q with
  | nil => intro j hj; simp at hj
  | cons p q ih =>
    intro j hj k hk
    have e : flat6 (p :: q) = vals6 p ++ flat6 q := by simp [flat6]
    have l6 : (vals6 p).length = 6 := rfl
    rw [e]
    cases j with
    | zero =>
      rw [List.getElem?_append_left (by omega)]
      simp
    | succ j =>
      rw [List.getElem?_append_right (by omega), l6, show (j + 1) * 6 + k - 6 = j * 6 + k by omega, ih j (by simpa using hj) k hk]
      simp
theorem own_rdN {w : World} {base n : Nat} {v : Value} {q : List Row0.NumV} {t : TypeId} (h : w.ownsRow base t 6 v n (flat6 q)) (hr : ∀ v ∈ q, Row0.IsRow .i64 w v.ua v.ul v.uc v.uz) :
    ∃ A c, v = .slice A n c ∧ RdN w A n q ∧ n ≤ c ∧ c ≤ 9223372036854775807 := by
  have hl : q.length = n := by have := h.1; rw [flat6_length] at this; omega
  rcases h.2 with ⟨rfl, rfl⟩ | ⟨g, cap, cur, rfl, hb, hh, hnc, hm, _⟩
  · exact ⟨none, 0, rfl, ⟨hl, fun h => absurd h (by decide), hr⟩, Nat.le_refl _, by decide⟩
  · refine ⟨_, cap, rfl, ⟨hl, fun _ => ⟨g, 0, rfl, fun j hj => ?_⟩, hr⟩, hnc, by unfold maxLen at hm; omega⟩
    have hc : ∀ k, k < 6 → w.cell? ⟨g, 0 + j * 6 + k, none⟩ = (vals6 (q.getD j default))[k]? := fun k hk => by
      have c1 := h.cellAt (j * 6 + k) (by omega)
      rw [flat6_get q j (by omega) k hk] at c1
      rw [show 0 + j * 6 + k = j * 6 + k by omega]
      exact c1
    exact ⟨hc 0 (by decide), hc 1 (by decide), hc 2 (by decide), hc 3 (by decide), hc 4 (by decide), hc 5 (by decide)⟩

/-- A system, as it is made by numbers: so many sets, a reload, its tasks. -/
structure SysOk (w : World) (B : Nat) (S : Nat) (R : Int) (A : Option Addr) (n c : Nat) (q : List RT) : Prop where
  s1 : 1 ≤ S
  s8 : S ≤ 8
  r0 : 0 ≤ R
  r3 : R ≤ 3
  n1 : 1 ≤ n
  n6 : n ≤ 6
  nc : n ≤ c
  cm : c ≤ 9223372036854775807
  rd : RdT w A n q
  ok : ∀ i, i < n → TOk i (S : Int) (q.getD i default).x
  fr : ∀ a, A = some a → B ≤ a.block ∧ a.block < w.heap.size
  fq : ∀ r ∈ q, ∀ a, r.ca = some a ∨ r.ua = some a → B ≤ a.block ∧ a.block < w.heap.size
theorem SysOk.below {w w1 : World} {B S : Nat} {R : Int} {A : Option Addr} {n c : Nat} {q : List RT} (h : SysOk w B S R A n c q) {B' : Nat} (hb : Below B' w w1) (hB : w.heap.size ≤ B') : SysOk w1 B S R A n c q :=
  { h with rd := h.rd.below hb hB, fr := fun a e => ⟨(h.fr a e).1, Nat.lt_of_lt_of_le (h.fr a e).2 hb.size⟩, fq := fun r hr a e => ⟨(h.fq r hr a e).1, Nat.lt_of_lt_of_le (h.fq r hr a e).2 hb.size⟩ }
theorem SysOk.base {w : World} {B B2 S : Nat} {R : Int} {A : Option Addr} {n c : Nat} {q : List RT} (h : SysOk w B S R A n c q) (hB : B2 ≤ B) : SysOk w B2 S R A n c q :=
  { h with fr := fun a e => ⟨Nat.le_trans hB (h.fr a e).1, (h.fr a e).2⟩, fq := fun r hr a e => ⟨Nat.le_trans hB (h.fq r hr a e).1, (h.fq r hr a e).2⟩ }
/-- It is kept where its blocks are. -/
theorem SysOk.kept {w w1 : World} {B S : Nat} {R : Int} {A : Option Addr} {n c : Nat} {q : List RT} (h : SysOk w B S R A n c q) (hs : w.heap.size ≤ w1.heap.size) (hk : ∀ j, B ≤ j → j < w.heap.size → w1.heap[j]? = w.heap[j]?) : SysOk w1 B S R A n c q :=
  { h with
    rd := ⟨h.rd.ln, fun hn => by
      obtain ⟨b, o, e, hc⟩ := h.rd.ad hn
      obtain ⟨h1, h2⟩ := h.fr _ e
      exact ⟨b, o, e, fun j hj => (hc j hj).block (hk b h1 h2)⟩, fun r hr => (h.rd.rd r hr).kept fun a ha => hk _ (h.fq r hr a ha).1 (h.fq r hr a ha).2⟩,
    fr := fun a e => ⟨(h.fr a e).1, Nat.lt_of_lt_of_le (h.fr a e).2 hs⟩, fq := fun r hr a e => ⟨(h.fq r hr a e).1, Nat.lt_of_lt_of_le (h.fq r hr a e).2 hs⟩ }
end Go.Proofs.Ytaofldlidifdcaa.Sys

/-
  Systems by numbers: the reference's Made.
-/
namespace Go.Proofs.Ytaofldlidifdcaa.Sys
open Go.RowKit Go.Proofs.Ytaofldlidifdcaa.Box

theorem infoT : (Try.prog.info? 33).map (fun i => (i.zero, i.size, i.bytes)) = some (some (.agg #[.int .i64 0, .int .i64 0, .int .i64 0, .int .i64 0, .int .i64 0, .slice none 0 0, .slice none 0 0]), 7, 88) := by kernel_rfl
/-- A task of its place. -/
theorem task_at (v : Row0.NumV) (i : Nat) (hi : i < 6) (S : Nat) (h1 : 1 ≤ S) (h2 : S ≤ 8) (w : World) (hr : Row0.IsRow .i64 w v.ua v.ul v.uc v.uz) :
    Calls Try.prog 42 #[numV v, .int .i64 (i : Int), .int .i64 (S : Int)] w fun e w' => ∃ r : RT, e = .returned r.val ∧ r.Rd w' ∧ TOk i (S : Int) r.x ∧ (∀ a, r.ca = some a ∨ r.ua = some a → w.heap.size ≤ a.block ∧ a.block < w'.heap.size) ∧ Below w.heap.size w w' :=
  (task_any v i hi S h1 h2 w hr).mono fun e w' ⟨u, x, he, ⟨ok, ca, cl, cc, ua, ul, uc, hu, r1, r2, f1, f2, a1, a2, a3, a4, a5, a6⟩, hb⟩ =>
    ⟨⟨x, ca, cl, cc, ua, ul, uc⟩, by rw [he, hu]; rfl, ⟨⟨r1, a1, a2, a5⟩, r2, a3, a4, a6⟩, ok, fun a h => h.elim (f1 a) (f2 a), hb⟩
/-- What holds of the tasks that were made so far. -/
structure MI (B : Nat) (S : Nat) (w wr : World) (kk : Nat) (tv : Value) (ts : List RT) : Prop where
  rd : ∀ r ∈ ts, r.Rd wr
  ok : ∀ i, i < kk → TOk i (S : Int) (ts.getD i default).x
  own : wr.ownsRow B 33 7 tv kk (flat7 ts)
  fr : ∀ r ∈ ts, ∀ a, r.ca = some a ∨ r.ua = some a → tv.ownBlock ≠ some a.block ∧ B ≤ a.block ∧ a.block < wr.heap.size
  sz : B ≤ wr.heap.size
  ln : ts.length = kk
theorem MI.next {B S kk : Nat} {w wr w1 w4 : World} {tv v' : Value} {ts : List RT} {r : RT} {o : Obj} (h : MI B S w wr kk tv ts) (hb : Below wr.heap.size wr w1) (hr1 : r.Rd w1) (hr2 : TOk kk (S : Int) r.x)
    (hf : ∀ a, r.ca = some a ∨ r.ua = some a → wr.heap.size ≤ a.block ∧ a.block < w1.heap.size) (hown : w4.ownsRow B 33 7 v' (kk + 1) (flat7 ts ++ r.vals.toList)) (hg : (w1.alloc o).grownBy w4 tv.ownBlock)
    (hat : v'.ownBlock = tv.ownBlock ∨ v'.ownBlock = some (w1.alloc o).heap.size) (p k : Nat) (hp : p < B) (x : Value) : MI B S w (w4.setCell ⟨p, k, none⟩ x) (kk + 1) v' (ts ++ [r]) := by
  have hs1 := hb.size
  have hs2 := hg.size
  have hs3 : (w1.alloc o).heap.size = w1.heap.size + 1 := by simp
  have hol := fun j (e : tv.ownBlock = some j) => h.own.lt j e
  have hsz := h.sz
  have hold : ∀ r' ∈ ts, ∀ a, r'.ca = some a ∨ r'.ua = some a → (w4.setCell ⟨p, k, none⟩ x).heap[a.block]? = wr.heap[a.block]? := fun r' hr' a ha => by
    obtain ⟨f1, f2, f3⟩ := h.fr r' hr' a ha
    exact (bx_other _ _ _ _ (by omega) _).trans ((hg.block _ (by omega) (fun e => f1 e.symm)).trans ((Below.heap_alloc _ _ _ (by omega)).trans (hb.block _ f3)))
  have hnew : ∀ a, r.ca = some a ∨ r.ua = some a → (w4.setCell ⟨p, k, none⟩ x).heap[a.block]? = w1.heap[a.block]? := fun a ha => by
    obtain ⟨f1, f2⟩ := hf a ha
    exact (bx_other _ _ _ _ (by omega) _).trans ((hg.block _ (by omega) (fun e => by have := hol _ e.symm; omega)).trans (Below.heap_alloc _ _ _ (by omega)))
  have hsz4 : (w4.setCell ⟨p, k, none⟩ x).heap.size = w4.heap.size := by simp [World.setCell]
  refine ⟨fun r' hr' => ?_, fun i hi => ?_, own_set (by rw [flat7_snoc]; exact hown) hp _ _, fun r' hr' a ha => ?_, by omega, by rw [List.length_append, h.ln]; rfl⟩
  · rcases List.mem_append.1 hr' with h1 | h1
    · exact (h.rd r' h1).kept (hold r' h1)
    · simp at h1; subst h1; exact hr1.kept hnew
  · rw [rt_getD_snoc _ _ _ (by rw [h.ln]; omega), h.ln]
    by_cases hk : i < kk
    · rw [if_pos hk]; exact h.ok i hk
    · rw [if_neg hk]
      obtain rfl : i = kk := by omega
      exact hr2
  · rcases List.mem_append.1 hr' with h1 | h1
    · obtain ⟨f1, f2, f3⟩ := h.fr r' h1 a ha
      refine ⟨fun e => ?_, f2, by omega⟩
      rcases hat with h2 | h2
      · exact f1 (h2.symm.trans e)
      · rw [h2] at e; injection e with e; omega
    · simp at h1; subst h1
      obtain ⟨f1, f2⟩ := hf a ha
      refine ⟨fun e => ?_, by omega, by omega⟩
      rcases hat with h2 | h2
      · have := hol _ (h2.symm.trans e); omega
      · rw [h2] at e; injection e with e; omega
def MadeP (w : World) (e : Ending) (w' : World) : Prop := ∃ (S : Nat) (R : Int) (A : Option Addr) (n c : Nat) (q : List RT), e = .returned (.agg #[.int .i64 (S : Int), .int .i64 R, .slice A n c]) ∧ SysOk w' w.heap.size S R A n c q ∧ Below w.heap.size w w'
theorem bx_threeI {w : World} {b : Nat} {x y z : Value} {t : TypeId} (h : w.heap[b]? = some (.cells #[x, y, z] t (0, 0))) (v : Value) : (w.setCell ⟨b, 2, none⟩ v).heap[b]? = some (.cells #[x, y, v] t (0, 0)) := by
  have h1 := Lib.heap_setCell_same (i := 2) h v
  rw [h1]
  simp
def put3 (w : World) (b : Nat) (x y z : Value) : World := ((w.setCell ⟨b, 0, none⟩ x).setCell ⟨b, 1, none⟩ y).setCell ⟨b, 2, none⟩ z
theorem put3_other (w : World) (b j : Nat) (hj : j ≠ b) (x y z : Value) : (put3 w b x y z).heap[j]? = w.heap[j]? := (bx_other _ _ _ _ hj _).trans ((bx_other _ _ _ _ hj _).trans (bx_other _ _ _ _ hj _))
theorem put3_below {B : Nat} {w w' : World} (h : Below B w w') (b : Nat) (hb : B ≤ b) (x y z : Value) : Below B w (put3 w' b x y z) := bx_below (bx_below (bx_below h _ hb _ _) _ hb _ _) _ hb _ _
theorem put3_size (w : World) (b : Nat) (x y z : Value) : (put3 w b x y z).heap.size = w.heap.size := by simp [put3, World.setCell]
set_option maxHeartbeats 8000000 in
set_option maxRecDepth 100000 in
theorem rmade_any (a b : Int) (x : Option Addr) (len cap : Nat) (q : List Row0.NumV) (w : World) (h : RdN w x len q) (hlc : len ≤ cap) (hcm : cap ≤ 9223372036854775807) :
    Calls Try.prog 20 #[.agg #[.int .i64 a, .int .i64 b, .slice x len cap]] w (MadeP w) := by
  obtain ⟨i0, hi0, hz0, hz1, hz2⟩ := info_parts' infoT
  have HN := Lib.hid h
  clear h
  have hd0 := Int.emod_nonneg a (show (8 : Int) ≠ 0 by omega)
  have hd1 := Int.emod_lt_of_pos a (show (0 : Int) < 8 by omega)
  obtain ⟨S, hS, S1, S2⟩ : ∃ S : Nat, 1 + a % 8 = (S : Int) ∧ 1 ≤ S ∧ S ≤ 8 := ⟨(1 + a % 8).toNat, by omega, by omega, by omega⟩
  have hwS : IntKind.i64.wrap (S : Int) = (S : Int) := by rw [IntKind.wrap_i64]; omega
  have hb0 := Int.emod_nonneg b (show (4 : Int) ≠ 0 by omega)
  have hb1 := Int.emod_lt_of_pos b (show (0 : Int) < 4 by omega)
  have eb := Row0.and_i64 b 2 (by decide) 3 rfl
  obtain ⟨R, hR, R0, R3⟩ : ∃ R, Go.bits .and .i64 b 3 = R ∧ 0 ≤ R ∧ R ≤ 3 := ⟨_, eb, hb0, by omega⟩
  clear hd0 hd1 hb0 hb1 eb
  have c1 := fun w => rest_any a 8 (by omega) (by omega) w
  go_enter Try.func20, Try.ntmps20
  go_wp2_with fail
  go_region_held3 (fun w' => w'.cell? ⟨w.heap.size, 0, none⟩ = some (.int .i64 a) ∧ w'.cell? ⟨w.heap.size, 1, none⟩ = some (.int .i64 b)) (go_keep)
    (first | (go_at_call 41; refine (c1 _).mono ?_; rintro e w' ⟨rfl, rfl⟩))
  all_goals
    obtain ⟨W4, hW4⟩ : ∃ W4, (((w.alloc (.cells #[.int .i64 a, .int .i64 b, .slice x len cap] 61)).alloc (.cells #[.int .i64 0, .int .i64 0, .slice none 0 0] 28)).alloc (.cells #[.int .i64 (S : Int), .int .i64 R, .slice none 0 0] 28)).drew = W4 := ⟨_, rfl⟩
    rw [hW4]
    have hB4 : Hid (Below w.heap.size w W4) := by rw [← hW4]; exact ((((Below.refl _ w).alloc (Nat.le_refl _) _).alloc (by simp) _).alloc (by simp; omega) _).drew
    have hN4 : Hid (W4.heap[w.heap.size]? = some (.cells #[.int .i64 a, .int .i64 b, .slice x len cap] 61 (0, 0))) := by
      rw [← hW4]; exact (Below.heap_alloc _ _ _ (by simp; omega)).trans ((Below.heap_alloc _ _ _ (by simp)).trans (bx_new _ _ _))
    have hZ4 : Hid (W4.heap[w.heap.size + 1]? = some (.cells #[.int .i64 0, .int .i64 0, .slice none 0 0] 28 (0, 0))) := by
      rw [← hW4]; exact (Below.heap_alloc _ _ _ (by simp)).trans (heap_at _ _ _ (by simp))
    have hX4 : Hid (W4.heap[w.heap.size + 1 + 1]? = some (.cells #[.int .i64 (S : Int), .int .i64 R, .slice none 0 0] 28 (0, 0))) := by
      rw [← hW4]; exact heap_at _ _ _ (by simp)
    have hs4 : W4.heap.size = w.heap.size + 3 := by rw [← hW4]; simp
    clear hW4 c1 hS hR hwS
    go_wp2_with fail
    go_loopg [4] (min len 6) (fun gg kv wr => ∃ (kk : Nat) (tv : Value) (ts : List RT), kk ≤ min len 6 ∧ min len 6 - kk ≤ gg ∧ kv = .int .i64 (kk : Int) ∧
      Aside (MI (w.heap.size + 3) S w wr kk tv ts) ∧
      Aside (wr.heap[w.heap.size + 1 + 1]? = some (.cells #[.int .i64 (S : Int), .int .i64 R, tv] 28 (0, 0))) ∧
      Aside (wr.heap[w.heap.size]? = some (.cells #[.int .i64 a, .int .i64 b, .slice x len cap] 61 (0, 0))) ∧
      Aside (wr.heap[w.heap.size + 1]? = some (.cells #[.int .i64 0, .int .i64 0, .slice none 0 0] 28 (0, 0))) ∧ Aside (Below w.heap.size w wr))
    case atStart => exact ⟨0, .slice none 0 0, [], Nat.zero_le _, by omega, rfl, ⟨(fun x h => by cases h), (fun i h => absurd h (Nat.not_lt_zero _)), World.ownsRow_nil _ _ _ _, (fun x h => by cases h), by omega, rfl⟩, hX4.out, hN4.out, hZ4.out, hB4.out⟩
    case round =>
      obtain ⟨kk, tv, ts, g1, g2, rfl, hMI, hX, hN, hZ, BW⟩ := hrel
      clear hX4 hN4 hZ4 hB4 hs4
      by_cases hlt : kk < min len 6
      · have kz1 : (kk : Int) < (len : Int) := by omega
        have kz2 : (kk : Int) < 6 := by omega
        have kz0 : (0 : Int) ≤ (kk : Int) := by omega
        obtain ⟨n0, n1, n2⟩ := bx_three hN.out
        obtain ⟨x0, x1, x2⟩ := bx_three hX.out
        have HNW := HN.out.below BW.out (Nat.le_refl _)
        obtain ⟨nb, no, rfl, hcs⟩ := HNW.ad (by omega)
        obtain ⟨m0, m1, m2, m3, m4, m5⟩ := hcs kk (by omega)
        have hrow := HNW.getRow (j := kk) (by omega)
        clear hcs HNW
        generalize q.getD kk default = v at *
        have hcall := fun w2 h => task_at v kk (by omega) S S1 S2 w2 h
        unfold numV RT.val RT.vals taskCells at hcall
        have hrowd : Row0.IsRow .i64 wr.drew v.ua v.ul v.uc v.uz := hrow
        have hsz' := hMI.out.sz
        have hLR : Lo (w.heap.size + 3) wr wr := Lo.refl hsz'
        have hnb : nb < w.heap.size := World.block_lt_of_cell? w _ ((HN.out.ad (by omega)).elim fun b h => by obtain ⟨o, e, hc⟩ := h; cases e; exact (hc kk (by omega)).c0)
        have hkeep : ∀ w', Lo (w.heap.size + 3) wr w' → w'.cell? ⟨w.heap.size, 2, none⟩ = some (.slice (some ⟨nb, no, none⟩) len cap) ∧ w'.cell? ⟨w.heap.size + 1 + 1, 0, none⟩ = some (.int .i64 (S : Int)) ∧ w'.cell? ⟨nb, no + kk * 6, none⟩ = some (.int .i64 v.c) ∧ w'.cell? ⟨nb, no + kk * 6 + 1, none⟩ = some (.int .i64 v.d) ∧ w'.cell? ⟨nb, no + kk * 6 + 2, none⟩ = some (.int .i64 v.t) ∧ w'.cell? ⟨nb, no + kk * 6 + 3, none⟩ = some (.int .i64 v.p) ∧ w'.cell? ⟨nb, no + kk * 6 + 4, none⟩ = some (.int .i64 v.k) ∧ w'.cell? ⟨nb, no + kk * 6 + 5, none⟩ = some (.slice v.ua v.ul v.uc) :=
          fun w' h => ⟨h.cell (by simp) n2, h.cell (by simp) x0, h.cell (by simp; omega) m0, h.cell (by simp; omega) m1, h.cell (by simp; omega) m2, h.cell (by simp; omega) m3, h.cell (by simp; omega) m4, h.cell (by simp; omega) m5⟩
        have hob : ∀ j, tv.ownBlock = some j → w.heap.size + 3 ≤ j := fun j e => (hMI.out.own.lt j e).1
        have hOb : ∀ w1 : World, Below wr.heap.size wr w1 → ∀ o, Hid ((w1.alloc o).ownsRow (w.heap.size + 3) 33 7 tv kk (flat7 ts)) := fun w1 hb o => own_belowS hMI.out.own (hb.alloc hb.size o)
        have hbk : ∀ w1 : World, Below wr.heap.size wr w1 → ∀ o w4, (w1.alloc o).grownBy w4 tv.ownBlock → ∀ j, j < w.heap.size + 3 → w4.heap[j]? = wr.heap[j]? := fun w1 hb o w4 hg j hj => (hg.block j (by have := hb.size; simp; omega) (fun e => by have := hob j e.symm; omega)).trans ((Below.heap_alloc _ _ _ (by have := hb.size; omega)).trans (hb.block j (by omega)))
        have hXk : ∀ w1 : World, Below wr.heap.size wr w1 → ∀ o w4, (w1.alloc o).grownBy w4 tv.ownBlock → w4.heap[w.heap.size + 1 + 1]? = some (.cells #[.int .i64 (S : Int), .int .i64 R, tv] 28 (0, 0)) := fun w1 hb o w4 hg => (hbk w1 hb o w4 hg _ (by omega)).trans hX.out
        have hLk : ∀ w1 : World, Below wr.heap.size wr w1 → ∀ o w4, (w1.alloc o).grownBy w4 tv.ownBlock → Lo (w.heap.size + 3) wr w4 := fun w1 hb o w4 hg => ⟨by have h1 := hb.size; have h2 := hg.size; simp at h2; omega, fun j hj => hbk w1 hb o w4 hg j hj⟩
        have hkeep2 : ∀ w4 v', Lo (w.heap.size + 3) wr w4 → w4.heap[w.heap.size + 1 + 1]? = some (.cells #[.int .i64 (S : Int), .int .i64 R, tv] 28 (0, 0)) → (w4.setCell ⟨w.heap.size + 1 + 1, 2, none⟩ v').cell? ⟨w.heap.size, 2, none⟩ = some (.slice (some ⟨nb, no, none⟩) len cap) ∧ (w4.setCell ⟨w.heap.size + 1 + 1, 2, none⟩ v').cell? ⟨w.heap.size + 1 + 1, 0, none⟩ = some (.int .i64 (S : Int)) ∧ (w4.setCell ⟨w.heap.size + 1 + 1, 2, none⟩ v').cell? ⟨nb, no + kk * 6, none⟩ = some (.int .i64 v.c) ∧ (w4.setCell ⟨w.heap.size + 1 + 1, 2, none⟩ v').cell? ⟨nb, no + kk * 6 + 1, none⟩ = some (.int .i64 v.d) ∧ (w4.setCell ⟨w.heap.size + 1 + 1, 2, none⟩ v').cell? ⟨nb, no + kk * 6 + 2, none⟩ = some (.int .i64 v.t) ∧ (w4.setCell ⟨w.heap.size + 1 + 1, 2, none⟩ v').cell? ⟨nb, no + kk * 6 + 3, none⟩ = some (.int .i64 v.p) ∧ (w4.setCell ⟨w.heap.size + 1 + 1, 2, none⟩ v').cell? ⟨nb, no + kk * 6 + 4, none⟩ = some (.int .i64 v.k) ∧ (w4.setCell ⟨w.heap.size + 1 + 1, 2, none⟩ v').cell? ⟨nb, no + kk * 6 + 5, none⟩ = some (.slice v.ua v.ul v.uc) :=
          fun w4 v' hl hx => by
            obtain ⟨k1, k2, k3, k4, k5, k6, k7, k8⟩ := hkeep w4 hl
            have hz : ∀ (b o : Nat), b ≠ w.heap.size + 1 + 1 → (w4.setCell ⟨w.heap.size + 1 + 1, 2, none⟩ v').cell? ⟨b, o, none⟩ = w4.cell? ⟨b, o, none⟩ := fun b o hb => World.cell?_of_block (a := ⟨b, o, none⟩) (bx_other _ _ _ _ hb _)
            exact ⟨(hz _ _ (by omega)).trans k1, (bx_three (bx_threeI hx v')).1, (hz _ _ (by omega)).trans k3, (hz _ _ (by omega)).trans k4, (hz _ _ (by omega)).trans k5, (hz _ _ (by omega)).trans k6, (hz _ _ (by omega)).trans k7, (hz _ _ (by omega)).trans k8⟩
        clear n0 n1 x1
        go_wp2_with fail
        go_region_law
          (first
            | (refine Row0.step_append_at (by rfl) (.tmp 25) (.tmp 35) 26 (by rfl) (w.heap.size + 3) 33 i0 (.agg #[.int .i64 0, .int .i64 0, .int .i64 0, .int .i64 0, .int .i64 0, .slice none 0 0, .slice none 0 0]) 7 88 Try.underlying26 hi0 hz0 hz1 hz2 rfl (by decide) _ kk _ (by rfl) (hd1 _).out ⟨w1.heap.size, 0, none⟩ 1 1 [.int .i64 r.x.id, .int .i64 r.x.c, .int .i64 r.x.d, .int .i64 r.x.t, .int .i64 r.x.prio, .slice r.ca r.cl r.cc, .slice r.ua r.ul r.uc] (by rfl) rfl (cells_newp w1 #[.int .i64 r.x.id, .int .i64 r.x.c, .int .i64 r.x.d, .int .i64 r.x.t, .int .i64 r.x.prio, .slice r.ca r.cl r.cc, .slice r.ua r.ul r.uc] _) (vals_one r) (by unfold maxLen; omega) (by omega) (Nat.le_trans hz8 (size_a _ _)) ?_; intro v' w4 hown' hgrow hat0; have hat := Lib.hid hat0; clear hat0; obtain ⟨A', c', rfl⟩ := own_form hown'; have hL4 := hLk _ hb1' _ _ hgrow; have hX4 := hXk _ hb1' _ _ hgrow; have z2 := (bx_three hX4).2.2; have f2 := bx_free hX4 2)
            | (go_simp; go_at_call 42; (first | with_reducible refine (hcall wr.drew hrowd).mono ?_ | with_reducible refine (hcall wr hrow).mono ?_); rintro e w1 ⟨r, rfl, hr1, hr2, hr3, hb1⟩; have hb1' := below_undrew hb1; have hL1 := hLR.below hb1' hsz'; have hd1 := hOb w1 hb1'; have hz8 := hL1.size; have x2' : w1.cell? ⟨w.heap.size + 1 + 1, 2, none⟩ = some tv := (hb1'.cell (p := ⟨w.heap.size + 1 + 1, 2, none⟩) (World.block_lt_of_cell? _ _ x2)).trans x2; have x2'' : ∀ o, (w1.alloc o).cell? ⟨w.heap.size + 1 + 1, 2, none⟩ = some tv := fun o => ((hb1'.alloc hb1'.size o).cell (p := ⟨w.heap.size + 1 + 1, 2, none⟩) (World.block_lt_of_cell? _ _ x2)).trans x2))
        all_goals
          have hM4 : Hid (MI (w.heap.size + 3) S w (w4.setCell ⟨w.heap.size + 1 + 1, 2, none⟩ (.slice A' (kk + 1) c')) (kk + 1) (.slice A' (kk + 1) c') (ts ++ [r])) := hMI.out.next hb1' hr1 hr2 hr3 hown' hgrow hat.out _ _ (by omega) _
          have hX5 : Hid ((w4.setCell ⟨w.heap.size + 1 + 1, 2, none⟩ (.slice A' (kk + 1) c')).heap[w.heap.size + 1 + 1]? = some (.cells #[.int .i64 (S : Int), .int .i64 R, .slice A' (kk + 1) c'] 28 (0, 0))) := bx_threeI hX4 _
          have hN5 : Hid ((w4.setCell ⟨w.heap.size + 1 + 1, 2, none⟩ (.slice A' (kk + 1) c')).heap[w.heap.size]? = some (.cells #[.int .i64 a, .int .i64 b, .slice (some ⟨nb, no, none⟩) len cap] 61 (0, 0))) := (bx_other _ _ _ _ (by omega) _).trans ((hL4.block _ (by omega)).trans hN.out)
          have hZ5 : Hid ((w4.setCell ⟨w.heap.size + 1 + 1, 2, none⟩ (.slice A' (kk + 1) c')).heap[w.heap.size + 1]? = some (.cells #[.int .i64 0, .int .i64 0, .slice none 0 0] 28 (0, 0))) := (bx_other _ _ _ _ (by omega) _).trans ((hL4.block _ (by omega)).trans hZ.out)
          have hB5 : Hid (Below w.heap.size w (w4.setCell ⟨w.heap.size + 1 + 1, 2, none⟩ (.slice A' (kk + 1) c'))) := bx_below ((((BW.out.trans (hb1'.mono BW.out.size)).alloc (Nat.le_trans BW.out.size hb1'.size) _)).grown hgrow (by have := BW.out.size; have := hb1'.size; simp; omega) (fun j e => by have := hob j e; omega)) _ (by omega) _ _
          clear hkeep hkeep2 hbk hXk hLk hcall hrow hrowd hLR hd1 x2' x2'' hOb hob hown' hgrow hat z2 f2 hX4 hL4 hL1 hb1 hb1' hr1 hr2 hr3 hMI hX hN hZ BW hz8 hsz' hnb x0 x2 n2 m0 m1 m2 m3 m4 m5
          go_wp2
          go_roundg (min len 6 - (kk + 1))
          case measure => omega
          case rel => exact ⟨kk + 1, _, _, by omega, by omega, by go_num, hM4.out, hX5.out, hN5.out, hZ5.out, hB5.out⟩
      · have HI : Hid (kk = min len 6) := by rw [RowKit.Hid]; omega
        obtain ⟨A, c, rfl, hrt, h1c, h2c, hfr, _⟩ := own_rdT hMI.out.own hMI.out.rd
        have hsz := hMI.out.sz
        obtain ⟨n0, n1, n2⟩ := bx_three hN.out
        obtain ⟨x0, x1, x2⟩ := bx_three hX.out
        obtain ⟨z0, z1, z2⟩ := bx_three hZ.out
        have f0 := bx_free hZ.out 0
        have f1 := bx_free hZ.out 1
        have f2 := bx_free hZ.out 2
        by_cases hk0 : kk = 0
        · subst hk0
          obtain rfl : len = 0 := by have := HI.out; omega
          have g2 := bx_free hX.out 2
          have hp1 : w.heap.size + 1 + 1 < wr.heap.size := by omega
          have hX6 : ((wr.setCell ⟨w.heap.size + 1 + 1, 2, none⟩ (.slice (some ⟨wr.heap.size, 0, none⟩) 1 1)).alloc (.cells #[.int .i64 1, .int .i64 1, .int .i64 4, .int .i64 4, .int .i64 10, .slice none 0 0, .slice none 0 0] 33)).heap[w.heap.size + 1 + 1]? = some (.cells #[.int .i64 (S : Int), .int .i64 R, (.slice (some ⟨wr.heap.size, 0, none⟩) 1 1)] 28 (0, 0)) := (Below.heap_alloc _ _ _ (by simp [World.setCell]; omega)).trans (bx_threeI hX.out _)
          have hZ6 : ((wr.setCell ⟨w.heap.size + 1 + 1, 2, none⟩ (.slice (some ⟨wr.heap.size, 0, none⟩) 1 1)).alloc (.cells #[.int .i64 1, .int .i64 1, .int .i64 4, .int .i64 4, .int .i64 10, .slice none 0 0, .slice none 0 0] 33)).heap[w.heap.size + 1]? = some (.cells #[.int .i64 0, .int .i64 0, .slice none 0 0] 28 (0, 0)) := (Below.heap_alloc _ _ _ (by simp [World.setCell]; omega)).trans ((bx_other _ _ _ _ (by omega) _).trans hZ.out)
          have hR6 : ((wr.setCell ⟨w.heap.size + 1 + 1, 2, none⟩ (.slice (some ⟨wr.heap.size, 0, none⟩) 1 1)).alloc (.cells #[.int .i64 1, .int .i64 1, .int .i64 4, .int .i64 4, .int .i64 10, .slice none 0 0, .slice none 0 0] 33)).heap[wr.heap.size]? = some (.cells #[.int .i64 1, .int .i64 1, .int .i64 4, .int .i64 4, .int .i64 10, .slice none 0 0, .slice none 0 0] 33) := heap_at _ _ _ (by simp [World.setCell])
          obtain ⟨i0', i1', i2'⟩ := bx_three hX6
          obtain ⟨j0', j1', j2'⟩ := bx_three hZ6
          have k0' := bx_free hZ6 0
          have k1' := bx_free hZ6 1
          have k2' := bx_free hZ6 2
          have Q9 := Lib.hid (bx_three (bx_set3 hZ6 (.int .i64 (S : Int)) (.int .i64 R) (.slice (some ⟨wr.heap.size, 0, none⟩) 1 1)))
          have HF : Hid (MadeP w (.returned (.agg #[.int .i64 (S : Int), .int .i64 R, (.slice (some ⟨wr.heap.size, 0, none⟩) 1 1)])) (put3 ((wr.setCell ⟨w.heap.size + 1 + 1, 2, none⟩ (.slice (some ⟨wr.heap.size, 0, none⟩) 1 1)).alloc (.cells #[.int .i64 1, .int .i64 1, .int .i64 4, .int .i64 4, .int .i64 10, .slice none 0 0, .slice none 0 0] 33)) (w.heap.size + 1) (.int .i64 (S : Int)) (.int .i64 R) (.slice (some ⟨wr.heap.size, 0, none⟩) 1 1))) := by
            have hR7 : (put3 ((wr.setCell ⟨w.heap.size + 1 + 1, 2, none⟩ (.slice (some ⟨wr.heap.size, 0, none⟩) 1 1)).alloc (.cells #[.int .i64 1, .int .i64 1, .int .i64 4, .int .i64 4, .int .i64 10, .slice none 0 0, .slice none 0 0] 33)) (w.heap.size + 1) (.int .i64 (S : Int)) (.int .i64 R) (.slice (some ⟨wr.heap.size, 0, none⟩) 1 1)).heap[wr.heap.size]? = some (.cells #[.int .i64 1, .int .i64 1, .int .i64 4, .int .i64 4, .int .i64 10, .slice none 0 0, .slice none 0 0] 33) := (put3_other _ _ _ (by omega) _ _ _).trans hR6
            obtain ⟨e0, e1, e2, e3, e4, e5, e6⟩ := bx_seven (x := .slice none 0 0) (y := .slice none 0 0) hR7
            refine ⟨S, R, _, 1, 1, [⟨⟨1, 1, 4, 4, 10, [], []⟩, none, 0, 0, none, 0, 0⟩], rfl, ⟨S1, S2, R0, R3, Nat.le_refl _, by decide, Nat.le_refl _, by decide, ⟨rfl, fun _ => ⟨_, 0, rfl, fun j hj => ?_⟩, fun r hr => ?_⟩, fun i hi => ?_, fun a e => ?_, fun r hr a ha => ?_⟩, ?_⟩
            · obtain rfl : j = 0 := by omega
              exact ⟨e0, e1, e2, e3, e4, e5, e6⟩
            · simp at hr; subst hr
              exact ⟨⟨⟨rfl, fun h => absurd h (by decide)⟩, Nat.le_refl _, by decide, fun _ => ⟨rfl, rfl⟩⟩, ⟨rfl, fun h => absurd h (by decide)⟩, Nat.le_refl _, by decide, fun _ => ⟨rfl, rfl⟩⟩
            · obtain rfl : i = 0 := by omega
              exact ⟨rfl, by decide, by decide, by decide, by decide, ⟨1, by decide, by decide, rfl⟩, (fun k hk => by cases hk), (fun h => absurd rfl h), (fun k hk => by cases hk), by decide⟩
            · injection e with e; subst e
              rw [put3_size]; simp [World.setCell]; omega
            · simp at hr; subst hr
              rcases ha with e | e <;> cases e
            · exact put3_below ((bx_below BW.out _ (by omega) _ _).alloc (by simp [World.setCell]; omega) _) _ (by omega) _ _ _
          clear hlt HI hMI hrt hfr h1c h2c hX6 hZ6 hR6
          go_wp2
          obtain ⟨q0, q1, q2⟩ := Q9.out
          refine bodyPost_ret (v := .agg #[.int .i64 (S : Int), .int .i64 R, (.slice (some ⟨wr.heap.size, 0, none⟩) 1 1)]) ?_ rfl HF.out
          simp [results, Try.results20, go_sem, q0, q1, q2]
        · have hne : ((kk : Int) == 0) = false := by simp; omega
          have HF : Hid (MadeP w (.returned (.agg #[.int .i64 (S : Int), .int .i64 R, .slice A kk c])) (put3 wr (w.heap.size + 1) (.int .i64 (S : Int)) (.int .i64 R) (.slice A kk c))) := by
            refine ⟨S, R, A, kk, c, ts, rfl, ⟨S1, S2, R0, R3, by omega, by have := HI.out; omega, h1c, h2c, ⟨hrt.ln, fun hn => ?_, fun r hr => ?_⟩, hMI.out.ok, fun a e => ?_, fun r hr a ha => ?_⟩, ?_⟩
            · obtain ⟨b', o', e, hc⟩ := hrt.ad hn
              have := hfr _ e
              exact ⟨b', o', e, fun j hj => (hc j hj).block (put3_other _ _ _ (by simp at this; omega) _ _ _)⟩
            · exact (hrt.rd r hr).kept fun a ha => put3_other _ _ _ (by have := (hMI.out.fr r hr a ha).2.1; omega) _ _ _
            · rw [put3_size]; have := hfr _ e; omega
            · rw [put3_size]; have := hMI.out.fr r hr a ha; omega
            · exact put3_below BW.out _ (by omega) _ _ _
          have q9 := bx_set3 hZ.out (.int .i64 (S : Int)) (.int .i64 R) (.slice A kk c)
          have Q9 := Lib.hid (bx_three q9)
          clear q9 hMI hX hN hZ BW hrt hfr hk0
          by_cases hl : kk < len
          · have hl1 : (kk : Int) < (len : Int) := by omega
            have hl2 : ¬ (kk : Int) < 6 := by have := HI.out; omega
            clear hlt HI
            go_wp2
            obtain ⟨q0, q1, q2⟩ := Q9.out
            refine bodyPost_ret (v := .agg #[.int .i64 (S : Int), .int .i64 R, .slice A kk c]) ?_ rfl HF.out
            simp [results, Try.results20, go_sem, q0, q1, q2]
          · have hl1 : ¬ (kk : Int) < (len : Int) := by omega
            clear hlt HI
            go_wp2
            obtain ⟨q0, q1, q2⟩ := Q9.out
            refine bodyPost_ret (v := .agg #[.int .i64 (S : Int), .int .i64 R, .slice A kk c]) ?_ rfl HF.out
            simp [results, Try.results20, go_sem, q0, q1, q2]
end Go.Proofs.Ytaofldlidifdcaa.Sys

/-
  Systems by numbers: the statement's own made.
-/
namespace Go.Proofs.Ytaofldlidifdcaa.Sys
open Go.RowKit Go.Proofs.Ytaofldlidifdcaa.Box

theorem infoM : (Try.prog.info? 63).map (fun i => (i.zero, i.size, i.bytes)) = some (some (.agg #[.int .i64 0, .int .i64 0, .int .i64 0, .int .i64 0, .int .i64 0, .slice none 0 0]), 6, 64) := by kernel_rfl
theorem vals6_one (v : Row0.NumV) : ∀ u ∈ vals6 v, u.oneCell' = true := by
  intro u h
  simp [vals6] at h
  rcases h with rfl | rfl | rfl | rfl | rfl | rfl <;> rfl
/-- What holds of the tasks by numbers that were copied so far. -/
structure CI (B : Nat) (w wr : World) (q : List Row0.NumV) (kk : Nat) (tv : Value) : Prop where
  own : wr.ownsRow B 63 6 tv kk (flat6 (q.take kk))
  sz : B ≤ wr.heap.size
  bw : Below w.heap.size w wr
theorem takes_snoc (q : List Row0.NumV) (k : Nat) (h : k < q.length) : q.take (k + 1) = q.take k ++ [q.getD k default] := by
  rw [List.take_succ_eq_append_getElem h, List.getD_eq_getElem?_getD, List.getElem?_eq_getElem h]; rfl
set_option maxHeartbeats 8000000 in
set_option maxRecDepth 100000 in
theorem made_sys (a b : Int) (x : Option Addr) (len cap : Nat) (q : List Row0.NumV) (w : World) (h : RdN w x len q) (hlc : len ≤ cap) (hcm : cap ≤ 9223372036854775807) :
    Calls Try.prog 9 #[.agg #[.int .i64 a, .int .i64 b, .slice x len cap]] w (MadeP w) := by
  obtain ⟨i0, hi0, hz0, hz1, hz2⟩ := info_parts' infoM
  have HN := Lib.hid h
  clear h
  go_enter Try.func9, Try.ntmps9
  go_wp2_with fail
  obtain ⟨W4, hW4⟩ : ∃ W4, ((w.alloc (.cells #[.int .i64 a, .int .i64 b, .slice x len cap] 24)).alloc (.cells #[.int .i64 0, .int .i64 0, .slice none 0 0] 28)).alloc (.cells #[.int .i64 a, .int .i64 b, .slice none 0 0] 61) = W4 := ⟨_, rfl⟩
  rw [hW4]
  have hB4 : Hid (Below w.heap.size w W4) := by rw [← hW4]; exact (((Below.refl _ w).alloc (Nat.le_refl _) _).alloc (by simp) _).alloc (by simp; omega) _
  have hN4 : Hid (W4.heap[w.heap.size]? = some (.cells #[.int .i64 a, .int .i64 b, .slice x len cap] 24 (0, 0))) := by
    rw [← hW4]; exact (Below.heap_alloc _ _ _ (by simp; omega)).trans ((Below.heap_alloc _ _ _ (by simp)).trans (bx_new _ _ _))
  have hZ4 : Hid (W4.heap[w.heap.size + 1]? = some (.cells #[.int .i64 0, .int .i64 0, .slice none 0 0] 28 (0, 0))) := by
    rw [← hW4]; exact (Below.heap_alloc _ _ _ (by simp)).trans (heap_at _ _ _ (by simp))
  have hX4 : Hid (W4.heap[w.heap.size + 1 + 1]? = some (.cells #[.int .i64 a, .int .i64 b, .slice none 0 0] 61 (0, 0))) := by
    rw [← hW4]; exact heap_at _ _ _ (by simp)
  have hs4 : W4.heap.size = w.heap.size + 3 := by rw [← hW4]; simp
  clear hW4
  go_loopg [4] (min len 6) (fun gg kv wr => ∃ (kk : Nat) (tv : Value), kk ≤ min len 6 ∧ min len 6 - kk ≤ gg ∧ kv = .int .i64 (kk : Int) ∧
    Aside (CI (w.heap.size + 3) w wr q kk tv) ∧
    Aside (wr.heap[w.heap.size + 1 + 1]? = some (.cells #[.int .i64 a, .int .i64 b, tv] 61 (0, 0))) ∧
    Aside (wr.heap[w.heap.size]? = some (.cells #[.int .i64 a, .int .i64 b, .slice x len cap] 24 (0, 0))) ∧
    Aside (wr.heap[w.heap.size + 1]? = some (.cells #[.int .i64 0, .int .i64 0, .slice none 0 0] 28 (0, 0))))
  case atStart => exact ⟨0, .slice none 0 0, Nat.zero_le _, by omega, rfl, ⟨World.ownsRow_nil _ _ _ _, by omega, hB4.out⟩, hX4.out, hN4.out, hZ4.out⟩
  case round =>
    obtain ⟨kk, tv, g1, g2, rfl, hCI, hX, hN, hZ⟩ := hrel
    clear hX4 hN4 hZ4 hB4 hs4
    by_cases hlt : kk < min len 6
    · have kz1 : (kk : Int) < (len : Int) := by omega
      have kz2 : (kk : Int) < 6 := by omega
      have kz0 : (0 : Int) ≤ (kk : Int) := by omega
      obtain ⟨n0, n1, n2⟩ := bx_three hN.out
      obtain ⟨x0, x1, x2⟩ := bx_three hX.out
      have HNW := HN.out.below hCI.out.bw (Nat.le_refl _)
      obtain ⟨nb, no, rfl, hcs⟩ := HNW.ad (by omega)
      obtain ⟨m0, m1, m2, m3, m4, m5⟩ := hcs kk (by omega)
      have htk := Lib.hid (takes_snoc q kk (by have := HN.out.ln; omega))
      clear hcs HNW
      have hnb : nb < w.heap.size := World.block_lt_of_cell? w _ ((HN.out.ad (by omega)).elim fun b h => by obtain ⟨o, e, hc⟩ := h; cases e; exact (hc kk (by omega)).c0)
      generalize q.getD kk default = v at *
      have hsz' := hCI.out.sz
      have hkeep : ∀ w', Lo (w.heap.size + 3) wr w' → w'.cell? ⟨w.heap.size, 2, none⟩ = some (.slice (some ⟨nb, no, none⟩) len cap) ∧ w'.cell? ⟨nb, no + kk * 6, none⟩ = some (.int .i64 v.c) ∧ w'.cell? ⟨nb, no + kk * 6 + 1, none⟩ = some (.int .i64 v.d) ∧ w'.cell? ⟨nb, no + kk * 6 + 2, none⟩ = some (.int .i64 v.t) ∧ w'.cell? ⟨nb, no + kk * 6 + 3, none⟩ = some (.int .i64 v.p) ∧ w'.cell? ⟨nb, no + kk * 6 + 4, none⟩ = some (.int .i64 v.k) ∧ w'.cell? ⟨nb, no + kk * 6 + 5, none⟩ = some (.slice v.ua v.ul v.uc) :=
        fun w' h => ⟨h.cell (by simp) n2, h.cell (by simp; omega) m0, h.cell (by simp; omega) m1, h.cell (by simp; omega) m2, h.cell (by simp; omega) m3, h.cell (by simp; omega) m4, h.cell (by simp; omega) m5⟩
      have hLR : Lo (w.heap.size + 3) wr wr := Lo.refl hsz'
      have hob : ∀ j, tv.ownBlock = some j → w.heap.size + 3 ≤ j := fun j e => (hCI.out.own.lt j e).1
      have hd1 : ∀ o, Hid ((wr.alloc o).drew.ownsRow (w.heap.size + 3) 63 6 tv kk (flat6 (q.take kk))) := fun o => own_belowS hCI.out.own ((((Below.refl _ wr).alloc (Nat.le_refl _) o)).drew)
      have x2'' : ∀ o, (wr.alloc o).drew.cell? ⟨w.heap.size + 1 + 1, 2, none⟩ = some tv := fun o => ((((Below.refl _ wr).alloc (Nat.le_refl _) o).drew).cell (p := ⟨w.heap.size + 1 + 1, 2, none⟩) (World.block_lt_of_cell? _ _ x2)).trans x2
      have hbk : ∀ o w4, ((wr.alloc o).drew).grownBy w4 tv.ownBlock → ∀ j, j < w.heap.size + 3 → w4.heap[j]? = wr.heap[j]? := fun o w4 hg j hj => (hg.block j (by simp; omega) (fun e => by have := hob j e.symm; omega)).trans (Below.heap_alloc _ _ _ (by omega))
      have hXk : ∀ o w4, ((wr.alloc o).drew).grownBy w4 tv.ownBlock → w4.heap[w.heap.size + 1 + 1]? = some (.cells #[.int .i64 a, .int .i64 b, tv] 61 (0, 0)) := fun o w4 hg => (hbk o w4 hg _ (by omega)).trans hX.out
      have hLk : ∀ o w4, ((wr.alloc o).drew).grownBy w4 tv.ownBlock → Lo (w.heap.size + 3) wr w4 := fun o w4 hg => ⟨by have h2 := hg.size; simp at h2; omega, fun j hj => hbk o w4 hg j hj⟩
      have hkeep2 : ∀ w4 v', Lo (w.heap.size + 3) wr w4 → (w4.setCell ⟨w.heap.size + 1 + 1, 2, none⟩ v').cell? ⟨w.heap.size, 2, none⟩ = some (.slice (some ⟨nb, no, none⟩) len cap) ∧ (w4.setCell ⟨w.heap.size + 1 + 1, 2, none⟩ v').cell? ⟨nb, no + kk * 6, none⟩ = some (.int .i64 v.c) ∧ (w4.setCell ⟨w.heap.size + 1 + 1, 2, none⟩ v').cell? ⟨nb, no + kk * 6 + 1, none⟩ = some (.int .i64 v.d) ∧ (w4.setCell ⟨w.heap.size + 1 + 1, 2, none⟩ v').cell? ⟨nb, no + kk * 6 + 2, none⟩ = some (.int .i64 v.t) ∧ (w4.setCell ⟨w.heap.size + 1 + 1, 2, none⟩ v').cell? ⟨nb, no + kk * 6 + 3, none⟩ = some (.int .i64 v.p) ∧ (w4.setCell ⟨w.heap.size + 1 + 1, 2, none⟩ v').cell? ⟨nb, no + kk * 6 + 4, none⟩ = some (.int .i64 v.k) ∧ (w4.setCell ⟨w.heap.size + 1 + 1, 2, none⟩ v').cell? ⟨nb, no + kk * 6 + 5, none⟩ = some (.slice v.ua v.ul v.uc) :=
        fun w4 v' hl => by
          obtain ⟨k1, k3, k4, k5, k6, k7, k8⟩ := hkeep w4 hl
          have hz : ∀ (b o : Nat), b ≠ w.heap.size + 1 + 1 → (w4.setCell ⟨w.heap.size + 1 + 1, 2, none⟩ v').cell? ⟨b, o, none⟩ = w4.cell? ⟨b, o, none⟩ := fun b o hb => World.cell?_of_block (a := ⟨b, o, none⟩) (bx_other _ _ _ _ hb _)
          exact ⟨(hz _ _ (by omega)).trans k1, (hz _ _ (by omega)).trans k3, (hz _ _ (by omega)).trans k4, (hz _ _ (by omega)).trans k5, (hz _ _ (by omega)).trans k6, (hz _ _ (by omega)).trans k7, (hz _ _ (by omega)).trans k8⟩
      clear n0 n1 x0 x1
      go_wp2_with fail
      go_region_law
        (first
          | (refine Row0.step_append_sl (by rfl) (.tmp 22) (.tmp 28) 59 (by rfl) (w.heap.size + 3) 63 i0 (.agg #[.int .i64 0, .int .i64 0, .int .i64 0, .int .i64 0, .int .i64 0, .slice none 0 0]) 6 64 Try.underlying59 hi0 hz0 hz1 hz2 rfl (by decide) _ kk _ (by rfl) (hd1 _).out (some ⟨wr.heap.size, 0, none⟩) 1 1 [.int .i64 v.c, .int .i64 v.d, .int .i64 v.t, .int .i64 v.p, .int .i64 v.k, .slice v.ua v.ul v.uc] (by rfl) (fun e => by cases e) rfl (fun a e => by cases e; exact cells_new wr #[.int .i64 v.c, .int .i64 v.d, .int .i64 v.t, .int .i64 v.p, .int .i64 v.k, .slice v.ua v.ul v.uc] _) (vals6_one v) (by unfold maxLen; omega) (by omega) (Nat.le_trans hsz' (size_a _ _)) ?_; intro v' w4 hown' hgrow; obtain ⟨A', c', rfl⟩ := own_form hown'; have hL4 := hLk _ _ hgrow; have hX4 := hXk _ _ hgrow; have z2 := (bx_three hX4).2.2; have f2 := bx_free hX4 2))
      all_goals
        have hM4 : Hid (CI (w.heap.size + 3) w (w4.setCell ⟨w.heap.size + 1 + 1, 2, none⟩ (.slice A' (kk + 1) c')) q (kk + 1) (.slice A' (kk + 1) c')) := ⟨own_set (by rw [htk.out, flat6_snoc]; exact hown') (by omega) _ _, by have := hL4.size; simpa [World.setCell] using this, bx_below (((hCI.out.bw.alloc hCI.out.bw.size _).drew).grown hgrow (by have := hCI.out.bw.size; simp; omega) (fun j e => by have := hob j e; omega)) _ (by omega) _ _⟩
        have hX5 : Hid ((w4.setCell ⟨w.heap.size + 1 + 1, 2, none⟩ (.slice A' (kk + 1) c')).heap[w.heap.size + 1 + 1]? = some (.cells #[.int .i64 a, .int .i64 b, .slice A' (kk + 1) c'] 61 (0, 0))) := bx_threeI hX4 _
        have hN5 : Hid ((w4.setCell ⟨w.heap.size + 1 + 1, 2, none⟩ (.slice A' (kk + 1) c')).heap[w.heap.size]? = some (.cells #[.int .i64 a, .int .i64 b, .slice (some ⟨nb, no, none⟩) len cap] 24 (0, 0))) := (bx_other _ _ _ _ (by omega) _).trans ((hL4.block _ (by omega)).trans hN.out)
        have hZ5 : Hid ((w4.setCell ⟨w.heap.size + 1 + 1, 2, none⟩ (.slice A' (kk + 1) c')).heap[w.heap.size + 1]? = some (.cells #[.int .i64 0, .int .i64 0, .slice none 0 0] 28 (0, 0))) := (bx_other _ _ _ _ (by omega) _).trans ((hL4.block _ (by omega)).trans hZ.out)
        clear hkeep hkeep2 hbk hXk hLk hLR hd1 x2'' hob hown' hgrow z2 f2 hX4 hL4 hCI hX hN hZ hsz' hnb x2 n2 m0 m1 m2 m3 m4 m5 htk
        go_wp2
        go_roundg (min len 6 - (kk + 1))
        case measure => omega
        case rel => exact ⟨kk + 1, _, by omega, by omega, by go_num, hM4.out, hX5.out, hN5.out, hZ5.out⟩
    · have hk6 : kk ≤ 6 := by omega
      have hrow : ∀ v ∈ q.take kk, Row0.IsRow .i64 wr v.ua v.ul v.uc v.uz := fun v hv => isRow_below (HN.out.rd v (List.mem_of_mem_take hv)) hCI.out.bw (Nat.le_refl _)
      obtain ⟨A, c, rfl, hrt, h1c, h2c⟩ := own_rdN hCI.out.own hrow
      have hsz := hCI.out.sz
      have HRT := Lib.hid hrt
      have HBW := Lib.hid hCI.out.bw
      obtain ⟨x0, x1, x2⟩ := bx_three hX.out
      obtain ⟨z0, z1, z2⟩ := bx_three hZ.out
      have f0 := bx_free hZ.out 0
      have f1 := bx_free hZ.out 1
      have f2 := bx_free hZ.out 2
      have hZo := Lib.hid hZ.out
      clear z0 z1 z2 f0 f1 f2
      obtain ⟨n0, n1, n2⟩ := bx_three hN.out
      have HI : Hid (¬ (kk : Int) < (len : Int) ∨ ((kk : Int) < (len : Int) ∧ ¬ (kk : Int) < 6)) := by
        rw [RowKit.Hid]; omega
      clear hrt hrow hX hN hZ hCI hlt g1 g2
      rcases HI.out with hl1 | ⟨hl1, hl2⟩
      all_goals
        clear HI
        go_wp2_with fail
        refine (rmade_any a b A kk c (q.take kk) wr HRT.out h1c h2c).mono ?_
        rintro e w5 ⟨S, R, A2, n2', c2, q2, rfl, hok, hb5⟩
        have hZ5 : w5.heap[w.heap.size + 1]? = some (.cells #[.int .i64 0, .int .i64 0, .slice none 0 0] 28 (0, 0)) := (hb5.block _ (by omega)).trans hZo.out
        obtain ⟨z0, z1, z2⟩ := bx_three hZ5
        have f0 := bx_free hZ5 0
        have f1 := bx_free hZ5 1
        have f2 := bx_free hZ5 2
        have Q9 := Lib.hid (bx_three (bx_set3 hZ5 (.int .i64 (S : Int)) (.int .i64 R) (.slice A2 n2' c2)))
        have HF : Hid (MadeP w (.returned (.agg #[.int .i64 (S : Int), .int .i64 R, .slice A2 n2' c2])) (put3 w5 (w.heap.size + 1) (.int .i64 (S : Int)) (.int .i64 R) (.slice A2 n2' c2))) := by
          have hkk : ∀ a, wr.heap.size ≤ a → (put3 w5 (w.heap.size + 1) (.int .i64 (S : Int)) (.int .i64 R) (.slice A2 n2' c2)).heap[a]? = w5.heap[a]? := fun a h => put3_other _ _ _ (by omega) _ _ _
          exact ⟨S, R, A2, n2', c2, q2, rfl, (hok.kept (by rw [put3_size]; exact Nat.le_refl _) fun j h1 _ => hkk j h1).base HBW.out.size, put3_below (HBW.out.trans (hb5.mono HBW.out.size)) _ (by omega) _ _ _⟩
        clear hok hb5 hZ5 hZo HRT HBW n0 n1 n2 x0 x1 x2
        go_wp2
        obtain ⟨q0, q1, q2⟩ := Q9.out
        refine bodyPost_ret (v := .agg #[.int .i64 (S : Int), .int .i64 R, .slice A2 n2' c2]) ?_ rfl HF.out
        simp [results, Try.results9, go_sem, q0, q1, q2]
end Go.Proofs.Ytaofldlidifdcaa.Sys
