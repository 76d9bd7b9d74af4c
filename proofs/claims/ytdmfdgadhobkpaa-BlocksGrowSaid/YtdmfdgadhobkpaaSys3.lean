/-
  Systems by numbers: a task.
-/
import Derived.Test.YtdmfdgadhobkpaaSys2
import Derived.Test.YtdmfdgadhobkpaaApp
import Derived.Deep.LoopGhost
import Derived.Deep.QuietTactic
import Derived.BigQuiet
import Derived.Deep.RegionHeld3
import Derived.Deep.RegionLaw
import Derived.Deep.DeepCutAuto
import Derived.Lib.SmallJoins
namespace Go.Proofs.Ytdmfdgadhobkpaa.Sys
open Go.RowKit Go.Proofs.Ytdmfdgadhobkpaa.Box

theorem periods_at (x : Int) : periods.getD (x % 8).toNat 0 ∈ periods := by
  obtain ⟨m, hm, h⟩ : ∃ m : Nat, (x % 8).toNat = m ∧ m < 8 := ⟨_, rfl, by omega⟩
  rw [hm]
  match m, h with
  | 0, _ => decide
  | 1, _ => decide
  | 2, _ => decide
  | 3, _ => decide
  | 4, _ => decide
  | 5, _ => decide
  | 6, _ => decide
  | 7, _ => decide
theorem heap_at (w : World) (o : Obj) (n : Nat) (h : n = w.heap.size) : (w.alloc o).heap[n]? = some o := by subst h; exact heap_alloc_new w o
def taskCells (id c d t p : Int) (x y : Value) : Array Value := #[.int .i64 id, .int .i64 c, .int .i64 d, .int .i64 t, .int .i64 p, x, y]
theorem bx_seven {w : World} {b : Nat} {id c d t p : Int} {x y : Value} {T : TypeId} (h : w.heap[b]? = some (.cells (taskCells id c d t p x y) T (0, 0))) :
    w.cell? ⟨b, 0, none⟩ = some (.int .i64 id) ∧ w.cell? ⟨b, 1, none⟩ = some (.int .i64 c) ∧ w.cell? ⟨b, 2, none⟩ = some (.int .i64 d) ∧ w.cell? ⟨b, 3, none⟩ = some (.int .i64 t) ∧ w.cell? ⟨b, 4, none⟩ = some (.int .i64 p) ∧ w.cell? ⟨b, 5, none⟩ = some x ∧ w.cell? ⟨b, 6, none⟩ = some y := by
  simp [World.cell?, h, taskCells]
theorem bx_set5 {w : World} {b : Nat} {id c d t p : Int} {x y : Value} {T : TypeId} (h : w.heap[b]? = some (.cells (taskCells id c d t p x y) T (0, 0))) (v : Value) :
    (w.setCell ⟨b, 5, none⟩ v).heap[b]? = some (.cells (taskCells id c d t p v y) T (0, 0)) := by
  have h1 := Lib.heap_setCell_same (i := 5) h v
  rw [h1]
  simp [taskCells]
theorem bx_set6 {w : World} {b : Nat} {id c d t p : Int} {x y : Value} {T : TypeId} (h : w.heap[b]? = some (.cells (taskCells id c d t p x y) T (0, 0))) (v : Value) :
    (w.setCell ⟨b, 6, none⟩ v).heap[b]? = some (.cells (taskCells id c d t p x v) T (0, 0)) := by
  have h1 := Lib.heap_setCell_same (i := 6) h v
  rw [h1]
  simp [taskCells]
theorem bx_six {w : World} {b : Nat} {x0 x1 x2 x3 x4 x5 : Value} {T : TypeId} (h : w.heap[b]? = some (.cells #[x0, x1, x2, x3, x4, x5] T (0, 0))) :
    w.cell? ⟨b, 0, none⟩ = some x0 ∧ w.cell? ⟨b, 1, none⟩ = some x1 ∧ w.cell? ⟨b, 2, none⟩ = some x2 ∧ w.cell? ⟨b, 3, none⟩ = some x3 ∧ w.cell? ⟨b, 4, none⟩ = some x4 ∧ w.cell? ⟨b, 5, none⟩ = some x5 := by
  simp [World.cell?, h]
def numV (v : Row0.NumV) : Value := .agg #[.int .i64 v.c, .int .i64 v.d, .int .i64 v.t, .int .i64 v.p, .int .i64 v.k, .slice v.ua v.ul v.uc]
def put7 (w : World) (b : Nat) (id c d t p : Int) (x y : Value) : World :=
  ((((((w.setCell ⟨b, 0, none⟩ (.int .i64 id)).setCell ⟨b, 1, none⟩ (.int .i64 c)).setCell ⟨b, 2, none⟩ (.int .i64 d)).setCell ⟨b, 3, none⟩ (.int .i64 t)).setCell ⟨b, 4, none⟩ (.int .i64 p)).setCell ⟨b, 5, none⟩ x).setCell ⟨b, 6, none⟩ y
theorem put7_same {w : World} {b : Nat} {id c d t p : Int} {x y : Value} {T : TypeId} (h : w.heap[b]? = some (.cells (taskCells id c d t p x y) T (0, 0))) (id' c' d' t' p' : Int) (x' y' : Value) :
    (put7 w b id' c' d' t' p' x' y').heap[b]? = some (.cells (taskCells id' c' d' t' p' x' y') T (0, 0)) := by
  have h0 := Lib.heap_setCell_same (i := 0) h (.int .i64 id')
  have h1 := Lib.heap_setCell_same (i := 1) h0 (.int .i64 c')
  have h2 := Lib.heap_setCell_same (i := 2) h1 (.int .i64 d')
  have h3 := Lib.heap_setCell_same (i := 3) h2 (.int .i64 t')
  have h4 := Lib.heap_setCell_same (i := 4) h3 (.int .i64 p')
  have h5 := Lib.heap_setCell_same (i := 5) h4 x'
  have h6 := Lib.heap_setCell_same (i := 6) h5 y'
  unfold put7
  rw [h6]
  simp [taskCells]
theorem put7_other (w : World) (b j : Nat) (hj : j ≠ b) (id c d t p : Int) (x y : Value) : (put7 w b id c d t p x y).heap[j]? = w.heap[j]? :=
  (bx_other _ _ _ _ hj _).trans ((bx_other _ _ _ _ hj _).trans ((bx_other _ _ _ _ hj _).trans ((bx_other _ _ _ _ hj _).trans ((bx_other _ _ _ _ hj _).trans ((bx_other _ _ _ _ hj _).trans (bx_other _ _ _ _ hj _))))))
theorem put7_below {B : Nat} {w w' : World} (h : Below B w w') (b : Nat) (hb : B ≤ b) (id c d t p : Int) (x y : Value) : Below B w (put7 w' b id c d t p x y) :=
  bx_below (bx_below (bx_below (bx_below (bx_below (bx_below (bx_below h _ hb _ _) _ hb _ _) _ hb _ _) _ hb _ _) _ hb _ _) _ hb _ _) _ hb _ _
theorem put7_size (w : World) (b : Nat) (id c d t p : Int) (x y : Value) : (put7 w b id c d t p x y).heap.size = w.heap.size := by simp [put7, World.setCell]
theorem own_form {w : World} {base : Nat} {e : TypeId} {size : Nat} {v : Value} {n : Nat} {xs : List Value} (h : w.ownsRow base e size v n xs) : ∃ A c, v = .slice A n c := by
  rcases h.2 with ⟨rfl, rfl⟩ | ⟨g, cap, cur, rfl, _⟩
  · exact ⟨none, 0, rfl⟩
  · exact ⟨_, _, rfl⟩
/-- A row that is read, as it is handed in. -/
theorem row_rdI {w : World} {a : Option Addr} {len cap : Nat} {zs : List Int} (h : Row0.IsRow .i64 w a len cap zs) : ∀ j, j < len → ∃ ad x, a = some ad ∧ w.cell? (ad.add j) = some (.int .i64 x) := by
  intro j hj
  rcases h with ⟨_, rfl, _⟩ | ⟨x, rfl, h1, h2, h3, h4, h5⟩
  · omega
  · exact ⟨_, _, rfl, h4 j (by omega)⟩
/-- The task of a place, made of a task by numbers: what comes back. -/
structure Made1 (w w' : World) (i : Nat) (S : Int) (v : Value) (x : TaskV) : Prop where
  ok : TOk i S x
  val : ∃ ca cl cc ua ul uc, v = .agg (taskCells x.id x.c x.d x.t x.prio (.slice ca cl cc) (.slice ua ul uc)) ∧ RdI w' ca cl x.chunks ∧ RdI w' ua ul x.use ∧ (∀ a, ca = some a → w.heap.size ≤ a.block ∧ a.block < w'.heap.size) ∧ (∀ a, ua = some a → w.heap.size ≤ a.block ∧ a.block < w'.heap.size) ∧
    cl ≤ cc ∧ cc ≤ 9223372036854775807 ∧ ul ≤ uc ∧ uc ≤ 9223372036854775807 ∧ (ca = none → cl = 0 ∧ cc = 0) ∧ (ua = none → ul = 0 ∧ uc = 0)
set_option maxHeartbeats 8000000 in
set_option maxRecDepth 100000 in
theorem task_any (v : Row0.NumV) (i : Nat) (hi : i < 6) (sets : Nat) (h1 : 1 ≤ sets) (h2 : sets ≤ 8) (w : World) (hr : Row0.IsRow .i64 w v.ua v.ul v.uc v.uz) :
    Calls Try.prog 44 #[numV v, .int .i64 (i : Int), .int .i64 (sets : Int)] w fun e w' => ∃ u x, e = .returned u ∧ Made1 w w' i (sets : Int) u x ∧ Below w.heap.size w w' := by
  obtain ⟨i0, hi0, hz0, hz1, hz2⟩ := info_parts' info64
  obtain ⟨j0, hj0, hy0, hy1, hy2⟩ := info_parts' infoInt
  obtain ⟨c, d, t, p, k, ua, ul, uc, uz⟩ := v
  unfold numV
  simp only at hr ⊢
  have HR := Lib.hid (row_rdI hr)
  have hul : ul ≤ 9223372036854775807 := by
    rcases hr with ⟨_, rfl, _⟩ | ⟨x, _, h1, h2, _⟩
    · decide
    · unfold maxLen at h2; omega
  clear hr
  have htp := periods_at t
  have et := Row0.and_i64 t 3 (by decide) 7 rfl
  obtain ⟨m, hm, hm8⟩ : ∃ m : Nat, t % 8 = (m : Int) ∧ m < 8 := ⟨(t % 8).toNat, by omega, by omega⟩
  have et2 : Go.bits .and .i64 t 7 = (m : Int) := et.trans hm
  rw [hm, Int.toNat_natCast] at htp
  have ht := period_bd htp
  clear et
  obtain ⟨T, hT⟩ : ∃ T : Nat, periods.getD m 0 = (T : Int) := ⟨(periods.getD m 0).toNat, by omega⟩
  have hper : ∀ h, ([.int .i64 4, .int .i64 5, .int .i64 6, .int .i64 8, .int .i64 10, .int .i64 12, .int .i64 20, .int .i64 24] : List Value)[m]'h = .int .i64 (T : Int) := by
    intro h
    rw [← hT]
    match m, hm8 with
    | 0, _ => rfl
    | 1, _ => rfl
    | 2, _ => rfl
    | 3, _ => rfl
    | 4, _ => rfl
    | 5, _ => rfl
    | 6, _ => rfl
    | 7, _ => rfl
  rw [hT] at ht htp
  have HTP := Lib.hid htp
  clear hT htp
  have hd0 := Int.emod_nonneg d (show (T : Int) ≠ 0 by omega)
  have hd1 := Int.emod_lt_of_pos d (show (0 : Int) < (T : Int) by omega)
  obtain ⟨D, hD, D1, D2⟩ : ∃ D : Nat, 1 + d % (T : Int) = (D : Int) ∧ 1 ≤ D ∧ D ≤ T := ⟨(1 + d % (T : Int)).toNat, by omega, by omega, by omega⟩
  have hwD : IntKind.i64.wrap (D : Int) = (D : Int) := by rw [IntKind.wrap_i64]; omega
  have hc0 := Int.emod_nonneg c (show (D : Int) ≠ 0 by omega)
  have hc1 := Int.emod_lt_of_pos c (show (0 : Int) < (D : Int) by omega)
  obtain ⟨C, hC, C1, C2⟩ : ∃ C : Nat, 1 + c % (D : Int) = (C : Int) ∧ 1 ≤ C ∧ C ≤ D := ⟨(1 + c % (D : Int)).toNat, by omega, by omega, by omega⟩
  have hwC : IntKind.i64.wrap (C : Int) = (C : Int) := by rw [IntKind.wrap_i64]; omega
  have hp0 := Int.emod_nonneg p (show (9 : Int) ≠ 0 by omega)
  have hp1 := Int.emod_lt_of_pos p (show (0 : Int) < 9 by omega)
  obtain ⟨R, hR, R1, R2⟩ : ∃ R : Nat, 1 + p % 9 = (R : Int) ∧ 1 ≤ R ∧ R ≤ 9 := ⟨(1 + p % 9).toNat, by omega, by omega, by omega⟩
  clear hd0 hd1 hc0 hc1 hp0 hp1
  have hwR : IntKind.i64.wrap (R : Int) = (R : Int) := by rw [IntKind.wrap_i64]; omega
  have hwP : IntKind.i64.wrap (10 * (R : Int)) = 10 * (R : Int) := by rw [IntKind.wrap_i64]; omega
  have hwQ : IntKind.i64.wrap (10 * (R : Int) + (i : Int)) = 10 * (R : Int) + (i : Int) := by rw [IntKind.wrap_i64]; omega
  have hwI : IntKind.i64.wrap ((i : Int) + 1) = (i : Int) + 1 := by rw [IntKind.wrap_i64]; omega
  have c1 := fun w => rest_any d T (by omega) (by omega) w
  have c2 := fun w => rest_any c D (by omega) (by omega) w
  have c3 := fun w => rest_any p 9 (by omega) (by omega) w
  go_enter Try.func44, Try.ntmps44
  go_wp2_with fail
  refine (c1 _).mono ?_
  rintro e w' ⟨rfl, rfl⟩
  go_wp2_with fail
  refine (c2 _).mono ?_
  rintro e w' ⟨rfl, rfl⟩
  go_wp2_with fail
  refine (c3 _).mono ?_
  rintro e w' ⟨rfl, rfl⟩
  go_wp2_with fail
  obtain ⟨W4, hW4⟩ : ∃ W4, (((w.alloc (.cells #[.int .i64 c, .int .i64 d, .int .i64 t, .int .i64 p, .int .i64 k, .slice ua ul uc] 63)).alloc (.cells #[.int .i64 0, .int .i64 0, .int .i64 0, .int .i64 0, .int .i64 0, .slice none 0 0, .slice none 0 0] 36)).alloc (.cells #[.int .i64 4, .int .i64 5, .int .i64 6, .int .i64 8, .int .i64 10, .int .i64 12, .int .i64 20, .int .i64 24] 89)).alloc (.cells #[.int .i64 ((i : Int) + 1), .int .i64 (C : Int), .int .i64 (D : Int), .int .i64 (T : Int), .int .i64 (10 * (R : Int) + (i : Int)), .slice none 0 0, .slice none 0 0] 36) = W4 := ⟨_, rfl⟩
  rw [hW4]
  have hB4 : Hid (Below w.heap.size w W4) := by rw [← hW4]; exact ((((Below.refl _ w).alloc (Nat.le_refl _) _).alloc (by simp) _).alloc (by simp; omega) _).alloc (by simp; omega) _
  have hN4 : Hid (W4.heap[w.heap.size]? = some (.cells #[.int .i64 c, .int .i64 d, .int .i64 t, .int .i64 p, .int .i64 k, .slice ua ul uc] 63 (0, 0))) := by
    rw [← hW4]; exact (Below.heap_alloc _ _ _ (by simp; omega)).trans ((Below.heap_alloc _ _ _ (by simp; omega)).trans ((Below.heap_alloc _ _ _ (by simp)).trans (bx_new _ _ _)))
  have hZ4 : Hid (W4.heap[w.heap.size + 1]? = some (.cells (taskCells 0 0 0 0 0 (.slice none 0 0) (.slice none 0 0)) 36 (0, 0))) := by
    rw [← hW4]; exact (Below.heap_alloc _ _ _ (by simp)).trans ((Below.heap_alloc _ _ _ (by simp)).trans (heap_at _ _ _ (by simp)))
  have hX4 : Hid (W4.heap[w.heap.size + 1 + 1 + 1]? = some (.cells (taskCells ((i : Int) + 1) (C : Int) (D : Int) (T : Int) (10 * (R : Int) + (i : Int)) (.slice none 0 0) (.slice none 0 0)) 36 (0, 0))) := by
    rw [← hW4]; exact heap_at _ _ _ (by simp)
  have hs4 : W4.heap.size = w.heap.size + 4 := by rw [← hW4]; simp
  clear hW4 hper c1 c2 c3 et2
  go_loopg [12, 13] C (fun gg fv kv wr => ∃ (f kk n : Nat) (cv : Value) (chs : List Int), 1 ≤ kk ∧ kk ≤ C ∧ f < kk ∧ C - kk ≤ gg ∧ fv = .int .i64 (f : Int) ∧ kv = .int .i64 (kk : Int) ∧ n ≤ f ∧
    Aside (chs.sum = (f : Int) ∧ ∀ x ∈ chs, 1 ≤ x) ∧ Aside (wr.ownsRow (w.heap.size + 4) 2 1 cv n (chs.map (Value.int .i64))) ∧
    Aside (wr.heap[w.heap.size + 1 + 1 + 1]? = some (.cells (taskCells ((i : Int) + 1) (C : Int) (D : Int) (T : Int) (10 * (R : Int) + (i : Int)) cv (.slice none 0 0)) 36 (0, 0))) ∧
    Aside (wr.heap[w.heap.size]? = some (.cells #[.int .i64 c, .int .i64 d, .int .i64 t, .int .i64 p, .int .i64 k, .slice ua ul uc] 63 (0, 0))) ∧
    Aside (wr.heap[w.heap.size + 1]? = some (.cells (taskCells 0 0 0 0 0 (.slice none 0 0) (.slice none 0 0)) 36 (0, 0))) ∧ Aside (w.heap.size + 4 ≤ wr.heap.size) ∧ Aside (Below w.heap.size w wr))
  case atStart => exact ⟨0, 1, 0, .slice none 0 0, [], Nat.le_refl _, C1, by decide, by omega, rfl, rfl, Nat.le_refl _, ⟨rfl, fun x h => by cases h⟩, World.ownsRow_nil _ _ _ _, hX4.out, hN4.out, hZ4.out, by show _ ≤ _; omega, hB4.out⟩
  case round =>
    obtain ⟨f, kk, n, cv, chs, g1, g2, g3, hg, rfl, rfl, hnf, hch, hown, hX, hN, hZ, hsz, BW⟩ := hrel
    clear hX4 hN4 hZ4 hB4 hs4
    by_cases hlt : kk < C
    · have hltz : (kk : Int) < (C : Int) := by omega
      obtain ⟨k0, k1, k2, k3, k4, k5⟩ := bx_six hN.out
      clear k0 k1 k2 k3 k5
      obtain ⟨B, hB⟩ : ∃ B, (Go.bits .and .i64 (k / 2 ^ kk) 1 == 1) = B := ⟨_, rfl⟩
      cases B with
      | false =>
        go_wp2
        go_roundg (C - (kk + 1))
        case measure => omega
        case rel => exact ⟨f, kk + 1, n, cv, chs, by omega, by omega, by omega, by omega, rfl, by go_num, hnf, hch.out, hown.out, hX.out, hN.out, hZ.out, hsz.out, BW.out⟩
      | true =>
        obtain ⟨x0, x1, x2, x3, x4, x5, x6⟩ := bx_seven hX.out
        clear x0 x1 x2 x3 x4 x6
        have hw1 : IntKind.i64.wrap ((kk : Int) - (f : Int)) = (kk : Int) - (f : Int) := by rw [IntKind.wrap_i64]; omega
        have hsz' := hsz.out
        go_wp2_with (at_builtin; refine wpList_append_own _ rfl _ _ 33 rfl (w.heap.size + 4) 2 i0 (.int .i64 0) 1 8 Try.underlying33 hi0 hz0 hz1 hz2 rfl (by decide) cv n _ rfl (hown.out.alloc _) ⟨wr.heap.size, 0, none⟩ 1 1 [.int .i64 ((kk : Int) - (f : Int))] rfl rfl (fun j u hj => cell_one' wr (.int .i64 ((kk : Int) - (f : Int))) 2 j u hj) (by simp [Value.oneCell']) (by unfold maxLen; omega) (by omega) (by simp; omega) ?_; intro v' w4 hown' hgrow _; obtain ⟨A', c', rfl⟩ := own_form hown'; have hob : ∀ j, cv.ownBlock = some j → w.heap.size + 4 ≤ j := (fun j e => (hown.out.lt j e).1); have hbk : ∀ j, j < w.heap.size + 4 → w4.heap[j]? = wr.heap[j]? := (fun j hj => (hgrow.block j (by simp; omega) (fun e => by have := hob j e.symm; omega)).trans (Below.heap_alloc _ _ _ (by omega))); have hX4 := (hbk _ (by omega)).trans hX.out; obtain ⟨x0, x1, x2, x3, x4, x5, x6⟩ := bx_seven hX4; have f5 := bx_free hX4 5; clear x0 x1 x2 x3 x4 x6)
        have hX5 : Hid ((w4.setCell ⟨w.heap.size + 1 + 1 + 1, 5, none⟩ (.slice A' (n + 1) c')).heap[w.heap.size + 1 + 1 + 1]? = some (.cells (taskCells ((i : Int) + 1) (C : Int) (D : Int) (T : Int) (10 * (R : Int) + (i : Int)) (.slice A' (n + 1) c') (.slice none 0 0)) 36 (0, 0))) := bx_set5 hX4 _
        have hN5 : Hid ((w4.setCell ⟨w.heap.size + 1 + 1 + 1, 5, none⟩ (.slice A' (n + 1) c')).heap[w.heap.size]? = some (.cells #[.int .i64 c, .int .i64 d, .int .i64 t, .int .i64 p, .int .i64 k, .slice ua ul uc] 63 (0, 0))) := (bx_other _ _ _ _ (by omega) _).trans ((hbk _ (by omega)).trans hN.out)
        have hZ5 : Hid ((w4.setCell ⟨w.heap.size + 1 + 1 + 1, 5, none⟩ (.slice A' (n + 1) c')).heap[w.heap.size + 1]? = some (.cells (taskCells 0 0 0 0 0 (.slice none 0 0) (.slice none 0 0)) 36 (0, 0))) := (bx_other _ _ _ _ (by omega) _).trans ((hbk _ (by omega)).trans hZ.out)
        have hO5 : Hid ((w4.setCell ⟨w.heap.size + 1 + 1 + 1, 5, none⟩ (.slice A' (n + 1) c')).ownsRow (w.heap.size + 4) 2 1 (.slice A' (n + 1) c') (n + 1) ((chs ++ [(kk : Int) - (f : Int)]).map (Value.int .i64))) := own_set (by rw [List.map_append]; exact hown') (by omega) _ _
        have hB5 : Hid (Below w.heap.size w w4) := (BW.out.alloc BW.out.size _).grown hgrow (by simp; omega) (fun j e => by have := hob j e; omega)
        have hS5 : Hid (w.heap.size + 4 ≤ w4.heap.size) := by have := hgrow.size; simp at this; show _ ≤ _; omega
        have hB6 : Hid (Below w.heap.size w (w4.setCell ⟨w.heap.size + 1 + 1 + 1, 5, none⟩ (.slice A' (n + 1) c'))) := bx_below hB5.out _ (by omega) _ _
        have hS6 : Hid (w.heap.size + 4 ≤ (w4.setCell ⟨w.heap.size + 1 + 1 + 1, 5, none⟩ (.slice A' (n + 1) c')).heap.size) := by have := hS5.out; show _ ≤ _; simpa [World.setCell] using this
        have hC5 : Hid ((chs ++ [(kk : Int) - (f : Int)]).sum = (kk : Int) ∧ ∀ x ∈ chs ++ [(kk : Int) - (f : Int)], 1 ≤ x) := ⟨by rw [List.sum_append, hch.out.1]; simp; omega, fun x hx => by
          rcases List.mem_append.1 hx with h | h
          · exact hch.out.2 x h
          · simp at h; omega⟩
        clear hX4 hbk hgrow hown' hob hown hX hN hZ BW f5 hB5 hS5 hch hsz
        go_wp2
        go_roundg (C - (kk + 1))
        case measure => omega
        case rel => exact ⟨kk, kk + 1, n + 1, _, _, by omega, by omega, by omega, by omega, rfl, by go_num, by omega, hC5.out, hO5.out, hX5.out, hN5.out, hZ5.out, hS6.out, hB6.out⟩
    · obtain rfl : kk = C := by omega
      have hltz : ¬ (kk : Int) < (kk : Int) := by omega
      clear hlt hg g2
      go_upto_if 66 with fail
      go_cut [] (fun wx => ∃ (n : Nat) (cv : Value) (chs : List Int), n ≤ 30 ∧ (∀ x ∈ chs, 1 ≤ x) ∧ (chs ≠ [] → chs.sum = (kk : Int)) ∧ wx.ownsRow (w.heap.size + 4) 2 1 cv n (chs.map (Value.int .i64)) ∧
        wx.heap[w.heap.size + 1 + 1 + 1]? = some (.cells (taskCells ((i : Int) + 1) (kk : Int) (D : Int) (T : Int) (10 * (R : Int) + (i : Int)) cv (.slice none 0 0)) 36 (0, 0)) ∧
        wx.heap[w.heap.size]? = some (.cells #[.int .i64 c, .int .i64 d, .int .i64 t, .int .i64 p, .int .i64 k, .slice ua ul uc] 63 (0, 0)) ∧
        wx.heap[w.heap.size + 1]? = some (.cells (taskCells 0 0 0 0 0 (.slice none 0 0) (.slice none 0 0)) 36 (0, 0)) ∧ w.heap.size + 4 ≤ wx.heap.size ∧ Below w.heap.size w wx)
      case first =>
        by_cases hf : 0 < f
        · have hfz : (0 : Int) < (f : Int) := by omega
          obtain ⟨x0, x1, x2, x3, x4, x5, x6⟩ := bx_seven hX.out
          clear x0 x1 x2 x3 x4 x6
          have hw1 : IntKind.i64.wrap ((kk : Int) - (f : Int)) = (kk : Int) - (f : Int) := by rw [IntKind.wrap_i64]; omega
          have hsz' := hsz.out
          go_wp2_with (at_builtin; refine wpList_append_own _ rfl _ _ 33 rfl (w.heap.size + 4) 2 i0 (.int .i64 0) 1 8 Try.underlying33 hi0 hz0 hz1 hz2 rfl (by decide) cv n _ rfl (hown.out.alloc _) ⟨wr.heap.size, 0, none⟩ 1 1 [.int .i64 ((kk : Int) - (f : Int))] rfl rfl (fun j u hj => cell_one' wr (.int .i64 ((kk : Int) - (f : Int))) 2 j u hj) (by simp [Value.oneCell']) (by unfold maxLen; omega) (by omega) (by simp; omega) ?_; intro v' w4 hown' hgrow _; obtain ⟨A', c', rfl⟩ := own_form hown'; have hob : ∀ j, cv.ownBlock = some j → w.heap.size + 4 ≤ j := (fun j e => (hown.out.lt j e).1); have hbk : ∀ j, j < w.heap.size + 4 → w4.heap[j]? = wr.heap[j]? := (fun j hj => (hgrow.block j (by simp; omega) (fun e => by have := hob j e.symm; omega)).trans (Below.heap_alloc _ _ _ (by omega))); have hX4 := (hbk _ (by omega)).trans hX.out; obtain ⟨x0, x1, x2, x3, x4, x5, x6⟩ := bx_seven hX4; have f5 := bx_free hX4 5; clear x0 x1 x2 x3 x4 x6)
          have hX5 := bx_set5 hX4 (.slice A' (n + 1) c')
          have hN5 := (bx_other w4 (w.heap.size + 1 + 1 + 1) 5 w.heap.size (by omega) (.slice A' (n + 1) c')).trans ((hbk _ (by omega)).trans hN.out)
          have hZ5 := (bx_other w4 (w.heap.size + 1 + 1 + 1) 5 (w.heap.size + 1) (by omega) (.slice A' (n + 1) c')).trans ((hbk _ (by omega)).trans hZ.out)
          have hO5 : (w4.setCell ⟨w.heap.size + 1 + 1 + 1, 5, none⟩ (.slice A' (n + 1) c')).ownsRow (w.heap.size + 4) 2 1 (.slice A' (n + 1) c') (n + 1) ((chs ++ [(kk : Int) - (f : Int)]).map (Value.int .i64)) := own_set (by rw [List.map_append]; exact hown') (by omega) _ _
          have hB5 : Below w.heap.size w w4 := (BW.out.alloc BW.out.size _).grown hgrow (by simp; omega) (fun j e => by have := hob j e; omega)
          have hS5 : w.heap.size + 4 ≤ w4.heap.size := by have := hgrow.size; simp at this; omega
          have hB6 : Below w.heap.size w (w4.setCell ⟨w.heap.size + 1 + 1 + 1, 5, none⟩ (.slice A' (n + 1) c')) := bx_below hB5 _ (by omega) _ _
          have hS6 : w.heap.size + 4 ≤ (w4.setCell ⟨w.heap.size + 1 + 1 + 1, 5, none⟩ (.slice A' (n + 1) c')).heap.size := by simpa [World.setCell] using hS5
          have hC5 : (∀ x ∈ chs ++ [(kk : Int) - (f : Int)], 1 ≤ x) ∧ (chs ++ [(kk : Int) - (f : Int)]).sum = (kk : Int) := ⟨fun x hx => by
            rcases List.mem_append.1 hx with h | h
            · exact hch.out.2 x h
            · simp at h; omega, by rw [List.sum_append, hch.out.1]; simp; omega⟩
          have HF := Lib.hid (And.intro hX5 (And.intro hN5 (And.intro hZ5 (And.intro hO5 (And.intro hB6 (And.intro hS6 hC5))))))
          clear hX4 hbk hgrow hown' hob hown hX hN hZ BW f5 hB5 hS5 hch hsz hX5 hN5 hZ5 hO5 hB6 hS6 hC5
          go_wp2
          go_meet
          obtain ⟨hX5, hN5, hZ5, hO5, hB6, hS6, hC5⟩ := HF.out
          exact ⟨n + 1, _, _, by omega, hC5.1, fun _ => hC5.2, hO5, hX5, hN5, hZ5, hS6, hB6⟩
        · have hfz : ¬ (0 : Int) < (f : Int) := by omega
          go_wp2
          go_meet
          refine ⟨n, cv, chs, by omega, hch.out.2, fun hne => ?_, hown.out, hX.out, hN.out, hZ.out, hsz.out, BW.out⟩
          have h1 := sum_len _ hch.out.2
          have h2 := hch.out.1
          have h3 : 0 < chs.length := List.length_pos_iff.2 hne
          omega
      case rest =>
        obtain ⟨n2, cv2, chs2, g5, g6, g7, hown2, hX2, hN2, hZ2, hsz2, BW2⟩ := hcut
        obtain ⟨ca, cc, rfl, hrd, hc1, hc2, hc3, hc4⟩ := own_rdI hown2
        have hRD := Lib.hid hrd
        have hX5 := Lib.hid hX2
        have hN5 := Lib.hid hN2
        have hZ5 := Lib.hid hZ2
        have HC3 := Lib.hid hc3
        have HB5 := Lib.hid BW2
        have HCH := Lib.hid (And.intro g6 g7)
        generalize wc = W5 at *
        clear hown2 hX2 hN2 hZ2 hrd hc3 BW2 hown hX hN hZ hsz BW hch g6 g7
        go_wp2_with fail
        go_loopg [14] (min ul 5) (fun gg kv wr => ∃ (j : Nat) (uv : Value) (us : List Int), j ≤ min ul 5 ∧ min ul 5 - j ≤ gg ∧ kv = .int .i64 (j : Int) ∧ us.length = j ∧
          Aside (∀ x ∈ us, 0 ≤ x ∧ x < (sets : Int)) ∧ Aside (wr.ownsRow W5.heap.size 3 1 uv j (us.map (Value.int .i64))) ∧
          Aside (wr.heap[w.heap.size + 1 + 1 + 1]? = some (.cells (taskCells ((i : Int) + 1) (kk : Int) (D : Int) (T : Int) (10 * (R : Int) + (i : Int)) (.slice ca n2 cc) uv) 36 (0, 0))) ∧
          Aside (wr.heap[w.heap.size]? = some (.cells #[.int .i64 c, .int .i64 d, .int .i64 t, .int .i64 p, .int .i64 k, .slice ua ul uc] 63 (0, 0))) ∧
          Aside (wr.heap[w.heap.size + 1]? = some (.cells (taskCells 0 0 0 0 0 (.slice none 0 0) (.slice none 0 0)) 36 (0, 0))) ∧ Aside (W5.heap.size ≤ wr.heap.size) ∧ Aside (Below w.heap.size w wr) ∧ Aside (RdI wr ca n2 chs2))
        case atStart => exact ⟨0, .slice none 0 0, [], Nat.zero_le _, by omega, rfl, rfl, (fun x h => by cases h), World.ownsRow_nil _ _ _ _, hX5.out, hN5.out, hZ5.out, Nat.le_refl _, HB5.out, hRD.out⟩
        case round =>
          obtain ⟨j, uv, us, hj, hg, rfl, hul2, hus, hown, hX, hN, hZ, hsz, BW, hrd⟩ := hrel
          clear hRD hX5 hN5 hZ5 HB5
          obtain ⟨k0, k1, k2, k3, k4, k5⟩ := bx_six hN.out
          clear k0 k1 k2 k3 k4
          by_cases hlt2 : j < min ul 5
          · have hz1' : (j : Int) < (ul : Int) := by omega
            have hz2' : (j : Int) < 5 := by omega
            obtain ⟨ad, x, rfl, hx⟩ := HR.out j (by omega)
            have hadl := World.block_lt_of_cell? _ _ hx
            have hxr : wr.cell? (ad.add j) = some (.int .i64 x) := (BW.out.cell hadl).trans hx
            have hsz' := hsz.out
            have hW5 := bx_lt hX.out
            have hS5 : Hid (w.heap.size + 4 ≤ W5.heap.size) := hsz2
            have hkeep : ∀ w', Lo (w.heap.size + 1) wr w' → w'.cell? ⟨w.heap.size, 5, none⟩ = some (.slice (some ad) ul uc) ∧ w'.cell? (ad.add j) = some (.int .i64 x) := fun w' h => ⟨h.cell (by simp) k5, h.cell (by omega) hxr⟩
            have hLR : Lo (w.heap.size + 1) wr wr := Lo.refl (by omega)
            have hrest := fun w => rest_any x sets (by omega) (by omega) w
            obtain ⟨y, hy, hyw⟩ : ∃ y, x % (sets : Int) = y ∧ 0 ≤ y ∧ y < (sets : Int) := ⟨_, rfl, Int.emod_nonneg _ (by omega), Int.emod_lt_of_pos _ (by omega)⟩
            rw [hy] at hrest
            obtain ⟨x0, x1, x2, x3, x4, x5, x6⟩ := bx_seven hX.out
            clear x0 x1 x2 x3 x4 x5 hy
            have hO3 : ∀ o, Hid ((wr.alloc o).drew.ownsRow W5.heap.size 3 1 uv j (us.map (Value.int .i64))) := fun o => (hown.out.alloc o).drew
            have HC3' : Hid (∀ j u, ([.int .i64 y] : List Value)[j]? = some u → (wr.alloc (.cells #[.int .i64 y] 3)).drew.cell? ((⟨wr.heap.size, 0, none⟩ : Addr).add j) = some u) := cell_one' wr (.int .i64 y) 3
            have hob : ∀ j, uv.ownBlock = some j → W5.heap.size ≤ j := fun j e => (hown.out.lt j e).1
            obtain ⟨uA, uc', rfl⟩ := own_form hown.out
            have hbk : ∀ o w4, (wr.alloc o).drew.grownBy w4 (Value.ownBlock (.slice uA j uc')) → ∀ j, j < W5.heap.size → w4.heap[j]? = wr.heap[j]? := fun o w4 hg j hj => (hg.block j (by simp; omega) (fun e => by have := hob j e.symm; omega)).trans (Below.heap_alloc _ _ _ (by omega))
            have hXg := fun o w4 hg => (hbk o w4 hg _ (show w.heap.size + 1 + 1 + 1 < W5.heap.size by omega)).trans hX.out
            have hLg : ∀ o w4, (wr.alloc o).drew.grownBy w4 (Value.ownBlock (.slice uA j uc')) → Lo (w.heap.size + 1) wr w4 := fun o w4 hg => ⟨by have := hg.size; simp at this; omega, fun j hj => hbk o w4 hg j (by omega)⟩
            go_wp2_with fail
            have xx6 : ∀ o, (wr.alloc o).drew.cell? ⟨w.heap.size + 1 + 1 + 1, 6, none⟩ = some (.slice uA j uc') := fun o => (World.cell?_of_block (a := ⟨w.heap.size + 1 + 1 + 1, 6, none⟩) (Below.heap_alloc wr o _ (by simp; omega))).trans x6
            go_region_law
              (first
                | (refine Row0.step_append_sl (by rfl) (.tmp 87) (.tmp 95) 34 (by rfl) W5.heap.size 3 j0 (.int .i64 0) 1 8 Try.underlying34 hj0 hy0 hy1 hy2 rfl (by decide) _ j _ (by rfl) (hO3 _).out (some ⟨wr.heap.size, 0, none⟩) 1 1 [.int .i64 y] (by rfl) (fun e => by cases e) rfl (fun a e => by cases e; exact HC3'.out) (by simp [Value.oneCell']) (by unfold maxLen; omega) (by omega) (by simp; omega) ?_; intro v' w4 hown' hgrow; obtain ⟨A', c', rfl⟩ := own_form hown'; have hL4 := hLg _ _ hgrow; have hX4 := hXg _ _ hgrow; have z6 := (bx_seven hX4).2.2.2.2.2.2; have f6 := bx_free hX4 6)
                | (go_simp; go_at_call 43; refine (hrest _).mono ?_; rintro e w' ⟨rfl, rfl⟩))
            all_goals
              have hbk4 := hbk _ _ hgrow
              have hL4 := hLg _ _ hgrow
              have hX4 := hXg _ _ hgrow
              have hX5 : Hid ((w4.setCell ⟨w.heap.size + 1 + 1 + 1, 6, none⟩ (.slice A' (j + 1) c')).heap[w.heap.size + 1 + 1 + 1]? = some (.cells (taskCells ((i : Int) + 1) (kk : Int) (D : Int) (T : Int) (10 * (R : Int) + (i : Int)) (.slice ca n2 cc) (.slice A' (j + 1) c')) 36 (0, 0))) := bx_set6 hX4 _
              have hN5 : Hid ((w4.setCell ⟨w.heap.size + 1 + 1 + 1, 6, none⟩ (.slice A' (j + 1) c')).heap[w.heap.size]? = some (.cells #[.int .i64 c, .int .i64 d, .int .i64 t, .int .i64 p, .int .i64 k, .slice (some ad) ul uc] 63 (0, 0))) := (bx_other _ _ _ _ (by omega) _).trans ((hbk4 _ (by omega)).trans hN.out)
              have hZ5 : Hid ((w4.setCell ⟨w.heap.size + 1 + 1 + 1, 6, none⟩ (.slice A' (j + 1) c')).heap[w.heap.size + 1]? = some (.cells (taskCells 0 0 0 0 0 (.slice none 0 0) (.slice none 0 0)) 36 (0, 0))) := (bx_other _ _ _ _ (by omega) _).trans ((hbk4 _ (by omega)).trans hZ.out)
              have hO5 : Hid ((w4.setCell ⟨w.heap.size + 1 + 1 + 1, 6, none⟩ (.slice A' (j + 1) c')).ownsRow W5.heap.size 3 1 (.slice A' (j + 1) c') (j + 1) ((us ++ [y]).map (Value.int .i64))) := own_set (by rw [List.map_append]; exact hown') (by omega) _ _
              have hB5 : Below w.heap.size w w4 := ((BW.out.alloc BW.out.size _).drew).grown hgrow (by simp; omega) (fun j e => by have := hob j e; omega)
              have hB6 : Hid (Below w.heap.size w (w4.setCell ⟨w.heap.size + 1 + 1 + 1, 6, none⟩ (.slice A' (j + 1) c'))) := bx_below hB5 _ (by omega) _ _
              have hS6 : Hid (W5.heap.size ≤ (w4.setCell ⟨w.heap.size + 1 + 1 + 1, 6, none⟩ (.slice A' (j + 1) c')).heap.size) := by have := hgrow.size; simp at this; show _ ≤ _; simp [World.setCell]; omega
              have hR6 : Hid (RdI (w4.setCell ⟨w.heap.size + 1 + 1 + 1, 6, none⟩ (.slice A' (j + 1) c')) ca n2 chs2) := hrd.out.kept (fun a e => by have := HC3.out a e; exact (bx_other _ _ _ _ (by omega) _).trans (hbk4 _ (by omega)))
              have hU5 : Hid (∀ x ∈ us ++ [y], 0 ≤ x ∧ x < (sets : Int)) := fun x hx => by
                rcases List.mem_append.1 hx with h | h
                · exact hus.out x h
                · simp at h; subst h; exact hyw
              clear hbk4 hL4 hX4 hbk hXg hLg hgrow hown' hob hown hX hN hZ BW f6 z6 hB5 hsz hrd hkeep hLR hO3 HC3' k5 hxr x6 hrest hus
              go_wp2
              go_roundg (min ul 5 - (j + 1))
              case measure => omega
              case rel => exact ⟨j + 1, _, us ++ [y], by omega, by omega, by go_num, by simp [hul2], hU5.out, hO5.out, hX5.out, hN5.out, hZ5.out, hS6.out, hB6.out, hR6.out⟩
          · have hnl : decide ((j : Int) < (ul : Int) ∧ (j : Int) < 5) = false := by simp; omega
            obtain ⟨uA, ucc, rfl, hrdu, hu1, hu2, hu3, hu4⟩ := own_rdI hown.out
            have hX4 := hX.out
            obtain ⟨x0, x1, x2, x3, x4, x5, x6⟩ := bx_seven hX4
            obtain ⟨r0, r1, r2, r3, r4, r5, r6⟩ := bx_seven hZ.out
            have f0 := bx_free hZ.out 0
            have f1 := bx_free hZ.out 1
            have f2 := bx_free hZ.out 2
            have f3 := bx_free hZ.out 3
            have f4 := bx_free hZ.out 4
            have f5 := bx_free hZ.out 5
            have f6 := bx_free hZ.out 6
            have HF : Hid ((put7 wr (w.heap.size + 1) ((i : Int) + 1) (kk : Int) (D : Int) (T : Int) (10 * (R : Int) + (i : Int)) (.slice ca n2 cc) (.slice uA j ucc)).heap[w.heap.size + 1]? = some (.cells (taskCells ((i : Int) + 1) (kk : Int) (D : Int) (T : Int) (10 * (R : Int) + (i : Int)) (.slice ca n2 cc) (.slice uA j ucc)) 36 (0, 0)) ∧
                (∃ x, Made1 w (put7 wr (w.heap.size + 1) ((i : Int) + 1) (kk : Int) (D : Int) (T : Int) (10 * (R : Int) + (i : Int)) (.slice ca n2 cc) (.slice uA j ucc)) i (sets : Int) (.agg (taskCells ((i : Int) + 1) (kk : Int) (D : Int) (T : Int) (10 * (R : Int) + (i : Int)) (.slice ca n2 cc) (.slice uA j ucc))) x) ∧
                Below w.heap.size w (put7 wr (w.heap.size + 1) ((i : Int) + 1) (kk : Int) (D : Int) (T : Int) (10 * (R : Int) + (i : Int)) (.slice ca n2 cc) (.slice uA j ucc))) := by
              refine ⟨put7_same hZ.out _ _ _ _ _ _ _, ⟨⟨(i : Int) + 1, (kk : Int), (D : Int), (T : Int), 10 * (R : Int) + (i : Int), chs2, us⟩, ⟨rfl, by show (1 : Int) ≤ (kk : Int); omega, by show (kk : Int) ≤ (D : Int); omega, by show (D : Int) ≤ (T : Int); omega, HTP.out, ⟨(R : Int), by omega, by omega, rfl⟩, HCH.out.1, HCH.out.2, hus.out, by show us.length ≤ 5; omega⟩, ?_⟩, put7_below BW.out _ (by omega) _ _ _ _ _ _ _⟩
              have hs9 := hsz.out
              refine ⟨ca, n2, cc, uA, j, ucc, rfl, hrd.out.kept (fun a e => put7_other _ _ _ (by have := HC3.out a e; omega) _ _ _ _ _ _ _), hrdu.kept (fun a e => put7_other _ _ _ (by have := hu3 a e; omega) _ _ _ _ _ _ _), fun a e => ?_, fun a e => ?_, hc1, hc2, hu1, hu2, hc4, hu4⟩
              · rw [put7_size]; have := HC3.out a e; omega
              · rw [put7_size]; have := hu3 a e; omega
            clear hX hN hZ BW hown hrd hrdu hu1 hu2 hu3 hu4 hX4 hus hsz
            by_cases hju : j < ul
            · have hz1' : (j : Int) < (ul : Int) := by omega
              have hz2' : ¬ (j : Int) < 5 := by omega
              go_wp2
              obtain ⟨q0, q1, q2, q3, q4, q5, q6⟩ := bx_seven HF.out.1
              unfold put7 at q0 q1 q2 q3 q4 q5 q6
              refine bodyPost_ret (v := .agg (taskCells ((i : Int) + 1) (kk : Int) (D : Int) (T : Int) (10 * (R : Int) + (i : Int)) (.slice ca n2 cc) (.slice uA j ucc))) ?_ rfl ⟨_, rfl, HF.out.2.1, HF.out.2.2⟩
              simp [results, Try.results44, go_sem, q0, q1, q2, q3, q4, q5, q6, taskCells]
            · have hz1' : ¬ (j : Int) < (ul : Int) := by omega
              go_wp2
              obtain ⟨q0, q1, q2, q3, q4, q5, q6⟩ := bx_seven HF.out.1
              unfold put7 at q0 q1 q2 q3 q4 q5 q6
              refine bodyPost_ret (v := .agg (taskCells ((i : Int) + 1) (kk : Int) (D : Int) (T : Int) (10 * (R : Int) + (i : Int)) (.slice ca n2 cc) (.slice uA j ucc))) ?_ rfl ⟨_, rfl, HF.out.2.1, HF.out.2.2⟩
              simp [results, Try.results44, go_sem, q0, q1, q2, q3, q4, q5, q6, taskCells]
end Go.Proofs.Ytdmfdgadhobkpaa.Sys
