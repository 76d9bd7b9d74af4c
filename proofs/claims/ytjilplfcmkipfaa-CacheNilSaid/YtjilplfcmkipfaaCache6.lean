/-
  The statement CacheNil, walked.
-/
import Derived.Test.YtjilplfcmkipfaaWork
namespace Go.Proofs.Ytjilplfcmkipfaa.Cache
open Go.RowKit Go.Shelf Go.Proofs.Ytjilplfcmkipfaa.Bits

theorem put8 (w : World) (p : Nat) (v0 v1 v2 v3 v4 v5 v6 v7 : Value) (u0 u1 u2 u3 u4 u5 u6 u7 : Value) (t : TypeId) (h : w.heap[p]? = some (.cells #[u0, u1, u2, u3, u4, u5, u6, u7] t (0, 0))) :
    ((((((((w.setCell ⟨p, 0, none⟩ v0).setCell ⟨p, 1, none⟩ v1).setCell ⟨p, 2, none⟩ v2).setCell ⟨p, 3, none⟩ v3).setCell ⟨p, 4, none⟩ v4).setCell ⟨p, 5, none⟩ v5).setCell ⟨p, 6, none⟩ v6).setCell ⟨p, 7, none⟩ v7).heap[p]? = some (.cells #[v0, v1, v2, v3, v4, v5, v6, v7] t (0, 0)) := by
  have h1 := Lib.heap_setCell_same (i := 0) h v0
  have h2 := Lib.heap_setCell_same (i := 1) h1 v1
  have h3 := Lib.heap_setCell_same (i := 2) h2 v2
  have h4 := Lib.heap_setCell_same (i := 3) h3 v3
  have h5 := Lib.heap_setCell_same (i := 4) h4 v4
  have h6 := Lib.heap_setCell_same (i := 5) h5 v5
  have h7 := Lib.heap_setCell_same (i := 6) h6 v6
  have h8 := Lib.heap_setCell_same (i := 7) h7 v7
  rw [h8]
  simp
set_option maxHeartbeats 4000000 in
set_option maxRecDepth 100000 in
theorem step_nil (a b c e x y z u : Int) (w : World) :
    Calls Try.prog 19 #[.pointer none, .agg #[.int .i64 1, .int .i64 0, .int .i64 0, .int .i64 0, .int .i64 0, .slice none 0 0, .slice none 0 0], .int .i64 1, .agg #[.int .i64 a, .int .i64 b, .int .i64 c, .int .i64 e, .int .u64 x, .int .u64 y, .int .u64 z, .int .u64 u]] w fun r w' =>
      r = .returned (.tuple #[.agg #[.int .i64 a, .int .i64 b, .int .i64 c, .int .i64 e, .int .u64 x, .int .u64 y, .int .u64 z, .int .u64 u], .bool false]) ∧ Below w.heap.size w w' := by
  go_enter Try.func19, Try.ntmps19
  go_wp2
  have hb : Below w.heap.size w (((w.alloc (.cells #[.int .i64 1, .int .i64 0, .int .i64 0, .int .i64 0, .int .i64 0, .slice none 0 0, .slice none 0 0] 53)).alloc (.cells #[.int .i64 a, .int .i64 b, .int .i64 c, .int .i64 e, .int .u64 x, .int .u64 y, .int .u64 z, .int .u64 u] 47)).alloc (.cells #[.int .i64 a, .int .i64 b, .int .i64 c, .int .i64 e, .int .u64 x, .int .u64 y, .int .u64 z, .int .u64 u] 47)) :=
    (((Below.refl _ w).alloc (Nat.le_refl _) _).alloc (by simp) _).alloc (by simp; omega) _
  have hh := heap_new ((w.alloc (.cells #[.int .i64 1, .int .i64 0, .int .i64 0, .int .i64 0, .int .i64 0, .slice none 0 0, .slice none 0 0] 53)).alloc (.cells #[.int .i64 a, .int .i64 b, .int .i64 c, .int .i64 e, .int .u64 x, .int .u64 y, .int .u64 z, .int .u64 u] 47)) (.cells #[.int .i64 a, .int .i64 b, .int .i64 c, .int .i64 e, .int .u64 x, .int .u64 y, .int .u64 z, .int .u64 u] 47) (w.heap.size + 1 + 1) (by simp)
  generalize ((w.alloc (.cells #[.int .i64 1, .int .i64 0, .int .i64 0, .int .i64 0, .int .i64 0, .slice none 0 0, .slice none 0 0] 53)).alloc (.cells #[.int .i64 a, .int .i64 b, .int .i64 c, .int .i64 e, .int .u64 x, .int .u64 y, .int .u64 z, .int .u64 u] 47)).alloc (.cells #[.int .i64 a, .int .i64 b, .int .i64 c, .int .i64 e, .int .u64 x, .int .u64 y, .int .u64 z, .int .u64 u] 47) = W9 at *
  have q0 : W9.cell? ⟨w.heap.size + 1 + 1, 0, none⟩ = some (.int .i64 a) := by simp [World.cell?, hh]
  have q1 : W9.cell? ⟨w.heap.size + 1 + 1, 1, none⟩ = some (.int .i64 b) := by simp [World.cell?, hh]
  have q2 : W9.cell? ⟨w.heap.size + 1 + 1, 2, none⟩ = some (.int .i64 c) := by simp [World.cell?, hh]
  have q3 : W9.cell? ⟨w.heap.size + 1 + 1, 3, none⟩ = some (.int .i64 e) := by simp [World.cell?, hh]
  have q4 : W9.cell? ⟨w.heap.size + 1 + 1, 4, none⟩ = some (.int .u64 x) := by simp [World.cell?, hh]
  have q5 : W9.cell? ⟨w.heap.size + 1 + 1, 5, none⟩ = some (.int .u64 y) := by simp [World.cell?, hh]
  have q6 : W9.cell? ⟨w.heap.size + 1 + 1, 6, none⟩ = some (.int .u64 z) := by simp [World.cell?, hh]
  have q7 : W9.cell? ⟨w.heap.size + 1 + 1, 7, none⟩ = some (.int .u64 u) := by simp [World.cell?, hh]
  refine bodyPost_ret (v := .tuple #[.agg #[.int .i64 a, .int .i64 b, .int .i64 c, .int .i64 e, .int .u64 x, .int .u64 y, .int .u64 z, .int .u64 u], .bool false]) ?_ rfl ⟨rfl, hb⟩
  simp [results, Try.results19, go_sem, q0, q1, q2, q3, q4, q5, q6, q7]
theorem c8w {w : World} {p : Nat} {a b c e x y z u : Int} (h : w.heap[p]? = some (.cells #[.int .i64 a, .int .i64 b, .int .i64 c, .int .i64 e, .int .u64 x, .int .u64 y, .int .u64 z, .int .u64 u] 47 (0, 0))) : w.cell? ⟨p, 0, none⟩ = some (.int .i64 a) ∧ w.cell? ⟨p, 1, none⟩ = some (.int .i64 b) ∧ w.cell? ⟨p, 2, none⟩ = some (.int .i64 c) ∧ w.cell? ⟨p, 3, none⟩ = some (.int .i64 e) ∧ w.cell? ⟨p, 4, none⟩ = some (.int .u64 x) ∧ w.cell? ⟨p, 5, none⟩ = some (.int .u64 y) ∧ w.cell? ⟨p, 6, none⟩ = some (.int .u64 z) ∧ w.cell? ⟨p, 7, none⟩ = some (.int .u64 u) := by
  refine ⟨?_, ?_, ?_, ?_, ?_, ?_, ?_, ?_⟩ <;> simp [World.cell?, h]
theorem lt8w {w : World} {p : Nat} {o : Obj} (h : w.heap[p]? = some o) : p < w.heap.size := (Array.getElem?_eq_some_iff.1 h).1
theorem kept8 {w w' : World} {p : Nat} {o : Obj} (h : w.heap[p]? = some o) (hb : Below w.heap.size w w') : w'.heap[p]? = some o := (hb.block _ (lt8w h)).trans h
set_option maxHeartbeats 8000000 in
set_option maxRecDepth 100000 in
theorem CacheNil_walk (a0 a1 : Int) (a b c e x y z u : Int) (W : World) (_w0 : (Lit.int .i64 a0).wf = true) (_w1 : (Lit.int .i64 a1).wf = true) (_v0 : (Lit.int .i64 a).wf = true) (_v1 : (Lit.int .i64 b).wf = true) (_v2 : (Lit.int .i64 c).wf = true) (_v3 : (Lit.int .i64 e).wf = true)
    (_v4 : (Lit.int .u64 x).wf = true) (_v5 : (Lit.int .u64 y).wf = true) (_v6 : (Lit.int .u64 z).wf = true) (_v7 : (Lit.int .u64 u).wf = true) :
    Calls Try.prog 7 #[.int .i64 a0, .int .i64 a1, .agg #[.int .i64 a, .int .i64 b, .int .i64 c, .int .i64 e, .int .u64 x, .int .u64 y, .int .u64 z, .int .u64 u]] W fun r w' => r = .returned (.bool true) ∧ Below W.heap.size W w' := by
  have nP0 := heap_new W (.cells #[.int .i64 a, .int .i64 b, .int .i64 c, .int .i64 e, .int .u64 x, .int .u64 y, .int .u64 z, .int .u64 u] 47) _ rfl
  have hb0 := (Below.refl W.heap.size W).alloc (Nat.le_refl _) (.cells #[.int .i64 a, .int .i64 b, .int .i64 c, .int .i64 e, .int .u64 x, .int .u64 y, .int .u64 z, .int .u64 u] 47)
  generalize hW0 : W.alloc (.cells #[.int .i64 a, .int .i64 b, .int .i64 c, .int .i64 e, .int .u64 x, .int .u64 y, .int .u64 z, .int .u64 u] 47) = W0 at *
  have HP0 := Lib.hid nP0
  have HB0 := Lib.hid hb0
  clear nP0 hb0
  by_cases h01 : 0 ≤ a0 ∧ a0 ≤ 256
  · obtain ⟨n, rfl⟩ : ∃ n : Nat, a0 = (n : Int) := ⟨a0.toNat, by omega⟩
    have hn : n ≤ 256 := by omega
    have q1 : decide ((n : Int) ≤ 256) = true := decide_eq_true (by omega)
    have q2' : (0 : Int) ≤ (n : Int) := by omega
    clear h01
    go_enter Try.func7, Try.ntmps7
    go_wp2_with fail
    refine (new_any n hn _).mono ?_
    rintro r W1 ⟨pp, gg, rfl, _, hb1', _, _⟩
    have nP := kept8 HP0.out hb1'
    have hb1 : Below W.heap.size W W1 := HB0.out.trans (hb1'.mono HB0.out.size)
    clear hb1' HP0 HB0
    clear hW0
    go_wp2_with fail
    refine (flush_nil _).mono ?_
    rintro r w' ⟨rfl, rfl⟩
    have nN := heap_new w' (.cells #[.int .u64 0, .int .u64 0, .int .u64 0, .int .u64 0] 30) _ rfl
    have nP2 := kept8 nP ((Below.refl _ w').alloc (Nat.le_refl _) (.cells #[.int .u64 0, .int .u64 0, .int .u64 0, .int .u64 0] 30))
    have hb2 := hb1.alloc hb1.size (.cells #[.int .u64 0, .int .u64 0, .int .u64 0, .int .u64 0] 30)
    obtain ⟨m0, m1, m2, m3, m4, m5, m6, m7⟩ := c8w nP2
    have nP2_ := Lib.hid nP2
    have nP_ := Lib.hid nP
    have nN_ := Lib.hid nN
    clear nP2 nP nN
    go_wp2_with fail
    have nP2 := nP2_.out
    have nP := nP_.out
    have nN := nN_.out
    clear nP2_ nP_ nN_
    generalize w'.alloc (.cells #[.int .u64 0, .int .u64 0, .int .u64 0, .int .u64 0] 30) = W2 at *
    generalize w'.heap.size = q at *
    have HN2 := Lib.hid nN
    have HP2 := Lib.hid nP2
    have HB2 := Lib.hid hb2
    clear nN nP nP2 hb1 hb2
    refine (step_nil a b c e x y z u W2).mono ?_
    rintro r W3 ⟨rfl, hb3⟩
    have HN3 := Lib.hid (kept8 HN2.out hb3)
    have HP3 := Lib.hid (kept8 HP2.out hb3)
    have HB3 := Lib.hid (HB2.out.trans (hb3.mono HB2.out.size))
    clear hb3 HN2 HP2 HB2 m0 m1 m2 m3 m4 m5 m6 m7
    go_wp2_with fail
    have nX := heap_new W3 (.cells #[.int .i64 a, .int .i64 b, .int .i64 c, .int .i64 e, .int .u64 x, .int .u64 y, .int .u64 z, .int .u64 u] 47) _ rfl
    have nN4 := kept8 HN3.out ((Below.refl _ W3).alloc (Nat.le_refl _) (.cells #[.int .i64 a, .int .i64 b, .int .i64 c, .int .i64 e, .int .u64 x, .int .u64 y, .int .u64 z, .int .u64 u] 47))
    have nP4 := kept8 HP3.out ((Below.refl _ W3).alloc (Nat.le_refl _) (.cells #[.int .i64 a, .int .i64 b, .int .i64 c, .int .i64 e, .int .u64 x, .int .u64 y, .int .u64 z, .int .u64 u] 47))
    have nB4 := HB3.out.alloc HB3.out.size (.cells #[.int .i64 a, .int .i64 b, .int .i64 c, .int .i64 e, .int .u64 x, .int .u64 y, .int .u64 z, .int .u64 u] 47)
    generalize W3.alloc (.cells #[.int .i64 a, .int .i64 b, .int .i64 c, .int .i64 e, .int .u64 x, .int .u64 y, .int .u64 z, .int .u64 u] 47) = W4 at *
    generalize W3.heap.size = q2 at *
    have LN := Lib.hid (box_in (A := noneW) nN4)
    have LP : Hid (∀ w, Below W4.heap.size W4 w → w.heap[W.heap.size]? = some (.cells #[.int .i64 a, .int .i64 b, .int .i64 c, .int .i64 e, .int .u64 x, .int .u64 y, .int .u64 z, .int .u64 u] 47 (0, 0))) := fun w h => kept8 nP4 h
    have LW : Hid (∀ w, Below W4.heap.size W4 w → w.heap[q2]? = some (.cells #[.int .i64 a, .int .i64 b, .int .i64 c, .int .i64 e, .int .u64 x, .int .u64 y, .int .u64 z, .int .u64 u] 47 (0, 0))) := fun w h => kept8 nX h
    have HB4 := Lib.hid nB4
    have f1 : eqN (ofN []) noneW = true := by decide
    clear nX nN4 nP4 nB4 HN3 HP3 HB3
    refine Calm.wp_region_calm (B := W4.heap.size) (W := W4) (by kernel_rfl) (by kernel_rfl) (by kernel_rfl) (Nat.le_refl _) (Below.refl _ _).drew ?_
    apply Exists.intro
    repeat (first
      | (apply Calm.calm_skip
         · rfl
         intro N hN
         go_simp
         apply hN.out
         clear hN N)
      | (apply Calm.calm_val
         · rfl
         · intro w hB hF K hK
           first
             | exact opAt_eqt f1 (by rfl) (by rfl) (by rfl) (hK.out _ _ rfl (Below.refl _ _))
             | exact opAt_eqw (by rfl) (by rfl) (by rfl) (hK.out _ _ rfl (Below.refl _ _))
             | refine opAt_load (by rfl) (by rfl) (LN.out w hB) (hK.out _ _ rfl (Below.refl _ _))
             | (unfold Calm.opAt
                obtain ⟨g0, g1, g2, g3, g4, g5, g6, g7⟩ := c8w (LP.out w hB)
                obtain ⟨h0, h1, h2, h3, h4, h5, h6, h7⟩ := c8w (LW.out w hB)
                go_simp
                first
                  | (simp only [Calm.upon_value]
                     exact hK.out _ _ rfl (Below.refl _ _))
                  | (simp only [Calm.upon_enter]
                     with_reducible refine (awake8_any _).mono ?_
                     rintro e w' ⟨rfl, hb⟩
                     exact ⟨_, rfl, hK.out _ _ rfl hb⟩)
                  | (simp only [Calm.upon_enter]
                     with_reducible refine (sets_nil _).mono ?_
                     rintro e w' ⟨rfl, rfl⟩
                     exact ⟨_, rfl, hK.out _ _ rfl (Below.refl _ _)⟩)
                  | (simp only [Calm.upon_enter]
                     with_reducible refine (use_nil _ _ _).mono ?_
                     rintro e w' ⟨rfl, rfl⟩
                     exact ⟨_, rfl, hK.out _ _ rfl (Below.refl _ _)⟩)
                  | (simp only [Calm.upon_enter]
                     with_reducible refine (owner_nil _ _).mono ?_
                     rintro e w' ⟨rfl, rfl⟩
                     exact ⟨_, rfl, hK.out _ _ rfl (Below.refl _ _)⟩)
                  | (simp only [Calm.upon_enter]
                     with_reducible refine (of_nil _ _).mono ?_
                     rintro e w' ⟨rfl, hb⟩
                     exact ⟨_, rfl, hK.out _ _ rfl hb⟩))
         intro N hN
         go_simp
         apply hN.out
         clear hN N))
    apply Calm.calm_nil
    intro w9 hB9 _
    go_wp2
    go_ret
    exact ⟨rfl, HB4.out.trans (hB9.mono HB4.out.size)⟩
  · by_cases h0 : 0 ≤ a0
    · have q1 : decide (a0 ≤ 256) = false := decide_eq_false (by omega)
      have h01' := Lib.hid h01
      clear h01
      go_enter Try.func7, Try.ntmps7
      go_wp2_with fail
      refine (new_none a0 h01'.out _).mono ?_
      rintro r W1 ⟨rfl, rfl⟩
      have nP := HP0.out
      have hb1 := HB0.out
      clear HP0 HB0
      clear hW0
      go_wp2_with fail
      refine (flush_nil _).mono ?_
      rintro r w' ⟨rfl, rfl⟩
      have nN := heap_new w' (.cells #[.int .u64 0, .int .u64 0, .int .u64 0, .int .u64 0] 30) _ rfl
      have nP2 := kept8 nP ((Below.refl _ w').alloc (Nat.le_refl _) (.cells #[.int .u64 0, .int .u64 0, .int .u64 0, .int .u64 0] 30))
      have hb2 := hb1.alloc hb1.size (.cells #[.int .u64 0, .int .u64 0, .int .u64 0, .int .u64 0] 30)
      obtain ⟨m0, m1, m2, m3, m4, m5, m6, m7⟩ := c8w nP2
      have nP2_ := Lib.hid nP2
      have nP_ := Lib.hid nP
      have nN_ := Lib.hid nN
      clear nP2 nP nN
      go_wp2_with fail
      have nP2 := nP2_.out
      have nP := nP_.out
      have nN := nN_.out
      clear nP2_ nP_ nN_
      generalize w'.alloc (.cells #[.int .u64 0, .int .u64 0, .int .u64 0, .int .u64 0] 30) = W2 at *
      generalize w'.heap.size = q at *
      have HN2 := Lib.hid nN
      have HP2 := Lib.hid nP2
      have HB2 := Lib.hid hb2
      clear nN nP nP2 hb1 hb2
      refine (step_nil a b c e x y z u W2).mono ?_
      rintro r W3 ⟨rfl, hb3⟩
      have HN3 := Lib.hid (kept8 HN2.out hb3)
      have HP3 := Lib.hid (kept8 HP2.out hb3)
      have HB3 := Lib.hid (HB2.out.trans (hb3.mono HB2.out.size))
      clear hb3 HN2 HP2 HB2 m0 m1 m2 m3 m4 m5 m6 m7
      go_wp2_with fail
      have nX := heap_new W3 (.cells #[.int .i64 a, .int .i64 b, .int .i64 c, .int .i64 e, .int .u64 x, .int .u64 y, .int .u64 z, .int .u64 u] 47) _ rfl
      have nN4 := kept8 HN3.out ((Below.refl _ W3).alloc (Nat.le_refl _) (.cells #[.int .i64 a, .int .i64 b, .int .i64 c, .int .i64 e, .int .u64 x, .int .u64 y, .int .u64 z, .int .u64 u] 47))
      have nP4 := kept8 HP3.out ((Below.refl _ W3).alloc (Nat.le_refl _) (.cells #[.int .i64 a, .int .i64 b, .int .i64 c, .int .i64 e, .int .u64 x, .int .u64 y, .int .u64 z, .int .u64 u] 47))
      have nB4 := HB3.out.alloc HB3.out.size (.cells #[.int .i64 a, .int .i64 b, .int .i64 c, .int .i64 e, .int .u64 x, .int .u64 y, .int .u64 z, .int .u64 u] 47)
      generalize W3.alloc (.cells #[.int .i64 a, .int .i64 b, .int .i64 c, .int .i64 e, .int .u64 x, .int .u64 y, .int .u64 z, .int .u64 u] 47) = W4 at *
      generalize W3.heap.size = q2 at *
      have LN := Lib.hid (box_in (A := noneW) nN4)
      have LP : Hid (∀ w, Below W4.heap.size W4 w → w.heap[W.heap.size]? = some (.cells #[.int .i64 a, .int .i64 b, .int .i64 c, .int .i64 e, .int .u64 x, .int .u64 y, .int .u64 z, .int .u64 u] 47 (0, 0))) := fun w h => kept8 nP4 h
      have LW : Hid (∀ w, Below W4.heap.size W4 w → w.heap[q2]? = some (.cells #[.int .i64 a, .int .i64 b, .int .i64 c, .int .i64 e, .int .u64 x, .int .u64 y, .int .u64 z, .int .u64 u] 47 (0, 0))) := fun w h => kept8 nX h
      have HB4 := Lib.hid nB4
      have f1 : eqN (ofN []) noneW = true := by decide
      clear nX nN4 nP4 nB4 HN3 HP3 HB3
      refine Calm.wp_region_calm (B := W4.heap.size) (W := W4) (by kernel_rfl) (by kernel_rfl) (by kernel_rfl) (Nat.le_refl _) (Below.refl _ _).drew ?_
      apply Exists.intro
      repeat (first
        | (apply Calm.calm_skip
           · rfl
           intro N hN
           go_simp
           apply hN.out
           clear hN N)
        | (apply Calm.calm_val
           · rfl
           · intro w hB hF K hK
             first
               | exact opAt_eqt f1 (by rfl) (by rfl) (by rfl) (hK.out _ _ rfl (Below.refl _ _))
               | exact opAt_eqw (by rfl) (by rfl) (by rfl) (hK.out _ _ rfl (Below.refl _ _))
               | refine opAt_load (by rfl) (by rfl) (LN.out w hB) (hK.out _ _ rfl (Below.refl _ _))
               | (unfold Calm.opAt
                  obtain ⟨g0, g1, g2, g3, g4, g5, g6, g7⟩ := c8w (LP.out w hB)
                  obtain ⟨h0, h1, h2, h3, h4, h5, h6, h7⟩ := c8w (LW.out w hB)
                  go_simp
                  first
                    | (simp only [Calm.upon_value]
                       exact hK.out _ _ rfl (Below.refl _ _))
                    | (simp only [Calm.upon_enter]
                       with_reducible refine (awake8_any _).mono ?_
                       rintro e w' ⟨rfl, hb⟩
                       exact ⟨_, rfl, hK.out _ _ rfl hb⟩)
                    | (simp only [Calm.upon_enter]
                       with_reducible refine (sets_nil _).mono ?_
                       rintro e w' ⟨rfl, rfl⟩
                       exact ⟨_, rfl, hK.out _ _ rfl (Below.refl _ _)⟩)
                    | (simp only [Calm.upon_enter]
                       with_reducible refine (use_nil _ _ _).mono ?_
                       rintro e w' ⟨rfl, rfl⟩
                       exact ⟨_, rfl, hK.out _ _ rfl (Below.refl _ _)⟩)
                    | (simp only [Calm.upon_enter]
                       with_reducible refine (owner_nil _ _).mono ?_
                       rintro e w' ⟨rfl, rfl⟩
                       exact ⟨_, rfl, hK.out _ _ rfl (Below.refl _ _)⟩)
                    | (simp only [Calm.upon_enter]
                       with_reducible refine (of_nil _ _).mono ?_
                       rintro e w' ⟨rfl, hb⟩
                       exact ⟨_, rfl, hK.out _ _ rfl hb⟩))
           intro N hN
           go_simp
           apply hN.out
           clear hN N))
      apply Calm.calm_nil
      intro w9 hB9 _
      go_wp2
      go_ret
      exact ⟨rfl, HB4.out.trans (hB9.mono HB4.out.size)⟩
    · have q1 : decide (0 ≤ a0) = false := decide_eq_false h0
      have h01' := Lib.hid h01
      clear h01
      go_enter Try.func7, Try.ntmps7
      go_wp2_with fail
      refine (new_none a0 h01'.out _).mono ?_
      rintro r W1 ⟨rfl, rfl⟩
      have nP := HP0.out
      have hb1 := HB0.out
      clear HP0 HB0
      clear hW0
      go_wp2_with fail
      refine (flush_nil _).mono ?_
      rintro r w' ⟨rfl, rfl⟩
      have nN := heap_new w' (.cells #[.int .u64 0, .int .u64 0, .int .u64 0, .int .u64 0] 30) _ rfl
      have nP2 := kept8 nP ((Below.refl _ w').alloc (Nat.le_refl _) (.cells #[.int .u64 0, .int .u64 0, .int .u64 0, .int .u64 0] 30))
      have hb2 := hb1.alloc hb1.size (.cells #[.int .u64 0, .int .u64 0, .int .u64 0, .int .u64 0] 30)
      obtain ⟨m0, m1, m2, m3, m4, m5, m6, m7⟩ := c8w nP2
      have nP2_ := Lib.hid nP2
      have nP_ := Lib.hid nP
      have nN_ := Lib.hid nN
      clear nP2 nP nN
      go_wp2_with fail
      have nP2 := nP2_.out
      have nP := nP_.out
      have nN := nN_.out
      clear nP2_ nP_ nN_
      generalize w'.alloc (.cells #[.int .u64 0, .int .u64 0, .int .u64 0, .int .u64 0] 30) = W2 at *
      generalize w'.heap.size = q at *
      have HN2 := Lib.hid nN
      have HP2 := Lib.hid nP2
      have HB2 := Lib.hid hb2
      clear nN nP nP2 hb1 hb2
      refine (step_nil a b c e x y z u W2).mono ?_
      rintro r W3 ⟨rfl, hb3⟩
      have HN3 := Lib.hid (kept8 HN2.out hb3)
      have HP3 := Lib.hid (kept8 HP2.out hb3)
      have HB3 := Lib.hid (HB2.out.trans (hb3.mono HB2.out.size))
      clear hb3 HN2 HP2 HB2 m0 m1 m2 m3 m4 m5 m6 m7
      go_wp2_with fail
      have nX := heap_new W3 (.cells #[.int .i64 a, .int .i64 b, .int .i64 c, .int .i64 e, .int .u64 x, .int .u64 y, .int .u64 z, .int .u64 u] 47) _ rfl
      have nN4 := kept8 HN3.out ((Below.refl _ W3).alloc (Nat.le_refl _) (.cells #[.int .i64 a, .int .i64 b, .int .i64 c, .int .i64 e, .int .u64 x, .int .u64 y, .int .u64 z, .int .u64 u] 47))
      have nP4 := kept8 HP3.out ((Below.refl _ W3).alloc (Nat.le_refl _) (.cells #[.int .i64 a, .int .i64 b, .int .i64 c, .int .i64 e, .int .u64 x, .int .u64 y, .int .u64 z, .int .u64 u] 47))
      have nB4 := HB3.out.alloc HB3.out.size (.cells #[.int .i64 a, .int .i64 b, .int .i64 c, .int .i64 e, .int .u64 x, .int .u64 y, .int .u64 z, .int .u64 u] 47)
      generalize W3.alloc (.cells #[.int .i64 a, .int .i64 b, .int .i64 c, .int .i64 e, .int .u64 x, .int .u64 y, .int .u64 z, .int .u64 u] 47) = W4 at *
      generalize W3.heap.size = q2 at *
      have LN := Lib.hid (box_in (A := noneW) nN4)
      have LP : Hid (∀ w, Below W4.heap.size W4 w → w.heap[W.heap.size]? = some (.cells #[.int .i64 a, .int .i64 b, .int .i64 c, .int .i64 e, .int .u64 x, .int .u64 y, .int .u64 z, .int .u64 u] 47 (0, 0))) := fun w h => kept8 nP4 h
      have LW : Hid (∀ w, Below W4.heap.size W4 w → w.heap[q2]? = some (.cells #[.int .i64 a, .int .i64 b, .int .i64 c, .int .i64 e, .int .u64 x, .int .u64 y, .int .u64 z, .int .u64 u] 47 (0, 0))) := fun w h => kept8 nX h
      have HB4 := Lib.hid nB4
      have f1 : eqN (ofN []) noneW = true := by decide
      clear nX nN4 nP4 nB4 HN3 HP3 HB3
      refine Calm.wp_region_calm (B := W4.heap.size) (W := W4) (by kernel_rfl) (by kernel_rfl) (by kernel_rfl) (Nat.le_refl _) (Below.refl _ _).drew ?_
      apply Exists.intro
      repeat (first
        | (apply Calm.calm_skip
           · rfl
           intro N hN
           go_simp
           apply hN.out
           clear hN N)
        | (apply Calm.calm_val
           · rfl
           · intro w hB hF K hK
             first
               | exact opAt_eqt f1 (by rfl) (by rfl) (by rfl) (hK.out _ _ rfl (Below.refl _ _))
               | exact opAt_eqw (by rfl) (by rfl) (by rfl) (hK.out _ _ rfl (Below.refl _ _))
               | refine opAt_load (by rfl) (by rfl) (LN.out w hB) (hK.out _ _ rfl (Below.refl _ _))
               | (unfold Calm.opAt
                  obtain ⟨g0, g1, g2, g3, g4, g5, g6, g7⟩ := c8w (LP.out w hB)
                  obtain ⟨h0, h1, h2, h3, h4, h5, h6, h7⟩ := c8w (LW.out w hB)
                  go_simp
                  first
                    | (simp only [Calm.upon_value]
                       exact hK.out _ _ rfl (Below.refl _ _))
                    | (simp only [Calm.upon_enter]
                       with_reducible refine (awake8_any _).mono ?_
                       rintro e w' ⟨rfl, hb⟩
                       exact ⟨_, rfl, hK.out _ _ rfl hb⟩)
                    | (simp only [Calm.upon_enter]
                       with_reducible refine (sets_nil _).mono ?_
                       rintro e w' ⟨rfl, rfl⟩
                       exact ⟨_, rfl, hK.out _ _ rfl (Below.refl _ _)⟩)
                    | (simp only [Calm.upon_enter]
                       with_reducible refine (use_nil _ _ _).mono ?_
                       rintro e w' ⟨rfl, rfl⟩
                       exact ⟨_, rfl, hK.out _ _ rfl (Below.refl _ _)⟩)
                    | (simp only [Calm.upon_enter]
                       with_reducible refine (owner_nil _ _).mono ?_
                       rintro e w' ⟨rfl, rfl⟩
                       exact ⟨_, rfl, hK.out _ _ rfl (Below.refl _ _)⟩)
                    | (simp only [Calm.upon_enter]
                       with_reducible refine (of_nil _ _).mono ?_
                       rintro e w' ⟨rfl, hb⟩
                       exact ⟨_, rfl, hK.out _ _ rfl hb⟩))
           intro N hN
           go_simp
           apply hN.out
           clear hN N))
      apply Calm.calm_nil
      intro w9 hB9 _
      go_wp2
      go_ret
      exact ⟨rfl, HB4.out.trans (hB9.mono HB4.out.size)⟩
end Go.Proofs.Ytjilplfcmkipfaa.Cache
