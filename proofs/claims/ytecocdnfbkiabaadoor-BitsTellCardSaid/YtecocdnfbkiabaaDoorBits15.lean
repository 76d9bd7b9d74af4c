/-
  The statement BitsOne, walked.
-/
import Derived.Test.YtecocdnfbkiabaaDoorBits14
import Derived.Test.YtecocdnfbkiabaaDoorCalm
namespace Go.Proofs.YtecocdnfbkiabaaDoor.Bits
open Go.RowKit Go.Shelf

def eqN (A B : Nat → Nat) : Bool := (A 0 : Int) == B 0 && (A 1 : Int) == B 1 && (A 2 : Int) == B 2 && (A 3 : Int) == B 3
theorem eqN_of {A B : Nat → Nat} (h : ∀ j, j < 4 → A j = B j) : eqN A B = true := by
  simp [eqN, h 0 (by decide), h 1 (by decide), h 2 (by decide), h 3 (by decide)]
theorem of_eqN {A B : Nat → Nat} (h : eqN A B = true) : ∀ j, j < 4 → A j = B j := by
  simp only [eqN, Bool.and_eq_true, beq_iff_eq] at h
  obtain ⟨⟨⟨h0, h1⟩, h2⟩, h3⟩ := h
  intro j hj
  match j, hj with
  | 0, _ => omega
  | 1, _ => omega
  | 2, _ => omega
  | 3, _ => omega
theorem eqN_ext {A B : Nat → Nat} (hA : Ws A) (hB : Ws B) (h : ∀ i, i < 256 → hasN A i = hasN B i) : eqN A B = true := eqN_of (ext_has hA hB h)
@[go_sem] theorem run_eqN (A B : Nat → Nat) (w : World) : (Op.equalIn 10000 27 (bv (iw A)) (bv (iw B))).run Tryd.prog w = .ok (eqN A B) w := by
  unfold bv rowc iw
  rw [eqB]
  rfl
theorem bvl (A : Nat → Nat) : bv (iw A) = .agg #[.int .u64 (A 0 : Int), .int .u64 (A 1 : Int), .int .u64 (A 2 : Int), .int .u64 (A 3 : Int)] := rfl
/-- A set is read out of its block. -/
theorem opAt_load {o : Oper} {a : Act} {K : Value → World → Prop} {w : World} {x : Operand} (ho : o.op = .load 27 x) {b : Nat} (hx : a.eval x = .pointer (some ⟨b, 0, none⟩)) {A : Nat → Nat}
    (hh : w.heap[b]? = some (.cells (rowc (iw A)) 27 (0, 0))) (hK : K (bv (iw A)) w) : Calm.opAt Tryd.prog o a K w := by
  have c0 := cell_row hh 0 (by decide)
  have c1 := cell_row hh 1 (by decide)
  have c2 := cell_row hh 2 (by decide)
  have c3 := cell_row hh 3 (by decide)
  obtain ⟨d, op, ty, pos, aft, g⟩ := o
  simp only at ho
  subst ho
  unfold Calm.opAt execOp
  simp only [hx]
  unfold bv rowc at hK
  go_simp
  simpa only [Calm.upon_value] using hK
theorem opAt_eqt {A B : Nat → Nat} (h : eqN A B = true) {o : Oper} {a : Act} {K : Value → World → Prop} {w : World} {x y : Operand} {T' : TypeId} (ho : o.op = .binOp .eql 27 x y T') (hx : a.eval x = bv (iw A)) (hy : a.eval y = bv (iw B))
    (hK : K (.bool true) w) : Calm.opAt Tryd.prog o a K w := by
  obtain ⟨d, op, ty, pos, aft, g⟩ := o
  simp only at ho
  subst ho
  have e := eqB (A 0) (A 1) (A 2) (A 3) (B 0) (B 1) (B 2) (B 3) w
  have h' : ((A 0 : Int) == B 0 && (A 1 : Int) == B 1 && (A 2 : Int) == B 2 && (A 3 : Int) == B 3) = true := h
  rw [h'] at e
  unfold Calm.opAt execOp
  simp only [hx, hy, bvl]
  go_simp
  simpa only [Calm.upon_value] using hK
theorem opAt_net {A B : Nat → Nat} (h : eqN A B = true) {o : Oper} {a : Act} {K : Value → World → Prop} {w : World} {x y : Operand} {T' : TypeId} (ho : o.op = .binOp .neq 27 x y T') (hx : a.eval x = bv (iw A)) (hy : a.eval y = bv (iw B))
    (hK : K (.bool false) w) : Calm.opAt Tryd.prog o a K w := by
  obtain ⟨d, op, ty, pos, aft, g⟩ := o
  simp only at ho
  subst ho
  have e := eqB (A 0) (A 1) (A 2) (A 3) (B 0) (B 1) (B 2) (B 3) w
  have h' : ((A 0 : Int) == B 0 && (A 1 : Int) == B 1 && (A 2 : Int) == B 2 && (A 3 : Int) == B 3) = true := h
  rw [h'] at e
  unfold Calm.opAt execOp
  simp only [hx, hy, bvl]
  go_simp
  simpa only [Calm.upon_value] using hK
theorem box_in {W : World} {b : Nat} {A : Nat → Nat} (h : W.heap[b]? = some (.cells (rowc (iw A)) 27 (0, 0))) : ∀ w, Below W.heap.size W w → w.heap[b]? = some (.cells (rowc (iw A)) 27 (0, 0)) :=
  fun _ hB => (hB.block b (Array.getElem?_eq_some_iff.1 h).1).trans h

theorem c4 {w : World} {b : Nat} {A : Nat → Nat} (h : w.heap[b]? = some (.cells (rowc (iw A)) 27 (0, 0))) :
    w.cell? ⟨b, 0, none⟩ = some (.int .u64 (A 0 : Int)) ∧ w.cell? ⟨b, 1, none⟩ = some (.int .u64 (A 1 : Int)) ∧ w.cell? ⟨b, 2, none⟩ = some (.int .u64 (A 2 : Int)) ∧ w.cell? ⟨b, 3, none⟩ = some (.int .u64 (A 3 : Int)) :=
  ⟨cell_row h 0 (by decide), cell_row h 1 (by decide), cell_row h 2 (by decide), cell_row h 3 (by decide)⟩
theorem new4 (w : World) (X : Nat → Nat) : (w.alloc (.cells #[.int .u64 (X 0 : Int), .int .u64 (X 1 : Int), .int .u64 (X 2 : Int), .int .u64 (X 3 : Int)] 27)).heap[w.heap.size]? = some (.cells (rowc (iw X)) 27 (0, 0)) := heap_alloc_new _ _
theorem old4 {w w' : World} {b B : Nat} {A : Nat → Nat} (h : w.heap[b]? = some (.cells (rowc (iw A)) 27 (0, 0))) (hb : Below B w w') (hB : b < B) : w'.heap[b]? = some (.cells (rowc (iw A)) 27 (0, 0)) := (hb.block b hB).trans h
theorem lt4 {w : World} {b : Nat} {A : Nat → Nat} (h : w.heap[b]? = some (.cells (rowc (iw A)) 27 (0, 0))) : b < w.heap.size := (Array.getElem?_eq_some_iff.1 h).1
/-- What the statement says of the two sets. -/
theorem one_facts {A : Nat → Nat} (hA : Ws A) (i : Int) : ∃ X Y : Nat → Nat, Ws X ∧ Ws Y ∧ bv (iw (withW A i)) = bv (iw X) ∧ bv (iw (withoutW A i)) = bv (iw Y) ∧ hasI X i = decide (0 ≤ i ∧ i ≤ 255) ∧ hasI Y i = false ∧
    (¬ (0 ≤ i ∧ i ≤ 255) → X = A ∧ Y = A) ∧ (∀ k, k ≠ i → hasI X k = hasI A k ∧ hasI Y k = hasI A k) ∧ eqN (withoutW X i) Y = true ∧ eqN (withW Y i) X = true := by
  have hX : Ws (withW A i) := hA.or (Ws.one i)
  have hY : Ws (withoutW A i) := hA.min
  by_cases hi : 0 ≤ i ∧ i ≤ 255
  · obtain ⟨m, rfl⟩ : ∃ m : Nat, i = (m : Int) := ⟨i.toNat, by omega⟩
    have hm : m < 256 := by omega
    have hm' : (0 : Int) ≤ (m : Int) ∧ (m : Int) < 256 := by omega
    refine ⟨withW A m, withoutW A m, hX, hY, rfl, rfl, ?_, ?_, fun h => absurd hi h, fun k hk => ?_, ?_, ?_⟩
    · unfold hasI
      rw [if_pos hm', Int.toNat_natCast, has_with _ _ _ hm]
      simp
      omega
    · unfold hasI
      rw [if_pos hm', Int.toNat_natCast, has_without _ _ _ hm]
      simp
    · unfold hasI
      by_cases hk2 : 0 ≤ k ∧ k < 256
      · rw [if_pos hk2, if_pos hk2, if_pos hk2, has_with _ _ _ (by omega), has_without _ _ _ (by omega)]
        have : decide ((m : Int) = (k.toNat : Int)) = false := decide_eq_false (by omega)
        rw [this]
        simp
      · rw [if_neg hk2, if_neg hk2, if_neg hk2]
        exact ⟨rfl, rfl⟩
    · refine eqN_ext hX.min hY fun k hk => ?_
      rw [has_without _ _ _ hk, has_with _ _ _ hk, has_without _ _ _ hk]
      cases hasN A k <;> cases decide ((m : Int) = (k : Int)) <;> rfl
    · refine eqN_ext (hY.or (Ws.one _)) hX fun k hk => ?_
      rw [has_with _ _ _ hk, has_with _ _ _ hk, has_without _ _ _ hk]
      cases hasN A k <;> cases decide ((m : Int) = (k : Int)) <;> rfl
  · have no : ∀ k : Nat, k < 256 → decide (i = (k : Int)) = false := fun k hk => by simp; omega
    have eX : eqN (withW A i) A = true := eqN_ext hX hA fun k hk => by rw [has_with _ _ _ hk, no k hk, Bool.or_false]
    have eY : eqN (withoutW A i) A = true := eqN_ext hY hA fun k hk => by rw [has_without _ _ _ hk, no k hk]; simp
    have h0 : hasI A i = false := by unfold hasI; rw [if_neg (by omega)]
    refine ⟨A, A, hA, hA, bv_congr fun j hj => by unfold iw; rw [of_eqN eX j hj], bv_congr fun j hj => by unfold iw; rw [of_eqN eY j hj], by rw [h0]; simp; omega, h0, fun _ => ⟨rfl, rfl⟩, fun k _ => ⟨rfl, rfl⟩, eY, eX⟩

set_option maxHeartbeats 8000000 in
set_option maxRecDepth 100000 in
theorem BitsOne_walk (A : Nat → Nat) (hA : Ws A) (i k : Int) (W : World) (_w1 : (Lit.int .i64 i).wf = true) (_w2 : (Lit.int .i64 k).wf = true) (hT : TabAt 0 Lib.deBruijn64tab W) :
    Calls Tryd.prog 4 #[bv (iw A), .int .i64 i, .int .i64 k] W fun e w' => e = .returned (.bool true) ∧ Below W.heap.size W w' := by
  obtain ⟨X, Y, hX, hY, eX, eY, f1, f2, f3, f4, f5, f6⟩ := one_facts hA i
  have hlt := TabAt.lt hT
  have HA := fun w => Lib.hid (awake_any w)
  have HT : Hid (TabAt 0 Lib.deBruijn64tab W) := hT
  have EX := Lib.hid eX
  have EY := Lib.hid eY
  have F3 := Lib.hid f3
  have F4 := Lib.hid f4
  clear hT eX eY f3 f4
  have w0 : W.alloc (.cells #[.int .u64 (A 0 : Int), .int .u64 (A 1 : Int), .int .u64 (A 2 : Int), .int .u64 (A 3 : Int)] 27) = W.alloc (.cells (rowc (iw A)) 27) := rfl
  rw [bvl]
  go_enter Tryd.func4, Tryd.ntmps4
  go_wp2_with fail
  refine ((HA _).out (TabAt.below HT.out ((Below.refl _ W).alloc (Nat.le_refl _) _) hlt)).mono ?_
  rintro e W1 ⟨rfl, hb1⟩
  have hB1 : Below W.heap.size W W1 := ((Below.refl _ W).alloc (Nat.le_refl _) _).trans (hb1.mono (by simp))
  have hA1 : W1.heap[W.heap.size]? = some (.cells (rowc (iw A)) 27 (0, 0)) := (hb1.block _ (by simp)).trans (heap_alloc_new _ _)
  generalize hb0 : W.heap.size = b0 at *
  have HA1 := Lib.hid hA1
  clear hb1 hA1 w0 hlt
  rcases (by omega : (0 ≤ i ∧ i ≤ 255) ∨ i < 0 ∨ (0 ≤ i ∧ 255 < i)) with hi | hi | hi
  · obtain ⟨hi1, hi2⟩ := hi
    have g1 : hasI X i = true := by rw [f1]; simp; omega
    clear f1
    obtain ⟨a0, a1, a2, a3⟩ := c4 HA1.out
    go_wp2_with fail
    clear a0 a1 a2 a3
    refine (with_n hA i W1).mono ?_
    rintro e W2 ⟨rfl, hb2⟩
    rw [EX.out, bvl]
    have HB2 : Hid (Below b0 W W2) := hB1.trans (hb2.mono (by rw [← hb0]; exact hB1.size))
    have HA2 := Lib.hid (old4 HA1.out hb2 (lt4 HA1.out))
    obtain ⟨a0, a1, a2, a3⟩ := c4 HA2.out
    have hl2 := lt4 HA2.out
    clear hb2 hB1 HA1
    go_wp2_with fail
    clear a0 a1 a2 a3
    have n2 := new4 W2 X
    have HA3 := Lib.hid (old4 HA2.out ((Below.refl _ W2).alloc (Nat.le_refl _) (.cells #[.int .u64 (X 0 : Int), .int .u64 (X 1 : Int), .int .u64 (X 2 : Int), .int .u64 (X 3 : Int)] 27)) hl2)
    have HB3 : Hid (Below b0 W (W2.alloc (.cells #[.int .u64 (X 0 : Int), .int .u64 (X 1 : Int), .int .u64 (X 2 : Int), .int .u64 (X 3 : Int)] 27))) := HB2.out.alloc (by rw [← hb0]; exact HB2.out.size) _
    generalize W2.alloc (.cells #[.int .u64 (X 0 : Int), .int .u64 (X 1 : Int), .int .u64 (X 2 : Int), .int .u64 (X 3 : Int)] 27) = W3 at *
    generalize W2.heap.size = b1 at *
    refine (without_n hA i W3).mono ?_
    rintro e W4 ⟨rfl, hb4⟩
    rw [EY.out, bvl]
    have HB4 : Hid (Below b0 W W4) := HB3.out.trans (hb4.mono (by rw [← hb0]; exact HB3.out.size))
    have HA4 := Lib.hid (old4 HA3.out hb4 (lt4 HA3.out))
    have HX4 := Lib.hid (old4 n2 hb4 (lt4 n2))
    clear hb4 n2 HA3 HB3 HB2 HA2 hl2
    obtain ⟨a0, a1, a2, a3⟩ := c4 HA4.out
    obtain ⟨x0, x1, x2, x3⟩ := c4 HX4.out
    have hl3 := lt4 HA4.out
    have hl4 := lt4 HX4.out
    go_wp2_with fail
    clear a0 a1 a2 a3 x0 x1 x2 x3
    have n5 := new4 W4 Y
    have hh : Below W4.heap.size W4 (W4.alloc (.cells #[.int .u64 (Y 0 : Int), .int .u64 (Y 1 : Int), .int .u64 (Y 2 : Int), .int .u64 (Y 3 : Int)] 27)) := (Below.refl _ W4).alloc (Nat.le_refl _) _
    have HA5 := Lib.hid (old4 HA4.out hh hl3)
    have HX5 := Lib.hid (old4 HX4.out hh hl4)
    have HB5 : Hid (Below b0 W (W4.alloc (.cells #[.int .u64 (Y 0 : Int), .int .u64 (Y 1 : Int), .int .u64 (Y 2 : Int), .int .u64 (Y 3 : Int)] 27))) := HB4.out.alloc (by rw [← hb0]; exact HB4.out.size) _
    clear hh hl3 hl4 HA4 HX4 HB4
    generalize W4.alloc (.cells #[.int .u64 (Y 0 : Int), .int .u64 (Y 1 : Int), .int .u64 (Y 2 : Int), .int .u64 (Y 3 : Int)] 27) = W5 at *
    generalize W4.heap.size = b2 at *
    refine (has_n hX i W5).mono ?_
    rintro e W6 ⟨rfl, hb6⟩
    rw [g1]
    have HA6 := Lib.hid (old4 HA5.out hb6 (lt4 HA5.out))
    have HX6 := Lib.hid (old4 HX5.out hb6 (lt4 HX5.out))
    have HY6 := Lib.hid (old4 n5 hb6 (lt4 n5))
    have HB6 : Hid (Below b0 W W6) := HB5.out.trans (hb6.mono (by rw [← hb0]; exact HB5.out.size))
    clear hb6 n5 HA5 HX5 HB5
    obtain ⟨y0, y1, y2, y3⟩ := c4 HY6.out
    go_wp2_with fail
    clear y0 y1 y2 y3
    refine (has_n hY i W6).mono ?_
    rintro e W7 ⟨rfl, hb7⟩
    rw [f2]
    have HA7 := Lib.hid (old4 HA6.out hb7 (lt4 HA6.out))
    have HX7 := Lib.hid (old4 HX6.out hb7 (lt4 HX6.out))
    have HY7 := Lib.hid (old4 HY6.out hb7 (lt4 HY6.out))
    have HB7 : Hid (Below b0 W W7) := HB6.out.trans (hb7.mono (by rw [← hb0]; exact HB6.out.size))
    clear hb7 HA6 HX6 HY6 HB6
    go_wp2_with fail
    have LA := Lib.hid (box_in HA7.out)
    have LX := Lib.hid (box_in HX7.out)
    have LY := Lib.hid (box_in HY7.out)
    by_cases hk : k = i
    all_goals
      have K4 := F4.out k
      have hkb : (k != i) = decide (k ≠ i) := by by_cases h : k = i <;> simp [h]
      first
        | (rw [decide_eq_false (by simpa using hk)] at hkb; clear hk)
        | (rw [decide_eq_true hk] at hkb; obtain ⟨k1, k2⟩ := K4 hk; clear hk)
      clear K4
      refine Calm.wp_region_calm (B := W7.heap.size) (W := W7) (by kernel_rfl) (by kernel_rfl) (by kernel_rfl) (Nat.le_refl _) (Below.refl _ _).drew ?_
      apply Exists.intro
      repeat (first
        | (apply Calm.calm_skip
           · rfl
           intro N hN
           go_simp
           apply hN.out
           clear hN N)
        | (apply Calm.calm_val
           · rfl
           · intro w hB hF K hK
             first
               | refine opAt_load (by rfl) (by rfl) (LA.out w hB) (hK.out _ _ rfl (Below.refl _ _))
               | refine opAt_load (by rfl) (by rfl) (LX.out w hB) (hK.out _ _ rfl (Below.refl _ _))
               | refine opAt_load (by rfl) (by rfl) (LY.out w hB) (hK.out _ _ rfl (Below.refl _ _))
               | (unfold Calm.opAt
                  go_simp
                  first
                    | (simp only [Calm.upon_value]
                       exact hK.out _ _ rfl (Below.refl _ _))
                    | (simp only [Calm.upon_enter]
                       with_reducible refine (has_n (by assumption) _ _).mono ?_
                       rintro e w' ⟨rfl, hb⟩
                       exact ⟨_, rfl, hK.out _ _ rfl hb⟩))
           intro N hN
           go_simp
           apply hN.out
           clear hN N))
      apply Calm.calm_nil
      intro w8 hB8 _
      have LA8 := Lib.hid (box_in (LA.out w8 hB8))
      have LX8 := Lib.hid (box_in (LX.out w8 hB8))
      have LY8 := Lib.hid (box_in (LY.out w8 hB8))
      go_wp2_with fail
      refine Calm.wp_region_calm (B := w8.heap.size) (W := w8) (by kernel_rfl) (by kernel_rfl) (by kernel_rfl) (Nat.le_refl _) (Below.refl _ _).drew ?_
      apply Exists.intro
      repeat (first
        | (apply Calm.calm_skip
           · rfl
           intro N hN
           go_simp
           apply hN.out
           clear hN N)
        | (apply Calm.calm_val
           · rfl
           · intro w hB hF K hK
             first
               | exact opAt_eqt f5 (by rfl) (by rfl) (by rfl) (hK.out _ _ rfl (Below.refl _ _))
               | exact opAt_eqt f6 (by rfl) (by rfl) (by rfl) (hK.out _ _ rfl (Below.refl _ _))
               | refine opAt_load (by rfl) (by rfl) (LA8.out w hB) (hK.out _ _ rfl (Below.refl _ _))
               | refine opAt_load (by rfl) (by rfl) (LX8.out w hB) (hK.out _ _ rfl (Below.refl _ _))
               | refine opAt_load (by rfl) (by rfl) (LY8.out w hB) (hK.out _ _ rfl (Below.refl _ _))
               | (unfold Calm.opAt
                  go_simp
                  first
                    | (simp only [Calm.upon_value]
                       exact hK.out _ _ rfl (Below.refl _ _))
                    | (simp only [Calm.upon_enter]
                       with_reducible refine (with_n (by assumption) _ _).mono ?_
                       rintro e w' ⟨rfl, hb⟩
                       exact ⟨_, rfl, hK.out _ _ rfl hb⟩)
                    | (simp only [Calm.upon_enter]
                       with_reducible refine (without_n (by assumption) _ _).mono ?_
                       rintro e w' ⟨rfl, hb⟩
                       exact ⟨_, rfl, hK.out _ _ rfl hb⟩))
           intro N hN
           go_simp
           apply hN.out
           clear hN N))
      apply Calm.calm_nil
      intro w9 hB9 _
      go_wp2
      go_ret
      exact ⟨rfl, by rw [hb0]; exact HB7.out.trans ((hB8.trans (hB9.mono hB8.size)).mono (by rw [← hb0]; exact HB7.out.size))⟩
  · obtain ⟨rfl, rfl⟩ := F3.out (by omega)
    have g1 : hasI Y i = false := f2
    clear f1
    obtain ⟨a0, a1, a2, a3⟩ := c4 HA1.out
    go_wp2_with fail
    clear a0 a1 a2 a3
    refine (with_n hA i W1).mono ?_
    rintro e W2 ⟨rfl, hb2⟩
    rw [EX.out, bvl]
    have HB2 : Hid (Below b0 W W2) := hB1.trans (hb2.mono (by rw [← hb0]; exact hB1.size))
    have HA2 := Lib.hid (old4 HA1.out hb2 (lt4 HA1.out))
    obtain ⟨a0, a1, a2, a3⟩ := c4 HA2.out
    have hl2 := lt4 HA2.out
    clear hb2 hB1 HA1
    go_wp2_with fail
    clear a0 a1 a2 a3
    have n2 := new4 W2 Y
    have HA3 := Lib.hid (old4 HA2.out ((Below.refl _ W2).alloc (Nat.le_refl _) (.cells #[.int .u64 (Y 0 : Int), .int .u64 (Y 1 : Int), .int .u64 (Y 2 : Int), .int .u64 (Y 3 : Int)] 27)) hl2)
    have HB3 : Hid (Below b0 W (W2.alloc (.cells #[.int .u64 (Y 0 : Int), .int .u64 (Y 1 : Int), .int .u64 (Y 2 : Int), .int .u64 (Y 3 : Int)] 27))) := HB2.out.alloc (by rw [← hb0]; exact HB2.out.size) _
    generalize W2.alloc (.cells #[.int .u64 (Y 0 : Int), .int .u64 (Y 1 : Int), .int .u64 (Y 2 : Int), .int .u64 (Y 3 : Int)] 27) = W3 at *
    generalize W2.heap.size = b1 at *
    refine (without_n hA i W3).mono ?_
    rintro e W4 ⟨rfl, hb4⟩
    rw [EY.out, bvl]
    have HB4 : Hid (Below b0 W W4) := HB3.out.trans (hb4.mono (by rw [← hb0]; exact HB3.out.size))
    have HA4 := Lib.hid (old4 HA3.out hb4 (lt4 HA3.out))
    have HX4 := Lib.hid (old4 n2 hb4 (lt4 n2))
    clear hb4 n2 HA3 HB3 HB2 HA2 hl2
    obtain ⟨a0, a1, a2, a3⟩ := c4 HA4.out
    obtain ⟨x0, x1, x2, x3⟩ := c4 HX4.out
    have hl3 := lt4 HA4.out
    have hl4 := lt4 HX4.out
    go_wp2_with fail
    clear a0 a1 a2 a3 x0 x1 x2 x3
    have n5 := new4 W4 Y
    have hh : Below W4.heap.size W4 (W4.alloc (.cells #[.int .u64 (Y 0 : Int), .int .u64 (Y 1 : Int), .int .u64 (Y 2 : Int), .int .u64 (Y 3 : Int)] 27)) := (Below.refl _ W4).alloc (Nat.le_refl _) _
    have HA5 := Lib.hid (old4 HA4.out hh hl3)
    have HX5 := Lib.hid (old4 HX4.out hh hl4)
    have HB5 : Hid (Below b0 W (W4.alloc (.cells #[.int .u64 (Y 0 : Int), .int .u64 (Y 1 : Int), .int .u64 (Y 2 : Int), .int .u64 (Y 3 : Int)] 27))) := HB4.out.alloc (by rw [← hb0]; exact HB4.out.size) _
    clear hh hl3 hl4 HA4 HX4 HB4
    generalize W4.alloc (.cells #[.int .u64 (Y 0 : Int), .int .u64 (Y 1 : Int), .int .u64 (Y 2 : Int), .int .u64 (Y 3 : Int)] 27) = W5 at *
    generalize W4.heap.size = b2 at *
    refine (has_n hX i W5).mono ?_
    rintro e W6 ⟨rfl, hb6⟩
    rw [g1]
    have HA6 := Lib.hid (old4 HA5.out hb6 (lt4 HA5.out))
    have HX6 := Lib.hid (old4 HX5.out hb6 (lt4 HX5.out))
    have HY6 := Lib.hid (old4 n5 hb6 (lt4 n5))
    have HB6 : Hid (Below b0 W W6) := HB5.out.trans (hb6.mono (by rw [← hb0]; exact HB5.out.size))
    clear hb6 n5 HA5 HX5 HB5
    obtain ⟨y0, y1, y2, y3⟩ := c4 HY6.out
    go_wp2_with fail
    clear y0 y1 y2 y3
    refine (has_n hY i W6).mono ?_
    rintro e W7 ⟨rfl, hb7⟩
    rw [f2]
    have HA7 := Lib.hid (old4 HA6.out hb7 (lt4 HA6.out))
    have HX7 := Lib.hid (old4 HX6.out hb7 (lt4 HX6.out))
    have HY7 := Lib.hid (old4 HY6.out hb7 (lt4 HY6.out))
    have HB7 : Hid (Below b0 W W7) := HB6.out.trans (hb7.mono (by rw [← hb0]; exact HB6.out.size))
    clear hb7 HA6 HX6 HY6 HB6
    obtain ⟨a0, a1, a2, a3⟩ := c4 HA7.out
    obtain ⟨x0, x1, x2, x3⟩ := c4 HX7.out
    obtain ⟨y0, y1, y2, y3⟩ := c4 HY7.out
    go_wp2_with fail
    clear a0 a1 a2 a3 x0 x1 x2 x3 y0 y1 y2 y3
    have LA := Lib.hid (box_in HA7.out)
    have LX := Lib.hid (box_in HX7.out)
    have LY := Lib.hid (box_in HY7.out)
    by_cases hk : k = i
    all_goals
      have K4 := F4.out k
      have hkb : (k != i) = decide (k ≠ i) := by by_cases h : k = i <;> simp [h]
      first
        | (rw [decide_eq_false (by simpa using hk)] at hkb; clear hk)
        | (rw [decide_eq_true hk] at hkb; obtain ⟨k1, k2⟩ := K4 hk; clear hk)
      clear K4
      refine Calm.wp_region_calm (B := W7.heap.size) (W := W7) (by kernel_rfl) (by kernel_rfl) (by kernel_rfl) (Nat.le_refl _) (Below.refl _ _).drew ?_
      apply Exists.intro
      repeat (first
        | (apply Calm.calm_skip
           · rfl
           intro N hN
           go_simp
           apply hN.out
           clear hN N)
        | (apply Calm.calm_val
           · rfl
           · intro w hB hF K hK
             first
               | refine opAt_load (by rfl) (by rfl) (LA.out w hB) (hK.out _ _ rfl (Below.refl _ _))
               | refine opAt_load (by rfl) (by rfl) (LX.out w hB) (hK.out _ _ rfl (Below.refl _ _))
               | refine opAt_load (by rfl) (by rfl) (LY.out w hB) (hK.out _ _ rfl (Below.refl _ _))
               | (unfold Calm.opAt
                  go_simp
                  first
                    | (simp only [Calm.upon_value]
                       exact hK.out _ _ rfl (Below.refl _ _))
                    | (simp only [Calm.upon_enter]
                       with_reducible refine (has_n (by assumption) _ _).mono ?_
                       rintro e w' ⟨rfl, hb⟩
                       exact ⟨_, rfl, hK.out _ _ rfl hb⟩))
           intro N hN
           go_simp
           apply hN.out
           clear hN N))
      apply Calm.calm_nil
      intro w8 hB8 _
      have LA8 := Lib.hid (box_in (LA.out w8 hB8))
      have LX8 := Lib.hid (box_in (LX.out w8 hB8))
      have LY8 := Lib.hid (box_in (LY.out w8 hB8))
      go_wp2_with fail
      refine Calm.wp_region_calm (B := w8.heap.size) (W := w8) (by kernel_rfl) (by kernel_rfl) (by kernel_rfl) (Nat.le_refl _) (Below.refl _ _).drew ?_
      apply Exists.intro
      repeat (first
        | (apply Calm.calm_skip
           · rfl
           intro N hN
           go_simp
           apply hN.out
           clear hN N)
        | (apply Calm.calm_val
           · rfl
           · intro w hB hF K hK
             first
               | exact opAt_eqt f5 (by rfl) (by rfl) (by rfl) (hK.out _ _ rfl (Below.refl _ _))
               | exact opAt_eqt f6 (by rfl) (by rfl) (by rfl) (hK.out _ _ rfl (Below.refl _ _))
               | refine opAt_load (by rfl) (by rfl) (LA8.out w hB) (hK.out _ _ rfl (Below.refl _ _))
               | refine opAt_load (by rfl) (by rfl) (LX8.out w hB) (hK.out _ _ rfl (Below.refl _ _))
               | refine opAt_load (by rfl) (by rfl) (LY8.out w hB) (hK.out _ _ rfl (Below.refl _ _))
               | (unfold Calm.opAt
                  go_simp
                  first
                    | (simp only [Calm.upon_value]
                       exact hK.out _ _ rfl (Below.refl _ _))
                    | (simp only [Calm.upon_enter]
                       with_reducible refine (with_n (by assumption) _ _).mono ?_
                       rintro e w' ⟨rfl, hb⟩
                       exact ⟨_, rfl, hK.out _ _ rfl hb⟩)
                    | (simp only [Calm.upon_enter]
                       with_reducible refine (without_n (by assumption) _ _).mono ?_
                       rintro e w' ⟨rfl, hb⟩
                       exact ⟨_, rfl, hK.out _ _ rfl hb⟩))
           intro N hN
           go_simp
           apply hN.out
           clear hN N))
      apply Calm.calm_nil
      intro w9 hB9 _
      go_wp2
      go_ret
      exact ⟨rfl, by rw [hb0]; exact HB7.out.trans ((hB8.trans (hB9.mono hB8.size)).mono (by rw [← hb0]; exact HB7.out.size))⟩
  · obtain ⟨rfl, rfl⟩ := F3.out (by omega)
    have g1 : hasI Y i = false := f2
    obtain ⟨hi1, hi2⟩ := hi
    clear f1
    obtain ⟨a0, a1, a2, a3⟩ := c4 HA1.out
    go_wp2_with fail
    clear a0 a1 a2 a3
    refine (with_n hA i W1).mono ?_
    rintro e W2 ⟨rfl, hb2⟩
    rw [EX.out, bvl]
    have HB2 : Hid (Below b0 W W2) := hB1.trans (hb2.mono (by rw [← hb0]; exact hB1.size))
    have HA2 := Lib.hid (old4 HA1.out hb2 (lt4 HA1.out))
    obtain ⟨a0, a1, a2, a3⟩ := c4 HA2.out
    have hl2 := lt4 HA2.out
    clear hb2 hB1 HA1
    go_wp2_with fail
    clear a0 a1 a2 a3
    have n2 := new4 W2 Y
    have HA3 := Lib.hid (old4 HA2.out ((Below.refl _ W2).alloc (Nat.le_refl _) (.cells #[.int .u64 (Y 0 : Int), .int .u64 (Y 1 : Int), .int .u64 (Y 2 : Int), .int .u64 (Y 3 : Int)] 27)) hl2)
    have HB3 : Hid (Below b0 W (W2.alloc (.cells #[.int .u64 (Y 0 : Int), .int .u64 (Y 1 : Int), .int .u64 (Y 2 : Int), .int .u64 (Y 3 : Int)] 27))) := HB2.out.alloc (by rw [← hb0]; exact HB2.out.size) _
    generalize W2.alloc (.cells #[.int .u64 (Y 0 : Int), .int .u64 (Y 1 : Int), .int .u64 (Y 2 : Int), .int .u64 (Y 3 : Int)] 27) = W3 at *
    generalize W2.heap.size = b1 at *
    refine (without_n hA i W3).mono ?_
    rintro e W4 ⟨rfl, hb4⟩
    rw [EY.out, bvl]
    have HB4 : Hid (Below b0 W W4) := HB3.out.trans (hb4.mono (by rw [← hb0]; exact HB3.out.size))
    have HA4 := Lib.hid (old4 HA3.out hb4 (lt4 HA3.out))
    have HX4 := Lib.hid (old4 n2 hb4 (lt4 n2))
    clear hb4 n2 HA3 HB3 HB2 HA2 hl2
    obtain ⟨a0, a1, a2, a3⟩ := c4 HA4.out
    obtain ⟨x0, x1, x2, x3⟩ := c4 HX4.out
    have hl3 := lt4 HA4.out
    have hl4 := lt4 HX4.out
    go_wp2_with fail
    clear a0 a1 a2 a3 x0 x1 x2 x3
    have n5 := new4 W4 Y
    have hh : Below W4.heap.size W4 (W4.alloc (.cells #[.int .u64 (Y 0 : Int), .int .u64 (Y 1 : Int), .int .u64 (Y 2 : Int), .int .u64 (Y 3 : Int)] 27)) := (Below.refl _ W4).alloc (Nat.le_refl _) _
    have HA5 := Lib.hid (old4 HA4.out hh hl3)
    have HX5 := Lib.hid (old4 HX4.out hh hl4)
    have HB5 : Hid (Below b0 W (W4.alloc (.cells #[.int .u64 (Y 0 : Int), .int .u64 (Y 1 : Int), .int .u64 (Y 2 : Int), .int .u64 (Y 3 : Int)] 27))) := HB4.out.alloc (by rw [← hb0]; exact HB4.out.size) _
    clear hh hl3 hl4 HA4 HX4 HB4
    generalize W4.alloc (.cells #[.int .u64 (Y 0 : Int), .int .u64 (Y 1 : Int), .int .u64 (Y 2 : Int), .int .u64 (Y 3 : Int)] 27) = W5 at *
    generalize W4.heap.size = b2 at *
    refine (has_n hX i W5).mono ?_
    rintro e W6 ⟨rfl, hb6⟩
    rw [g1]
    have HA6 := Lib.hid (old4 HA5.out hb6 (lt4 HA5.out))
    have HX6 := Lib.hid (old4 HX5.out hb6 (lt4 HX5.out))
    have HY6 := Lib.hid (old4 n5 hb6 (lt4 n5))
    have HB6 : Hid (Below b0 W W6) := HB5.out.trans (hb6.mono (by rw [← hb0]; exact HB5.out.size))
    clear hb6 n5 HA5 HX5 HB5
    obtain ⟨y0, y1, y2, y3⟩ := c4 HY6.out
    go_wp2_with fail
    clear y0 y1 y2 y3
    refine (has_n hY i W6).mono ?_
    rintro e W7 ⟨rfl, hb7⟩
    rw [f2]
    have HA7 := Lib.hid (old4 HA6.out hb7 (lt4 HA6.out))
    have HX7 := Lib.hid (old4 HX6.out hb7 (lt4 HX6.out))
    have HY7 := Lib.hid (old4 HY6.out hb7 (lt4 HY6.out))
    have HB7 : Hid (Below b0 W W7) := HB6.out.trans (hb7.mono (by rw [← hb0]; exact HB6.out.size))
    clear hb7 HA6 HX6 HY6 HB6
    obtain ⟨a0, a1, a2, a3⟩ := c4 HA7.out
    obtain ⟨x0, x1, x2, x3⟩ := c4 HX7.out
    obtain ⟨y0, y1, y2, y3⟩ := c4 HY7.out
    go_wp2_with fail
    clear a0 a1 a2 a3 x0 x1 x2 x3 y0 y1 y2 y3
    have LA := Lib.hid (box_in HA7.out)
    have LX := Lib.hid (box_in HX7.out)
    have LY := Lib.hid (box_in HY7.out)
    by_cases hk : k = i
    all_goals
      have K4 := F4.out k
      have hkb : (k != i) = decide (k ≠ i) := by by_cases h : k = i <;> simp [h]
      first
        | (rw [decide_eq_false (by simpa using hk)] at hkb; clear hk)
        | (rw [decide_eq_true hk] at hkb; obtain ⟨k1, k2⟩ := K4 hk; clear hk)
      clear K4
      refine Calm.wp_region_calm (B := W7.heap.size) (W := W7) (by kernel_rfl) (by kernel_rfl) (by kernel_rfl) (Nat.le_refl _) (Below.refl _ _).drew ?_
      apply Exists.intro
      repeat (first
        | (apply Calm.calm_skip
           · rfl
           intro N hN
           go_simp
           apply hN.out
           clear hN N)
        | (apply Calm.calm_val
           · rfl
           · intro w hB hF K hK
             first
               | refine opAt_load (by rfl) (by rfl) (LA.out w hB) (hK.out _ _ rfl (Below.refl _ _))
               | refine opAt_load (by rfl) (by rfl) (LX.out w hB) (hK.out _ _ rfl (Below.refl _ _))
               | refine opAt_load (by rfl) (by rfl) (LY.out w hB) (hK.out _ _ rfl (Below.refl _ _))
               | (unfold Calm.opAt
                  go_simp
                  first
                    | (simp only [Calm.upon_value]
                       exact hK.out _ _ rfl (Below.refl _ _))
                    | (simp only [Calm.upon_enter]
                       with_reducible refine (has_n (by assumption) _ _).mono ?_
                       rintro e w' ⟨rfl, hb⟩
                       exact ⟨_, rfl, hK.out _ _ rfl hb⟩))
           intro N hN
           go_simp
           apply hN.out
           clear hN N))
      apply Calm.calm_nil
      intro w8 hB8 _
      have LA8 := Lib.hid (box_in (LA.out w8 hB8))
      have LX8 := Lib.hid (box_in (LX.out w8 hB8))
      have LY8 := Lib.hid (box_in (LY.out w8 hB8))
      go_wp2_with fail
      refine Calm.wp_region_calm (B := w8.heap.size) (W := w8) (by kernel_rfl) (by kernel_rfl) (by kernel_rfl) (Nat.le_refl _) (Below.refl _ _).drew ?_
      apply Exists.intro
      repeat (first
        | (apply Calm.calm_skip
           · rfl
           intro N hN
           go_simp
           apply hN.out
           clear hN N)
        | (apply Calm.calm_val
           · rfl
           · intro w hB hF K hK
             first
               | exact opAt_eqt f5 (by rfl) (by rfl) (by rfl) (hK.out _ _ rfl (Below.refl _ _))
               | exact opAt_eqt f6 (by rfl) (by rfl) (by rfl) (hK.out _ _ rfl (Below.refl _ _))
               | refine opAt_load (by rfl) (by rfl) (LA8.out w hB) (hK.out _ _ rfl (Below.refl _ _))
               | refine opAt_load (by rfl) (by rfl) (LX8.out w hB) (hK.out _ _ rfl (Below.refl _ _))
               | refine opAt_load (by rfl) (by rfl) (LY8.out w hB) (hK.out _ _ rfl (Below.refl _ _))
               | (unfold Calm.opAt
                  go_simp
                  first
                    | (simp only [Calm.upon_value]
                       exact hK.out _ _ rfl (Below.refl _ _))
                    | (simp only [Calm.upon_enter]
                       with_reducible refine (with_n (by assumption) _ _).mono ?_
                       rintro e w' ⟨rfl, hb⟩
                       exact ⟨_, rfl, hK.out _ _ rfl hb⟩)
                    | (simp only [Calm.upon_enter]
                       with_reducible refine (without_n (by assumption) _ _).mono ?_
                       rintro e w' ⟨rfl, hb⟩
                       exact ⟨_, rfl, hK.out _ _ rfl hb⟩))
           intro N hN
           go_simp
           apply hN.out
           clear hN N))
      apply Calm.calm_nil
      intro w9 hB9 _
      go_wp2
      go_ret
      exact ⟨rfl, by rw [hb0]; exact HB7.out.trans ((hB8.trans (hB9.mono hB8.size)).mono (by rw [← hb0]; exact HB7.out.size))⟩
end Go.Proofs.YtecocdnfbkiabaaDoor.Bits
