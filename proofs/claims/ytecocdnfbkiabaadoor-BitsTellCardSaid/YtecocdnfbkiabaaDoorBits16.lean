/-
  The statement BitsParts, walked.
-/
import Derived.Test.YtecocdnfbkiabaaDoorBits15
namespace Go.Proofs.YtecocdnfbkiabaaDoor.Bits
open Go.RowKit Go.Shelf

def row8 (X Y : Nat → Nat) : Array Value := #[.int .u64 (X 0 : Int), .int .u64 (X 1 : Int), .int .u64 (X 2 : Int), .int .u64 (X 3 : Int), .int .u64 (Y 0 : Int), .int .u64 (Y 1 : Int), .int .u64 (Y 2 : Int), .int .u64 (Y 3 : Int)]
theorem rdB_blk {w : World} {b : Nat} {X Y : Nat → Nat} (h : w.heap[b]? = some (.cells (row8 X Y) 27 (0, 0))) : RdB w (some ⟨b, 0, none⟩) 2 ([X, Y].map iw) := by
  refine ⟨rfl, by decide, fun _ => ⟨_, _, rfl, fun j hj i hi => ?_⟩⟩
  simp only [World.cell?, h]
  match j, hj, i, hi with
  | 0, _, 0, _ => rfl
  | 0, _, 1, _ => rfl
  | 0, _, 2, _ => rfl
  | 0, _, 3, _ => rfl
  | 1, _, 0, _ => rfl
  | 1, _, 1, _ => rfl
  | 1, _, 2, _ => rfl
  | 1, _, 3, _ => rfl
theorem ws2 {X Y : Nat → Nat} (hX : Ws X) (hY : Ws Y) : ∀ B ∈ [X, Y], Ws B := by
  intro B hB
  simp at hB
  rcases hB with rfl | rfl <;> assumption
theorem ws0 : ∀ B ∈ ([] : List (Nat → Nat)), Ws B := fun B hB => by cases hB
theorem count_or {α : Type} (p q : α → Bool) (l : List α) : (l.filter fun x => p x || q x).length + (l.filter fun x => p x && q x).length = (l.filter p).length + (l.filter q).length := by
  induction l with
  | nil => rfl
  | cons x l ih =>
    simp only [List.filter_cons]
    cases p x <;> cases q x <;> simp <;> omega
theorem listN_congr {A B : Nat → Nat} (h : ∀ i, i < 256 → hasN A i = hasN B i) : listN A = listN B := by
  unfold listN
  apply List.filter_congr
  intro i hi
  exact h i (List.mem_range.1 hi)
/-- What the statement says of two sets. -/
theorem parts_facts {A B : Nat → Nat} (hA : Ws A) (hB : Ws B) :
    eqN (orL [andW A B, minW A B]) A = true ∧ eqN (andW (andW A B) (minW A B)) noneW = true ∧ (((listN (orL [A, B])).length : Int) == (listN A).length + (listN B).length - (listN (andW A B)).length) = true ∧
    eqN (andW A B) (andW B A) = true ∧ eqN (minW (orL [A, B]) B) (minW A B) = true ∧ eqN (orL []) noneW = true := by
  refine ⟨eqN_ext (Ws.orL (ws2 hA.and hA.min)) hA fun i hi => ?_, eqN_ext (Ws.and (Ws.and hA)) Ws.none fun i hi => ?_, ?_, eqN_ext hA.and hB.and fun i hi => ?_, eqN_ext (Ws.min (Ws.orL (ws2 hA hB))) hA.min fun i hi => ?_, eqN_ext (Ws.orL ws0) Ws.none fun i hi => ?_⟩
  · rw [has_orL]
    simp only [List.any_cons, List.any_nil, has_and, has_min]
    cases hasN A i <;> cases hasN B i <;> rfl
  · rw [has_and, has_and, has_min, has_none]
    cases hasN A i <;> cases hasN B i <;> rfl
  · have h1 := count_or (hasN A) (hasN B) (List.range 256)
    have e1 : (listN (orL [A, B])).length = ((List.range 256).filter fun x => hasN A x || hasN B x).length := by
      unfold listN
      congr 1
      apply List.filter_congr
      intro i _
      rw [has_orL]
      simp
    have e2 : (listN (andW A B)).length = ((List.range 256).filter fun x => hasN A x && hasN B x).length := by
      unfold listN
      congr 1
      apply List.filter_congr
      intro i _
      rw [has_and]
    rw [beq_iff_eq, e1, e2]
    unfold listN
    omega
  · rw [has_and, has_and]
    cases hasN A i <;> cases hasN B i <;> rfl
  · rw [has_min, has_min, has_orL]
    simp only [List.any_cons, List.any_nil]
    cases hasN A i <;> cases hasN B i <;> rfl
  · rw [has_orL, has_none]
    rfl

set_option maxHeartbeats 8000000 in
set_option maxRecDepth 100000 in
theorem BitsParts_walk (A : Nat → Nat) (hA : Ws A) (B : Nat → Nat) (hB : Ws B) (W : World) (hT : TabAt 0 Lib.deBruijn64tab W) :
    Calls Tryd.prog 6 #[bv (iw A), bv (iw B)] W fun e w' => e = .returned (.bool true) ∧ Below W.heap.size W w' := by
  obtain ⟨f1, f2, f3, f4, f5, f6⟩ := parts_facts hA hB
  have hlt := TabAt.lt hT
  have HA := fun w => Lib.hid (awake_any w)
  have HT : Hid (TabAt 0 Lib.deBruijn64tab W) := hT
  have hX : Ws (andW A B) := hA.and
  have hY : Ws (minW A B) := hA.min
  have hZ : Ws (orL [A, B]) := Ws.orL (ws2 hA hB)
  have hN : Ws noneW := Ws.none
  clear hT
  rw [bvl, bvl]
  go_enter Tryd.func6, Tryd.ntmps6
  go_wp2_with fail
  have hb0 : Below W.heap.size W ((W.alloc (.cells #[.int .u64 (A 0 : Int), .int .u64 (A 1 : Int), .int .u64 (A 2 : Int), .int .u64 (A 3 : Int)] 27)).alloc (.cells #[.int .u64 (B 0 : Int), .int .u64 (B 1 : Int), .int .u64 (B 2 : Int), .int .u64 (B 3 : Int)] 27)) := ((Below.refl _ W).alloc (Nat.le_refl _) _).alloc (by simp) _
  have nA : ((W.alloc (.cells #[.int .u64 (A 0 : Int), .int .u64 (A 1 : Int), .int .u64 (A 2 : Int), .int .u64 (A 3 : Int)] 27)).alloc (.cells #[.int .u64 (B 0 : Int), .int .u64 (B 1 : Int), .int .u64 (B 2 : Int), .int .u64 (B 3 : Int)] 27)).heap[W.heap.size]? = some (.cells (rowc (iw A)) 27 (0, 0)) := (Below.heap_alloc _ _ _ (by simp)).trans (new4 W A)
  have nB : ((W.alloc (.cells #[.int .u64 (A 0 : Int), .int .u64 (A 1 : Int), .int .u64 (A 2 : Int), .int .u64 (A 3 : Int)] 27)).alloc (.cells #[.int .u64 (B 0 : Int), .int .u64 (B 1 : Int), .int .u64 (B 2 : Int), .int .u64 (B 3 : Int)] 27)).heap[W.heap.size + 1]? = some (.cells (rowc (iw B)) 27 (0, 0)) := heap_new _ _ _ (by simp)
  have hs0 : Hid (((W.alloc (.cells #[.int .u64 (A 0 : Int), .int .u64 (A 1 : Int), .int .u64 (A 2 : Int), .int .u64 (A 3 : Int)] 27)).alloc (.cells #[.int .u64 (B 0 : Int), .int .u64 (B 1 : Int), .int .u64 (B 2 : Int), .int .u64 (B 3 : Int)] 27)).heap.size = W.heap.size + 2) := by simp [RowKit.Hid]
  generalize (W.alloc (.cells #[.int .u64 (A 0 : Int), .int .u64 (A 1 : Int), .int .u64 (A 2 : Int), .int .u64 (A 3 : Int)] 27)).alloc (.cells #[.int .u64 (B 0 : Int), .int .u64 (B 1 : Int), .int .u64 (B 2 : Int), .int .u64 (B 3 : Int)] 27) = W0 at *
  refine ((HA _).out (TabAt.below HT.out hb0 hlt)).mono ?_
  rintro e W1 ⟨rfl, hb1⟩
  have HB1 : Hid (Below W.heap.size W W1) := hb0.trans (hb1.mono hb0.size)
  have HA1 := Lib.hid (old4 nA hb1 (lt4 nA))
  have HY1 := Lib.hid (old4 nB hb1 (lt4 nB))
  clear hb1 hb0 nA nB hs0
  generalize hb0 : W.heap.size = b0 at *
  generalize hb1 : b0 + 1 = b1 at *
  clear hlt
  obtain ⟨a0, a1, a2, a3⟩ := c4 HA1.out
  obtain ⟨y0, y1, y2, y3⟩ := c4 HY1.out
  go_wp2_with fail
  clear a0 a1 a2 a3 y0 y1 y2 y3
  refine (and_n hA hB W1).mono ?_
  rintro e W2 ⟨rfl, hb2⟩
  rw [bvl]
  have HB2 : Hid (Below b0 W W2) := HB1.out.trans (hb2.mono (by rw [← hb0]; exact HB1.out.size))
  have HA2 := Lib.hid (old4 HA1.out hb2 (lt4 HA1.out))
  have HY2 := Lib.hid (old4 HY1.out hb2 (lt4 HY1.out))
  clear hb2 HB1 HA1 HY1
  obtain ⟨a0, a1, a2, a3⟩ := c4 HA2.out
  obtain ⟨y0, y1, y2, y3⟩ := c4 HY2.out
  have l0 := lt4 HA2.out
  have l1 := lt4 HY2.out
  go_wp2_with fail
  clear a0 a1 a2 a3 y0 y1 y2 y3
  have n2 := new4 W2 (andW A B)
  have hh : Below W2.heap.size W2 (W2.alloc (.cells #[.int .u64 ((andW A B) 0 : Int), .int .u64 ((andW A B) 1 : Int), .int .u64 ((andW A B) 2 : Int), .int .u64 ((andW A B) 3 : Int)] 27)) := (Below.refl _ W2).alloc (Nat.le_refl _) _
  have HB2' : Hid (Below b0 W (W2.alloc (.cells #[.int .u64 ((andW A B) 0 : Int), .int .u64 ((andW A B) 1 : Int), .int .u64 ((andW A B) 2 : Int), .int .u64 ((andW A B) 3 : Int)] 27))) := HB2.out.alloc (by rw [← hb0]; exact HB2.out.size) _
  have HA2' := Lib.hid (old4 HA2.out hh (lt4 HA2.out))
  have HY2' := Lib.hid (old4 HY2.out hh (lt4 HY2.out))
  have hv2 : Hid ((W2.alloc (.cells #[.int .u64 ((andW A B) 0 : Int), .int .u64 ((andW A B) 1 : Int), .int .u64 ((andW A B) 2 : Int), .int .u64 ((andW A B) 3 : Int)] 27)).heap.size = W2.heap.size + 1) := by simp [RowKit.Hid]
  clear hh HB2 HA2 HY2
  generalize W2.alloc (.cells #[.int .u64 ((andW A B) 0 : Int), .int .u64 ((andW A B) 1 : Int), .int .u64 ((andW A B) 2 : Int), .int .u64 ((andW A B) 3 : Int)] 27) = V2 at *
  generalize W2.heap.size = c2 at *
  clear l0 l1
  refine (minus_n hA hB V2).mono ?_
  rintro e W3 ⟨rfl, hb⟩
  rw [bvl]
  have HB3 : Hid (Below b0 W W3) := HB2'.out.trans (hb.mono (by rw [← hb0]; exact HB2'.out.size))
  have HA3 := Lib.hid (old4 HA2'.out hb (lt4 HA2'.out))
  have HY3 := Lib.hid (old4 HY2'.out hb (lt4 HY2'.out))
  have HX3 := Lib.hid (old4 n2 hb (lt4 n2))
  clear hb n2 HB2' HA2' HY2'
  obtain ⟨a0, a1, a2, a3⟩ := c4 HA3.out
  have la := lt4 HA3.out
  obtain ⟨y0, y1, y2, y3⟩ := c4 HY3.out
  have ly := lt4 HY3.out
  go_wp2_with fail
  clear a0 a1 a2 a3 y0 y1 y2 y3 la ly
  have n3 := new4 W3 (minW A B)
  have hh : Below W3.heap.size W3 (W3.alloc (.cells #[.int .u64 ((minW A B) 0 : Int), .int .u64 ((minW A B) 1 : Int), .int .u64 ((minW A B) 2 : Int), .int .u64 ((minW A B) 3 : Int)] 27)) := (Below.refl _ W3).alloc (Nat.le_refl _) _
  have HB3' : Hid (Below b0 W (W3.alloc (.cells #[.int .u64 ((minW A B) 0 : Int), .int .u64 ((minW A B) 1 : Int), .int .u64 ((minW A B) 2 : Int), .int .u64 ((minW A B) 3 : Int)] 27))) := HB3.out.alloc (by rw [← hb0]; exact HB3.out.size) _
  have HA3' := Lib.hid (old4 HA3.out hh (lt4 HA3.out))
  have HY3' := Lib.hid (old4 HY3.out hh (lt4 HY3.out))
  have HX3' := Lib.hid (old4 HX3.out hh (lt4 HX3.out))
  have hv3 : Hid ((W3.alloc (.cells #[.int .u64 ((minW A B) 0 : Int), .int .u64 ((minW A B) 1 : Int), .int .u64 ((minW A B) 2 : Int), .int .u64 ((minW A B) 3 : Int)] 27)).heap.size = W3.heap.size + 1) := by simp [RowKit.Hid]
  clear hh HB3 HA3 HY3 HX3
  generalize W3.alloc (.cells #[.int .u64 ((minW A B) 0 : Int), .int .u64 ((minW A B) 1 : Int), .int .u64 ((minW A B) 2 : Int), .int .u64 ((minW A B) 3 : Int)] 27) = V3 at *
  generalize W3.heap.size = c3 at *
  have r4 : (V3.alloc (.cells (row8 A B) 27)).heap[c3 + 1]? = some (.cells (row8 A B) 27 (0, 0)) := heap_new _ _ _ hv3.out.symm
  refine (or_n _ 2 2 [A, B] (ws2 hA hB) (V3.alloc (.cells (row8 A B) 27)) (rdB_blk r4)).mono ?_
  rintro e W4 ⟨rfl, hb⟩
  rw [bvl]
  have hb' : Below V3.heap.size V3 W4 := ((Below.refl _ V3).alloc (Nat.le_refl _) _).trans (hb.mono (by simp))
  have HB4 : Hid (Below b0 W W4) := HB3'.out.trans (hb'.mono (by rw [← hb0]; exact HB3'.out.size))
  have HA4 := Lib.hid (old4 HA3'.out hb' (lt4 HA3'.out))
  have HY4 := Lib.hid (old4 HY3'.out hb' (lt4 HY3'.out))
  have HX4 := Lib.hid (old4 HX3'.out hb' (lt4 HX3'.out))
  have HZ4 := Lib.hid (old4 n3 hb' (lt4 n3))
  clear hb hb' r4 n3 HB3' HA3' HY3' HX3'
  go_wp2_with fail
  have n5 := new4 W4 (orL [A, B])
  have m5 : ((W4.alloc (.cells #[.int .u64 ((orL [A, B]) 0 : Int), .int .u64 ((orL [A, B]) 1 : Int), .int .u64 ((orL [A, B]) 2 : Int), .int .u64 ((orL [A, B]) 3 : Int)] 27)).alloc (.cells #[.int .u64 0, .int .u64 0, .int .u64 0, .int .u64 0] 27)).heap[W4.heap.size + 1]? = some (.cells (rowc (iw noneW)) 27 (0, 0)) := heap_new _ _ _ (by simp)
  have hh : Below W4.heap.size W4 ((W4.alloc (.cells #[.int .u64 ((orL [A, B]) 0 : Int), .int .u64 ((orL [A, B]) 1 : Int), .int .u64 ((orL [A, B]) 2 : Int), .int .u64 ((orL [A, B]) 3 : Int)] 27)).alloc (.cells #[.int .u64 0, .int .u64 0, .int .u64 0, .int .u64 0] 27)) := ((Below.refl _ W4).alloc (Nat.le_refl _) _).alloc (by simp) _
  have HB5 := Lib.hid (HB4.out.trans (hh.mono (by rw [← hb0]; exact HB4.out.size)))
  have LA := Lib.hid (box_in (old4 HA4.out hh (lt4 HA4.out)))
  have LB := Lib.hid (box_in (old4 HY4.out hh (lt4 HY4.out)))
  have LX := Lib.hid (box_in (old4 HX4.out hh (lt4 HX4.out)))
  have LY := Lib.hid (box_in (old4 HZ4.out hh (lt4 HZ4.out)))
  have LZ := Lib.hid (box_in (old4 n5 ((Below.refl (W4.heap.size + 1) (W4.alloc (.cells #[.int .u64 ((orL [A, B]) 0 : Int), .int .u64 ((orL [A, B]) 1 : Int), .int .u64 ((orL [A, B]) 2 : Int), .int .u64 ((orL [A, B]) 3 : Int)] 27))).alloc (by simp) (.cells #[.int .u64 0, .int .u64 0, .int .u64 0, .int .u64 0] 27)) (by simp)))
  have LN := Lib.hid (box_in m5)
  clear hh n5 m5 HA4 HY4 HX4 HZ4 HB4
  generalize (W4.alloc (.cells #[.int .u64 ((orL [A, B]) 0 : Int), .int .u64 ((orL [A, B]) 1 : Int), .int .u64 ((orL [A, B]) 2 : Int), .int .u64 ((orL [A, B]) 3 : Int)] 27)).alloc (.cells #[.int .u64 0, .int .u64 0, .int .u64 0, .int .u64 0] 27) = W5 at *
  have t1 := len_le A
  have t2 := len_le B
  have t3 := len_le (andW A B)
  have u1 : IntKind.i64.wrap (((listN A).length : Int) + (listN B).length) = (listN A).length + (listN B).length := by rw [IntKind.wrap_i64]; omega
  have u2 : IntKind.i64.wrap (((listN A).length : Int) + (listN B).length - (listN (andW A B)).length) = (listN A).length + (listN B).length - (listN (andW A B)).length := by rw [IntKind.wrap_i64]; omega
  refine Calm.wp_region_calm (B := W5.heap.size) (W := W5) (by kernel_rfl) (by kernel_rfl) (by kernel_rfl) (Nat.le_refl _) (Below.refl _ _).drew ?_
  apply Exists.intro
  repeat (first
    | (apply Calm.calm_skip
       · rfl
       intro N hN
       go_simp
       apply hN.out
       clear hN N)
    | (apply Calm.calm_val
       · rfl
       · intro w hB hF K hK
         first
           | exact opAt_eqt f1 (by rfl) (by rfl) (by rfl) (hK.out _ _ rfl (Below.refl _ _))
           | exact opAt_eqt f2 (by rfl) (by rfl) (by rfl) (hK.out _ _ rfl (Below.refl _ _))
           | exact opAt_eqt f4 (by rfl) (by rfl) (by rfl) (hK.out _ _ rfl (Below.refl _ _))
           | exact opAt_eqt f5 (by rfl) (by rfl) (by rfl) (hK.out _ _ rfl (Below.refl _ _))
           | exact opAt_eqt f6 (by rfl) (by rfl) (by rfl) (hK.out _ _ rfl (Below.refl _ _))
           | refine opAt_load (by rfl) (by rfl) (LA.out w hB) (hK.out _ _ rfl (Below.refl _ _))
           | refine opAt_load (by rfl) (by rfl) (LB.out w hB) (hK.out _ _ rfl (Below.refl _ _))
           | refine opAt_load (by rfl) (by rfl) (LX.out w hB) (hK.out _ _ rfl (Below.refl _ _))
           | refine opAt_load (by rfl) (by rfl) (LY.out w hB) (hK.out _ _ rfl (Below.refl _ _))
           | refine opAt_load (by rfl) (by rfl) (LZ.out w hB) (hK.out _ _ rfl (Below.refl _ _))
           | refine opAt_load (by rfl) (by rfl) (LN.out w hB) (hK.out _ _ rfl (Below.refl _ _))
           | (unfold Calm.opAt
              go_simp
              first
                | (simp only [Calm.upon_value]
                   exact hK.out _ _ rfl (Below.refl _ _))
                | (simp only [Calm.upon_enter]
                   with_reducible refine (and_n (by assumption) (by assumption) _).mono ?_
                   rintro e w' ⟨rfl, hb⟩
                   exact ⟨_, rfl, hK.out _ _ rfl hb⟩)
                | (simp only [Calm.upon_enter]
                   with_reducible refine (minus_n (by assumption) (by assumption) _).mono ?_
                   rintro e w' ⟨rfl, hb⟩
                   exact ⟨_, rfl, hK.out _ _ rfl hb⟩)
                | (simp only [Calm.upon_enter]
                   with_reducible refine (len_n (by assumption) _).mono ?_
                   rintro e w' ⟨rfl, hb⟩
                   exact ⟨_, rfl, hK.out _ _ rfl hb⟩)
                | (simp only [Calm.upon_enter]
                   with_reducible refine (or_n none 0 0 [] ws0 _ (rdB0 _)).mono ?_
                   rintro e w' ⟨rfl, hb⟩
                   exact ⟨_, rfl, hK.out _ _ rfl hb⟩))
       intro N hN
       go_simp
       apply hN.out
       clear hN N)
    | (apply Calm.calm_rel (Calm.Laid 2 (row8 (andW A B) (minW A B)) 27) Calm.laid_stable
       · rfl
       · intro w hB hF K hK
         unfold Calm.opAt
         simp only [bvl]
         go_simp
         simp only [Calm.upon_value]
         exact hK.out _ _ (Calm.laid_new _) ((Below.refl _ _).alloc (Nat.le_refl _) _)
       intro u N hN
       go_simp
       apply hN.out
       clear hN N)
    | (apply Calm.calm_val
       · rfl
       · intro w hB hF K hK
         simp [Calm.facts, Region.binds] at hF
         obtain ⟨b, rfl, hb⟩ := hF
         unfold Calm.opAt
         go_simp
         simp only [Calm.upon_enter]
         first
           | (with_reducible refine (or_n _ 2 2 [andW A B, minW A B] (ws2 hX hY) _ (rdB_blk hb)).mono ?_
              rintro e w' ⟨rfl, hb'⟩
              exact ⟨_, rfl, hK.out _ _ rfl hb'⟩)
       intro N hN
       go_simp
       apply hN.out
       clear hN N))
  apply Calm.calm_nil
  intro w9 hB9 _
  go_wp2
  go_ret
  exact ⟨rfl, by rw [hb0]; exact HB5.out.trans (hB9.mono (by rw [← hb0]; exact HB5.out.size))⟩
end Go.Proofs.YtecocdnfbkiabaaDoor.Bits
