/-
  The statement BitsShares, walked.
-/
import Derived.Test.YtecocdnfbkiabaaDoorBits16
namespace Go.Proofs.YtecocdnfbkiabaaDoor.Bits
open Go.RowKit Go.Shelf

def row12 (X Y Z : Nat → Nat) : Array Value := #[.int .u64 (X 0 : Int), .int .u64 (X 1 : Int), .int .u64 (X 2 : Int), .int .u64 (X 3 : Int), .int .u64 (Y 0 : Int), .int .u64 (Y 1 : Int), .int .u64 (Y 2 : Int), .int .u64 (Y 3 : Int), .int .u64 (Z 0 : Int), .int .u64 (Z 1 : Int), .int .u64 (Z 2 : Int), .int .u64 (Z 3 : Int)]
theorem rdB_blk3 {w : World} {b : Nat} {X Y Z : Nat → Nat} (h : w.heap[b]? = some (.cells (row12 X Y Z) 27 (0, 0))) : RdB w (some ⟨b, 0, none⟩) 3 ([X, Y, Z].map iw) := by
  refine ⟨rfl, by decide, fun _ => ⟨_, _, rfl, fun j hj i hi => ?_⟩⟩
  simp only [World.cell?, h]
  match j, hj, i, hi with
  | 0, _, 0, _ => rfl
  | 0, _, 1, _ => rfl
  | 0, _, 2, _ => rfl
  | 0, _, 3, _ => rfl
  | 1, _, 0, _ => rfl
  | 1, _, 1, _ => rfl
  | 1, _, 2, _ => rfl
  | 1, _, 3, _ => rfl
  | 2, _, 0, _ => rfl
  | 2, _, 1, _ => rfl
  | 2, _, 2, _ => rfl
  | 2, _, 3, _ => rfl
theorem ws3 {X Y Z : Nat → Nat} (hX : Ws X) (hY : Ws Y) (hZ : Ws Z) : ∀ B ∈ [X, Y, Z], Ws B := by
  intro B hB
  simp at hB
  rcases hB with rfl | rfl | rfl <;> assumption
theorem count_le {α : Type} (p q : α → Bool) (h : ∀ x, p x = true → q x = true) (l : List α) : (l.filter p).length ≤ (l.filter q).length := by
  induction l with
  | nil => exact Nat.le_refl _
  | cons x l ih =>
    simp only [List.filter_cons]
    cases hp : p x
    · cases q x <;> simp <;> omega
    · rw [h x hp]; simp; exact ih
theorem len_mono {A B : Nat → Nat} (h : ∀ i, hasN A i = true → hasN B i = true) : (listN A).length ≤ (listN B).length := count_le _ _ h _
/-- What the statement says of three sets. -/
theorem shares_facts {A B C : Nat → Nat} (hA : Ws A) (hB : Ws B) (hC : Ws C) :
    eqN (orL [A, B, C]) (orL [A, minW (orL [B, C]) A]) = true ∧ eqN (andW A (orL [B, C])) (orL [andW A B, andW A C]) = true ∧ eqN (minW A (orL [B, C])) (andW (minW A B) (minW A C)) = true ∧
    decide ((listN A).length ≤ (listN (orL [A, B, C])).length) = true := by
  have hBC := Ws.orL (ws2 hB hC)
  refine ⟨eqN_ext (Ws.orL (ws3 hA hB hC)) (Ws.orL (ws2 hA hBC.min)) fun i hi => ?_, eqN_ext hA.and (Ws.orL (ws2 hA.and hA.and)) fun i hi => ?_, eqN_ext hA.min (Ws.and hA.min) fun i hi => ?_, ?_⟩
  · rw [has_orL, has_orL]
    simp only [List.any_cons, List.any_nil, has_min, has_orL]
    cases hasN A i <;> cases hasN B i <;> cases hasN C i <;> rfl
  · rw [has_and, has_orL, has_orL]
    simp only [List.any_cons, List.any_nil, has_and]
    cases hasN A i <;> cases hasN B i <;> cases hasN C i <;> rfl
  · rw [has_min, has_and, has_min, has_min, has_orL]
    simp only [List.any_cons, List.any_nil]
    cases hasN A i <;> cases hasN B i <;> cases hasN C i <;> rfl
  · have := len_mono (A := A) (B := orL [A, B, C]) fun i hi => by rw [has_orL]; simp [hi]
    exact decide_eq_true this

set_option maxHeartbeats 8000000 in
set_option maxRecDepth 100000 in
theorem BitsShares_walk (A : Nat → Nat) (hA : Ws A) (B : Nat → Nat) (hB : Ws B) (C : Nat → Nat) (hC : Ws C) (W : World) (hT : TabAt 0 Lib.deBruijn64tab W) :
    Calls Tryd.prog 7 #[bv (iw A), bv (iw B), bv (iw C)] W fun e w' => e = .returned (.bool true) ∧ Below W.heap.size W w' := by
  obtain ⟨f1, f2, f3, f4⟩ := shares_facts hA hB hC
  have hlt := TabAt.lt hT
  have HA := fun w => Lib.hid (awake_any w)
  have HT : Hid (TabAt 0 Lib.deBruijn64tab W) := hT
  have hBC : Ws (orL [B, C]) := Ws.orL (ws2 hB hC)
  have hAll : Ws (orL [A, B, C]) := Ws.orL (ws3 hA hB hC)
  have g1 : Ws (minW (orL [B, C]) A) := hBC.min
  have g2 : Ws (andW A B) := hA.and
  have g3 : Ws (andW A C) := hA.and
  have g4 : Ws (minW A B) := hA.min
  have g5 : Ws (minW A C) := hA.min
  clear hT
  rw [bvl, bvl, bvl]
  go_enter Tryd.func7, Tryd.ntmps7
  go_wp2_with fail
  have hb0 : Below W.heap.size W (((W.alloc (.cells #[.int .u64 (A 0 : Int), .int .u64 (A 1 : Int), .int .u64 (A 2 : Int), .int .u64 (A 3 : Int)] 27)).alloc (.cells #[.int .u64 (B 0 : Int), .int .u64 (B 1 : Int), .int .u64 (B 2 : Int), .int .u64 (B 3 : Int)] 27)).alloc (.cells #[.int .u64 (C 0 : Int), .int .u64 (C 1 : Int), .int .u64 (C 2 : Int), .int .u64 (C 3 : Int)] 27)) := (((Below.refl _ W).alloc (Nat.le_refl _) _).alloc (by simp) _).alloc (by simp; omega) _
  have nA : (((W.alloc (.cells #[.int .u64 (A 0 : Int), .int .u64 (A 1 : Int), .int .u64 (A 2 : Int), .int .u64 (A 3 : Int)] 27)).alloc (.cells #[.int .u64 (B 0 : Int), .int .u64 (B 1 : Int), .int .u64 (B 2 : Int), .int .u64 (B 3 : Int)] 27)).alloc (.cells #[.int .u64 (C 0 : Int), .int .u64 (C 1 : Int), .int .u64 (C 2 : Int), .int .u64 (C 3 : Int)] 27)).heap[W.heap.size]? = some (.cells (rowc (iw A)) 27 (0, 0)) := (Below.heap_alloc _ _ _ (by simp; omega)).trans ((Below.heap_alloc _ _ _ (by simp)).trans (new4 W A))
  have nB : (((W.alloc (.cells #[.int .u64 (A 0 : Int), .int .u64 (A 1 : Int), .int .u64 (A 2 : Int), .int .u64 (A 3 : Int)] 27)).alloc (.cells #[.int .u64 (B 0 : Int), .int .u64 (B 1 : Int), .int .u64 (B 2 : Int), .int .u64 (B 3 : Int)] 27)).alloc (.cells #[.int .u64 (C 0 : Int), .int .u64 (C 1 : Int), .int .u64 (C 2 : Int), .int .u64 (C 3 : Int)] 27)).heap[W.heap.size + 1]? = some (.cells (rowc (iw B)) 27 (0, 0)) := (Below.heap_alloc _ _ _ (by simp)).trans (heap_new _ _ _ (by simp))
  have nC : (((W.alloc (.cells #[.int .u64 (A 0 : Int), .int .u64 (A 1 : Int), .int .u64 (A 2 : Int), .int .u64 (A 3 : Int)] 27)).alloc (.cells #[.int .u64 (B 0 : Int), .int .u64 (B 1 : Int), .int .u64 (B 2 : Int), .int .u64 (B 3 : Int)] 27)).alloc (.cells #[.int .u64 (C 0 : Int), .int .u64 (C 1 : Int), .int .u64 (C 2 : Int), .int .u64 (C 3 : Int)] 27)).heap[W.heap.size + 1 + 1]? = some (.cells (rowc (iw C)) 27 (0, 0)) := heap_new _ _ _ (by simp)
  generalize (((W.alloc (.cells #[.int .u64 (A 0 : Int), .int .u64 (A 1 : Int), .int .u64 (A 2 : Int), .int .u64 (A 3 : Int)] 27)).alloc (.cells #[.int .u64 (B 0 : Int), .int .u64 (B 1 : Int), .int .u64 (B 2 : Int), .int .u64 (B 3 : Int)] 27)).alloc (.cells #[.int .u64 (C 0 : Int), .int .u64 (C 1 : Int), .int .u64 (C 2 : Int), .int .u64 (C 3 : Int)] 27)) = W0 at *
  refine ((HA _).out (TabAt.below HT.out hb0 hlt)).mono ?_
  rintro e W1 ⟨rfl, hb1⟩
  have HB1 : Hid (Below W.heap.size W W1) := hb0.trans (hb1.mono hb0.size)
  have HA1 := Lib.hid (old4 nA hb1 (lt4 nA))
  have HY1 := Lib.hid (old4 nB hb1 (lt4 nB))
  have HZ1 := Lib.hid (old4 nC hb1 (lt4 nC))
  clear hb1 hb0 nA nB nC hlt
  generalize hb0 : W.heap.size = b0 at *
  generalize hb1 : b0 + 1 = b1 at *
  generalize hb2 : b1 + 1 = b2 at *
  obtain ⟨a0, a1, a2, a3⟩ := c4 HA1.out
  obtain ⟨y0, y1, y2, y3⟩ := c4 HY1.out
  obtain ⟨z0, z1, z2, z3⟩ := c4 HZ1.out
  go_wp2_with fail
  clear a0 a1 a2 a3 y0 y1 y2 y3 z0 z1 z2 z3
  have r4 : (W1.alloc (.cells (row12 A B C) 27)).heap[W1.heap.size]? = some (.cells (row12 A B C) 27 (0, 0)) := heap_alloc_new _ _
  refine (or_n _ 3 3 [A, B, C] (ws3 hA hB hC) (W1.alloc (.cells (row12 A B C) 27)) (rdB_blk3 r4)).mono ?_
  rintro e W4 ⟨rfl, hb⟩
  rw [bvl]
  have hb' : Below W1.heap.size W1 W4 := ((Below.refl _ W1).alloc (Nat.le_refl _) _).trans (hb.mono (by simp))
  have HB4 : Hid (Below b0 W W4) := HB1.out.trans (hb'.mono (by rw [← hb0]; exact HB1.out.size))
  have HA4 := Lib.hid (old4 HA1.out hb' (lt4 HA1.out))
  have HY4 := Lib.hid (old4 HY1.out hb' (lt4 HY1.out))
  have HZ4 := Lib.hid (old4 HZ1.out hb' (lt4 HZ1.out))
  clear hb hb' r4 HB1 HA1 HY1 HZ1
  go_wp2_with fail
  have n5 := new4 W4 (orL [A, B, C])
  have hh : Below W4.heap.size W4 (W4.alloc (.cells #[.int .u64 ((orL [A, B, C]) 0 : Int), .int .u64 ((orL [A, B, C]) 1 : Int), .int .u64 ((orL [A, B, C]) 2 : Int), .int .u64 ((orL [A, B, C]) 3 : Int)] 27)) := (Below.refl _ W4).alloc (Nat.le_refl _) _
  have HB5 := Lib.hid (HB4.out.trans (hh.mono (by rw [← hb0]; exact HB4.out.size)))
  have LA := Lib.hid (box_in (old4 HA4.out hh (lt4 HA4.out)))
  have LB := Lib.hid (box_in (old4 HY4.out hh (lt4 HY4.out)))
  have LC := Lib.hid (box_in (old4 HZ4.out hh (lt4 HZ4.out)))
  have LL := Lib.hid (box_in n5)
  clear hh n5 HA4 HY4 HZ4 HB4
  generalize W4.alloc (.cells #[.int .u64 ((orL [A, B, C]) 0 : Int), .int .u64 ((orL [A, B, C]) 1 : Int), .int .u64 ((orL [A, B, C]) 2 : Int), .int .u64 ((orL [A, B, C]) 3 : Int)] 27) = W5 at *
  refine Calm.wp_region_calm (B := W5.heap.size) (W := W5) (by kernel_rfl) (by kernel_rfl) (by kernel_rfl) (Nat.le_refl _) (Below.refl _ _).drew ?_
  apply Exists.intro
  repeat (first
    | (apply Calm.calm_skip
       · rfl
       intro N hN
       go_simp
       apply hN.out
       clear hN N)
    | (apply Calm.calm_val
       · rfl
       · intro w hB hF K hK
         first
           | exact opAt_eqt f1 (by rfl) (by rfl) (by rfl) (hK.out _ _ rfl (Below.refl _ _))
           | exact opAt_eqt f2 (by rfl) (by rfl) (by rfl) (hK.out _ _ rfl (Below.refl _ _))
           | exact opAt_eqt f3 (by rfl) (by rfl) (by rfl) (hK.out _ _ rfl (Below.refl _ _))
           | refine opAt_load (by rfl) (by rfl) (LA.out w hB) (hK.out _ _ rfl (Below.refl _ _))
           | refine opAt_load (by rfl) (by rfl) (LB.out w hB) (hK.out _ _ rfl (Below.refl _ _))
           | refine opAt_load (by rfl) (by rfl) (LC.out w hB) (hK.out _ _ rfl (Below.refl _ _))
           | refine opAt_load (by rfl) (by rfl) (LL.out w hB) (hK.out _ _ rfl (Below.refl _ _))
           | (unfold Calm.opAt
              go_simp
              first
                | (simp only [Calm.upon_value]
                   exact hK.out _ _ rfl (Below.refl _ _))
                | (simp only [Calm.upon_enter]
                   with_reducible refine (and_n (by assumption) (by assumption) _).mono ?_
                   rintro e w' ⟨rfl, hb⟩
                   exact ⟨_, rfl, hK.out _ _ rfl hb⟩)
                | (simp only [Calm.upon_enter]
                   with_reducible refine (minus_n (by assumption) (by assumption) _).mono ?_
                   rintro e w' ⟨rfl, hb⟩
                   exact ⟨_, rfl, hK.out _ _ rfl hb⟩)
                | (simp only [Calm.upon_enter]
                   with_reducible refine (len_n (by assumption) _).mono ?_
                   rintro e w' ⟨rfl, hb⟩
                   exact ⟨_, rfl, hK.out _ _ rfl hb⟩))
       intro N hN
       go_simp
       apply hN.out
       clear hN N)
    | (apply Calm.calm_rel (Calm.Laid 2 (row8 B C) 27) Calm.laid_stable
       · rfl
       · intro w hB hF K hK
         unfold Calm.opAt
         simp only [bvl]
         go_simp
         simp only [Calm.upon_value]
         exact hK.out _ _ (Calm.laid_new _) ((Below.refl _ _).alloc (Nat.le_refl _) _)
       intro u N hN
       go_simp
       apply hN.out
       clear hN N)
    | (apply Calm.calm_rel (Calm.Laid 2 (row8 A (minW (orL [B, C]) A)) 27) Calm.laid_stable
       · rfl
       · intro w hB hF K hK
         unfold Calm.opAt
         simp only [bvl]
         go_simp
         simp only [Calm.upon_value]
         exact hK.out _ _ (Calm.laid_new _) ((Below.refl _ _).alloc (Nat.le_refl _) _)
       intro u N hN
       go_simp
       apply hN.out
       clear hN N)
    | (apply Calm.calm_rel (Calm.Laid 2 (row8 (andW A B) (andW A C)) 27) Calm.laid_stable
       · rfl
       · intro w hB hF K hK
         unfold Calm.opAt
         simp only [bvl]
         go_simp
         simp only [Calm.upon_value]
         exact hK.out _ _ (Calm.laid_new _) ((Below.refl _ _).alloc (Nat.le_refl _) _)
       intro u N hN
       go_simp
       apply hN.out
       clear hN N)
    | (apply Calm.calm_val
       · rfl
       · intro w hB hF K hK
         simp [Calm.facts, Region.binds] at hF
         obtain ⟨b, rfl, hb⟩ := hF
         unfold Calm.opAt
         go_simp
         simp only [Calm.upon_enter]
         first
           | (with_reducible refine (or_n _ 2 2 [B, C] (ws2 (by assumption) (by assumption)) _ (rdB_blk hb)).mono ?_
              rintro e w' ⟨rfl, hb'⟩
              exact ⟨_, rfl, hK.out _ _ rfl hb'⟩)
           | (with_reducible refine (or_n _ 2 2 [A, minW (orL [B, C]) A] (ws2 (by assumption) (by assumption)) _ (rdB_blk hb)).mono ?_
              rintro e w' ⟨rfl, hb'⟩
              exact ⟨_, rfl, hK.out _ _ rfl hb'⟩)
           | (with_reducible refine (or_n _ 2 2 [andW A B, andW A C] (ws2 (by assumption) (by assumption)) _ (rdB_blk hb)).mono ?_
              rintro e w' ⟨rfl, hb'⟩
              exact ⟨_, rfl, hK.out _ _ rfl hb'⟩)
       intro N hN
       go_simp
       apply hN.out
       clear hN N))
  apply Calm.calm_nil
  intro w9 hB9 _
  go_wp2
  go_ret
  exact ⟨rfl, by rw [hb0]; exact HB5.out.trans (hB9.mono (by rw [← hb0]; exact HB5.out.size))⟩
end Go.Proofs.YtecocdnfbkiabaaDoor.Bits
