/-
  The statement BitsBack, walked.
-/
import Derived.Test.YtecocdnfbkiabaaDoorBits16
namespace Go.Proofs.YtecocdnfbkiabaaDoor.Bits
open Go.RowKit Go.Shelf

theorem cast_getD (l : List Nat) (i : Nat) (h : i < l.length) : (cast l).getD i 0 = ((l[i] : Nat) : Int) := by
  simp [cast, List.getD_eq_getElem?_getD, List.getElem?_eq_getElem h]
/-- What the statement says of a set's numbers. -/
theorem back_at {A : Nat → Nat} (i : Nat) (h : i < (listN A).length) : 0 ≤ (cast (listN A)).getD i 0 ∧ (cast (listN A)).getD i 0 ≤ 255 ∧ hasI A ((cast (listN A)).getD i 0) = true := by
  rw [cast_getD _ _ h]
  have hm := (mem_list A ((listN A)[i])).1 (List.getElem_mem h)
  refine ⟨by omega, by omega, ?_⟩
  unfold hasI
  rw [if_pos (by omega), Int.toNat_natCast]
  exact hm.2
theorem back_lt {A : Nat → Nat} (i : Nat) (h : i + 1 < (listN A).length) : (cast (listN A)).getD i 0 < (cast (listN A)).getD (i + 1) 0 := by
  rw [cast_getD _ _ h, cast_getD _ _ (by omega)]
  have hp : (listN A).Pairwise (· < ·) := List.Pairwise.filter _ List.pairwise_lt_range
  have := List.pairwise_iff_getElem.1 hp i (i + 1) (by omega) h (by omega)
  omega
theorem back_of {A : Nat → Nat} (hA : Ws A) : eqN (ofN (cast (listN A))) A = true := by
  refine eqN_ext (Ws.ofN _) hA fun k hk => ?_
  rw [has_ofN _ _ hk, Bool.eq_iff_iff, List.any_eq_true]
  constructor
  · rintro ⟨x, hx, he⟩
    obtain ⟨m, hm, rfl⟩ := List.mem_map.1 hx
    have : m = k := by have := of_decide_eq_true he; omega
    subst this
    exact ((mem_list A m).1 hm).2
  · intro h
    exact ⟨(k : Int), List.mem_map.2 ⟨k, (mem_list A k).2 ⟨hk, h⟩, rfl⟩, by simp⟩
theorem RdI.atI {w : World} {b o n : Nat} {zs : List Int} (h : RdI w (some ⟨b, o, none⟩) n zs) (i : Nat) (hi : i < n) : w.cell? ⟨b, o + i, none⟩ = some (.int .i64 (zs.getD i 0)) := by
  obtain ⟨b', o', e, hc⟩ := h.2.2 (by omega)
  cases e
  exact hc i hi

set_option maxHeartbeats 8000000 in
set_option maxRecDepth 100000 in
theorem BitsBack_walk (A : Nat → Nat) (hA : Ws A) (W : World) (hT : TabAt 0 Lib.deBruijn64tab W) :
    Calls Tryd.prog 5 #[bv (iw A)] W fun e w' => e = .returned (.bool true) ∧ Below W.heap.size W w' := by
  have f1 := back_of hA
  have hlt := TabAt.lt hT
  have HA := fun w => Lib.hid (awake_any w)
  have HT : Hid (TabAt 0 Lib.deBruijn64tab W) := hT
  have hle := len_le A
  have HAT := fun i h => Lib.hid (back_at (A := A) i h)
  have HLT := fun i h => Lib.hid (back_lt (A := A) i h)
  clear hT
  rw [bvl]
  go_enter Tryd.func5, Tryd.ntmps5
  go_wp2_with fail
  have hb0 : Below W.heap.size W (W.alloc (.cells #[.int .u64 (A 0 : Int), .int .u64 (A 1 : Int), .int .u64 (A 2 : Int), .int .u64 (A 3 : Int)] 27)) := (Below.refl _ W).alloc (Nat.le_refl _) _
  have nA := new4 W A
  generalize W.alloc (.cells #[.int .u64 (A 0 : Int), .int .u64 (A 1 : Int), .int .u64 (A 2 : Int), .int .u64 (A 3 : Int)] 27) = W0 at *
  refine ((HA _).out (TabAt.below HT.out hb0 hlt)).mono ?_
  rintro e W1 ⟨rfl, hb1⟩
  have HB1 : Hid (Below W.heap.size W W1) := hb0.trans (hb1.mono hb0.size)
  have HA1 := Lib.hid (old4 nA hb1 (lt4 nA))
  have HT1 := Lib.hid (TabAt.below HT.out HB1.out hlt)
  clear hb1 hb0 nA hlt
  generalize hb0 : W.heap.size = b0 at *
  obtain ⟨a0, a1, a2, a3⟩ := c4 HA1.out
  go_wp2_with fail
  clear a0 a1 a2 a3
  refine (list_any A hA W1 HT1.out).mono ?_
  rintro e W2 ⟨v, rfl, hown, _, hb2⟩
  obtain ⟨A2, c2, rfl, hr, _, _⟩ := own_rdI (n := (listN A).length) hown (by omega)
  have HR : Hid (RdI W2 A2 (listN A).length (cast (listN A))) := hr
  have HB2 : Hid (Below b0 W W2) := HB1.out.trans (hb2.mono (by rw [← hb0]; exact HB1.out.size))
  have LA := Lib.hid (box_in (old4 HA1.out hb2 (lt4 HA1.out)))
  clear hown hb2 hr HB1 HA1 HT1 HT
  generalize hn : (listN A).length = n at *
  generalize hL : cast (listN A) = L at *
  have HN := Lib.hid hn
  have HLL := Lib.hid hL
  clear hn hL
  go_wp2
  go_loopg [5] n (fun g iv wr => ∃ i : Nat, i ≤ n ∧ iv = .int .i64 (i : Int) ∧ Aside (n - i = g) ∧ Aside (Below W2.heap.size W2 wr))
  case atStart => exact ⟨0, Nat.zero_le _, rfl, rfl, Below.refl _ _⟩
  case round =>
    obtain ⟨i, hi, rfl, hk, hbel⟩ := hrel
    by_cases hlt : i < n
    · have hR1 := HR.out.below hbel.out (Nat.le_refl _)
      obtain ⟨b, o, rfl, _⟩ := hR1.2.2 (by omega)
      have LR := Lib.hid (box_in (LA.out wr hbel.out))
      have HC : Hid (∀ w, Below wr.heap.size wr w → w.cell? ⟨b, o + i, none⟩ = some (.int .i64 (L.getD i 0))) := fun w h => (hR1.below h (Nat.le_refl _)).atI i hlt
      obtain ⟨z1, z2, z3⟩ := (HAT i hlt).out
      obtain rfl | ⟨j, rfl⟩ : i = 0 ∨ ∃ j, i = j + 1 := by
        cases i with
        | zero => exact .inl rfl
        | succ j => exact .inr ⟨j, rfl⟩
      · generalize L.getD 0 0 = z at *
        clear hR1
        have hz1 : decide (z < 0) = false := decide_eq_false (by omega)
        have hz2 : decide (255 < z) = false := decide_eq_false (by omega)
        have q0 : (0 : Int) < (n : Int) := by omega
        rw [Nat.add_zero] at HC
        rw [show ((0 : Nat) : Int) = 0 from rfl]
        go_wp2_with fail
        refine Calm.wp_region_calm (B := wr.heap.size) (W := wr) (by kernel_rfl) (by kernel_rfl) (by kernel_rfl) (Nat.le_refl _) (Below.refl _ _).drew ?_
        apply Exists.intro
        repeat (first
          | (apply Calm.calm_skip
             · rfl
             intro N hN
             go_simp
             apply hN.out
             clear hN N)
          | (apply Calm.calm_val
             · rfl
             · intro w hB hF K hK
               first
                 | refine opAt_load (by rfl) (by rfl) (LR.out w hB) (hK.out _ _ rfl (Below.refl _ _))
                 | (unfold Calm.opAt
                    have c1 := HC.out w hB
                    go_simp
                    first
                      | (simp only [Calm.upon_value]
                         exact hK.out _ _ rfl (Below.refl _ _))
                      | (simp only [Calm.upon_enter]
                         with_reducible refine (has_n (by assumption) _ _).mono ?_
                         rintro e w' ⟨rfl, hb⟩
                         exact ⟨_, rfl, hK.out _ _ rfl hb⟩))
             intro N hN
             go_simp
             apply hN.out
             clear hN N))
        apply Calm.calm_nil
        intro w9 hB9 _
        go_wp2
        go_roundg (n - (0 + 1))
        case measure => have := hk.out; omega
        case rel => exact ⟨0 + 1, by omega, by go_num, rfl, hbel.out.trans (hB9.mono hbel.out.size)⟩
      · have HC2 : Hid (∀ w, Below wr.heap.size wr w → w.cell? ⟨b, o + j, none⟩ = some (.int .i64 (L.getD j 0))) := fun w h => (hR1.below h (Nat.le_refl _)).atI j (by omega)
        have z4 := (HLT j hlt).out
        generalize L.getD (j + 1) 0 = z at *
        generalize L.getD j 0 = y at *
        clear hR1
        have hz1 : decide (z < 0) = false := decide_eq_false (by omega)
        have hz2 : decide (255 < z) = false := decide_eq_false (by omega)
        have hz3 : decide (z ≤ y) = false := decide_eq_false (by omega)
        have q1 : decide ((0 : Int) < (j : Int) + 1) = true := decide_eq_true (by omega)
        have q2 : (0 : Int) ≤ (j : Int) + 1 := by omega
        have q3 : (j : Int) + 1 < (n : Int) := by omega
        have q4 : (0 : Int) ≤ (j : Int) := by omega
        have q5 : (j : Int) < (n : Int) := by omega
        have q6 : IntKind.i64.wrap (j : Int) = (j : Int) := by rw [IntKind.wrap_i64]; omega
        go_wp2_with fail
        refine Calm.wp_region_calm (B := wr.heap.size) (W := wr) (by kernel_rfl) (by kernel_rfl) (by kernel_rfl) (Nat.le_refl _) (Below.refl _ _).drew ?_
        apply Exists.intro
        repeat (first
          | (apply Calm.calm_skip
             · rfl
             intro N hN
             go_simp
             apply hN.out
             clear hN N)
          | (apply Calm.calm_val
             · rfl
             · intro w hB hF K hK
               first
                 | refine opAt_load (by rfl) (by rfl) (LR.out w hB) (hK.out _ _ rfl (Below.refl _ _))
                 | (unfold Calm.opAt
                    have c1 := HC.out w hB
                    have c2 := HC2.out w hB
                    go_simp
                    first
                      | (simp only [Calm.upon_value]
                         exact hK.out _ _ rfl (Below.refl _ _))
                      | (simp only [Calm.upon_enter]
                         with_reducible refine (has_n (by assumption) _ _).mono ?_
                         rintro e w' ⟨rfl, hb⟩
                         exact ⟨_, rfl, hK.out _ _ rfl hb⟩))
             intro N hN
             go_simp
             apply hN.out
             clear hN N))
        apply Calm.calm_nil
        intro w9 hB9 _
        go_wp2
        go_roundg (n - (j + 1 + 1))
        case measure => have := hk.out; omega
        case rel => exact ⟨j + 1 + 1, by omega, by go_num, rfl, hbel.out.trans (hB9.mono hbel.out.size)⟩
    · obtain rfl : i = n := by omega
      have hR1 : Hid (∀ w, Below wr.heap.size wr w → RdI w A2 i L) := fun w h => (HR.out.below hbel.out (Nat.le_refl _)).below h (Nat.le_refl _)
      have LR := Lib.hid (box_in (LA.out wr hbel.out))
      go_wp2_with fail
      have hlen : (listN A).length = i := HN.out
      refine Calm.wp_region_calm (B := wr.heap.size) (W := wr) (by kernel_rfl) (by kernel_rfl) (by kernel_rfl) (Nat.le_refl _) (Below.refl _ _).drew ?_
      apply Exists.intro
      repeat (first
        | (apply Calm.calm_skip
           · rfl
           intro N hN
           go_simp
           apply hN.out
           clear hN N)
        | (apply Calm.calm_val
           · rfl
           · intro w hB hF K hK
             first
               | exact opAt_eqt f1 (by rfl) (by rfl) (by rfl) (hK.out _ _ rfl (Below.refl _ _))
               | refine opAt_load (by rfl) (by rfl) (LR.out w hB) (hK.out _ _ rfl (Below.refl _ _))
               | (unfold Calm.opAt
                  go_simp
                  first
                    | (simp only [Calm.upon_value]
                       exact hK.out _ _ rfl (Below.refl _ _))
                    | (simp only [Calm.upon_enter]
                       with_reducible refine (of_n _ _ _ _ _ (hR1.out _ hB)).mono ?_
                       rintro e w' ⟨rfl, hb⟩
                       exact ⟨_, rfl, hK.out _ _ rfl hb⟩)
                    | (simp only [Calm.upon_enter]
                       with_reducible refine (len_n (by assumption) _).mono ?_
                       rintro e w' ⟨rfl, hb⟩
                       rw [HN.out]
                       exact ⟨_, rfl, hK.out _ _ rfl hb⟩))
           intro N hN
           go_simp
           apply hN.out
           clear hN N))
      apply Calm.calm_nil
      intro w9 hB9 _
      go_wp2
      go_ret
      exact ⟨rfl, by rw [hb0]; exact HB2.out.trans ((hbel.out.trans (hB9.mono hbel.out.size)).mono (by rw [← hb0]; exact HB2.out.size))⟩
end Go.Proofs.YtecocdnfbkiabaaDoor.Bits
