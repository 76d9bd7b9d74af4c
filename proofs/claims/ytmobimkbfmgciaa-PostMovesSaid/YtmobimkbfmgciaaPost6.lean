/-
  The statement PostShut, walked.
-/
import Derived.Test.YtmobimkbfmgciaaPost5
import Derived.Deep.RegionHeld3
namespace Go.Proofs.Ytmobimkbfmgciaa.Post
open Go.Conc Go.RowKit

theorem RdA.at {w : World} {b o n : Nat} {q : List (Int × Int)} (h : RdA w (some ⟨b, o, none⟩) n q) (i : Nat) (hi : i < n) :
    w.cell? ⟨b, o + i * 2, none⟩ = some (.int .i64 (q.getD i (0, 0)).1) ∧ w.cell? ⟨b, o + i * 2 + 1, none⟩ = some (.int .i64 (q.getD i (0, 0)).2) := by
  obtain ⟨b', o', e, hc⟩ := h.2.2 (by omega)
  cases e
  exact hc i hi

set_option maxHeartbeats 8000000 in
set_option maxRecDepth 100000 in
theorem PostShut_walk (A : Option Addr) (n c : Nat) (q : List (Int × Int)) (a1 : Int) (W : World) (w0 : Row0.IsPairs .i64 .i64 W A n c q) (_w1 : (Lit.int .i64 a1).wf = true) :
    Calls Try.prog 6 #[.slice A n c, .int .i64 a1] W fun e w' => e = .returned (.bool true) ∧ Below W.heap.size W w' := by
  have hq := pairs_rd w0
  have hn := hq.2.1
  have hnc := w0.le
  have hcm := w0.mx
  have had := w0.ad
  have HQ := Lib.hid hq
  clear hq w0
  have HA := fun w => Lib.hid (awake_any w)
  go_enter Try.func6, Try.ntmps6
  go_upto_if 13 with (go_at_call 9; refine (HA _).out.mono ?_; rintro e W1 ⟨rfl, hb⟩)
  go_cut [0] (fun v wr => v = .slice A (min n 20 : Nat) c ∧ W1 = wr)
  case first =>
    by_cases h20 : n ≤ 20
    · go_wp2
      go_meet
      exact ⟨by rw [Nat.min_eq_left h20], rfl⟩
    · obtain ⟨b, o, rfl⟩ := had (by omega)
      have h21 : 20 < n := by omega
      go_wp2
      go_meet
      exact ⟨by rw [Nat.min_eq_right (by omega)], rfl⟩
  case rest =>
    obtain ⟨rfl, rfl⟩ := hcut
    have hm1 : min n 20 ≤ 20 := Nat.min_le_right _ _
    have hmc : min n 20 ≤ c := Nat.le_trans (Nat.min_le_left _ _) hnc
    have HM : Hid (RdA W A (min n 20) (q.take 20)) := rdA_take HQ.out 20
    generalize min n 20 = M at *
    generalize q.take 20 = l at *
    clear had HQ
    have ht := Int.tmod_lt_of_pos a1 (show (0 : Int) < (M : Int) + 1 by omega)
    have ht' := Int.lt_tmod_of_pos a1 (show (0 : Int) < (M : Int) + 1 by omega)
    obtain ⟨t, ht0, t1, t2⟩ : ∃ t, a1.tmod ((M : Int) + 1) = t ∧ -((M : Int) + 1) < t ∧ t < (M : Int) + 1 := ⟨_, rfl, by omega, ht⟩
    clear ht ht'
    have ek : (t + (M : Int) + 1).tmod ((M : Int) + 1) = (t + (M : Int) + 1) % ((M : Int) + 1) := Int.tmod_eq_emod_of_nonneg (by omega)
    obtain ⟨k, hk0, k1⟩ : ∃ k : Nat, (t + (M : Int) + 1) % ((M : Int) + 1) = (k : Int) ∧ k ≤ M := ⟨((t + (M : Int) + 1) % ((M : Int) + 1)).toNat, by have := Int.emod_nonneg (t + (M : Int) + 1) (show (M : Int) + 1 ≠ 0 by omega); omega, by have := Int.emod_lt_of_pos (t + (M : Int) + 1) (show (0 : Int) < (M : Int) + 1 by omega); omega⟩
    go_wp2_with fail
    refine (new_any 20 20 rfl (by decide) (by decide) W1).mono ?_
    rintro e W2 ⟨p1, c1, rfl, hb1, hg1, l1, l2⟩
    have HB1 := Lib.hid hb1
    have HG1 := Lib.hid (hb.grown hg1 hb.size (fun k e => by cases e))
    have m1 : W.heap.size ≤ p1 := Nat.le_trans hb.size l1
    have m2 : W.heap.size ≤ c1 := Nat.le_trans hb.size l2
    clear hb hb1 hg1 l1 l2
    go_wp2
    go_loopg [8] M (fun g iv wr => ∃ (i : Nat), i ≤ M ∧ iv = .int .i64 (i : Int) ∧ Aside (M - i = g) ∧ Aside (IsBox wr p1 c1 20 (l.take (min i k)) (decide (k < i))) ∧ Aside (Below W.heap.size W wr))
    case atStart => exact ⟨0, Nat.zero_le _, rfl, rfl, by simpa [Aside] using HB1.out, HG1.out⟩
    case round =>
      obtain ⟨i, hi, rfl, hk, hx1, hbel⟩ := hrel
      clear ht0 ek hk0
      by_cases hlt : i < M
      · have HR := Lib.hid (HM.out.below hbel.out (Nat.le_refl _))
        obtain ⟨b, o, rfl, hc⟩ := HR.out.2.2 (by omega)
        clear hc
        have hl : l.length = M := HM.out.1
        have htk : Aside (l.take (i + 1) = l.take i ++ [((l.getD i (0, 0)).1, (l.getD i (0, 0)).2)]) := take_pair l i (by rw [hl]; exact hlt)
        have HC : Hid (∀ wr, Below W.heap.size W wr → wr.cell? ⟨b, o + i * 2, none⟩ = some (.int .i64 (l.getD i (0, 0)).1) ∧ wr.cell? ⟨b, o + i * 2 + 1, none⟩ = some (.int .i64 (l.getD i (0, 0)).2)) := fun wr h => (HM.out.below h (Nat.le_refl _)).at i hlt
        clear HR
        generalize (l.getD i (0, 0)).1 = x at *
        generalize (l.getD i (0, 0)).2 = y at *
        rcases Nat.lt_trichotomy i k with hik | hik | hik
        · have e1 : min i k = i := by omega
          have e2 : min (i + 1) k = i + 1 := by omega
          have e3 : decide (k < i) = false := by simp; omega
          have e4 : decide (k < i + 1) = false := by simp; omega
          rw [e1, e3] at hx1
          have hll : (l.take i).length = i := by rw [List.length_take, hl]; omega
          have p1' : putOk 20 (l.take i) false = true := by simp [putOk, hll]; omega
          have p2' : putQ 20 (l.take i) false (x, y) = l.take (i + 1) := by rw [htk.out]; unfold putQ; rw [if_pos ⟨rfl, by rw [hll]; omega⟩]
          have P2 := Lib.hid p2'
          have E2 := Lib.hid e2
          have E4 := Lib.hid e4
          have P1 := Lib.hid p1'
          obtain ⟨g1, g2⟩ := HC.out wr hbel.out
          clear hll e1 e2 e3 e4 p1' p2'
          go_wp2_with fail
          refine (put_any p1 c1 20 (l.take i) false x y wr hx1.out).mono ?_
          rintro e W4 ⟨rfl, hb3, hg3⟩
          rw [P2.out] at hb3
          rw [P1.out]
          have HX1 : Aside (IsBox W4 p1 c1 20 (l.take (i + 1)) false) := hb3
          have HG3 : Aside (Below W.heap.size W W4) := hbel.out.grown hg3 hbel.out.size (fun k e => by cases e; exact m2)
          clear hb3 hg3 g1 g2
          go_wp2
          go_roundg (M - (i + 1))
          case measure => have := hk.out; omega
          case rel => exact ⟨i + 1, by omega, by go_num, rfl, by rw [E2.out, E4.out]; exact HX1.out, HG3.out⟩
        · subst hik
          have e1 : min i i = i := Nat.min_self i
          have e2 : min (i + 1) i = i := by omega
          have e3 : decide (i < i) = false := by simp
          have e4 : decide (i < i + 1) = true := by simp
          rw [e1, e3] at hx1
          have E2 := Lib.hid e2
          have E4 := Lib.hid e4
          have P1 : Hid (putOk 20 (l.take i) true = false) := by simp [RowKit.Hid, putOk]
          have P2 : Hid (putQ 20 (l.take i) true (x, y) = l.take i) := by simp [RowKit.Hid, putQ]
          clear e1 e2 e3 e4
          go_wp2_with fail
          refine (shut_any p1 c1 20 (l.take i) false wr hx1.out).mono ?_
          rintro e W4 ⟨rfl, hb3, hg3⟩
          have HX1 : Aside (IsBox W4 p1 c1 20 (l.take i) true) := hb3
          have HG3 : Aside (Below W.heap.size W W4) := hbel.out.grown hg3 hbel.out.size (fun k e => by cases e; exact m1)
          clear hb3 hg3
          go_wp2_with fail
          refine (shut_any p1 c1 20 (l.take i) true W4 HX1.out).mono ?_
          rintro e W5 ⟨rfl, hb3, hg3⟩
          have HX2 : Aside (IsBox W5 p1 c1 20 (l.take i) true) := hb3
          have HG4 : Aside (Below W.heap.size W W5) := HG3.out.grown hg3 HG3.out.size (fun k e => by cases e; exact m1)
          clear hb3 hg3
          go_wp2_with fail
          refine (open_any p1 c1 20 (l.take i) true W5 HX2.out).mono ?_
          rintro e _ ⟨rfl, rfl⟩
          go_wp2_with fail
          refine (room_any p1 c1 20 (l.take i) true W5 HX2.out (by decide)).mono ?_
          rintro e _ ⟨rfl, z, rfl⟩
          rw [show roomN 20 (l.take i) true = 0 from rfl]
          have HX3 : Aside (IsBox (W5.drewN z) p1 c1 20 (l.take i) true) := HX2.out.kept rfl rfl
          have HG5 : Aside (Below W.heap.size W (W5.drewN z)) := below_dnx HG4.out z
          obtain ⟨g1, g2⟩ := HC.out _ HG5.out
          go_wp2_with fail
          refine (put_any p1 c1 20 (l.take i) true x y _ HX3.out).mono ?_
          rintro e W6 ⟨rfl, hb3, hg3⟩
          rw [P2.out] at hb3
          rw [P1.out]
          have HX4 : Aside (IsBox W6 p1 c1 20 (l.take i) true) := hb3
          have HG6 : Aside (Below W.heap.size W W6) := HG5.out.grown hg3 HG5.out.size (fun k e => by cases e; exact m2)
          clear hb3 hg3 g1 g2
          go_wp2
          go_roundg (M - (i + 1))
          case measure => have := hk.out; omega
          case rel => exact ⟨i + 1, by omega, by go_num, rfl, by rw [E2.out, E4.out]; exact HX4.out, HG6.out⟩
        · have e1 : min i k = k := by omega
          have e2 : min (i + 1) k = k := by omega
          have e3 : decide (k < i) = true := by simp; omega
          have e4 : decide (k < i + 1) = true := by simp; omega
          rw [e1, e3] at hx1
          have E2 := Lib.hid e2
          have E4 := Lib.hid e4
          have P1 : Hid (putOk 20 (l.take k) true = false) := by simp [RowKit.Hid, putOk]
          have P2 : Hid (putQ 20 (l.take k) true (x, y) = l.take k) := by simp [RowKit.Hid, putQ]
          have hne : i ≠ k := by omega
          have hki : k ≤ i := by omega
          obtain ⟨g1, g2⟩ := HC.out _ hbel.out
          clear e1 e2 e3 e4
          go_wp2_with fail
          refine (put_any p1 c1 20 (l.take k) true x y _ hx1.out).mono ?_
          rintro e W6 ⟨rfl, hb3, hg3⟩
          rw [P2.out] at hb3
          rw [P1.out]
          have HX4 : Aside (IsBox W6 p1 c1 20 (l.take k) true) := hb3
          have HG6 : Aside (Below W.heap.size W W6) := hbel.out.grown hg3 hbel.out.size (fun k e => by cases e; exact m2)
          clear hb3 hg3 g1 g2
          go_wp2
          go_roundg (M - (i + 1))
          case measure => have := hk.out; omega
          case rel => exact ⟨i + 1, by omega, by go_num, rfl, by rw [E2.out, E4.out]; exact HX4.out, HG6.out⟩
      · have ei : i = M := by omega
        subst ei
        have e1 : min i k = k := by omega
        rw [e1] at hx1
        have hlen := HM.out.1
        have hDk : drainN (l.take k) 99 = k := by unfold drainN; rw [List.length_take]; omega
        have hdd : (l.take k).drop k = [] := List.drop_eq_nil_of_le (by rw [List.length_take]; omega)
        have hdt : (l.take k).take k = l.take k := List.take_of_length_le (by rw [List.length_take]; omega)
        generalize decide (k < i) = sh at *
        have H1 := Lib.hid hDk
        have H2 := Lib.hid hdd
        have H3 := Lib.hid hdt
        have hik : ¬ i < i := hlt
        have mik : min i k = k := e1
        have HK : Hid (RdA W A k (l.take k)) := by
          have := rdA_take HM.out k
          rwa [mik] at this
        have ki0 : (0 : Int) ≤ (k : Int) := Int.natCast_nonneg _
        have ki1 : (k : Int) ≤ (c : Int) := by omega
        have ki2 : (k : Int) ≤ (i : Int) := by omega
        clear hDk hdd hdt e1 mik
        rcases A with _ | ad
        · have hx2 : Hid (∀ z, IsBox (wr.drewN z) p1 c1 20 (l.take k) sh) := fun z => hx1.out.kept rfl rfl
          go_wp2
          go_region_held3 (fun _ => True) (trivial) (first
            | (go_at_call 15; refine (drain_any p1 c1 20 _ sh 99 _ (hx2.out _) (by decide)).mono ?_; rintro e W4 ⟨v, rfl, ho4, hb4, hg4⟩; rw [H1.out] at ho4 hb4; rw [H3.out] at ho4; rw [H2.out] at hb4; obtain ⟨A1, k1, rfl, r1, z1, y1, _⟩ := own_form ho4)
            | (go_at_call 16; refine (same_any A1 _ k k1 _ (l.take k) _ r1 (HK.out.below ((below_dnx hbel.out _).grown hg4 hbel.out.size (fun k e => by cases e; exact m2)) (Nat.le_refl _))).mono ?_; rintro e W5 ⟨rfl, z, rfl⟩))
          have HX1 : Aside (IsBox (W4.drewN z) p1 c1 20 [] sh) := hb4.kept rfl rfl
          have HG3 : Aside (Below W.heap.size W (W4.drewN z)) := below_dnx ((below_dnx hbel.out _).grown hg4 hbel.out.size (fun k e => by cases e; exact m2)) z
          clear hb4 hg4 ho4 r1 z1 y1
          go_wp2_with fail
          refine (len_any p1 c1 20 [] sh _ HX1.out).mono ?_
          rintro e _ ⟨rfl, rfl⟩
          go_wp2
          go_ret
          exact ⟨rfl, HG3.out⟩
        · obtain ⟨b, o, g⟩ := ad
          have hx2 : Hid (∀ z, IsBox (wr.drewN z) p1 c1 20 (l.take k) sh) := fun z => hx1.out.kept rfl rfl
          go_wp2
          go_region_held3 (fun _ => True) (trivial) (first
            | (go_at_call 15; refine (drain_any p1 c1 20 _ sh 99 _ (hx2.out _) (by decide)).mono ?_; rintro e W4 ⟨v, rfl, ho4, hb4, hg4⟩; rw [H1.out] at ho4 hb4; rw [H3.out] at ho4; rw [H2.out] at hb4; obtain ⟨A1, k1, rfl, r1, z1, y1, _⟩ := own_form ho4)
            | (go_at_call 16; refine (same_any A1 _ k k1 _ (l.take k) _ r1 (HK.out.below ((below_dnx hbel.out _).grown hg4 hbel.out.size (fun k e => by cases e; exact m2)) (Nat.le_refl _))).mono ?_; rintro e W5 ⟨rfl, z, rfl⟩))
          have HX1 : Aside (IsBox (W4.drewN z) p1 c1 20 [] sh) := hb4.kept rfl rfl
          have HG3 : Aside (Below W.heap.size W (W4.drewN z)) := below_dnx ((below_dnx hbel.out _).grown hg4 hbel.out.size (fun k e => by cases e; exact m2)) z
          clear hb4 hg4 ho4 r1 z1 y1
          go_wp2_with fail
          refine (len_any p1 c1 20 [] sh _ HX1.out).mono ?_
          rintro e _ ⟨rfl, rfl⟩
          go_wp2
          go_ret
          exact ⟨rfl, HG3.out⟩
end Go.Proofs.Ytmobimkbfmgciaa.Post
