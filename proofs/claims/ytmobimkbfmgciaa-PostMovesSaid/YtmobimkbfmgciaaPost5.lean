/-
  The statement PostParts, walked.
-/
import Derived.Test.YtmobimkbfmgciaaPost4
import Derived.Test.YtmobimkbfmgciaaMask
import Derived.Deep.DeepCutAuto
namespace Go.Proofs.Ytmobimkbfmgciaa.Post
open Go.Conc Go.RowKit

/-- A cell is none of the channel's. -/
theorem IsBox.cell {w w' : World} {bp ch cap : Nat} {q : List (Int × Int)} {shut : Bool} (h : IsBox w bp ch cap q shut) (hg : w.grownBy w' (some ch)) {a : Addr} {v : Value} (hc : w.cell? a = some v) : w'.cell? a = some v := by
  refine (World.cell?_of_block (hg.block a.block (World.block_lt_of_cell? _ _ hc) (fun e => ?_))).trans hc
  injection e with e
  obtain ⟨s, r, hs⟩ := h.hc
  rw [← e] at hs
  simp [World.cell?, hs] at hc
theorem flat_cells {w : World} {b o n : Nat} {q : List (Int × Int)} (h : RdA w (some ⟨b, o, none⟩) n q) (j : Nat) (u : Value) (hu : (flat q)[j]? = some u) : w.cell? ((⟨b, o, none⟩ : Addr).add j) = some u := by
  have hj : j < n * 2 := by
    have := (List.getElem?_eq_some_iff.1 hu).1
    rw [flat_length, h.1] at this
    exact this
  obtain ⟨b', o', e, hc⟩ := h.2.2 (by omega)
  cases e
  rw [Row0.plain_add']
  have hg := flat_get q (j / 2) (by rw [h.1]; omega)
  have hcc := hc (j / 2) (by omega)
  rcases Nat.mod_two_eq_zero_or_one j with hm | hm
  · rw [show j / 2 * 2 = j by omega] at hg hcc
    rw [hg.1] at hu
    cases hu
    exact hcc.1
  · rw [show j / 2 * 2 + 1 = j by omega] at hg
    rw [show o + j / 2 * 2 + 1 = o + j by omega] at hcc
    rw [hg.2] at hu
    cases hu
    exact hcc.2
theorem flat_one (q : List (Int × Int)) : ∀ u ∈ flat q, u.oneCell' = true := by
  intro u hu
  simp only [flat, List.mem_flatMap] at hu
  obtain ⟨p, _, hp⟩ := hu
  simp at hp
  rcases hp with rfl | rfl <;> rfl
/-- What Drain hands back, as it is read. -/
theorem own_form {w : World} {base n : Nat} {v : Value} {q : List (Int × Int)} (h : w.ownsRow base 28 2 v n (flat q)) :
    ∃ A c, v = .slice A n c ∧ RdA w A n q ∧ (A = none → n = 0 ∧ c = 0) ∧ (∀ ad, A = some ad → ∃ b, ad = ⟨b, 0, none⟩ ∧ base ≤ b ∧ b < w.heap.size) ∧ n ≤ c := by
  obtain ⟨A, c, e, h1, _⟩ := own_rd h
  subst e
  rcases h.2 with ⟨e, rfl⟩ | ⟨g, cap, cur, e, hb, hh, hn, _⟩
  · cases e
    exact ⟨none, 0, rfl, h1, fun _ => ⟨rfl, rfl⟩, (fun ad e => by cases e), Nat.le_refl _⟩
  · cases e
    exact ⟨_, _, rfl, h1, (fun e => by cases e), fun ad e => by cases e; exact ⟨g, rfl, hb, (Array.getElem?_eq_some_iff.1 hh).1⟩, hn⟩

theorem flat_app (p q : List (Int × Int)) : flat (p ++ q) = flat p ++ flat q := by simp [flat]
theorem src2 {w w6 : World} {A : Option Addr} {n B : Nat} {q : List (Int × Int)} {o : Obj} (h : RdA w A n q) (hy : ∀ ad, A = some ad → ∃ b, ad = ⟨b, 0, none⟩ ∧ B ≤ b ∧ b < w.heap.size) (hg : (w.alloc o).grownBy w6 (some w.heap.size)) : ∀ ad, A = some ad → ∀ j u, (flat q)[j]? = some u → w6.cell? (ad.add j) = some u := by
  rintro ad rfl j u hu
  obtain ⟨b, rfl, _, hlt'⟩ := hy ad rfl
  have := flat_cells h j u hu
  rw [Row0.plain_add'] at this ⊢
  refine (World.cell?_of_block (hg.block b (by simp; omega) (fun e => ?_))).trans ?_
  · injection e with e
    omega
  · rw [World.cell?_alloc_past _ _ _ hlt']
    exact this

/-- A slice of requests that came in, cut to at most m. -/
theorem rdA_take {w : World} {A : Option Addr} {n : Nat} {q : List (Int × Int)} (h : RdA w A n q) (m : Nat) : RdA w A (min n m) (q.take m) := by
  obtain ⟨h1, h2, h3⟩ := h
  refine ⟨by rw [List.length_take]; omega, by omega, fun hp => ?_⟩
  obtain ⟨b, o, e, hc⟩ := h3 (by omega)
  refine ⟨b, o, e, fun j hj => ?_⟩
  have := hc j (by omega)
  rw [show (q.take m).getD j (0, 0) = q.getD j (0, 0) by simp [List.getD_eq_getElem?_getD, show j < m by omega]]
  exact this

set_option maxHeartbeats 8000000 in
set_option maxRecDepth 100000 in
theorem PostParts_walk (A : Option Addr) (n c : Nat) (q : List (Int × Int)) (a1 : Int) (W : World) (w0 : Row0.IsPairs .i64 .i64 W A n c q) (_w1 : (Lit.int .i64 a1).wf = true) :
    Calls Try.prog 4 #[.slice A n c, .int .i64 a1] W fun e w' => e = .returned (.bool true) ∧ Below W.heap.size W w' := by
  have hq := pairs_rd w0
  have hn := hq.2.1
  have hnc := w0.le
  have hcm := w0.mx
  have had := w0.ad
  have HQ := Lib.hid hq
  clear hq w0
  have hm0 := Row0.and_i64 a1 5 (by decide) 31 rfl
  obtain ⟨f, hf, f1⟩ : ∃ f : Nat, a1 % ((2 ^ 5 : Nat) : Int) = (f : Int) ∧ f < 32 := ⟨(a1 % ((2 ^ 5 : Nat) : Int)).toNat, by omega, by omega⟩
  rw [hf] at hm0
  clear hf
  have HA := fun w => Lib.hid (awake_any w)
  go_enter Try.func4, Try.ntmps4
  go_upto_if 15 with (go_at_call 9; refine (HA _).out.mono ?_; rintro e W1 ⟨rfl, hb⟩)
  go_cut [0] (fun v wr => v = .slice A (min n 20 : Nat) c ∧ W1 = wr)
  case first =>
    by_cases h20 : n ≤ 20
    · go_wp2
      go_meet
      exact ⟨by rw [Nat.min_eq_left h20], rfl⟩
    · obtain ⟨b, o, rfl⟩ := had (by omega)
      have h21 : 20 < n := by omega
      go_wp2
      go_meet
      exact ⟨by rw [Nat.min_eq_right (by omega)], rfl⟩
  case rest =>
    obtain ⟨rfl, rfl⟩ := hcut
    have hm1 : min n 20 ≤ 20 := Nat.min_le_right _ _
    have HM : Hid (RdA W A (min n 20) (q.take 20)) := rdA_take HQ.out 20
    generalize min n 20 = M at *
    generalize q.take 20 = l at *
    clear had HQ
    go_wp2_with fail
    refine (new_any 20 20 rfl (by decide) (by decide) W1).mono ?_
    rintro e W2 ⟨p1, c1, rfl, hb1, hg1, l1, l2⟩
    have HB1 := Lib.hid hb1
    have HG1 := Lib.hid (hb.grown hg1 hb.size (fun k e => by cases e))
    have m1 : W.heap.size ≤ p1 := Nat.le_trans hb.size l1
    have m2 : W.heap.size ≤ c1 := Nat.le_trans hb.size l2
    clear hb hb1 hg1
    go_wp2_with fail
    refine (new_any 20 20 rfl (by decide) (by decide) W2).mono ?_
    rintro e W3 ⟨p2, c2, rfl, hb2, hg2, l3, l4⟩
    have ll := HB1.out.lt
    have HB1' := Lib.hid (HB1.out.grown hg2 (fun e => by cases e) (fun e => by cases e))
    have HB2 := Lib.hid hb2
    have HG2 := Lib.hid (HG1.out.grown hg2 HG1.out.size (fun k e => by cases e))
    have d1 : p1 ≠ c2 := by omega
    have d2 : c1 ≠ c2 := by omega
    have d3 : p2 ≠ c1 := by omega
    have m3 : W.heap.size ≤ p2 := by omega
    have m4 : W.heap.size ≤ c2 := by omega
    clear hb2 hg2 HB1 HG1 ll l1 l2 l3 l4
    go_wp2
    go_loopg [8] M (fun g iv wr => ∃ (i : Nat), i ≤ M ∧ iv = .int .i64 (i : Int) ∧ Aside (M - i = g) ∧ Aside (IsBox wr p1 c1 20 (l.take i) false) ∧ Aside (IsBox wr p2 c2 20 (l.take i) false) ∧ Aside (Below W.heap.size W wr))
    case atStart => exact ⟨0, Nat.zero_le _, rfl, rfl, HB1'.out, HB2.out, HG2.out⟩
    case round =>
      obtain ⟨i, hi, rfl, hk, hx1, hx2, hbel⟩ := hrel
      by_cases hlt : i < M
      · have HR := Lib.hid (HM.out.below hbel.out (Nat.le_refl _))
        obtain ⟨b, o, rfl, hc⟩ := HR.out.2.2 (by omega)
        obtain ⟨g1, g2⟩ := hc i hlt
        have htk : Aside (l.take (i + 1) = l.take i ++ [((l.getD i (0, 0)).1, (l.getD i (0, 0)).2)]) := take_pair l i (by rw [HR.out.1]; exact hlt)
        have hll : (l.take i).length = i := by rw [List.length_take, HR.out.1]; omega
        generalize (l.getD i (0, 0)).1 = x at *
        generalize (l.getD i (0, 0)).2 = y at *
        have p1' : putOk 20 (l.take i) false = true := by simp [putOk, hll]; omega
        have p2' : putQ 20 (l.take i) false (x, y) = l.take (i + 1) := by rw [htk.out]; unfold putQ; rw [if_pos ⟨rfl, by rw [hll]; omega⟩]
        have P2 := Lib.hid p2'
        clear hc p2' p1' hll
        go_wp2_with fail
        refine (put_any p1 c1 20 (l.take i) false x y wr hx1.out).mono ?_
        rintro e W4 ⟨rfl, hb3, hg3⟩
        rw [P2.out] at hb3
        have HX1 : Aside (IsBox W4 p1 c1 20 (l.take (i + 1)) false) := hb3
        have HX2 : Aside (IsBox W4 p2 c2 20 (l.take i) false) := hx2.out.grown hg3 (by simpa using d3) (by simpa using fun e => d2 e.symm)
        have HG3 : Aside (Below W.heap.size W W4) := hbel.out.grown hg3 hbel.out.size (fun k e => by cases e; exact m2)
        have g3 := hx1.out.cell hg3 g1
        have g4 := hx1.out.cell hg3 g2
        clear hb3 hg3 g1 g2
        go_wp2_with fail
        refine (put_any p2 c2 20 (l.take i) false x y W4 HX2.out).mono ?_
        rintro e W5 ⟨rfl, hb3, hg3⟩
        rw [P2.out] at hb3
        have HX3 : Aside (IsBox W5 p2 c2 20 (l.take (i + 1)) false) := hb3
        have HX4 : Aside (IsBox W5 p1 c1 20 (l.take (i + 1)) false) := HX1.out.grown hg3 (by simpa using d1) (by simpa using d2)
        have HG4 : Aside (Below W.heap.size W W5) := HG3.out.grown hg3 HG3.out.size (fun k e => by cases e; exact m4)
        clear hb3 hg3 g3 g4
        go_wp2
        go_roundg (M - (i + 1))
        case measure => have := hk.out; omega
        case rel => exact ⟨i + 1, by omega, by go_num, rfl, HX4.out, HX3.out, HG4.out⟩
      · have htk : l.take i = l := List.take_of_length_le (by have := HM.out.1; omega)
        rw [htk] at hx1 hx2
        have hlen := HM.out.1
        have hD0 : drainN l 20 = M := by unfold drainN; omega
        have hDf : drainN l (f : Int) = min f M := by unfold drainN; omega
        have hk1 : (l.take (min f M)).length = min f M := by rw [List.length_take]; omega
        have hDy : drainN (l.drop (min f M)) 99 = M - min f M := by unfold drainN; rw [List.length_drop]; omega
        go_wp2_with fail
        refine (drain_any p1 c1 20 l false f wr hx1.out (by decide)).mono ?_
        rintro e W4 ⟨v, rfl, ho4, hb4, hg4⟩
        rw [hDf] at ho4 hb4
        have HX1 : Aside (IsBox W4 p1 c1 20 (l.drop (min f M)) false) := hb4
        have HX2 : Aside (IsBox W4 p2 c2 20 l false) := hx2.out.grown hg4 (by simpa using d3) (by simpa using fun e => d2 e.symm)
        have HG3 : Aside (Below W.heap.size W W4) := hbel.out.grown hg4 hbel.out.size (fun k e => by cases e; exact m2)
        have HO4 := Lib.hid ho4
        clear hb4 hg4 ho4
        go_wp2_with fail
        refine (drain_any p1 c1 20 _ false 99 W4 HX1.out (by decide)).mono ?_
        rintro e W5 ⟨v2, rfl, ho5, hb5, hg5⟩
        rw [hDy] at ho5 hb5
        have hdd : (l.drop (min f M)).drop (M - min f M) = [] := List.drop_eq_nil_of_le (by rw [List.length_drop]; omega)
        have hdt : (l.drop (min f M)).take (M - min f M) = l.drop (min f M) := List.take_of_length_le (by rw [List.length_drop]; omega)
        rw [hdd] at hb5
        rw [hdt] at ho5
        have HX3 : Aside (IsBox W5 p1 c1 20 [] false) := hb5
        have HX4 : Aside (IsBox W5 p2 c2 20 l false) := HX2.out.grown hg5 (by simpa using d3) (by simpa using fun e => d2 e.symm)
        have HG5 : Aside (Below W.heap.size W W5) := HG3.out.grown hg5 HG3.out.size (fun k e => by cases e; exact m2)
        have lt1 := HX1.out.lt
        have hO4 := HO4.out.kept hg5 (own_low HO4.out c1 (by have := hx1.out.lt; omega))
        obtain ⟨A1, k1, rfl, r1, z1, y1, _⟩ := own_form hO4
        obtain ⟨A2, k2, rfl, r2, z2, y2, _⟩ := own_form ho5
        have R1 := Lib.hid r1
        have R2 := Lib.hid r2
        have Y1 := Lib.hid y1
        have Y2 := Lib.hid y2
        have Z1 := Lib.hid z1
        have Z2 := Lib.hid z2
        clear hb5 hg5 ho5 hO4 HO4 r1 r2 y1 y2 z1 z2 hdd hdt hDf hDy HX1 HX2 HG3 hx1 hx2 hbel hk1
        have mb1 : min f M ≤ M := Nat.min_le_right _ _
        have mb2 : min f M ≤ f := Nat.min_le_left _ _
        generalize hm : min f M = m at *
        have HMM := Lib.hid hm
        clear hm
        have hB0 : Hid ((W5.alloc (.cells #[] 28)).ownsRow W5.heap.size 28 2 (.slice (some ⟨W5.heap.size, 0, none⟩) 0 0) 0 (flat [])) :=
          ⟨rfl, .inr ⟨W5.heap.size, 0, #[], rfl, Nat.le_refl _, heap_alloc_new _ _, Nat.le_refl _, by unfold maxLen; decide, rfl, rfl⟩⟩
        have hN1 : Hid (∀ ad, A1 = some ad → ∀ j u, (flat (l.take m))[j]? = some u → (W5.alloc (.cells #[] 28)).cell? (ad.add j) = some u) := by
          rintro ad rfl j u hu
          obtain ⟨b, rfl, _, hlt'⟩ := Y1.out ad rfl
          have := flat_cells R1.out j u hu
          rw [Row0.plain_add'] at this ⊢
          rw [World.cell?_alloc_past _ _ _ hlt']
          exact this
        have hL1 : Hid ((flat (l.take m)).length = m * 2) := by rw [RowKit.Hid, flat_length, R1.out.1]
        have hL2 : Hid ((flat (l.drop m)).length = (M - m) * 2) := by rw [RowKit.Hid, flat_length, R2.out.1]
        obtain ⟨i0, hi0, hz0, hz1, hz2⟩ := info_parts infoAsk
        have hD0' : drainN l ((20 : Nat) : Int) = M := hD0
        have hTD := List.take_append_drop m l
        go_wp2_with (first
          | (at_builtin; refine Row0.wpList_append_sl rfl (.tmp 50) (.tmp 51) 22 rfl W5.heap.size 28 i0 (.agg #[.int .i64 0, .int .i64 0]) 2 16 Try.underlying22 hi0 hz0 hz1 hz2 rfl (by decide) _ _ _ rfl hB0.out A1 m k1 (flat (l.take m)) rfl Z1.out hL1.out hN1.out (flat_one _) (by unfold maxLen; omega) (by omega) (by simp) ?_; intro v6 W6 ho6 hg6; replace hg6 : (W5.alloc (.cells #[] 28)).grownBy W6 (some W5.heap.size) := hg6)
          | (at_builtin; refine Row0.wpList_append_sl rfl (.tmp 52) (.tmp 53) 22 rfl W5.heap.size 28 i0 (.agg #[.int .i64 0, .int .i64 0]) 2 16 Try.underlying22 hi0 hz0 hz1 hz2 rfl (by decide) v6 (0 + m) (flat [] ++ flat (l.take m)) rfl ho6 A2 (M - m) k2 (flat (l.drop m)) rfl Z2.out hL2.out (src2 R2.out Y2.out hg6) (flat_one _) (by unfold maxLen; omega) (by omega) (by have := hg6.size; simp at this; omega) ?_; intro v7 W7 ho7 hg7))
        have hg57 : W5.grownBy W7 none := gb_row (gb_row (gb_alloc (gb_refl W5 none) _) hg6 (fun j e => by cases e; exact Nat.le_refl _)) hg7 (fun j e => Decidable.byContradiction fun hlt => by
          rcases own_low ho6 j (by omega) with h | h
          · rw [h] at e; cases e
          · exact h e)
        have lt4 := HX4.out.lt
        have HX5 : Aside (IsBox W7 p2 c2 20 l false) := HX4.out.grown hg57 (fun e => by cases e) (fun e => by cases e)
        have HX6 : Aside (IsBox W7 p1 c1 20 [] false) := HX3.out.grown hg57 (fun e => by cases e) (fun e => by cases e)
        have HG7 : Aside (Below W.heap.size W W7) := HG5.out.grown hg57 HG5.out.size (fun k e => by cases e)
        have HR1 : Aside (RdA W7 A1 m (l.take m)) := R1.out.kept (fun b o _ hb => hg57.block b hb (by simp))
        have hcat : flat [] ++ flat (l.take m) ++ flat (l.drop m) = flat l := by
          rw [show flat [] = [] from rfl, List.nil_append, ← flat_app, hTD]
        rw [hcat, show 0 + m + (M - m) = M by omega] at ho7
        have HO7 := Lib.hid ho7
        clear hg57 hg6 hg7 ho7 ho6 hcat HX4 HX3 HG5 R1 R2 hB0 hN1 Z1 Z2 hL1 hL2 Y1 Y2
        refine (drain_any p2 c2 20 l false 20 W7 HX5.out (by decide)).mono ?_
        rintro e W8 ⟨v8, rfl, ho8, hb8, hg8⟩
        rw [hD0] at ho8 hb8
        have hO7 := HO7.out.kept hg8 (own_low HO7.out c2 (by omega))
        have HX7 : Aside (IsBox W8 p1 c1 20 [] false) := HX6.out.grown hg8 (by simpa using d1) (by simpa using d2)
        have HG8 : Aside (Below W.heap.size W W8) := HG7.out.grown hg8 HG7.out.size (fun k e => by cases e; exact m4)
        have hlM : l.take M = l := List.take_of_length_le (by omega)
        rw [hlM] at ho8
        obtain ⟨A7, k7, rfl, r7, _, _, _⟩ := own_form hO7
        obtain ⟨A8, k8, rfl, r8, _, _, _⟩ := own_form ho8
        have R7 := Lib.hid r7
        have R8 := Lib.hid r8
        have hrm : roomN 20 [] false = 20 := rfl
        have HMI : (f : Int) ≤ (M : Int) ∨ (M : Int) < (f : Int) := by omega
        clear hO7 ho8 hb8 hg8 HX6 HG7 HR1 HO7 r7 r8 hlM HX5
        go_wp2_with fail
        refine (same_any A7 A8 M k7 k8 l W8 R7.out R8.out).mono ?_
        rintro e W9 ⟨rfl, z9, rfl⟩
        have HX9 : Aside (IsBox (W8.drewN z9) p1 c1 20 [] false) := HX7.out.kept rfl rfl
        have HMo := HMM.out
        rcases HMI with hfM | hfM
        · have e1 : m = f := by omega
          subst e1
          have hfM' : m ≤ M := by omega
          go_wp2_with fail
          refine (room_any p1 c1 20 [] false _ HX9.out (by decide)).mono ?_
          rintro e W10 ⟨rfl, z10, rfl⟩
          go_wp2
          go_ret
          exact ⟨rfl, below_dnx HG8.out _⟩
        · have e1 : m = M := by omega
          subst e1
          go_wp2_with fail
          refine (room_any p1 c1 20 [] false _ HX9.out (by decide)).mono ?_
          rintro e W10 ⟨rfl, z10, rfl⟩
          go_wp2
          go_ret
          exact ⟨rfl, below_dnx HG8.out _⟩
end Go.Proofs.Ytmobimkbfmgciaa.Post