/-
  The statement PostMoves, walked.
-/
import Derived.Test.YtmobimkbfmgciaaPost8
import Derived.OpenShut
import Derived.Laws.Cover1
import Derived.Lib.MinMax
namespace Go.Proofs.Ytmobimkbfmgciaa.Post
open Go.Conc Go.RowKit

/-- A slice of requests that came in, behind m of them. -/
theorem rdA_drop {w : World} {b o n : Nat} {q : List (Int × Int)} (h : RdA w (some ⟨b, o, none⟩) n q) (m : Nat) (hm : m ≤ n) : RdA w (some ⟨b, o + m * 2, none⟩) (n - m) (q.drop m) := by
  obtain ⟨h1, h2, h3⟩ := h
  refine ⟨by rw [List.length_drop]; omega, by omega, fun hp => ?_⟩
  obtain ⟨b', o', e, hc⟩ := h3 (by omega)
  cases e
  refine ⟨b, _, rfl, fun j hj => ?_⟩
  have := hc (m + j) (by omega)
  rw [show (q.drop m).getD j (0, 0) = q.getD (m + j) (0, 0) by simp [List.getD_eq_getElem?_getD], show o + m * 2 + j * 2 = o + (m + j) * 2 by omega]
  exact this

theorem rdA_dropA {w : World} {ad : Addr} {n : Nat} {q : List (Int × Int)} (h : RdA w (some ad) n q) (m : Nat) (hm : m ≤ n) : RdA w (some (ad.add (m * 2))) (n - m) (q.drop m) := by
  by_cases hz : n - m = 0
  · exact ⟨by rw [List.length_drop, h.1], by omega, fun hp => by omega⟩
  · obtain ⟨b, o, e, _⟩ := h.2.2 (by omega)
    cases e
    rw [Row0.plain_add']
    exact rdA_drop h m hm
theorem rdA_end {w : World} {A : Option Addr} {n : Nat} {q : List (Int × Int)} (hl : q.length = n) (hz : n = 0) : RdA w A n q := ⟨hl, by omega, fun hp => by omega⟩
theorem own_keep {w w' : World} {base n size : Nat} {e : TypeId} {v : Value} {xs : List Value} (h : w.ownsRow base e size v n xs) (hk : ∀ g, base ≤ g → g < w.heap.size → w'.heap[g]? = w.heap[g]?) : w'.ownsRow base e size v n xs := by
  refine ⟨h.1, ?_⟩
  rcases h.2 with h2 | ⟨g, cap, cur, e1, hb, hh, h3⟩
  · exact .inl h2
  · exact .inr ⟨g, cap, cur, e1, hb, (hk g hb (Array.getElem?_eq_some_iff.1 hh).1).trans hh, h3⟩
/-- What a slice of requests holds, cell by cell. -/
theorem rdA_src {w : World} {A : Option Addr} {n : Nat} {q : List (Int × Int)} (h : RdA w A n q) : ∀ ad, A = some ad → 0 < n → ∀ j u, (flat q)[j]? = some u → w.cell? (ad.add j) = some u := by
  rintro ad rfl hn j u hu
  obtain ⟨b, o, e, _⟩ := h.2.2 hn
  cases e
  exact flat_cells h j u hu

set_option maxHeartbeats 8000000 in
set_option maxRecDepth 100000 in
theorem PostMoves_walk (A : Option Addr) (n c : Nat) (q : List (Int × Int)) (A' : Option Addr) (n' c' : Nat) (q' : List (Int × Int)) (x y : Int) (W : World) (w0 : Row0.IsPairs .i64 .i64 W A n c q) (nA : A = none → n = 0 ∧ c = 0) (w0' : Row0.IsPairs .i64 .i64 W A' n' c' q') (_nA' : A' = none → n' = 0 ∧ c' = 0) (wx : (Lit.int .i64 x).wf = true) (wy : (Lit.int .i64 y).wf = true) :
    Calls Try.prog 5 #[.slice A n c, .slice A' n' c', .agg #[.int .i64 x, .int .i64 y]] W fun e w' => e = .returned (.bool true) ∧ Below W.heap.size W w' := by
  have hn := (pairs_rd w0).2.1
  have hnc := w0.le
  have hcm := w0.mx
  have had := w0.ad
  have hn' := (pairs_rd w0').2.1
  have hnc' := w0'.le
  have hcm' := w0'.mx
  have had' := w0'.ad
  have HQ := Lib.hid (pairs_rd w0)
  have HQ' := Lib.hid (pairs_rd w0')
  clear w0 w0'
  have NA := Lib.hid nA
  clear nA _nA'
  have HA := fun w => Lib.hid (awake_any w)
  obtain ⟨x0, x1⟩ := bounds_i64 wx
  obtain ⟨y0, y1⟩ := bounds_i64 wy
  have ht := Int.tmod_lt_of_pos y (show (0 : Int) < 30 by decide)
  have ht' := Int.lt_tmod_of_pos y (show (0 : Int) < 30 by decide)
  obtain ⟨t, ht0, t1, t2⟩ : ∃ t, y.tmod 30 = t ∧ -30 < t ∧ t < 30 := ⟨_, rfl, by omega, ht⟩
  clear ht ht'
  obtain ⟨k, hk0, k1⟩ : ∃ k : Nat, (t + 30) % 30 = (k : Int) ∧ k < 30 := ⟨((t + 30) % 30).toNat, by omega, by omega⟩
  obtain ⟨W0, hW0⟩ : ∃ W0, W.alloc (.cells #[.int .i64 x, .int .i64 y] 36) = W0 := ⟨_, rfl⟩
  have hbW : Hid (Below W.heap.size W W0) := by rw [← hW0]; exact (Below.refl W.heap.size W).alloc (Nat.le_refl _) _
  have hc0 : W0.cell? ⟨W.heap.size, 0, none⟩ = some (.int .i64 x) := by rw [← hW0, World.cell?_alloc_at _ _ _ _ rfl]; rfl
  have hc1 : W0.cell? ⟨W.heap.size, 1, none⟩ = some (.int .i64 y) := by rw [← hW0, World.cell?_alloc_at _ _ _ _ rfl]; rfl
  have hs0 : W0.heap.size = W.heap.size + 1 := by rw [← hW0]; simp
  have HC : Hid (∀ w, Below W0.heap.size W0 w → w.cell? ⟨W.heap.size, 0, none⟩ = some (.int .i64 x) ∧ w.cell? ⟨W.heap.size, 1, none⟩ = some (.int .i64 y)) := fun w hb =>
    ⟨(World.cell?_of_block (a := ⟨W.heap.size, 0, none⟩) (hb.block _ (by rw [hs0]; exact Nat.lt_succ_self _))).trans hc0, (World.cell?_of_block (a := ⟨W.heap.size, 1, none⟩) (hb.block _ (by rw [hs0]; exact Nat.lt_succ_self _))).trans hc1⟩
  have HE : Hid (∀ w, Below W0.heap.size W0 w → Below W.heap.size W w) := fun w hb => hbW.out.trans (hb.mono (by omega))
  have HQ0 : Hid (RdA W0 A n q) := HQ.out.below hbW.out (Nat.le_refl _)
  have HQ0' : Hid (RdA W0 A' n' q') := HQ'.out.below hbW.out (Nat.le_refl _)
  clear hc0 hc1 hs0 hbW HQ HQ'
  go_enter Try.func5, Try.ntmps5
  go_upto_if 20 with (go_at_call 9; refine (HA _).out.mono ?_; rintro e W1 ⟨rfl, hb⟩)
  go_cut [0] (fun v wr => v = .slice A (min n 20 : Nat) c ∧ W1 = wr)
  case first =>
    by_cases h20 : n ≤ 20
    · go_wp2
      go_meet
      exact ⟨by rw [Nat.min_eq_left h20], rfl⟩
    · obtain ⟨b, o, rfl⟩ := had (by omega)
      have h21 : 20 < n := by omega
      go_wp2
      go_meet
      exact ⟨by rw [Nat.min_eq_right (by omega)], rfl⟩
  case rest =>
  obtain ⟨rfl, rfl⟩ := hcut
  go_upto_if 25 with (fail)
  go_cut [1] (fun v wr => v = .slice A' (min n' 20 : Nat) c' ∧ W1 = wr)
  case first =>
    by_cases h20 : n' ≤ 20
    · go_wp2
      go_meet
      exact ⟨by rw [Nat.min_eq_left h20], rfl⟩
    · obtain ⟨b, o, rfl⟩ := had' (by omega)
      have h21 : 20 < n' := by omega
      go_wp2
      go_meet
      exact ⟨by rw [Nat.min_eq_right (by omega)], rfl⟩
  case rest =>
  obtain ⟨rfl, rfl⟩ := hcut
  have hB1 : Hid (Below W0.heap.size W0 W1) := hb
  have hm1 : min n 20 ≤ 20 := Nat.min_le_right _ _
  have hmc : min n 20 ≤ c := Nat.le_trans (Nat.min_le_left _ _) hnc
  have HM : Hid (RdA W0 A (min n 20) (q.take 20)) := rdA_take HQ0.out 20
  have hm1' : min n' 20 ≤ 20 := Nat.min_le_right _ _
  have hmc' : min n' 20 ≤ c' := Nat.le_trans (Nat.min_le_left _ _) hnc'
  have HM' : Hid (RdA W0 A' (min n' 20) (q'.take 20)) := rdA_take HQ0'.out 20
  generalize min n 20 = M at *
  generalize q.take 20 = l at *
  generalize min n' 20 = M' at *
  generalize q'.take 20 = l' at *
  clear had had' HQ0 HQ0' hb HA
  obtain ⟨g0, g1⟩ := HC.out _ hB1.out
  go_wp2_with fail
  refine (new_blk 20 20 rfl (by decide) (by decide) W1).mono ?_
  rintro e W2 ⟨p1, c1, rfl, hb1, hg1, l1, l2, k1⟩
  have HB1 := Lib.hid hb1
  have HG1 : Hid (Below W0.heap.size W0 W2) := hB1.out.grown hg1 hB1.out.size (fun k e => by cases e)
  have m1 : W0.heap.size ≤ p1 := Nat.le_trans hB1.out.size l1
  have m2 : W0.heap.size ≤ c1 := Nat.le_trans hB1.out.size l2
  have K1 := Lib.hid k1
  clear hb1 hg1 k1 l1 l2 g0 g1
  go_wp2_with fail
  obtain ⟨R, hR, hR1, hR2⟩ : ∃ R : Nat, 1 + (k : Int) = (R : Int) ∧ 1 ≤ R ∧ R ≤ 30 := ⟨1 + k, by omega, by omega, by omega⟩
  rw [hR]
  refine (new_blk (R : Int) R rfl hR1 (by omega) W2).mono ?_
  rintro e W3 ⟨p2, c2, rfl, hb2, hg2, l3, l4, k2⟩
  have ll := HB1.out.lt
  have HB1' : Hid (IsBox W3 p1 c1 20 [] false) := HB1.out.grown hg2 (fun e => by cases e) (fun e => by cases e)
  have HB2 : Hid (IsBox W3 p2 c2 R [] false) := hb2
  have HG2 : Hid (Below W0.heap.size W0 W3) := HG1.out.grown hg2 HG1.out.size (fun k e => by cases e)
  have K1' : Hid (Blk W3 p1) := K1.out.kept (hg2.block p1 ll.1 (fun e => by cases e))
  have K2 := Lib.hid k2
  have d1 : p1 ≠ c2 := by omega
  have d2 : c1 ≠ c2 := by omega
  have d3 : p2 ≠ c1 := by omega
  have d4 : p1 ≠ p2 := by omega
  have m3 : W0.heap.size ≤ p2 := by omega
  have m4 : W0.heap.size ≤ c2 := by omega
  have ll2 := HB2.out.lt
  have q1 := HB1'.out.lt
  clear hb2 hg2 HB1 HG1 ll l3 l4 k2 K1
  clear ht0 hk0
  obtain ⟨i0, hi0, hz0, hz1, hz2⟩ := info_parts infoAsk
  go_wp2
  go_loopg [11, 12] M' (fun g wv iv wr => ∃ (i : Nat), i ≤ M' ∧ iv = .int .i64 (i : Int) ∧ Aside (M' - i = g) ∧ Aside (wr.ownsRow W3.heap.size 28 2 wv (min i R) (flat (l'.take (min i R)))) ∧
    Aside (IsBox wr p1 c1 20 [] false) ∧ Aside (IsBox wr p2 c2 R (l'.take (min i R)) false) ∧ Aside (Below W0.heap.size W0 wr) ∧ Aside (Blk wr p1) ∧ Aside (Blk wr p2) ∧ Aside (W3.heap.size ≤ wr.heap.size))
  case atStart => exact ⟨0, Nat.zero_le _, rfl, rfl, by simpa [Aside, flat] using World.ownsRow_nil _ _ _ _, HB1'.out, by simpa [Aside] using HB2.out, HG2.out, K1'.out, K2.out, Nat.le_refl _⟩
  case round =>
    clear HB1' HB2 K1' K2
    obtain ⟨i, hi, rfl, hk, hown, hx1, hx2, hbel, kk1, kk2, hsz⟩ := hrel
    obtain ⟨A3, c3, rfl, hA⟩ := own_rd hown.out
    clear hA
    by_cases hlt : i < M'
    · obtain ⟨b, o, e', hcl⟩ := HM'.out.2.2 (by omega)
      clear hcl
      have hl' : l'.length = M' := HM'.out.1
      have htk := take_pair l' i (by omega)
      have HC1 : Hid (∀ wr, Below W0.heap.size W0 wr → wr.cell? ⟨b, o + i * 2, none⟩ = some (.int .i64 (l'.getD i (0, 0)).1) ∧ wr.cell? ⟨b, o + i * 2 + 1, none⟩ = some (.int .i64 (l'.getD i (0, 0)).2)) := fun wr h => by
        have := HM'.out.below h (Nat.le_refl _)
        rw [e'] at this
        exact this.at i hlt
      subst e'
      generalize (l'.getD i (0, 0)).1 = u at *
      generalize (l'.getD i (0, 0)).2 = v at *
      obtain ⟨g1, g2⟩ := HC1.out wr hbel.out
      by_cases hik : i < R
      · have e1 : min i R = i := by omega
        have e2 : min (i + 1) R = i + 1 := by omega
        rw [e1] at hown hx2 ⊢
        have hll : (l'.take i).length = i := by rw [List.length_take]; omega
        have p1' : putOk R (l'.take i) false = true := by simp [putOk, hll, hik]
        have p2' : putQ R (l'.take i) false (u, v) = l'.take (i + 1) := by rw [htk]; unfold putQ; rw [if_pos ⟨rfl, by rw [hll]; exact hik⟩]
        have P1 := Lib.hid p1'
        have P2 := Lib.hid p2'
        have E2 := Lib.hid e2
        have HT := Lib.hid htk
        clear p1' p2' htk e1 e2 hll
        go_wp2_with fail
        refine (put_any p2 c2 R (l'.take i) false u v wr hx2.out).mono ?_
        rintro e W4 ⟨rfl, hb3, hg3⟩
        rw [P2.out] at hb3
        rw [P1.out]
        have HX2 : Aside (IsBox W4 p2 c2 R (l'.take (i + 1)) false) := hb3
        have HX1 : Aside (IsBox W4 p1 c1 20 [] false) := hx1.out.grown hg3 (by simpa using d1) (by simpa using d2)
        have HG3 : Aside (Below W0.heap.size W0 W4) := hbel.out.grown hg3 hbel.out.size (fun k e => by cases e; exact m4)
        have KK1 : Aside (Blk W4 p1) := kk1.out.kept (hg3.block p1 hx1.out.lt.1 (by simpa using d1))
        have KK2 : Aside (Blk W4 p2) := kk2.out.kept (hg3.block p2 hx2.out.lt.1 (by simpa using ll2.2.2))
        have HS : W3.heap.size ≤ W4.heap.size := Nat.le_trans hsz.out hg3.size
        have hO1 := hown.out.kept hg3 (own_low hown.out c2 ll2.2.1)
        clear hb3 hg3 g1 g2
        obtain ⟨g1, g2⟩ := HC1.out W4 HG3.out
        go_wp2_with (at_builtin; refine wpList_append_own _ rfl _ _ 22 rfl W3.heap.size 28 i0 (.agg #[.int .i64 0, .int .i64 0]) 2 16 Try.underlying22 hi0 hz0 hz1 hz2 rfl (by decide) _ _ _ rfl (hO1.alloc _) ⟨W4.heap.size, 0, none⟩ 1 1 [.int .i64 u, .int .i64 v] rfl rfl ?c1 ?c2 ?c3 ?c4 ?c5 ?_)
        case c1 =>
          intro j w hj
          have ha : (⟨W4.heap.size, 0, none⟩ : Addr).add j = ⟨W4.heap.size, j, none⟩ := by unfold Addr.add; split <;> simp_all
          rw [ha, World.cell?_alloc_at _ _ _ _ (by simp)]
          simpa using hj
        case c2 => simp [Value.oneCell']
        case c3 => unfold maxLen; omega
        case c4 => omega
        case c5 => simp; omega
        intro v' W5 hown5 hgrow5 _
        have HBl : Below W3.heap.size W4 W5 := ((Below.refl _ _).alloc HS _).grown hgrow5 (by simp; omega) (fun j hj => (hO1.lt j hj).1)
        have HX3 : Aside (IsBox W5 p1 c1 20 [] false) := HX1.out.kept (HBl.block p1 q1.1) (HBl.block c1 q1.2.1)
        have HX4 : Aside (IsBox W5 p2 c2 R (l'.take (i + 1)) false) := HX2.out.kept (HBl.block p2 ll2.1) (HBl.block c2 ll2.2.1)
        have HG4 : Aside (Below W0.heap.size W0 W5) := HG3.out.trans (HBl.mono (by omega))
        have KK3 : Aside (Blk W5 p1) := KK1.out.kept (HBl.block p1 q1.1)
        have KK4 : Aside (Blk W5 p2) := KK2.out.kept (HBl.block p2 ll2.1)
        have HO2 : Aside (W5.ownsRow W3.heap.size 28 2 v' (i + 1) (flat (l'.take (i + 1)))) := by
          rw [HT.out, flat_snoc]; exact hown5
        have HS5 : W3.heap.size ≤ W5.heap.size := Nat.le_trans HS HBl.size
        clear hown5 hgrow5 hO1 HBl
        go_wp2
        go_roundg (M' - (i + 1))
        case measure => have := hk.out; omega
        case rel => exact ⟨i + 1, by omega, by go_num, rfl, by rw [E2.out]; exact HO2.out, HX3.out, by rw [E2.out]; exact HX4.out, HG4.out, KK3.out, KK4.out, HS5⟩
      · have e1 : min i R = R := by omega
        have e2 : min (i + 1) R = R := by omega
        rw [e1] at hown hx2 ⊢
        have hll : (l'.take R).length = R := by rw [List.length_take]; omega
        have p1' : putOk R (l'.take R) false = false := by simp [putOk, hll]
        have p2' : putQ R (l'.take R) false (u, v) = l'.take R := by unfold putQ; rw [if_neg (by rw [hll]; omega)]
        have P1 := Lib.hid p1'
        have P2 := Lib.hid p2'
        have E2 := Lib.hid e2
        clear p1' p2' htk e1 e2 hll
        go_wp2_with fail
        refine (put_any p2 c2 R (l'.take R) false u v wr hx2.out).mono ?_
        rintro e W4 ⟨rfl, hb3, hg3⟩
        rw [P2.out] at hb3
        rw [P1.out]
        have HX2 : Aside (IsBox W4 p2 c2 R (l'.take R) false) := hb3
        have HX1 : Aside (IsBox W4 p1 c1 20 [] false) := hx1.out.grown hg3 (by simpa using d1) (by simpa using d2)
        have HG3 : Aside (Below W0.heap.size W0 W4) := hbel.out.grown hg3 hbel.out.size (fun k e => by cases e; exact m4)
        have KK1 : Aside (Blk W4 p1) := kk1.out.kept (hg3.block p1 hx1.out.lt.1 (by simpa using d1))
        have KK2 : Aside (Blk W4 p2) := kk2.out.kept (hg3.block p2 hx2.out.lt.1 (by simpa using ll2.2.2))
        have HS : W3.heap.size ≤ W4.heap.size := Nat.le_trans hsz.out hg3.size
        have hO1 : Aside _ := hown.out.kept hg3 (own_low hown.out c2 ll2.2.1)
        clear hb3 hg3 g1 g2
        go_wp2
        go_roundg (M' - (i + 1))
        case measure => have := hk.out; omega
        case rel => exact ⟨i + 1, by omega, by go_num, rfl, by rw [E2.out]; exact hO1.out, HX1.out, by rw [E2.out]; exact HX2.out, HG3.out, KK1.out, KK2.out, HS⟩
    · have ei : i = M' := by omega
      subst ei
      have HL' : Hid (l'.length = i) := HM'.out.1
      generalize hK : min i R = K at *
      have K1 : K ≤ R := by omega
      have K2 : K ≤ i := by omega
      have HLK : Hid ((l'.take K).length = K) := by rw [Hid, List.length_take, HL'.out]; omega
      generalize l'.take K = lk at *
      clear hK
      have HW := Lib.hid hown.out
      go_wp2
      go_loopg [13] M (fun g iv wr => ∃ (i : Nat), i ≤ M ∧ iv = .int .i64 (i : Int) ∧ Aside (M - i = g) ∧ Aside (wr.ownsRow W3.heap.size 28 2 (.slice A3 K c3) K (flat lk)) ∧
        Aside (IsBox wr p1 c1 20 (l.take i) false) ∧ Aside (IsBox wr p2 c2 R lk false) ∧ Aside (Below W0.heap.size W0 wr) ∧ Aside (Blk wr p1) ∧ Aside (Blk wr p2) ∧ Aside (W3.heap.size ≤ wr.heap.size))
      case atStart => exact ⟨0, Nat.zero_le _, rfl, rfl, HW.out, hx1, hx2, hbel, kk1, kk2, hsz⟩
      case round =>
        clear HW hx1 hx2 hbel kk1 kk2 hsz hown hk
        obtain ⟨i1, hi1, rfl, hk, hown, hx1, hx2, hbel, kk1, kk2, hsz⟩ := hrel
        have hl : l.length = M := HM.out.1
        by_cases hlt1 : i1 < M
        · obtain ⟨b, o, e', hcl⟩ := HM.out.2.2 (by omega)
          clear hcl
          have htk := take_pair l i1 (by omega)
          have HC1 : Hid (∀ wr, Below W0.heap.size W0 wr → wr.cell? ⟨b, o + i1 * 2, none⟩ = some (.int .i64 (l.getD i1 (0, 0)).1) ∧ wr.cell? ⟨b, o + i1 * 2 + 1, none⟩ = some (.int .i64 (l.getD i1 (0, 0)).2)) := fun wr h => by
            have := HM.out.below h (Nat.le_refl _)
            rw [e'] at this
            exact this.at i1 hlt1
          subst e'
          generalize (l.getD i1 (0, 0)).1 = u at *
          generalize (l.getD i1 (0, 0)).2 = v at *
          obtain ⟨g1, g2⟩ := HC1.out wr hbel.out
          have hll : (l.take i1).length = i1 := by rw [List.length_take]; omega
          have p1' : putOk 20 (l.take i1) false = true := by simp [putOk, hll]; omega
          have p2' : putQ 20 (l.take i1) false (u, v) = l.take (i1 + 1) := by rw [htk]; unfold putQ; rw [if_pos ⟨rfl, by rw [hll]; omega⟩]
          have P1 := Lib.hid p1'
          have P2 := Lib.hid p2'
          clear p1' p2' htk hll
          go_wp2_with fail
          refine (put_any p1 c1 20 (l.take i1) false u v wr hx1.out).mono ?_
          rintro e W4 ⟨rfl, hb3, hg3⟩
          rw [P2.out] at hb3
          rw [P1.out]
          have HX1 : Aside (IsBox W4 p1 c1 20 (l.take (i1 + 1)) false) := hb3
          have HX2 : Aside (IsBox W4 p2 c2 R lk false) := hx2.out.grown hg3 (by simpa using d3) (by simpa using fun e => d2 e.symm)
          have HG3 : Aside (Below W0.heap.size W0 W4) := hbel.out.grown hg3 hbel.out.size (fun k e => by cases e; exact m2)
          have KK1 : Aside (Blk W4 p1) := kk1.out.kept (hg3.block p1 hx1.out.lt.1 (by simpa using q1.2.2))
          have KK2 : Aside (Blk W4 p2) := kk2.out.kept (hg3.block p2 hx2.out.lt.1 (by simpa using d3))
          have HS : W3.heap.size ≤ W4.heap.size := Nat.le_trans hsz.out hg3.size
          have hO1 : Aside _ := hown.out.kept hg3 (own_low hown.out c1 q1.2.1)
          clear hb3 hg3 g1 g2
          go_wp2
          go_roundg (M - (i1 + 1))
          case measure => have := hk.out; omega
          case rel => exact ⟨i1 + 1, by omega, by go_num, rfl, hO1.out, HX1.out, HX2.out, HG3.out, KK1.out, KK2.out, HS⟩
        · have htl : l.take i1 = l := List.take_of_length_le (by omega)
          rw [htl] at hx1
          clear htl
          have hi1M : i1 = M := by omega
          subst hi1M
          obtain ⟨g0, g1⟩ := HC.out _ hbel.out
          have hrm : roomN R lk false = R - K := by simp [roomN, HLK.out]
          have hNN : moveN l x (roomN R lk false) = min (min x ((R - K : Nat) : Int)).toNat i1 := by rw [hrm]; unfold moveN drainN; rw [hl]
          have n1 : ((moveN l x (roomN R lk false) : Nat) : Int) ≤ ((R - K : Nat) : Int) := by rw [hNN]; omega
          have n2 : moveN l x (roomN R lk false) ≤ i1 := by rw [hNN]; omega
          have n3 : ((moveN l x (roomN R lk false) : Nat) : Int) ≤ max x 0 := by rw [hNN]; omega
          have n4 : min (min (i1 : Int) x) ((R - K : Nat) : Int) ≤ ((moveN l x (roomN R lk false) : Nat) : Int) := by rw [hNN]; omega
          generalize hN : moveN l x (roomN R lk false) = N at *
          have HN := Lib.hid hN
          clear hrm hNN hN
          go_wp2_with fail
          refine (move_any p1 c1 20 p2 c2 R l lk false false x wr hx1.out hx2.out (by decide) (by omega) d4 d2 kk1.out kk2.out).mono ?_
          rintro e W4 ⟨rfl, hb3, hb4, ht3⟩
          rw [HN.out] at hb3 hb4 ⊢
          have HX1 : Aside (IsBox W4 p1 c1 20 (l.drop N) false) := hb3
          have HX2 : Aside (IsBox W4 p2 c2 R (lk ++ l.take N) false) := hb4
          have HG3 : Aside (Below W0.heap.size W0 W4) := ht3.below hbel.out hbel.out.size m2 m4
          have HS : Aside (W3.heap.size ≤ W4.heap.size) := Nat.le_trans hsz.out ht3.size
          have hO1 : Aside (W4.ownsRow W3.heap.size 28 2 (.slice A3 K c3) K (flat lk)) := own_keep hown.out (fun g hg1 hg2 => ht3.block g hg2 (by omega) (by omega))
          clear hb3 hb4 ht3 g0 g1 hx1 hx2 hbel kk1 kk2 hsz hown
          obtain ⟨g0, g1⟩ := HC.out _ HG3.out
          go_upto_region 22 with (fail)
          go_cut [114] (fun v wr => v = .bool false ∧ W4 = wr)
          case first =>
            have r1 : ((R - K : Nat) : Int) = (R : Int) - (K : Int) := by omega
            rw [r1] at n1 n4
            obtain ⟨m3, em3, hm3⟩ : ∃ m3, (Builtin.min_ #[3, 3, 3] 3 #[.int .i64 (i1 : Int), .int .i64 x, .int .i64 ((R : Int) - (K : Int))]).run Try.prog W4 = .ok (.int .i64 m3) W4 ∧ m3 ≤ (N : Int) := by
              refine ⟨_, Go.run_min_int3 .., ?_⟩
              repeat' split
              all_goals omega
            obtain ⟨mx, emx, hmx⟩ : ∃ mx, (Builtin.max_ #[3, 3] 3 #[.int .i64 x, .int .i64 0]).run Try.prog W4 = .ok (.int .i64 mx) W4 ∧ (N : Int) ≤ mx := by
              refine ⟨_, Lib.run_max_ints .., ?_⟩
              omega
            have n2' : (N : Int) ≤ (i1 : Int) := by omega
            have n0' : (0 : Int) ≤ (N : Int) := by omega
            go_wp2
            go_meet
            refine ⟨?_, rfl⟩
            simp only [Value.bool.injEq, Bool.or_eq_false_iff, decide_eq_false_iff_not]
            omega
          case rest =>
            obtain ⟨rfl, rfl⟩ := hcut
            have ki0 : (0 : Int) ≤ (N : Int) := Int.natCast_nonneg _
            have ki1 : (N : Int) ≤ (c : Int) := by omega
            have ki2 : (N : Int) ≤ (i1 : Int) := by omega
            have HR1 : Hid (RdA W4 A i1 l) := HM.out.below HG3.out (Nat.le_refl _)
            have hkt := rdA_take HR1.out N
            rw [Nat.min_eq_right n2] at hkt
            have HT := Lib.hid hkt
            have hfl : (flat (l.take N)).length = N * 2 := by rw [flat_length, hkt.1]
            have HF := Lib.hid hfl
            clear hkt hfl n1 n3 n4 g0 g1
            have hNone : Hid (A = none → N = 0 ∧ c = 0) := fun h => by
              subst h
              exact ⟨by have := (NA.out rfl).2; omega, (NA.out rfl).2⟩
            have hNews : Hid (∀ ad, A = some ad → ∀ j u, (flat (l.take N))[j]? = some u → W4.cell? (ad.add j) = some u) := fun ad e j u hu => by
              have hj := (List.getElem?_eq_some_iff.1 hu).1
              rw [HF.out] at hj
              exact rdA_src HT.out ad e (by omega) j u hu
            have hmx : Hid (K + N ≤ maxLen) := by rw [Hid]; unfold maxLen; omega
            have hby : Hid ((K + N) * 16 ≤ 140737488355328) := by rw [Hid]; omega
            rcases A with _ | ad
            · have HcN : Hid (c = N) := by have := hNone.out rfl; rw [Hid]; omega
              go_wp2_with (at_builtin; refine Row0.wpList_append_sl rfl (.tmp 115) (.tmp 118) 22 rfl W3.heap.size 28 i0 (.agg #[.int .i64 0, .int .i64 0]) 2 16 Try.underlying22 hi0 hz0 hz1 hz2 rfl (by decide) _ _ _ rfl hO1.out none N c (flat (l.take N)) rfl hNone.out HF.out hNews.out (flat_one _) hmx.out hby.out HS.out ?_; intro v7 W7 ho7 hg7)
              have HBl : Below W3.heap.size W4 W7 := (Below.refl _ _).grown hg7 HS.out (fun j hj => (World.ownsRow.lt hO1.out j hj).1)
              have HX3 : Aside (IsBox W7 p1 c1 20 (l.drop N) false) := HX1.out.kept (HBl.block p1 q1.1) (HBl.block c1 q1.2.1)
              have HX4 : Aside (IsBox W7 p2 c2 R (lk ++ l.take N) false) := HX2.out.kept (HBl.block p2 ll2.1) (HBl.block c2 ll2.2.1)
              have HG4 : Aside (Below W0.heap.size W0 W7) := HG3.out.trans (HBl.mono (by omega))
              have HS7 : Aside (W3.heap.size ≤ W7.heap.size) := Nat.le_trans HS.out HBl.size
              rw [← flat_app] at ho7
              have HO7 := Lib.hid ho7
              clear ho7 hg7 HBl hNews hNone
              have hdl : (lk ++ l.take N).length = K + N := by rw [List.length_append, HLK.out, HT.out.1]
              have hD : drainN (lk ++ l.take N) 99 = K + N := by unfold drainN; rw [hdl]; omega
              have hDt : (lk ++ l.take N).take (K + N) = lk ++ l.take N := List.take_of_length_le (by omega)
              refine (drain_any p2 c2 R _ false 99 W7 HX4.out (by omega)).mono ?_
              rintro e W8 ⟨v8, rfl, ho8, _, hg8⟩
              rw [hD, hDt] at ho8
              have HX5 : Aside (IsBox W8 p1 c1 20 (l.drop N) false) := HX3.out.grown hg8 (by simpa using d1) (by simpa using d2)
              have HG5 : Aside (Below W0.heap.size W0 W8) := HG4.out.grown hg8 HG4.out.size (fun k e => by cases e; exact m4)
              have hO8 := HO7.out.kept hg8 (own_low HO7.out c2 ll2.2.1)
              obtain ⟨A7, k7, rfl, r7, _, _, _⟩ := own_form hO8
              obtain ⟨A8, k8, rfl, r8, _, _, _⟩ := own_form ho8
              have R7 := Lib.hid r7
              have R8 := Lib.hid r8
              clear ho8 hg8 hO8 r7 r8 HO7 HG4 HX4 hD hDt hdl HX3
              go_wp2_with fail
              refine (same_any A8 A7 (K + N) k8 k7 (lk ++ l.take N) W8 R8.out R7.out).mono ?_
              rintro e W9 ⟨rfl, z9, rfl⟩
              have HX6 : Aside (∀ z, IsBox (W8.drewN z) p1 c1 20 (l.drop N) false) := fun z => HX5.out.kept rfl rfl
              have HG6 : Aside (∀ z, Below W0.heap.size W0 (W8.drewN z)) := fun z => below_dnx HG5.out z
              clear R7 R8 HX5
              have hdd : (l.drop N).length = i1 - N := by rw [List.length_drop, hl]
              have hD : drainN (l.drop N) 99 = i1 - N := by unfold drainN; rw [hdd]; omega
              have hDt : (l.drop N).take (i1 - N) = l.drop N := List.take_of_length_le (by omega)
              have H1 := Lib.hid hD
              have H2 := Lib.hid hDt
              clear hD hDt hdd
              go_wp2_with fail
              have HLd : Hid ((l.drop N).length = i1 - N) := by rw [Hid, List.length_drop, hl]
              have HWd : Aside (Below W.heap.size W W4 → True) := fun _ => trivial
              clear HWd
              have hcN := HcN.out
              go_region_held3 (fun _ => True) (trivial) (first
                | (go_at_call 15; refine (drain_any p1 c1 20 _ false 99 _ (HX6.out _) (by decide)).mono ?_; rintro e W9 ⟨v, rfl, ho4, hb4, hg4⟩; rw [H1.out] at ho4 hb4; rw [H2.out] at ho4; obtain ⟨A9, k9, rfl, r9, z1, y1, _⟩ := own_form ho4)
                | (go_at_call 16; refine (same_any A9 _ (i1 - N) k9 _ (l.drop N) _ r9 (rdA_end HLd.out (by omega))).mono ?_; rintro e W10 ⟨rfl, z, rfl⟩))
              have HG9 : Below W0.heap.size W0 W9 := (HG6.out _).grown hg4 (HG6.out _).size (fun k e => by cases e; exact m2)
              go_wp2
              go_ret
              exact ⟨rfl, HE.out _ (below_dnx HG9 z)⟩
            · go_wp2_with (at_builtin; refine Row0.wpList_append_sl rfl (.tmp 115) (.tmp 118) 22 rfl W3.heap.size 28 i0 (.agg #[.int .i64 0, .int .i64 0]) 2 16 Try.underlying22 hi0 hz0 hz1 hz2 rfl (by decide) _ _ _ rfl hO1.out (some ad) N c (flat (l.take N)) rfl hNone.out HF.out hNews.out (flat_one _) hmx.out hby.out HS.out ?_; intro v7 W7 ho7 hg7)
              have HBl : Below W3.heap.size W4 W7 := (Below.refl _ _).grown hg7 HS.out (fun j hj => (World.ownsRow.lt hO1.out j hj).1)
              have HX3 : Aside (IsBox W7 p1 c1 20 (l.drop N) false) := HX1.out.kept (HBl.block p1 q1.1) (HBl.block c1 q1.2.1)
              have HX4 : Aside (IsBox W7 p2 c2 R (lk ++ l.take N) false) := HX2.out.kept (HBl.block p2 ll2.1) (HBl.block c2 ll2.2.1)
              have HG4 : Aside (Below W0.heap.size W0 W7) := HG3.out.trans (HBl.mono (by omega))
              have HS7 : Aside (W3.heap.size ≤ W7.heap.size) := Nat.le_trans HS.out HBl.size
              rw [← flat_app] at ho7
              have HO7 := Lib.hid ho7
              clear ho7 hg7 HBl hNews hNone
              have hdl : (lk ++ l.take N).length = K + N := by rw [List.length_append, HLK.out, HT.out.1]
              have hD : drainN (lk ++ l.take N) 99 = K + N := by unfold drainN; rw [hdl]; omega
              have hDt : (lk ++ l.take N).take (K + N) = lk ++ l.take N := List.take_of_length_le (by omega)
              refine (drain_any p2 c2 R _ false 99 W7 HX4.out (by omega)).mono ?_
              rintro e W8 ⟨v8, rfl, ho8, _, hg8⟩
              rw [hD, hDt] at ho8
              have HX5 : Aside (IsBox W8 p1 c1 20 (l.drop N) false) := HX3.out.grown hg8 (by simpa using d1) (by simpa using d2)
              have HG5 : Aside (Below W0.heap.size W0 W8) := HG4.out.grown hg8 HG4.out.size (fun k e => by cases e; exact m4)
              have hO8 := HO7.out.kept hg8 (own_low HO7.out c2 ll2.2.1)
              obtain ⟨A7, k7, rfl, r7, _, _, _⟩ := own_form hO8
              obtain ⟨A8, k8, rfl, r8, _, _, _⟩ := own_form ho8
              have R7 := Lib.hid r7
              have R8 := Lib.hid r8
              clear ho8 hg8 hO8 r7 r8 HO7 HG4 HX4 hD hDt hdl HX3
              go_wp2_with fail
              refine (same_any A8 A7 (K + N) k8 k7 (lk ++ l.take N) W8 R8.out R7.out).mono ?_
              rintro e W9 ⟨rfl, z9, rfl⟩
              have HX6 : Aside (∀ z, IsBox (W8.drewN z) p1 c1 20 (l.drop N) false) := fun z => HX5.out.kept rfl rfl
              have HG6 : Aside (∀ z, Below W0.heap.size W0 (W8.drewN z)) := fun z => below_dnx HG5.out z
              clear R7 R8 HX5
              have hdd : (l.drop N).length = i1 - N := by rw [List.length_drop, hl]
              have hD : drainN (l.drop N) 99 = i1 - N := by unfold drainN; rw [hdd]; omega
              have hDt : (l.drop N).take (i1 - N) = l.drop N := List.take_of_length_le (by omega)
              have H1 := Lib.hid hD
              have H2 := Lib.hid hDt
              clear hD hDt hdd
              go_wp2_with fail
              have HLd : Hid ((l.drop N).length = i1 - N) := by rw [Hid, List.length_drop, hl]
              have HWd : Aside (Below W.heap.size W W4 → True) := fun _ => trivial
              clear HWd
              by_cases hcN : c = N
              · go_region_held3 (fun _ => True) (trivial) (first
                  | (go_at_call 15; refine (drain_any p1 c1 20 _ false 99 _ (HX6.out _) (by decide)).mono ?_; rintro e W9 ⟨v, rfl, ho4, hb4, hg4⟩; rw [H1.out] at ho4 hb4; rw [H2.out] at ho4; obtain ⟨A9, k9, rfl, r9, z1, y1, _⟩ := own_form ho4)
                  | (go_at_call 16; refine (same_any A9 _ (i1 - N) k9 _ (l.drop N) _ r9 (rdA_end HLd.out (by omega))).mono ?_; rintro e W10 ⟨rfl, z, rfl⟩))
                have HG9 : Below W0.heap.size W0 W9 := (HG6.out _).grown hg4 (HG6.out _).size (fun k e => by cases e; exact m2)
                go_wp2
                go_ret
                exact ⟨rfl, HE.out _ (below_dnx HG9 z)⟩
              · go_region_held3 (fun _ => True) (trivial) (first
                  | (go_at_call 15; refine (drain_any p1 c1 20 _ false 99 _ (HX6.out _) (by decide)).mono ?_; rintro e W9 ⟨v, rfl, ho4, hb4, hg4⟩; rw [H1.out] at ho4 hb4; rw [H2.out] at ho4; obtain ⟨A9, k9, rfl, r9, z1, y1, _⟩ := own_form ho4)
                  | (go_at_call 16; refine (same_any A9 _ (i1 - N) k9 _ (l.drop N) _ r9 (rdA_dropA (HM.out.below ((HG6.out _).grown hg4 (HG6.out _).size (fun k e => by cases e; exact m2)) (Nat.le_refl _)) N n2)).mono ?_; rintro e W10 ⟨rfl, z, rfl⟩))
                have HG9 : Below W0.heap.size W0 W9 := (HG6.out _).grown hg4 (HG6.out _).size (fun k e => by cases e; exact m2)
                go_wp2
                go_ret
                exact ⟨rfl, HE.out _ (below_dnx HG9 z)⟩
end Go.Proofs.Ytmobimkbfmgciaa.Post
