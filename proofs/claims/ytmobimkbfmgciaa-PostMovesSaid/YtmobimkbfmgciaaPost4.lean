/-
  The example, and the statement PostOrder, walked.
-/
import Derived.Test.YtmobimkbfmgciaaPost3
import Derived.Test.YtmobimkbfmgciaaOpens
namespace Go.Proofs.Ytmobimkbfmgciaa.Post
open Go.Conc Go.RowKit

theorem below_dnx {B : Nat} {w w1 : World} (h : Below B w w1) (n : Nat) : Below B w (w1.drewN n) := ⟨h.os, h.tape, h.output, h.size, h.block⟩
/-- A box that lies above block B, over a world that below B is the old one. -/
theorem below_grown {B : Nat} {w w1 w2 : World} {row : Option Nat} (h : Below B w w1) (hB : B ≤ w1.heap.size) (g : w1.grownBy w2 row) (hr : ∀ k, row = some k → B ≤ k) : Below B w w2 := h.grown g hB hr

set_option maxHeartbeats 2000000 in
set_option maxRecDepth 100000 in
theorem awake_any (w : World) : Calls Try.prog 9 #[] w fun e w' => e = .returned (.bool true) ∧ Below w.heap.size w w' := by
  have e1 : putOk 1 [] false = true := by decide
  have e2 : putQ 1 [] false (1, 2) = [(1, 2)] := by decide
  have e3 : putOk 1 [(1, 2)] false = false := by decide
  have e4 : putQ 1 [(1, 2)] false (3, 0) = [(1, 2)] := by decide
  have E1 := Lib.hid e1
  have E2 := Lib.hid e2
  have E3 := Lib.hid e3
  have E4 := Lib.hid e4
  clear e1 e2 e3 e4
  go_enter Try.func9, Try.ntmps9
  go_wp2_with fail
  refine (new_any 1 1 rfl (by decide) (by decide) w).mono ?_
  rintro e W1 ⟨bp, ch, rfl, hb1, hg1, l1, l2⟩
  have HB1 := Lib.hid hb1
  have HG1 := Lib.hid ((Below.refl w.heap.size w).grown hg1 (Nat.le_refl _) (fun k e => by cases e))
  clear hb1 hg1
  go_wp2_with fail
  refine (put_any bp ch 1 [] false 1 2 W1 HB1.out).mono ?_
  rintro e W2 ⟨rfl, hb2, hg2⟩
  rw [E1.out]
  rw [E2.out] at hb2
  have HB2 := Lib.hid hb2
  have HG2 := Lib.hid (HG1.out.grown hg2 HG1.out.size (fun k e => by cases e; exact l2))
  clear hb2 hg2
  go_wp2_with fail
  refine (put_any bp ch 1 [(1, 2)] false 3 0 W2 HB2.out).mono ?_
  rintro e W3 ⟨rfl, hb3, hg3⟩
  rw [E3.out]
  rw [E4.out] at hb3
  have HB3 := Lib.hid hb3
  have HG3 := Lib.hid (HG2.out.grown hg3 HG2.out.size (fun k e => by cases e; exact l2))
  clear hb3 hg3
  go_wp2_with fail
  refine (take_any1 bp ch 1 1 2 [] false W3 HB3.out).mono ?_
  rintro e W4 ⟨rfl, hb4, hg4⟩
  have HG4 := Lib.hid (HG3.out.grown hg4 HG3.out.size (fun k e => by cases e; exact l2))
  clear hb4 hg4
  unfold askV
  go_wp2
  go_ret
  exact ⟨rfl, HG4.out.alloc HG4.out.size _⟩

theorem pairs_rd {w : World} {A : Option Addr} {n c : Nat} {q : List (Int × Int)} (h : Row0.IsPairs .i64 .i64 w A n c q) : RdA w A n q :=
  ⟨h.ln, Nat.le_trans h.le h.mx, fun hp => by obtain ⟨b, o, e⟩ := h.ad hp; exact ⟨b, o, e, h.at_ b o e⟩⟩

theorem RdA.below {w w1 : World} {A : Option Addr} {n : Nat} {q : List (Int × Int)} (h : RdA w A n q) {B : Nat} (hb : Below B w w1) (hB : w.heap.size ≤ B) : RdA w1 A n q :=
  h.kept fun b _ _ hlt => hb.block b (Nat.lt_of_lt_of_le hlt hB)

set_option maxHeartbeats 4000000 in
set_option maxRecDepth 100000 in
theorem PostOrder_walk (a0 : Int) (A : Option Addr) (n c : Nat) (q : List (Int × Int)) (W : World) (_w0 : (Lit.int .i64 a0).wf = true) (w1 : Row0.IsPairs .i64 .i64 W A n c q) :
    Calls Try.prog 3 #[.int .i64 a0, .slice A n c] W fun e w' => e = .returned (.bool true) ∧ Below W.heap.size W w' := by
  have hq := pairs_rd w1
  have hn := hq.2.1
  have HQ := Lib.hid hq
  clear hq w1
  have ht := Int.tmod_lt_of_pos a0 (show (0 : Int) < 1000 by decide)
  have ht' := Int.lt_tmod_of_pos a0 (show (0 : Int) < 1000 by decide)
  obtain ⟨t, ht0, t1, t2⟩ : ∃ t, a0.tmod 1000 = t ∧ -1000 < t ∧ t < 1000 := ⟨_, rfl, by omega, ht⟩
  clear ht ht'
  obtain ⟨k, hk0, k1⟩ : ∃ k : Nat, (t + 1000) % 1000 = (k : Int) ∧ k < 1000 := ⟨((t + 1000) % 1000).toNat, by omega, by omega⟩
  have HA := fun w => Lib.hid (awake_any w)
  go_enter Try.func3, Try.ntmps3
  go_wp2_with (go_at_call 9; refine (HA _).out.mono ?_; rintro e W1 ⟨rfl, hb⟩)
  refine (new_any (1 + k) (1 + k) (by omega) (by omega) (by omega) W1).mono ?_
  rintro e W2 ⟨bp, ch, rfl, hb2, hg2, l1, l2⟩
  have HB2 := Lib.hid hb2
  have HG2 := Lib.hid (hb.grown hg2 hb.size (fun k e => by cases e))
  have l3 : W.heap.size ≤ bp := Nat.le_trans hb.size l1
  have l4 : W.heap.size ≤ ch := Nat.le_trans hb.size l2
  clear hb hb2 hg2 ht0 hk0 l1 l2
  go_wp2
  go_loopg [8, 9] n (fun g inv iv wr => ∃ (i : Nat), i ≤ n ∧ i ≤ 30 ∧ inv = .int .i64 (min i (1 + k) : Nat) ∧ iv = .int .i64 (i : Int) ∧ Aside (n - i = g) ∧ Aside (IsBox wr bp ch (1 + k) (q.take (min i (1 + k))) false) ∧ Aside (Below W.heap.size W wr))
  case atStart => exact ⟨0, Nat.zero_le _, Nat.zero_le _, by simp, rfl, rfl, by simpa [Aside] using HB2.out, HG2.out⟩
  case round =>
    obtain ⟨i, hi, hi30, rfl, rfl, hk, hbox, hbel⟩ := hrel
    by_cases hin : i < n ∧ i < 30
    · obtain ⟨hlt, h30⟩ := hin
      have h1 : decide ((i : Int) < (n : Int)) = true := by simpa using hlt
      have h2 : decide ((i : Int) < 30) = true := by simp; omega
      have HR := Lib.hid (HQ.out.below hbel.out (Nat.le_refl _))
      obtain ⟨b, o, rfl, hc⟩ := HR.out.2.2 (by omega)
      obtain ⟨c1, c2⟩ := hc i hlt
      have htk : Aside (q.take (i + 1) = q.take i ++ [((q.getD i (0, 0)).1, (q.getD i (0, 0)).2)]) := take_pair q i (by rw [HR.out.1]; exact hlt)
      generalize (q.getD i (0, 0)).1 = x at *
      generalize (q.getD i (0, 0)).2 = y at *
      clear hc
      by_cases hik : i < 1 + k
      · have h3 : decide ((i : Int) < 1 + (k : Int)) = true := by simp; omega
        have e1 : min i (1 + k) = i := by omega
        have e2 : min (i + 1) (1 + k) = i + 1 := by omega
        have hlq : (q.take i).length = i := by rw [List.length_take, HR.out.1]; omega
        rw [e1] at hbox ⊢
        have p1 : putOk (1 + k) (q.take i) false = true := by simp [putOk, hlq, hik]
        have p2 : putQ (1 + k) (q.take i) false (x, y) = q.take (i + 1) := by rw [htk.out]; unfold putQ; rw [if_pos ⟨rfl, by rw [hlq]; exact hik⟩]
        have P1 := Lib.hid p1
        have P2 := Lib.hid p2
        have E2 := Lib.hid e2
        clear p1 p2 e1 e2 hlq
        go_wp2_with fail
        refine (put_any bp ch (1 + k) (q.take i) false x y wr hbox.out).mono ?_
        rintro e W3 ⟨rfl, hb3, hg3⟩
        rw [P1.out]
        rw [P2.out] at hb3
        have HB3 : Aside (IsBox W3 bp ch (1 + k) (q.take (i + 1)) false) := hb3
        have HG3 : Aside (Below W.heap.size W W3) := hbel.out.grown hg3 hbel.out.size (fun k e => by cases e; exact l4)
        clear hb3 hg3
        go_wp2
        go_roundg (n - (i + 1))
        case measure => have := hk.out; omega
        case rel => exact ⟨i + 1, by omega, by omega, by rw [E2.out]; go_num, by go_num, rfl, by rw [E2.out]; exact HB3.out, HG3.out⟩
      · have h3 : decide ((i : Int) < 1 + (k : Int)) = false := by simp; omega
        have e1 : min i (1 + k) = 1 + k := by omega
        have e2 : min (i + 1) (1 + k) = 1 + k := by omega
        have hlq : (q.take (1 + k)).length = 1 + k := by rw [List.length_take, HR.out.1]; omega
        rw [e1] at hbox ⊢
        have p1 : putOk (1 + k) (q.take (1 + k)) false = false := by simp [putOk, hlq]
        have p2 : putQ (1 + k) (q.take (1 + k)) false (x, y) = q.take (1 + k) := by unfold putQ; rw [if_neg (by rw [hlq]; omega)]
        have P1 := Lib.hid p1
        have P2 := Lib.hid p2
        have E2 := Lib.hid e2
        clear p1 p2 e1 e2 hlq
        go_wp2_with fail
        refine (put_any bp ch (1 + k) (q.take (1 + k)) false x y wr hbox.out).mono ?_
        rintro e W3 ⟨rfl, hb3, hg3⟩
        rw [P1.out]
        rw [P2.out] at hb3
        have HB3 : Aside (IsBox W3 bp ch (1 + k) (q.take (1 + k)) false) := hb3
        have HG3 : Aside (Below W.heap.size W W3) := hbel.out.grown hg3 hbel.out.size (fun k e => by cases e; exact l4)
        clear hb3 hg3
        go_wp2
        go_roundg (n - (i + 1))
        case measure => have := hk.out; omega
        case rel => exact ⟨i + 1, by omega, by omega, by rw [E2.out]; simp, by go_num, rfl, by rw [E2.out]; exact HB3.out, HG3.out⟩
    · have hg : n ≤ i ∨ (i < n ∧ 30 ≤ i) := by omega
      obtain ⟨J, hJ, j1, j2, j3⟩ : ∃ J, min i (1 + k) = J ∧ J ≤ n ∧ J ≤ 1 + k ∧ J ≤ 30 := ⟨_, rfl, by omega, by omega, by omega⟩
      rw [hJ] at hbox ⊢
      clear hJ hin
      have hlq : (q.take J).length = J := by rw [List.length_take, HQ.out.1]; omega
      have hR : ((roomN (1 + k) (q.take J) false : Nat) : Int) = 1 + (k : Int) - (J : Int) := by simp [roomN, hlq]; omega
      have HLQ := Lib.hid hlq
      have HRO := Lib.hid hR
      clear hlq hR
      rcases hg with h1 | ⟨h1, h2⟩
      all_goals
        go_wp2_with fail
        refine (len_any bp ch (1 + k) (q.take J) false wr hbox.out).mono ?_
        rintro e w' ⟨rfl, rfl⟩
        rw [HLQ.out]
        go_wp2_with fail
        refine (room_any bp ch (1 + k) (q.take J) false wr hbox.out (by omega)).mono ?_
        rintro e w' ⟨rfl, n1, rfl⟩
        rw [HRO.out]
        go_wp2
        go_loopg [10] J (fun g iv wr' => ∃ (i : Nat), i ≤ J ∧ iv = .int .i64 (i : Int) ∧ Aside (J - i = g) ∧ Aside (IsBox wr' bp ch (1 + k) ((q.take J).drop i) false) ∧ Aside (Below W.heap.size W wr'))
        case atStart => exact ⟨0, Nat.zero_le _, rfl, rfl, hbox.out.kept rfl rfl, below_dnx hbel.out n1⟩
        case round =>
          clear hbox hbel
          obtain ⟨i2, hi2, rfl, hk2, hbox, hbel⟩ := hrel
          by_cases hlt : i2 < J
          · have h3 : decide ((i2 : Int) < (J : Int)) = true := by simpa using hlt
            have HR := Lib.hid (HQ.out.below hbel.out (Nat.le_refl _))
            have hdr := drop_pair (q.take J) i2 (by rw [HLQ.out]; exact hlt)
            have hgt : (q.take J).getD i2 (0, 0) = q.getD i2 (0, 0) := by simp [List.getD_eq_getElem?_getD, hlt]
            rw [hgt] at hdr
            obtain ⟨b, o, rfl, hc⟩ := HR.out.2.2 (by omega)
            obtain ⟨c1, c2⟩ := hc i2 (by omega)
            generalize (q.getD i2 (0, 0)).1 = x at *
            generalize (q.getD i2 (0, 0)).2 = y at *
            rw [hdr] at hbox
            clear hc hdr hgt
            go_wp2_with fail
            refine (take_any1 bp ch (1 + k) x y ((q.take J).drop (i2 + 1)) false _ hbox.out).mono ?_
            rintro e W3 ⟨rfl, hb3, hg3⟩
            have HB3 : Aside (IsBox W3 bp ch (1 + k) ((q.take J).drop (i2 + 1)) false) := hb3
            have HG3 : Aside (Below W.heap.size W W3) := hbel.out.grown hg3 hbel.out.size (fun k e => by cases e; exact l4)
            have hbl := World.block_lt_of_cell? _ _ c1
            have hcb : b ≠ ch := fun e => by
              obtain ⟨s, r, hs⟩ := hbox.out.hc
              rw [e] at c1
              simp [World.cell?, hs] at c1
            have hblk := hg3.block b hbl (fun e => hcb (by injection e))
            have d1 := (World.cell?_of_block (a := ⟨b, o + i2 * 2, none⟩) hblk).trans c1
            have d2 := (World.cell?_of_block (a := ⟨b, o + i2 * 2 + 1, none⟩) hblk).trans c2
            have hlt3 := World.block_lt_of_cell? _ _ d1
            have D1 : (W3.alloc (.cells #[.int .i64 x, .int .i64 y] 28)).cell? ⟨b, o + i2 * 2, none⟩ = some (.int .i64 x) := (World.cell?_alloc_past _ _ _ hlt3).trans d1
            have D2 : (W3.alloc (.cells #[.int .i64 x, .int .i64 y] 28)).cell? ⟨b, o + i2 * 2 + 1, none⟩ = some (.int .i64 y) := (World.cell?_alloc_past _ _ _ hlt3).trans d2
            clear hb3 hg3 c1 c2 d1 d2 hblk
            unfold askV
            go_wp2
            go_quiet (fail)
            go_wp2
            go_roundg (J - (i2 + 1))
            case measure => have := hk2.out; omega
            case rel =>
              have hl := HB3.out.lt
              exact ⟨i2 + 1, by omega, by go_num, rfl, HB3.out.kept (Below.heap_alloc _ _ _ hl.1) (Below.heap_alloc _ _ _ hl.2.1), below_dnx (HG3.out.alloc HG3.out.size _) _⟩
          · have h3 : decide ((i2 : Int) < (J : Int)) = false := by simp; omega
            have hdr : (q.take J).drop i2 = [] := List.drop_eq_nil_of_le (by rw [HLQ.out]; omega)
            rw [hdr] at hbox
            go_wp2_with fail
            refine (take_any0 bp ch (1 + k) false _ hbox.out).mono ?_
            rintro e W3 ⟨rfl, hb3, hg3⟩
            have HG3 : Aside (Below W.heap.size W W3) := hbel.out.grown hg3 hbel.out.size (fun k e => by cases e; exact l4)
            clear hb3 hg3
            unfold askV
            go_wp2
            go_ret
            exact ⟨rfl, HG3.out.alloc HG3.out.size _⟩
end Go.Proofs.Ytmobimkbfmgciaa.Post
