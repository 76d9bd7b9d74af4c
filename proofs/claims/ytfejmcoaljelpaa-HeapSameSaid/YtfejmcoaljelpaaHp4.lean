/-
  A heap: up, down.
-/
import Derived.Test.YtfejmcoaljelpaaHp3
import Derived.Deep.LoopGhost
namespace Go.Proofs.Ytfejmcoaljelpaa.Hp
open Go.RowKit Go.Maps Go.Proofs.Ytfejmcoaljelpaa.Box

theorem par_val {i : Nat} (h : 0 < i) : ((i : Int) - 1).tdiv 2 = (par i : Int) := by
  unfold par
  rw [Int.tdiv_eq_ediv_of_nonneg (by omega)]
  omega
theorem wrap_n (i : Nat) (h : i ≤ 9223372036854775807) : IntKind.i64.wrap (i : Int) = (i : Int) := by rw [IntKind.wrap_i64]; omega
theorem chg_b {w w' : World} {S : Nat → Prop} (h : Below w.heap.size w w') : Chg S w w' := Chg.below h
set_option maxRecDepth 100000 in
set_option maxHeartbeats 4000000 in
theorem up_any (w : World) (p bm : Nat) (A : Option Addr) (cap : Nat) (l : List (Int × Int)) (h : Hp w p bm A cap l) (i : Nat) (hi : i < l.length) :
    Calls Try.prog 30 #[.pointer (some ⟨p, 0, none⟩), .int .i64 (i : Int)] w fun e w' => e = .returned (.tuple #[]) ∧ Hp w' p bm A cap (up ahI l i) ∧ Chg (own3 p bm A) w w' := by
  obtain ⟨r, hr⟩ : ∃ r, up ahI l i = r := ⟨_, rfl⟩
  rw [hr]
  have hmx := h.mx
  have HH := Lib.hid h
  have HR := Lib.hid hr
  obtain ⟨n, hn⟩ : ∃ n, l.length = n := ⟨_, rfl⟩
  have HN := Lib.hid hn
  rw [hn] at hi hmx
  clear h hr hn
  go_enter Try.func30, Try.ntmps30
  go_wp2_with fail
  go_loopg [1] i (fun gg iv wr => ∃ (j : Nat) (l' : List (Int × Int)), j < n ∧ j ≤ gg ∧ iv = .int .i64 (j : Int) ∧ Aside (l'.length = n) ∧ Aside (Hp wr p bm A cap l') ∧ Aside (up ahI l' j = r) ∧ Aside (Chg (own3 p bm A) w wr))
  case atStart => exact ⟨i, l, hi, by omega, rfl, HN.out, HH.out, HR.out, Chg.refl _ _⟩
  case round =>
    obtain ⟨j, l', hj, hgk, rfl, hL, hP, hU, hC⟩ := hrel
    clear HH HR HN
    by_cases hj0 : 0 < j
    · have hp := par_lt hj0
      have hq := par_val hj0
      obtain ⟨k, hk⟩ : ∃ k, par j = k := ⟨_, rfl⟩
      rw [hk] at hp hq
      have hw := wrap_n k (by omega)
      have e1 : (0 : Int) < (j : Int) := by omega
      obtain ⟨q, hq2⟩ : ∃ q, ahI (g l' j) (g l' k) = q := ⟨_, rfl⟩
      have KA := ahead_any wr p bm A cap l' hP.out j k (by rw [hL.out]; omega) (by rw [hL.out]; omega)
      rw [hq2] at KA
      have HQ := Lib.hid hq2
      have HK := Lib.hid hk
      clear hq2 hk
      go_wp2_with fail
      refine KA.mono ?_
      rintro e w1 ⟨rfl, hb⟩
      have hP1 := Lib.hid (hP.out.below hb)
      have hC1 : Hid (Chg (own3 p bm A) w w1) := hC.out.trans (chg_b (S := own3 p bm A) hb) fun j h => .inl h
      clear hb KA hC
      cases q
      · have hu : up ahI l' j = l' := up_no fun e => by rw [HK.out, HQ.out] at e; exact absurd e.2 (by decide)
        have hUr : Hid (l' = r) := hu.symm.trans hU.out
        clear hu hU
        go_wp2_with fail
        go_end0
        exact ⟨rfl, by rw [← hUr.out]; exact hP1.out, hC1.out⟩
      · have KS := swap_any w1 p bm A cap l' hP1.out j k (by rw [hL.out]; omega) (by rw [hL.out]; omega)
        go_wp2_with fail
        refine KS.mono ?_
        rintro e w2 ⟨rfl, hP2, hC2⟩
        have HP2 := Lib.hid hP2
        have HC2 : Hid (Chg (own3 p bm A) w w2) := hC1.out.trans hC2 fun j h => .inl h
        clear hP2 hC2 KS
        go_wp2
        go_roundg k
        case measure => omega
        case rel =>
          exact ⟨k, sw l' j k, by omega, by omega, rfl, by rw [sw_len]; exact hL.out, HP2.out, by
            have := hU.out
            rw [up_yes ⟨hj0, by rw [HK.out]; exact HQ.out⟩, HK.out] at this
            exact this, HC2.out⟩
    · have e1 : ¬ (0 : Int) < (j : Int) := by omega
      have e2 : decide ((0 : Int) < (j : Int)) = false := by simp; omega
      have hu : up ahI l' j = l' := up_no fun e => hj0 e.1
      have hUr : Hid (l' = r) := hu.symm.trans hU.out
      clear hu hU
      go_wp2_with fail
      go_end0
      exact ⟨rfl, by rw [← hUr.out]; exact hP.out, hC.out⟩
set_option maxRecDepth 100000 in
set_option maxHeartbeats 4000000 in
theorem down_any (w : World) (p bm : Nat) (A : Option Addr) (cap : Nat) (l : List (Int × Int)) (h : Hp w p bm A cap l) (i : Nat) (hi : i < l.length) :
    Calls Try.prog 32 #[.pointer (some ⟨p, 0, none⟩), .int .i64 (i : Int)] w fun e w' => e = .returned (.tuple #[]) ∧ Hp w' p bm A cap (down ahI l i) ∧ Chg (own3 p bm A) w w' := by
  obtain ⟨r, hr⟩ : ∃ r, down ahI l i = r := ⟨_, rfl⟩
  rw [hr]
  have hmx := h.mx
  have HH := Lib.hid h
  have HR := Lib.hid hr
  obtain ⟨n, hn⟩ : ∃ n, l.length = n := ⟨_, rfl⟩
  have HN := Lib.hid hn
  rw [hn] at hi hmx
  clear h hr hn
  go_enter Try.func32, Try.ntmps32
  go_wp2_with fail
  go_loopg [1] (n - i) (fun gg iv wr => ∃ (j : Nat) (l' : List (Int × Int)), j < n ∧ n - j ≤ gg ∧ iv = .int .i64 (j : Int) ∧ Aside (l'.length = n) ∧ Aside (Hp wr p bm A cap l') ∧ Aside (down ahI l' j = r) ∧ Aside (Chg (own3 p bm A) w wr))
  case atStart => exact ⟨i, l, hi, by omega, rfl, HN.out, HH.out, HR.out, Chg.refl _ _⟩
  case round =>
    obtain ⟨j, l', hj, hgk, rfl, hL, hP, hU, hC⟩ := hrel
    clear HH HR HN
    have hbx := hP.out.bx
    rw [hL.out] at hbx
    obtain ⟨x0, x1, x2⟩ := bx_three hbx
    clear hbx
    have m0 : (j : Int) < 4294967296 := by omega
    by_cases h1 : 2 * j + 1 < n
    · have e1 : ¬ (n : Int) ≤ 2 * (j : Int) + 1 := by omega
      by_cases h2 : 2 * j + 1 + 1 < n
      · have e2 : 2 * (j : Int) + 1 + 1 < (n : Int) := by omega
        obtain ⟨q, hq2⟩ : ∃ q, ahI (g l' (2 * j + 1 + 1)) (g l' (2 * j + 1)) = q := ⟨_, rfl⟩
        have KA := ahead_any wr p bm A cap l' hP.out (2 * j + 1 + 1) (2 * j + 1) (by rw [hL.out]; omega) (by rw [hL.out]; omega)
        rw [hq2, show ((2 * j + 1 + 1 : Nat) : Int) = 2 * (j : Int) + 1 + 1 by omega, show ((2 * j + 1 : Nat) : Int) = 2 * (j : Int) + 1 by omega] at KA
        have HQ := Lib.hid hq2
        clear hq2
        go_wp2_with fail
        refine KA.mono ?_
        rintro e w1 ⟨rfl, hb⟩
        have hP1 := Lib.hid (hP.out.below hb)
        have hC1 : Hid (Chg (own3 p bm A) w w1) := hC.out.trans (chg_b (S := own3 p bm A) hb) fun j h => .inl h
        clear hb KA hC x0 x1 x2
        cases q
        · have hkid : kid ahI l' j = 2 * j + 1 := by unfold kid; rw [if_neg (fun e => by rw [HQ.out] at e; exact absurd e.2 (by decide))]
          have HKD := Lib.hid hkid
          obtain ⟨q', hq3⟩ : ∃ q', ahI (g l' (2 * j + 1)) (g l' j) = q' := ⟨_, rfl⟩
          have KB := ahead_any w1 p bm A cap l' hP1.out (2 * j + 1) j (by rw [hL.out]; omega) (by rw [hL.out]; omega)
          rw [hq3, show ((2 * j + 1 : Nat) : Int) = 2 * (j : Int) + 1 by omega] at KB
          have HQ3 := Lib.hid hq3
          clear hq3 hkid
          go_wp2_with fail
          refine KB.mono ?_
          rintro e w3 ⟨rfl, hb⟩
          have hP3 := Lib.hid (hP1.out.below hb)
          have hC3 : Hid (Chg (own3 p bm A) w w3) := hC1.out.trans (chg_b (S := own3 p bm A) hb) fun j h => .inl h
          clear hb KB hC1
          cases q'
          · have hu : down ahI l' j = l' := down_no fun e => by rw [HKD.out, HQ3.out] at e; exact absurd e.2 (by decide)
            have hUr : Hid (l' = r) := hu.symm.trans hU.out
            clear hu hU
            go_wp2_with fail
            refine bodyPost_ret (results_none rfl _ _ _) rfl ?_
            exact ⟨rfl, by rw [← hUr.out]; exact hP3.out, hC3.out⟩
          · have KS := swap_any w3 p bm A cap l' hP3.out j (2 * j + 1) (by rw [hL.out]; omega) (by rw [hL.out]; omega)
            rw [show ((2 * j + 1 : Nat) : Int) = 2 * (j : Int) + 1 by omega] at KS
            go_wp2_with fail
            refine KS.mono ?_
            rintro e w4 ⟨rfl, hP4, hC4⟩
            have HP4 := Lib.hid hP4
            have HC4 : Hid (Chg (own3 p bm A) w w4) := hC3.out.trans hC4 fun j h => .inl h
            clear hP4 hC4 KS
            go_wp2
            go_roundg (n - (2 * j + 1))
            case measure => omega
            case rel =>
              exact ⟨2 * j + 1, sw l' j (2 * j + 1), by omega, by omega, by go_num, by rw [sw_len]; exact hL.out, HP4.out, by
                have := hU.out
                rw [down_yes ⟨by rw [hL.out]; omega, by rw [HKD.out]; exact HQ3.out⟩, HKD.out] at this
                exact this, HC4.out⟩
        · have hkid : kid ahI l' j = 2 * j + 1 + 1 := by unfold kid; rw [if_pos ⟨by rw [hL.out]; omega, HQ.out⟩]
          have HKD := Lib.hid hkid
          obtain ⟨q', hq3⟩ : ∃ q', ahI (g l' (2 * j + 1 + 1)) (g l' j) = q' := ⟨_, rfl⟩
          have KB := ahead_any w1 p bm A cap l' hP1.out (2 * j + 1 + 1) j (by rw [hL.out]; omega) (by rw [hL.out]; omega)
          rw [hq3, show ((2 * j + 1 + 1 : Nat) : Int) = 2 * (j : Int) + 1 + 1 by omega] at KB
          have HQ3 := Lib.hid hq3
          clear hq3 hkid
          go_wp2_with fail
          refine KB.mono ?_
          rintro e w3 ⟨rfl, hb⟩
          have hP3 := Lib.hid (hP1.out.below hb)
          have hC3 : Hid (Chg (own3 p bm A) w w3) := hC1.out.trans (chg_b (S := own3 p bm A) hb) fun j h => .inl h
          clear hb KB hC1
          cases q'
          · have hu : down ahI l' j = l' := down_no fun e => by rw [HKD.out, HQ3.out] at e; exact absurd e.2 (by decide)
            have hUr : Hid (l' = r) := hu.symm.trans hU.out
            clear hu hU
            go_wp2_with fail
            refine bodyPost_ret (results_none rfl _ _ _) rfl ?_
            exact ⟨rfl, by rw [← hUr.out]; exact hP3.out, hC3.out⟩
          · have KS := swap_any w3 p bm A cap l' hP3.out j (2 * j + 1 + 1) (by rw [hL.out]; omega) (by rw [hL.out]; omega)
            rw [show ((2 * j + 1 + 1 : Nat) : Int) = 2 * (j : Int) + 1 + 1 by omega] at KS
            go_wp2_with fail
            refine KS.mono ?_
            rintro e w4 ⟨rfl, hP4, hC4⟩
            have HP4 := Lib.hid hP4
            have HC4 : Hid (Chg (own3 p bm A) w w4) := hC3.out.trans hC4 fun j h => .inl h
            clear hP4 hC4 KS
            go_wp2
            go_roundg (n - (2 * j + 1 + 1))
            case measure => omega
            case rel =>
              exact ⟨2 * j + 1 + 1, sw l' j (2 * j + 1 + 1), by omega, by omega, by go_num, by rw [sw_len]; exact hL.out, HP4.out, by
                have := hU.out
                rw [down_yes ⟨by rw [hL.out]; omega, by rw [HKD.out]; exact HQ3.out⟩, HKD.out] at this
                exact this, HC4.out⟩
      · have e2 : ¬ 2 * (j : Int) + 1 + 1 < (n : Int) := by omega
        have e3 : decide (2 * (j : Int) + 1 + 1 < (n : Int)) = false := by simp; omega
        have hP1 := Lib.hid hP.out
        have hC1 := Lib.hid hC.out
        have hkid : kid ahI l' j = 2 * j + 1 := by unfold kid; rw [if_neg (fun e => by rw [hL.out] at e; omega)]
        have HKD := Lib.hid hkid
        obtain ⟨q', hq3⟩ : ∃ q', ahI (g l' (2 * j + 1)) (g l' j) = q' := ⟨_, rfl⟩
        have KB := ahead_any wr p bm A cap l' hP1.out (2 * j + 1) j (by rw [hL.out]; omega) (by rw [hL.out]; omega)
        rw [hq3, show ((2 * j + 1 : Nat) : Int) = 2 * (j : Int) + 1 by omega] at KB
        have HQ3 := Lib.hid hq3
        clear hq3 hkid
        go_wp2_with fail
        refine KB.mono ?_
        rintro e w3 ⟨rfl, hb⟩
        have hP3 := Lib.hid (hP1.out.below hb)
        have hC3 : Hid (Chg (own3 p bm A) w w3) := hC1.out.trans (chg_b (S := own3 p bm A) hb) fun j h => .inl h
        clear hb KB hC1
        cases q'
        · have hu : down ahI l' j = l' := down_no fun e => by rw [HKD.out, HQ3.out] at e; exact absurd e.2 (by decide)
          have hUr : Hid (l' = r) := hu.symm.trans hU.out
          clear hu hU
          go_wp2_with fail
          refine bodyPost_ret (results_none rfl _ _ _) rfl ?_
          exact ⟨rfl, by rw [← hUr.out]; exact hP3.out, hC3.out⟩
        · have KS := swap_any w3 p bm A cap l' hP3.out j (2 * j + 1) (by rw [hL.out]; omega) (by rw [hL.out]; omega)
          rw [show ((2 * j + 1 : Nat) : Int) = 2 * (j : Int) + 1 by omega] at KS
          go_wp2_with fail
          refine KS.mono ?_
          rintro e w4 ⟨rfl, hP4, hC4⟩
          have HP4 := Lib.hid hP4
          have HC4 : Hid (Chg (own3 p bm A) w w4) := hC3.out.trans hC4 fun j h => .inl h
          clear hP4 hC4 KS
          go_wp2
          go_roundg (n - (2 * j + 1))
          case measure => omega
          case rel =>
            exact ⟨2 * j + 1, sw l' j (2 * j + 1), by omega, by omega, by go_num, by rw [sw_len]; exact hL.out, HP4.out, by
              have := hU.out
              rw [down_yes ⟨by rw [hL.out]; omega, by rw [HKD.out]; exact HQ3.out⟩, HKD.out] at this
              exact this, HC4.out⟩
    · have e1 : (n : Int) ≤ 2 * (j : Int) + 1 := by omega
      have hu : down ahI l' j = l' := down_no fun e => h1 (by rw [← hL.out]; exact e.1)
      have hUr : Hid (l' = r) := hu.symm.trans hU.out
      clear hu hU
      go_wp2_with fail
      refine bodyPost_ret (results_none rfl _ _ _) rfl ?_
      exact ⟨rfl, by rw [← hUr.out]; exact hP.out, hC.out⟩
end Go.Proofs.Ytfejmcoaljelpaa.Hp
