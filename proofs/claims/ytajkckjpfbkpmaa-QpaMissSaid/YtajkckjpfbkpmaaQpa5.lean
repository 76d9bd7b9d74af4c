/-
  The statement QpaSound, walked.
-/
import Derived.Test.YtajkckjpfbkpmaaQpa4
import Derived.Test.YtajkckjpfbkpmaaDem5
import Derived.Deep.QuietTactic
import Derived.BigQuiet
namespace Go.Proofs.Ytajkckjpfbkpmaa.Dem
open Go.RowKit Go.Shelf Go.Proofs.Ytajkckjpfbkpmaa.Ari

def dueB (l : List Dm) (t : Int) : Bool := l.any fun x => decide (x.d ≤ t)
theorem due_take (l : List Dm) (t : Int) (i : Nat) (h : i < l.length) : dueB (l.take (i + 1)) t = (dueB (l.take i) t || decide ((l.getD i default).d ≤ t)) := by
  have e : l.getD i default = l[i] := by rw [List.getD_eq_getElem?_getD, List.getElem?_eq_getElem h]; rfl
  rw [e, List.take_add_one, List.getElem?_eq_getElem h]
  show (l.take i ++ [l[i]]).any _ = _
  rw [List.any_append]
  unfold dueB
  congr 1
  simp
theorem pairs_below {k0 k1 : IntKind} {w w1 : World} {a : Option Addr} {len cap : Nat} {q : List (Int × Int)} (h : Row0.IsPairs k0 k1 w a len cap q) {B : Nat} (hb : Below B w w1) (hB : w.heap.size ≤ B) : Row0.IsPairs k0 k1 w1 a len cap q :=
  ⟨h.le, h.mx, h.ad, h.ln, h.wf, fun b o e j hj => by
    obtain ⟨c0, c1⟩ := h.at_ b o e j hj
    have hb' : Below w.heap.size w w1 := ⟨hb.os, hb.tape, hb.output, hb.size, fun k hk => hb.block k (Nat.lt_of_lt_of_le hk hB)⟩
    exact ⟨(hb'.cell (World.block_lt_of_cell? w _ c0)).trans c0, (hb'.cell (World.block_lt_of_cell? w _ c1)).trans c1⟩⟩
theorem per_le {l : List Dm} (h : Smalls l) : ∃ P, Per l P ∧ P ≤ 1048575 := by
  obtain ⟨P, hP, hl⟩ := small_le h
  exact ⟨P, hP, by omega⟩
set_option maxHeartbeats 8000000 in
set_option maxRecDepth 100000 in
theorem QpaSound_walk (a0 : Option Addr) (len0 cap0 : Nat) (z0 : List (Int × Int × Int)) (a1 : Option Addr) (len1 cap1 : Nat) (z1 : List (Int × Int)) (W : World) (w0 : Row0.IsTrips .i64 W a0 len0 cap0 z0) (w1 : Row0.IsPairs .i64 .i64 W a1 len1 cap1 z1) :
    Calls Try.prog 3 #[.slice a0 len0 cap0, .slice a1 len1 cap1] W fun e w' => e = .returned (.bool true) ∧ Below W.heap.size W w' := by
  have HP := Lib.hid w0
  have HQ := Lib.hid w1
  clear w0 w1
  go_enter Try.func3, Try.ntmps3
  go_wp2_with fail
  refine (awakeQ_any W).mono ?_
  rintro e W1 ⟨rfl, hb1⟩
  have HB1 := Lib.hid hb1
  clear hb1
  go_wp2_with fail
  have hp1 : Row0.IsTrips .i64 W1 a0 len0 cap0 z0 := HP.out.below HB1.out (Nat.le_refl _)
  refine (madeQ_any a0 len0 cap0 z0 W1 hp1).mono ?_
  rintro e W2 ⟨v1, l, rfl, hsm, hln, hown1, hb2⟩
  have hn1 : min len0 6 ≤ 6 := Nat.min_le_right _ _
  generalize min len0 6 = n at *
  obtain ⟨A, c, rfl, hrd1, _, _, _, _⟩ := own_rdD hown1 (by omega)
  have HR2 := Lib.hid hrd1
  have HB2 : Hid (Below W.heap.size W W2) := HB1.out.trans (hb2.mono HB1.out.size)
  clear hown1 hb2 hp1 HB1 HP hrd1
  go_wp2_with fail
  have hp2 : Row0.IsPairs .i64 .i64 W2 a1 len1 cap1 z1 := pairs_below HQ.out HB2.out (Nat.le_refl _)
  refine (held_any a1 len1 cap1 z1 W2 hp2).mono ?_
  rintro e W3 ⟨v2, q, rfl, hsq, hlq, hown2, hb3⟩
  have hn2 : min len1 6 ≤ 6 := Nat.min_le_right _ _
  generalize min len1 6 = m at *
  obtain ⟨A2, c2, rfl, hrk, _, _, _, _⟩ := own_rdK hown2 (by omega)
  have HB3 : Hid (Below W.heap.size W W3) := HB2.out.trans (hb3.mono HB2.out.size)
  have HR3 := Lib.hid (HR2.out.below hb3 (Nat.le_refl _))
  have HK3 := Lib.hid hrk
  obtain ⟨P, hP, hP1⟩ := per_le hsm
  have ho := hsm.oks
  have hT := Lib.hid (test_any A n c l ho P hP hP1 A2 m c2 q hsq.oks W3 HR3.out HK3.out)
  have hsnd : Hid (testI l q P = 0 → ∀ t, (∃ x ∈ l, x.d ≤ t) → work l t + heldAt q t ≤ t) := fun h t ht => sound ho hP (test_fine.1 h) ht
  have hor := test_or l q P
  obtain ⟨E, hE⟩ : ∃ E, testI l q P = E := ⟨_, rfl⟩
  rw [hE] at hT hsnd hor
  have HO := Lib.hid ho
  have HOQ := Lib.hid hsq.oks
  clear hown2 hb3 hp2 HB2 HQ hrk hsm hsq hP ho hE HR2
  go_wp2_with fail
  refine hT.out.mono ?_
  rintro e W4 ⟨rfl, hb4⟩
  have HB4 : Hid (Below W.heap.size W W4) := HB3.out.trans (hb4.mono HB3.out.size)
  have HR4 := Lib.hid (HR3.out.below hb4 (Nat.le_refl _))
  have HK4 := Lib.hid (HK3.out.below hb4 (Nat.le_refl _))
  clear hb4 hT HB3 HR3 HK3
  rcases hor with rfl | rfl
  · have HS : Hid (∀ t, (∃ x ∈ l, x.d ≤ t) → work l t + heldAt q t ≤ t) := hsnd.out rfl
    clear hsnd
    go_wp2_with fail
    go_loopg [8] 401 (fun gg tv wr => ∃ t : Int, 1 ≤ t ∧ t ≤ 401 ∧ Aside ((401 - t).toNat ≤ gg) ∧ tv = .int .i64 t ∧ Aside (RdD wr A n l) ∧ Aside (RdK wr A2 m q) ∧ Aside (Below W.heap.size W wr))
    case atStart => exact ⟨1, by decide, by decide, by show _ ≤ _; decide, rfl, HR4.out, HK4.out, HB4.out⟩
    case round =>
      obtain ⟨t, ht1, ht4, hg, rfl, hrd, hrk, BW⟩ := hrel
      clear HR4 HK4 HB4
      by_cases htl : t ≤ 400
      · have e1 : decide (t ≤ 400) = true := by simpa using htl
        have et : IntKind.i64.wrap (t + 1) = t + 1 := by rw [IntKind.wrap_i64]; omega
        go_wp2_with fail
        go_loopg [9, 10, 11] n (fun gi sv dv iv w2 => ∃ kk : Nat, kk ≤ n ∧ n - kk ≤ gi ∧ iv = .int .i64 (kk : Int) ∧ sv = .int .i64 (work (l.take kk) t) ∧ dv = .bool (dueB (l.take kk) t) ∧ Aside (RdD w2 A n l) ∧ Aside (RdK w2 A2 m q) ∧ Aside (Below W.heap.size W w2))
        case atStart => exact ⟨0, Nat.zero_le _, by omega, rfl, rfl, rfl, hrd.out, hrk.out, BW.out⟩
        case round =>
          clear hrd hrk BW
          obtain ⟨kk, hkk, hgi, rfl, rfl, rfl, hrd, hrk, BW⟩ := hrel
          by_cases hlt : kk < n
          · have hltz : (kk : Int) < (n : Int) := by omega
            obtain ⟨b, o, rfl, hc⟩ := hrd.out.2.2 (by omega)
            obtain ⟨c0, c1, c2'⟩ := hc kk hlt
            clear hc
            have hx := getD_ok HO.out (i := kk) (by omega)
            have hwt := Lib.hid (work_take l t kk (by omega))
            have hdt := Lib.hid (due_take l t kk (by omega))
            have hwb := work_bd _ (oks_take HO.out kk) (show 0 ≤ t by omega) (show t ≤ 4194304 by omega)
            have hwl : (l.take kk).length ≤ 6 := by rw [List.length_take]; omega
            have tb := term_bd hx (show 0 ≤ t by omega) (show t ≤ 4194304 by omega)
            obtain ⟨S, hS⟩ : ∃ S, work (l.take kk) t = S := ⟨_, rfl⟩
            rw [hS] at hwt hwb ⊢
            obtain ⟨D0, hD0⟩ : ∃ D0, dueB (l.take kk) t = D0 := ⟨_, rfl⟩
            rw [hD0] at hdt ⊢
            obtain ⟨S1, hS1⟩ : ∃ S1, work (l.take (kk + 1)) t = S1 := ⟨_, rfl⟩
            obtain ⟨D1, hD1⟩ : ∃ D1, dueB (l.take (kk + 1)) t = D1 := ⟨_, rfl⟩
            rw [hS1] at hwt
            rw [hD1] at hdt
            have HS1 := Lib.hid hS1
            have HD1 := Lib.hid hD1
            obtain ⟨s0, s1⟩ := hwb
            have s2 : S ≤ 26388279066624 := by omega
            clear hS hD0 hS1 hD1 s1 hwl
            unfold jobs at tb hwt
            generalize l.getD kk default = x at *
            obtain ⟨a0, a1, a2, a3, a4, a5, a6⟩ := ok_bd hx
            clear hx
            generalize x.c = C at *
            generalize x.d = D at *
            generalize x.t = T at *
            by_cases hd : D ≤ t
            · have g1 : decide (D ≤ t) = true := by simpa using hd
              rw [if_neg (by omega)] at tb hwt
              rw [g1] at hdt
              have e2 : IntKind.i64.wrap (t - D) = t - D := by rw [IntKind.wrap_i64]; omega
              have q0 : 0 ≤ (t - D) / T := Int.ediv_nonneg (by omega) (by omega)
              have q1 : (t - D) / T ≤ t - D := Int.ediv_le_self _ (by omega)
              have e3 : (t - D).tdiv T = (t - D) / T := Int.tdiv_eq_ediv_of_nonneg (by omega)
              have e4 : (T == 0) = false := by simp; omega
              have e40 : ¬ T = 0 := by omega
              generalize (t - D) / T = Q at *
              have e5 : IntKind.i64.wrap Q = Q := by rw [IntKind.wrap_i64]; omega
              have e6 : IntKind.i64.wrap (Q + 1) = Q + 1 := by rw [IntKind.wrap_i64]; omega
              generalize hM : C * (Q + 1) = M at *
              have e7 : IntKind.i64.wrap M = M := by rw [IntKind.wrap_i64]; omega
              have e8 : IntKind.i64.wrap (S + M) = S + M := by rw [IntKind.wrap_i64]; omega
              go_wp2
              go_quiet (fail)
              go_wp2
              go_roundg (n - (kk + 1))
              case measure => omega
              case rel => exact ⟨kk + 1, by omega, by omega, by go_num, by rw [HS1.out, hwt.out], by rw [HD1.out, hdt.out, Bool.or_true], hrd.out, hrk.out, below_dn BW.out _⟩
            · have g1 : decide (D ≤ t) = false := by simpa using hd
              rw [if_pos (by omega), Int.mul_zero, Int.add_zero] at hwt
              rw [g1, Bool.or_false] at hdt
              clear tb
              go_wp2
              go_roundg (n - (kk + 1))
              case measure => omega
              case rel => exact ⟨kk + 1, by omega, by omega, by go_num, by rw [HS1.out, hwt.out], by rw [HD1.out, hdt.out], hrd.out, hrk.out, BW.out⟩
          · have hltz : ¬ (kk : Int) < (n : Int) := by omega
            obtain rfl : kk = n := by omega
            have hq : l.take kk = l := List.take_of_length_le (by rw [hrd.out.1]; omega)
            rw [hq]
            have hwb := work_bd l HO.out (show 0 ≤ t by omega) (show t ≤ 4194304 by omega)
            have hll : l.length ≤ 6 := by rw [hrd.out.1]; omega
            have hhb := held_bd HOQ.out t
            have hsn : dueB l t = true → work l t + heldAt q t ≤ t := fun h => by
              obtain ⟨x, hx, hp⟩ := List.any_eq_true.1 h
              exact HS.out t ⟨x, hx, by simpa using hp⟩
            have hAt := Lib.hid (at_any A2 m c2 q t _ hrk.out)
            generalize work l t = S at *
            generalize heldAt q t = H at *
            generalize dueB l t = D at *
            have ew : IntKind.i64.wrap (S + H) = S + H := by rw [IntKind.wrap_i64]; omega
            clear hq hwb hhb hll
            cases D with
            | false =>
              clear hsn hAt
              go_wp2
              go_roundg (401 - (t + 1)).toNat
              case measure => have := hg.out; omega
              case rel => exact ⟨t + 1, by omega, by omega, by show _ ≤ _; omega, rfl, hrd.out, hrk.out, BW.out⟩
            | true =>
              have hle := hsn rfl
              have g2 : decide (t < S + H) = false := by simp; omega
              clear hsn hle
              go_wp2_with fail
              refine hAt.out.mono ?_
              rintro e W5 ⟨rfl, hb5⟩
              have hrd5 := hrd.out.below hb5 (Nat.le_refl _)
              have hrk5 := hrk.out.below hb5 (Nat.le_refl _)
              have HB5 : Hid (Below W.heap.size W W5) := BW.out.trans (hb5.mono BW.out.size)
              have HRD5 := Lib.hid hrd5
              have HRK5 := Lib.hid hrk5
              clear hrd5 hrk5 hb5 hAt hrd hrk BW
              go_wp2
              go_roundg (401 - (t + 1)).toNat
              case measure => have := hg.out; omega
              case rel => exact ⟨t + 1, by omega, by omega, by show _ ≤ _; omega, rfl, HRD5.out, HRK5.out, HB5.out⟩
      · have e1 : decide (t ≤ 400) = false := by simpa using htl
        go_wp2
        go_ret
        exact ⟨rfl, BW.out⟩
  · clear hsnd
    go_wp2
    go_ret
    exact ⟨rfl, HB4.out⟩
end Go.Proofs.Ytajkckjpfbkpmaa.Dem
