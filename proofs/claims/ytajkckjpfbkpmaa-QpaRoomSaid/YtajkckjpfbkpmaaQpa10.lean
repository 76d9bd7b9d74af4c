/-
  The statement QpaRoom, walked.
-/
import Derived.Test.YtajkckjpfbkpmaaQpa9
namespace Go.Proofs.Ytajkckjpfbkpmaa.Dem
open Go.RowKit Go.Shelf Go.Proofs.Ytajkckjpfbkpmaa.Ari

theorem cells2_pl (W : World) (x y : Value) (T : TypeId) : ∀ j u, ([x, y] : List Value)[j]? = some u → (W.alloc (.cells #[x, y] T)).cell? ((⟨W.heap.size, 0, none⟩ : Addr).add j) = some u := fun j u hj => cells2_new W x y T j u hj
theorem flat_up {L : List (Int × Int)} (h : L ≠ []) (g : Int) : ∃ c : Int, (flat2 (L.map (up g)))[1]? = some (.int .i64 (c + g)) ∧ ∀ g', (flat2 (L.map (up g')))[1]? = some (.int .i64 (c + g')) := by
  cases L with
  | nil => exact absurd rfl h
  | cons p r => exact ⟨p.2, by simp [flat2, up], fun g' => by simp [flat2, up]⟩
theorem apart2 {w : World} {B K : Nat} {e : TypeId} {pv mv : Value} {L : List (Int × Int)} {n : Int} (hM : w.ownsRow B e 2 mv K (flat2 (L.map (up (n + 1))))) (hP : w.ownsRow B e 2 pv K (flat2 (L.map (up n)))) (hnil : L = [] → pv = .slice none 0 0 ∧ mv = .slice none 0 0) (_h : 0 ≤ 0) : mv.ownBlock = none ∨ mv.ownBlock ≠ pv.ownBlock := by
  by_cases hl : L = []
  · rw [(hnil hl).2]; exact .inl rfl
  · obtain ⟨c, h1, h2⟩ := flat_up hl (n + 1)
    exact own_apart hM hP h1 (h2 n) (by intro e; injection e with _ e; omega)
theorem apart3 {w : World} {B K : Nat} {e : TypeId} {pv mv v6 : Value} {L : List (Int × Int)} {n : Int} {u : List Value} (hP : w.ownsRow B e 2 v6 (K + 1) (flat2 (L.map (up n)) ++ u)) (hM : w.ownsRow B e 2 mv K (flat2 (L.map (up (n + 1))))) (hnil : L = [] → pv = .slice none 0 0 ∧ mv = .slice none 0 0) : v6.ownBlock = none ∨ v6.ownBlock ≠ mv.ownBlock := by
  by_cases hl : L = []
  · rw [(hnil hl).2]
    cases hv : v6.ownBlock with
    | none => exact .inl rfl
    | some g => exact .inr (by simp [Value.ownBlock])
  · obtain ⟨c, h1, h2⟩ := flat_up hl n
    refine own_apart hP hM (a := .int .i64 (c + n)) ?_ (h2 (n + 1)) (by intro e; injection e with _ e; omega)
    rw [List.getElem?_append_left (by have := (List.getElem?_eq_some_iff.1 h1).1; exact this)]
    exact h1
theorem up_snoc (g : Int) (L : List (Int × Int)) (x y : Int) : flat2 ((L ++ [(x, y)]).map (up g)) = flat2 (L.map (up g)) ++ [.int .i64 x, .int .i64 (y + g)] := by
  rw [List.map_append]
  exact flat2_snoc _ _

set_option maxHeartbeats 16000000 in
set_option maxRecDepth 100000 in
theorem QpaRoom_walk (a0 : Option Addr) (len0 cap0 : Nat) (z0 : List (Int × Int × Int)) (a1 : Option Addr) (len1 cap1 : Nat) (z1 : List (Int × Int)) (W : World) (w0 : Row0.IsTrips .i64 W a0 len0 cap0 z0) (w1 : Row0.IsPairs .i64 .i64 W a1 len1 cap1 z1) :
    Calls Try.prog 6 #[.slice a0 len0 cap0, .slice a1 len1 cap1] W fun e w' => e = .returned (.bool true) ∧ Below W.heap.size W w' := by
  obtain ⟨j0, hj0, hy0, hy1, hy2⟩ := info_parts infoK
  have HP := Lib.hid w0
  have HQ := Lib.hid w1
  clear w0 w1
  go_enter Try.func6, Try.ntmps6
  go_wp2_with fail
  refine (awakeQ_any W).mono ?_
  rintro e W1 ⟨rfl, hb1⟩
  have HB1 := Lib.hid hb1
  clear hb1
  go_wp2_with fail
  have hp1 : Row0.IsTrips .i64 W1 a0 len0 cap0 z0 := HP.out.below HB1.out (Nat.le_refl _)
  refine (madeQ_any a0 len0 cap0 z0 W1 hp1).mono ?_
  rintro e W2 ⟨v1, l, rfl, hsm, hln, hown1, hb2⟩
  have hn1 : min len0 6 ≤ 6 := Nat.min_le_right _ _
  generalize min len0 6 = nl at *
  obtain ⟨A, c, rfl, hrd1, _, _, _, _⟩ := own_rdD hown1 (by omega)
  have HR2 := Lib.hid hrd1
  have HB2 : Hid (Below W.heap.size W W2) := HB1.out.trans (hb2.mono HB1.out.size)
  clear hown1 hb2 hp1 HB1 HP hrd1
  go_wp2_with fail
  have hp2 : Row0.IsPairs .i64 .i64 W2 a1 len1 cap1 z1 := pairs_below HQ.out HB2.out (Nat.le_refl _)
  refine (held_any a1 len1 cap1 z1 W2 hp2).mono ?_
  rintro e W3 ⟨v2, q, rfl, hsq, hlq, hown2, hb3⟩
  have hn2 : min len1 6 ≤ 6 := Nat.min_le_right _ _
  generalize min len1 6 = m at *
  obtain ⟨A2, c2, rfl, hrk, _, _, _, _⟩ := own_rdK hown2 (by omega)
  have HB3 : Hid (Below W.heap.size W W3) := HB2.out.trans (hb3.mono HB2.out.size)
  have HR3 := Lib.hid (HR2.out.below hb3 (Nat.le_refl _))
  have HK3 := Lib.hid hrk
  obtain ⟨P, hP, hP1⟩ := small_le hsm
  have hoq := hsq.oks
  have hRm := room_at HR3.out c hsm.oks hP (show P ≤ 1048575 by omega) HK3.out c2 hoq
  have hT0 := test_at HR3.out c hsm.oks hP (show P ≤ 1048575 by omega) HK3.out c2 hoq
  have hyes := fun h => room_plus hsm.oks hsq hP hP1 h
  have hno := fun h h2 => room_none hsm.oks (q := q) hP h h2
  have HPP := Lib.hid hP
  have HS := Lib.hid hsm
  have HSQ := Lib.hid hsq
  obtain ⟨n, hn⟩ : ∃ n, roomV l q P = n := ⟨_, rfl⟩
  obtain ⟨Y, hY⟩ : ∃ Y, roomB l q P = Y := ⟨_, rfl⟩
  simp only [hn, hY] at hRm hyes hno
  obtain ⟨E, hE⟩ : ∃ E, testI l q P = E := ⟨_, rfl⟩
  simp only [hE] at hT0 hno
  clear hown2 hb3 hp2 HB2 HQ hrk hsm hsq HR2 hP hoq hn hY hE
  go_wp2_with fail
  refine (hRm _ (Below.refl _ _)).out.mono ?_
  rintro e W4 ⟨rfl, hb4⟩
  have HB4 : Hid (Below W3.heap.size W3 W4) := hb4
  clear hb4 hRm
  cases Y with
  | false =>
    have hno' := Lib.hid (hno rfl)
    clear hyes hno
    by_cases hl0 : nl = 0
    · have e0 : ((nl : Int) == 0) = true := by subst hl0; rfl
      have HBZ : Hid (Below W.heap.size W W4) := HB3.out.trans (HB4.out.mono HB3.out.size)
      clear hT0
      go_wp2
      go_ret
      exact ⟨rfl, HBZ.out⟩
    · have e0 : ((nl : Int) == 0) = false := by simp; omega
      have hE0 : (E != 0) = true := by
        have := hno'.out (by intro h; subst h; exact hl0 (by simpa using hln.symm))
        simpa using this
      go_wp2_with fail
      refine (hT0 _ HB4.out).out.mono ?_
      rintro e W5 ⟨rfl, hb5⟩
      have HBZ : Hid (Below W.heap.size W W5) := HB3.out.trans ((HB4.out.trans (hb5.mono HB4.out.size)).mono HB3.out.size)
      clear hb5 hT0
      go_wp2
      go_ret
      exact ⟨rfl, HBZ.out⟩
  | true =>
    obtain ⟨n0, n1, t0, t1⟩ := hyes rfl
    clear hyes hno hT0
    have HT0 := Lib.hid t0
    have HT1 := Lib.hid t1
    clear t0 t1
    have en : decide (n < 0) = false := by simp; omega
    have HR4 := Lib.hid (HR3.out.below HB4.out (Nat.le_refl _))
    have HK4 := Lib.hid (HK3.out.below HB4.out (Nat.le_refl _))
    have HBW : Hid (Below W.heap.size W W4) := HB3.out.trans (HB4.out.mono HB3.out.size)
    clear HR3 HK3 HB3 HB4
    go_wp2_with fail
    go_loopg [10, 11, 12] 120 (fun gg pv mv tv wr => ∃ (k K : Nat), k ≤ 120 ∧ 120 - k ≤ gg ∧ tv = .int .i64 ((k : Int) + 1) ∧ Aside ((chg q k).length = K) ∧ Aside (wr.ownsRow W4.heap.size 50 2 pv K (flat2 ((chg q k).map (up n)))) ∧ Aside (wr.ownsRow W4.heap.size 50 2 mv K (flat2 ((chg q k).map (up (n + 1))))) ∧ Aside (chg q k = [] → pv = .slice none 0 0 ∧ mv = .slice none 0 0) ∧ Aside (Below W4.heap.size W4 wr))
    case atStart => exact ⟨0, 0, by decide, by decide, rfl, rfl, World.ownsRow_nil _ _ _ _, World.ownsRow_nil _ _ _ _, fun _ => ⟨rfl, rfl⟩, Below.refl _ _⟩
    case round =>
      obtain ⟨k, K, hk, hg, rfl, hKl, hP, hM, hnl, BW⟩ := hrel
      have hK16 : K ≤ 16 := by rw [← hKl.out]; exact chg_len' HSQ.out k
      by_cases hlt : k < 120
      · have e1 : decide ((k : Int) + 1 ≤ 120) = true := by simp; omega
        have e2 : IntKind.i64.wrap ((k : Int) + 1 - 1) = (k : Int) := by rw [IntKind.wrap_i64]; omega
        have e3 : IntKind.i64.wrap ((k : Int) + 1 + 1) = (k : Int) + 1 + 1 := by rw [IntKind.wrap_i64]; omega
        have hA0 := fun w h => Lib.hid (at_any A2 m c2 q (k : Int) w h)
        have hA1 := fun w h => Lib.hid (at_any A2 m c2 q ((k : Int) + 1) w h)
        have hb0 := small_held HSQ.out (k : Int)
        have hch : Hid (chg q (k + 1) = chg q k ++ if (k + 1 = 120 ∨ heldAt q k ≠ heldAt q ((k : Int) + 1)) then [((k : Int) + 1, heldAt q k)] else []) := rfl
        obtain ⟨H0, hH0⟩ : ∃ H0, heldAt q (k : Int) = H0 := ⟨_, rfl⟩
        obtain ⟨H1, hH1⟩ : ∃ H1, heldAt q ((k : Int) + 1) = H1 := ⟨_, rfl⟩
        simp only [hH0] at hA0 hb0
        simp only [hH1] at hA1
        rw [hH0, hH1] at hch
        clear hH0 hH1
        have e4 : IntKind.i64.wrap (H0 + n) = H0 + n := by rw [IntKind.wrap_i64]; omega
        have e5 : IntKind.i64.wrap (H0 + n + 1) = H0 + n + 1 := by rw [IntKind.wrap_i64]; omega
        have e6 : ((k : Int) + 1 == 120) = decide (k + 1 = 120) := by
          by_cases h : k + 1 = 120
          · rw [decide_eq_true h]; simp; omega
          · rw [decide_eq_false h]; simp; omega
        go_wp2_with fail
        refine (hA0 _ (HK4.out.below BW.out (Nat.le_refl _))).out.mono ?_
        rintro e W5 ⟨rfl, hb5⟩
        have hP5 := own_belowD hP.out hb5
        have hM5 := own_belowD hM.out hb5
        have HB5 : Hid (Below W4.heap.size W4 W5) := BW.out.trans (hb5.mono BW.out.size)
        have hnil := hnl.out
        have HP5 := Lib.hid hP5
        have HM5 := Lib.hid hM5
        clear hb5 hP hM BW hA0 hP5 hM5 hnl
        by_cases h120 : k + 1 = 120
        · have hch2 : Hid (chg q (k + 1) = chg q k ++ [((k : Int) + 1, H0)]) := by rw [RowKit.Hid, hch.out, if_pos (.inl h120)]
          rw [decide_eq_true h120] at e6
          have hPc := HP5.out
          have hMc := HM5.out
          have hsz4 := HB5.out.size
          clear hch hA1 HP5 HM5
          have hap : u11.ownBlock = none ∨ u11.ownBlock ≠ u10.ownBlock := apart2 hMc hPc hnil (by omega)
          have HAP := Lib.hid hap
          have HNIL := Lib.hid hnil
          clear hap hnil
          go_wp2_with (first
            | (at_builtin; refine wpList_append_own _ rfl _ _ 27 rfl W4.heap.size 50 j0 (.agg #[.int .i64 0, .int .i64 0]) 2 16 Try.underlying27 hj0 hy0 hy1 hy2 rfl (by decide) u10 _ _ rfl (hPc.alloc _) ⟨W5.heap.size, 0, none⟩ 1 1 [.int .i64 ((k : Int) + 1), .int .i64 (H0 + n)] rfl rfl (cells2_pl W5 _ _ _) (by simp [Value.oneCell']) (by unfold maxLen; omega) (by omega) (by simp; omega) ?_; intro v6 W6 ho6 hg6 hz6; have hs6 := hg6.size; simp at hs6)
            | (at_builtin; refine wpList_append_own _ rfl _ _ 27 rfl W4.heap.size 50 j0 (.agg #[.int .i64 0, .int .i64 0]) 2 16 Try.underlying27 hj0 hy0 hy1 hy2 rfl (by decide) u11 _ _ rfl (((hMc.alloc _).kept hg6 HAP.out).alloc _) ⟨W6.heap.size, 0, none⟩ 1 1 [.int .i64 ((k : Int) + 1), .int .i64 (H0 + n + 1)] rfl rfl (cells2_pl W6 _ _ _) (by simp [Value.oneCell']) (by unfold maxLen; omega) (by omega) (by simp; omega) ?_; intro v7 W7 ho7 hg7 hz7))
          have hM6 := (hMc.alloc (.cells #[.int .i64 ((k : Int) + 1), .int .i64 (H0 + n)] 50)).kept hg6 HAP.out
          have hap6 : v6.ownBlock = none ∨ v6.ownBlock ≠ u11.ownBlock := apart3 ho6 hM6 HNIL.out
          have hs7 := hg7.size
          simp at hs7
          have hP7 := (ho6.alloc (.cells #[.int .i64 ((k : Int) + 1), .int .i64 (H0 + n + 1)] 50)).kept hg7 hap6
          have hb6 : Below W4.heap.size W5 W6 := ((Below.refl _ W5).alloc hsz4 _).grown hg6 (by simp; omega) (fun j e => (hPc.lt j e).1)
          have hb7 : Below W4.heap.size W5 W7 := (hb6.alloc (by omega) _).grown hg7 (by simp; omega) (fun j e => (hMc.lt j e).1)
          have HP7 := Lib.hid hP7
          have HM7 := Lib.hid ho7
          have HB7 := Lib.hid hb7
          clear hP7 ho7 hb7 hb6 hM6 hap6 hg6 hg7 ho6 hPc hMc HAP HNIL hz6 hz7
          have HO1 : Hid (W7.ownsRow W4.heap.size 50 2 v6 (K + 1) (flat2 ((chg q (k + 1)).map (up n)))) := by rw [RowKit.Hid, hch2.out, up_snoc]; exact HP7.out
          have HO2 : Hid (W7.ownsRow W4.heap.size 50 2 v7 (K + 1) (flat2 ((chg q (k + 1)).map (up (n + 1))))) := by rw [RowKit.Hid, hch2.out, up_snoc, ← Int.add_assoc]; exact HM7.out
          have HBB : Hid (Below W4.heap.size W4 W7) := HB5.out.trans HB7.out
          clear HP7 HM7 HB7 HB5
          go_wp2
          go_roundg (120 - (k + 1))
          case measure => omega
          case rel => exact ⟨k + 1, K + 1, by omega, by omega, by push_cast; rfl, by rw [Aside, hch2.out, List.length_append, hKl.out]; rfl, HO1.out, HO2.out, fun e => by rw [hch2.out] at e; simp at e, HBB.out⟩
        · rw [decide_eq_false h120] at e6
          go_wp2_with fail
          refine (hA1 _ (HK4.out.below HB5.out (Nat.le_refl _))).out.mono ?_
          rintro e W8 ⟨rfl, hb8⟩
          have hPc := own_belowD HP5.out hb8
          have hMc := own_belowD HM5.out hb8
          have HB8 : Hid (Below W4.heap.size W4 W8) := HB5.out.trans (hb8.mono HB5.out.size)
          have hsz4 := HB8.out.size
          clear hb8 HP5 HM5 HB5 hA1
          by_cases hne : H0 = H1
          · have hch2 : Hid (chg q (k + 1) = chg q k) := by rw [RowKit.Hid, hch.out, if_neg (by rintro (h | h); exact h120 h; exact h hne), List.append_nil]
            have f1 : (H0 != H1) = false := by simpa using hne
            have HPc := Lib.hid hPc
            have HMc := Lib.hid hMc
            have HNL := Lib.hid hnil
            clear hne hPc hMc hnil hch
            go_wp2
            go_roundg (120 - (k + 1))
            case measure => omega
            case rel => exact ⟨k + 1, K, by omega, by omega, by push_cast; rfl, by rw [Aside, hch2.out]; exact hKl.out, by rw [hch2.out]; exact HPc.out, by rw [hch2.out]; exact HMc.out, fun e => HNL.out (by rw [← hch2.out]; exact e), HB8.out⟩
          · have hch2 : Hid (chg q (k + 1) = chg q k ++ [((k : Int) + 1, H0)]) := by rw [RowKit.Hid, hch.out, if_pos (.inr hne)]
            have f1 : (H0 != H1) = true := by simpa using hne
            clear hne hch
            have hap : u11.ownBlock = none ∨ u11.ownBlock ≠ u10.ownBlock := apart2 hMc hPc hnil (by omega)
            have HAP := Lib.hid hap
            have HNIL := Lib.hid hnil
            clear hap hnil
            go_wp2_with (first
              | (at_builtin; refine wpList_append_own _ rfl _ _ 27 rfl W4.heap.size 50 j0 (.agg #[.int .i64 0, .int .i64 0]) 2 16 Try.underlying27 hj0 hy0 hy1 hy2 rfl (by decide) u10 _ _ rfl (hPc.alloc _) ⟨W8.heap.size, 0, none⟩ 1 1 [.int .i64 ((k : Int) + 1), .int .i64 (H0 + n)] rfl rfl (cells2_pl W8 _ _ _) (by simp [Value.oneCell']) (by unfold maxLen; omega) (by omega) (by simp; omega) ?_; intro v6 W6 ho6 hg6 hz6; have hs6 := hg6.size; simp at hs6)
              | (at_builtin; refine wpList_append_own _ rfl _ _ 27 rfl W4.heap.size 50 j0 (.agg #[.int .i64 0, .int .i64 0]) 2 16 Try.underlying27 hj0 hy0 hy1 hy2 rfl (by decide) u11 _ _ rfl (((hMc.alloc _).kept hg6 HAP.out).alloc _) ⟨W6.heap.size, 0, none⟩ 1 1 [.int .i64 ((k : Int) + 1), .int .i64 (H0 + n + 1)] rfl rfl (cells2_pl W6 _ _ _) (by simp [Value.oneCell']) (by unfold maxLen; omega) (by omega) (by simp; omega) ?_; intro v7 W7 ho7 hg7 hz7))
            have hM6 := (hMc.alloc (.cells #[.int .i64 ((k : Int) + 1), .int .i64 (H0 + n)] 50)).kept hg6 HAP.out
            have hap6 : v6.ownBlock = none ∨ v6.ownBlock ≠ u11.ownBlock := apart3 ho6 hM6 HNIL.out
            have hs7 := hg7.size
            simp at hs7
            have hP7 := (ho6.alloc (.cells #[.int .i64 ((k : Int) + 1), .int .i64 (H0 + n + 1)] 50)).kept hg7 hap6
            have hb6 : Below W4.heap.size W8 W6 := ((Below.refl _ W8).alloc hsz4 _).grown hg6 (by simp; omega) (fun j e => (hPc.lt j e).1)
            have hb7 : Below W4.heap.size W8 W7 := (hb6.alloc (by omega) _).grown hg7 (by simp; omega) (fun j e => (hMc.lt j e).1)
            have HP7 := Lib.hid hP7
            have HM7 := Lib.hid ho7
            have HB7 := Lib.hid hb7
            clear hP7 ho7 hb7 hb6 hM6 hap6 hg6 hg7 ho6 hPc hMc HAP HNIL hz6 hz7
            have HO1 : Hid (W7.ownsRow W4.heap.size 50 2 v6 (K + 1) (flat2 ((chg q (k + 1)).map (up n)))) := by rw [RowKit.Hid, hch2.out, up_snoc]; exact HP7.out
            have HO2 : Hid (W7.ownsRow W4.heap.size 50 2 v7 (K + 1) (flat2 ((chg q (k + 1)).map (up (n + 1))))) := by rw [RowKit.Hid, hch2.out, up_snoc, ← Int.add_assoc]; exact HM7.out
            have HBB : Hid (Below W4.heap.size W4 W7) := HB8.out.trans HB7.out
            clear HP7 HM7 HB7 HB8
            go_wp2
            go_roundg (120 - (k + 1))
            case measure => omega
            case rel => exact ⟨k + 1, K + 1, by omega, by omega, by push_cast; rfl, by rw [Aside, hch2.out, List.length_append, hKl.out]; rfl, HO1.out, HO2.out, fun e => by rw [hch2.out] at e; simp at e, HBB.out⟩
      · obtain rfl : k = 120 := by omega
        have e1 : decide (((120 : Nat) : Int) + 1 ≤ 120) = false := by decide
        have ew : IntKind.i64.wrap (n + 1) = n + 1 := by rw [IntKind.wrap_i64]; omega
        have hPc := hP.out
        have hMc := hM.out
        have hnil := hnl.out
        have hsz4 := BW.out.size
        have BBW := Lib.hid BW.out
        clear hP hM hnl BW
        generalize wr = W5 at *
        have hap : u11.ownBlock = none ∨ u11.ownBlock ≠ u10.ownBlock := apart2 hMc hPc hnil (by omega)
        have HAP := Lib.hid hap
        have HNIL := Lib.hid hnil
        clear hap hnil
        go_wp2_with (first
          | (at_builtin; refine wpList_append_own _ rfl _ _ 27 rfl W4.heap.size 50 j0 (.agg #[.int .i64 0, .int .i64 0]) 2 16 Try.underlying27 hj0 hy0 hy1 hy2 rfl (by decide) u10 _ _ rfl (hPc.alloc _) ⟨W5.heap.size, 0, none⟩ 1 1 [.int .i64 16384, .int .i64 n] rfl rfl (cells2_pl W5 _ _ _) (by simp [Value.oneCell']) (by unfold maxLen; omega) (by omega) (by simp; omega) ?_; intro v6 W6 ho6 hg6 hz6; have hs6 := hg6.size; simp at hs6)
          | (at_builtin; refine wpList_append_own _ rfl _ _ 27 rfl W4.heap.size 50 j0 (.agg #[.int .i64 0, .int .i64 0]) 2 16 Try.underlying27 hj0 hy0 hy1 hy2 rfl (by decide) u11 _ _ rfl (((hMc.alloc _).kept hg6 HAP.out).alloc _) ⟨W6.heap.size, 0, none⟩ 1 1 [.int .i64 16384, .int .i64 (n + 1)] rfl rfl (cells2_pl W6 _ _ _) (by simp [Value.oneCell']) (by unfold maxLen; omega) (by omega) (by simp; omega) ?_; intro v7 W7 ho7 hg7 hz7))
        have hM6 := (hMc.alloc (.cells #[.int .i64 16384, .int .i64 n] 50)).kept hg6 HAP.out
        have hap6 : v6.ownBlock = none ∨ v6.ownBlock ≠ u11.ownBlock := apart3 ho6 hM6 HNIL.out
        have hs7 := hg7.size
        simp at hs7
        have hP7 := (ho6.alloc (.cells #[.int .i64 16384, .int .i64 (n + 1)] 50)).kept hg7 hap6
        have hb6 : Below W4.heap.size W5 W6 := ((Below.refl _ W5).alloc hsz4 _).grown hg6 (by simp; omega) (fun j e => (hPc.lt j e).1)
        have hb7 : Below W4.heap.size W5 W7 := (hb6.alloc (by omega) _).grown hg7 (by simp; omega) (fun j e => (hMc.lt j e).1)
        have HP7 := Lib.hid hP7
        have HM7 := Lib.hid ho7
        have HB7 := Lib.hid hb7
        clear hP7 ho7 hb7 hb6 hM6 hap6 hg6 hg7 ho6 hPc hMc HAP HNIL hz6 hz7
        have hrp : W7.ownsRow W4.heap.size 50 2 v6 (K + 1) (flat2 (plusL n q)) := by
          have : plusL n q = (chg q 120).map (up n) ++ [(16384, n)] := rfl
          rw [this, flat2_snoc]
          exact HP7.out
        have hrm : W7.ownsRow W4.heap.size 50 2 v7 (K + 1) (flat2 (plusL (n + 1) q)) := by
          have : plusL (n + 1) q = (chg q 120).map (up (n + 1)) ++ [(16384, n + 1)] := rfl
          rw [this, flat2_snoc]
          exact HM7.out
        obtain ⟨AX, cX, rfl, rdX, _, _, _, _⟩ := own_rdK hrp (by omega)
        obtain ⟨AY, cY, rfl, rdY, _, _, _, _⟩ := own_rdK hrm (by omega)
        have HB6 : Hid (Below W4.heap.size W4 W7) := BBW.out.trans HB7.out
        have HR6 := HR4.out.below HB6.out (Nat.le_refl _)
        have hT1 := test_at HR6 c HS.out.oks HPP.out (show P ≤ 1048575 by omega) rdX cX (plus_oks HSQ.out n0 (by omega))
        have hT2 := test_at HR6 c HS.out.oks HPP.out (show P ≤ 1048575 by omega) rdY cY (plus_oks HSQ.out (show 0 ≤ n + 1 by omega) (by omega))
        simp only [HT0.out] at hT1
        simp only [HT1.out] at hT2
        have HBZ : Hid (Below W.heap.size W W7) := HBW.out.trans (HB6.out.mono HBW.out.size)
        clear hrp hrm rdX rdY HR6 HB6 HP7 HM7 HB7 BBW
        go_wp2_with fail
        refine (hT1 _ (Below.refl _ _)).out.mono ?_
        rintro e V1 ⟨rfl, hb⟩
        have Hb1 := Lib.hid hb
        clear hb hT1
        go_wp2_with fail
        refine (hT2 _ Hb1.out).out.mono ?_
        rintro e V2 ⟨rfl, hb⟩
        have HBY : Hid (Below W.heap.size W V2) := HBZ.out.trans ((Hb1.out.trans (hb.mono Hb1.out.size)).mono HBZ.out.size)
        clear hb hT2 Hb1 HBZ
        go_wp2
        go_ret
        exact ⟨rfl, HBY.out⟩
end Go.Proofs.Ytajkckjpfbkpmaa.Dem
