/-
  The statement DemandSlack, walked.
-/
import Derived.Test.YtcgfaddegglnkaaDem13
import Derived.Test.YtcgfaddegglnkaaDem7
namespace Go.Proofs.Ytcgfaddegglnkaa.Dem
open Go.RowKit Go.Shelf Go.Proofs.Ytcgfaddegglnkaa.Ari

theorem last_at {W : World} {A : Option Addr} {n : Nat} {l : List Dm} (hr : RdD W A n l) (c : Nat) (ho : Oks l) {s : Int} (h0 : 0 ≤ s) (h1 : s ≤ 2097152) : ∀ w, Below W.heap.size W w →
    Hid (Calls Try.prog 13 #[.slice A n c, .int .i64 s] w fun e w' => e = .returned (.tuple #[.int .i64 (lastI l s), .bool (decide (0 < lastI l s))]) ∧ Below w.heap.size w w') :=
  fun w hb => last_any A n c l ho s h0 h1 w (hr.below hb (Nat.le_refl _))

set_option maxHeartbeats 8000000 in
set_option maxRecDepth 100000 in
theorem DemandSlack_walk (a0 : Option Addr) (len0 cap0 : Nat) (z0 : List (Int × Int × Int)) (a1x0 a1x1 : Int) (W : World) (w0 : Row0.IsTrips .i64 W a0 len0 cap0 z0) (_w1x0 : (Lit.int .i64 a1x0).wf = true) (_w1x1 : (Lit.int .i64 a1x1).wf = true) :
    Calls Try.prog 7 #[.slice a0 len0 cap0, .agg #[.int .i64 a1x0, .int .i64 a1x1]] W fun e w' => e = .returned (.bool true) ∧ Below W.heap.size W w' := by
  have HP := Lib.hid w0
  clear w0
  obtain ⟨F, hF, F0, F1⟩ : ∃ F, Go.bits .and .i64 a1x0 127 = F ∧ 0 ≤ F ∧ F ≤ 127 := ⟨_, rfl, by rw [Row0.and_i64 a1x0 7 (by decide) 127 rfl]; omega, by rw [Row0.and_i64 a1x0 7 (by decide) 127 rfl]; omega⟩
  obtain ⟨G, hG, G0, G1⟩ : ∃ G, Go.bits .and .i64 a1x1 127 = G ∧ 0 ≤ G ∧ G ≤ 127 := ⟨_, rfl, by rw [Row0.and_i64 a1x1 7 (by decide) 127 rfl]; omega, by rw [Row0.and_i64 a1x1 7 (by decide) 127 rfl]; omega⟩
  have eG : IntKind.i64.wrap (F + G) = F + G := by rw [IntKind.wrap_i64]; omega
  have hw0 : Below W.heap.size W (W.alloc (.cells #[.int .i64 a1x0, .int .i64 a1x1] 37)) := (Below.refl _ W).alloc (Nat.le_refl _) _
  have HW0 := Lib.hid hw0
  have c0 : ∀ w', Below (W.alloc (.cells #[.int .i64 a1x0, .int .i64 a1x1] 37)).heap.size (W.alloc (.cells #[.int .i64 a1x0, .int .i64 a1x1] 37)) w' → w'.cell? ⟨W.heap.size, 0, none⟩ = some (.int .i64 a1x0) ∧ w'.cell? ⟨W.heap.size, 1, none⟩ = some (.int .i64 a1x1) := fun w' hb => by
    have h : w'.heap[W.heap.size]? = some (.cells #[.int .i64 a1x0, .int .i64 a1x1] 37 (0, 0)) := (hb.block _ (by simp)).trans (heap_alloc_new _ _)
    simp [World.cell?, h]
  have HC := Lib.hid c0
  clear c0 hw0
  go_enter Try.func7, Try.ntmps7
  go_wp2_with fail
  refine (awakeD_any _).mono ?_
  rintro e W1 ⟨rfl, hb1⟩
  have HB1 : Hid (Below W.heap.size W W1) := HW0.out.trans (hb1.mono HW0.out.size)
  have HC1 : Hid (∀ w', Below W1.heap.size W1 w' → w'.cell? ⟨W.heap.size, 0, none⟩ = some (.int .i64 a1x0) ∧ w'.cell? ⟨W.heap.size, 1, none⟩ = some (.int .i64 a1x1)) := fun w' h => HC.out w' (hb1.trans (h.mono hb1.size))
  clear hb1 HC HW0
  go_wp2_with fail
  have hp1 : Row0.IsTrips .i64 W1 a0 len0 cap0 z0 := HP.out.below HB1.out (Nat.le_refl _)
  refine (made_any a0 len0 cap0 z0 W1 hp1).mono ?_
  rintro e W2 ⟨v, l, rfl, hsm, hln, hown, hb2⟩
  have hn6 : min len0 6 ≤ 6 := Nat.min_le_right _ _
  generalize min len0 6 = n at *
  obtain ⟨A, c, rfl, hrd, _, _, _⟩ := own_rdD hown (by omega)
  have HB2 : Hid (Below W.heap.size W W2) := HB1.out.trans (hb2.mono HB1.out.size)
  obtain ⟨k0, k1⟩ := HC1.out W2 hb2
  have ho := hsm.oks
  have hS := Lib.hid (slack_any A n c l ho F (F + G) F0 (by omega) (by omega) (by omega) W2 hrd)
  have HR := Lib.hid hrd
  have HO := Lib.hid ho
  have hmem : Hid (∀ t, t ∈ dlsOf l F (F + G) ↔ F ≤ t ∧ t < F + G ∧ IsDl l t) := fun t => mem_dlsOf ho
  have hsl : Hid (slackI l F (F + G) = mins ((dlsOf l F (F + G)).map fun t => t - work l t)) := rfl
  obtain ⟨L, hL⟩ : ∃ L, dlsOf l F (F + G) = L := ⟨_, rfl⟩
  obtain ⟨S, hSS⟩ : ∃ S, slackI l F (F + G) = S := ⟨_, rfl⟩
  rw [hL] at hmem hsl hS
  rw [hSS] at hsl hS
  obtain ⟨E, hE⟩ : ∃ E, decide (L ≠ []) = E := ⟨_, rfl⟩
  rw [hE] at hS
  have HE := Lib.hid hE
  clear hown hb2 hp1 HB1 HP hrd hsm ho hL hSS hE HC1
  go_wp2_with fail
  refine hS.out.mono ?_
  rintro e W3 ⟨rfl, hb3⟩
  have HB3 : Hid (Below W.heap.size W W3) := HB2.out.trans (hb3.mono HB2.out.size)
  have HR3 := Lib.hid (HR.out.below hb3 (Nat.le_refl _))
  clear hb3 hS HB2 HR k0 k1
  have a0' : Hid (anyB L F = false) := anyB_start fun u hu => ((hmem.out u).1 hu).1
  have m0 : Hid (metB L (fun t => t - work l t) S F = false) := metB_start fun u hu => ((hmem.out u).1 hu).1
  go_wp2_with fail
  go_loopg [11, 12, 13] G.toNat (fun gg mv av tv wr => ∃ t : Int, F ≤ t ∧ t ≤ F + G ∧ Aside ((F + G - t).toNat ≤ gg) ∧ mv = .bool (metB L (fun t => t - work l t) S t) ∧ av = .bool (anyB L t) ∧ tv = .int .i64 t ∧ Aside (RdD wr A n l) ∧ Aside (Below W.heap.size W wr))
  case atStart => exact ⟨F, by omega, by omega, by show _ ≤ _; omega, by rw [m0.out], by rw [a0'.out], rfl, HR3.out, HB3.out⟩
  case round =>
    obtain ⟨t, hFt, htG, hg, rfl, rfl, rfl, hrd, BW⟩ := hrel
    clear a0' m0 HR3 HB3
    by_cases hlt : t < F + G
    · have hlt1 : decide (t < F + G) = true := by simpa using hlt
      have et : IntKind.i64.wrap (t + 1) = t + 1 := by rw [IntKind.wrap_i64]; omega
      have hLa := Lib.hid (last_any A n c l HO.out (t + 1) (by omega) (by omega) wr hrd.out)
      have hdl := last_isDl HO.out (t := t) (by omega)
      by_cases hd : IsDl l t
      · obtain ⟨p1, p2⟩ := hdl.2 hd
        have hin : t ∈ L := (hmem.out t).2 ⟨hFt, hlt, hd⟩
        rw [p2, show decide (0 < t) = true by rw [p2] at p1; simpa using p1] at hLa
        have hay := Lib.hid (anyB_yes hin)
        have hmy := Lib.hid (metB_yes (g := fun t => t - work l t) (s := S) hin)
        have hge : S ≤ t - work l t := by
          rw [hsl.out]
          exact mins_le (List.mem_map.2 ⟨t, hin, rfl⟩)
        have wb := work_bd l HO.out (show 0 ≤ t by omega) (show t ≤ 4194304 by omega)
        have hOf := fun w h => Lib.hid (of_any A n c l HO.out t (by omega) (by omega) w h)
        have hnb : l.length ≤ 64 := by rw [hrd.out.1]; exact hrd.out.2.1
        obtain ⟨K, hK⟩ : ∃ K, work l t = K := ⟨_, rfl⟩
        simp only [hK] at hmy hge wb hOf
        have ek : IntKind.i64.wrap (t - K) = t - K := by rw [IntKind.wrap_i64]; omega
        have f1 : decide (t - K < S) = false := by simp; omega
        obtain ⟨M1, hM1⟩ : ∃ M1, metB L (fun t => t - work l t) S (t + 1) = M1 := ⟨_, rfl⟩
        obtain ⟨A1, hA1⟩ : ∃ A1, anyB L (t + 1) = A1 := ⟨_, rfl⟩
        rw [hM1] at hmy
        rw [hA1] at hay
        have HM1 := Lib.hid hM1
        have HA1 := Lib.hid hA1
        generalize metB L (fun t => t - work l t) S t = M at *
        generalize anyB L t = Y at *
        clear hdl hd p1 p2 hin hK hM1 hA1 wb
        go_wp2_with fail
        refine hLa.out.mono ?_
        rintro e W4 ⟨rfl, hb4⟩
        have hrd4 := hrd.out.below hb4 (Nat.le_refl _)
        have HB4 : Hid (Below W.heap.size W W4) := BW.out.trans (hb4.mono BW.out.size)
        have HR4 := Lib.hid hrd4
        clear hb4 hrd4 hLa
        go_wp2_with fail
        refine (hOf _ HR4.out).out.mono ?_
        rintro e W5 ⟨rfl, hb5⟩
        have hrd5 := HR4.out.below hb5 (Nat.le_refl _)
        have HB5 : Hid (Below W.heap.size W W5) := HB4.out.trans (hb5.mono HB4.out.size)
        have HR5 := Lib.hid hrd5
        clear hb5 hrd5 hOf HR4 HB4
        have fin : Hid (A1 = true) := hay.out
        cases M with
        | true =>
          have fm : Hid (M1 = true) := by rw [RowKit.Hid, hmy.out]; rfl
          clear hmy hay hge
          go_wp2
          go_roundg (F + G - (t + 1)).toNat
          case measure => have := hg.out; omega
          case rel => exact ⟨t + 1, by omega, by omega, by show _ ≤ _; omega, by rw [HM1.out, fm.out], by rw [HA1.out, fin.out], rfl, HR5.out, HB5.out⟩
        | false =>
          by_cases hs : t - K = S
          · have fm : Hid (M1 = true) := by rw [RowKit.Hid, hmy.out]; simp [hs]
            have f2 : (t - K == S) = true := by simpa using hs
            clear hmy hay hs hge
            go_wp2
            go_roundg (F + G - (t + 1)).toNat
            case measure => have := hg.out; omega
            case rel => exact ⟨t + 1, by omega, by omega, by show _ ≤ _; omega, by rw [HM1.out, fm.out], by rw [HA1.out, fin.out], rfl, HR5.out, HB5.out⟩
          · have fm : Hid (M1 = false) := by rw [RowKit.Hid, hmy.out]; simp [hs]
            have f2 : (t - K == S) = false := by simpa using hs
            clear hmy hay hs hge
            go_wp2
            go_roundg (F + G - (t + 1)).toNat
            case measure => have := hg.out; omega
            case rel => exact ⟨t + 1, by omega, by omega, by show _ ≤ _; omega, by rw [HM1.out, fm.out], by rw [HA1.out, fin.out], rfl, HR5.out, HB5.out⟩
      · have hnin : t ∉ L := fun h => hd ((hmem.out t).1 h).2.2
        have hay := Lib.hid (anyB_no hnin)
        have hmy := Lib.hid (metB_no (g := fun t => t - work l t) (s := S) hnin)
        generalize metB L (fun t => t - work l t) S t = M at *
        generalize anyB L t = Y at *
        have hno : decide (0 < lastI l (t + 1)) = false ∨ (decide (0 < lastI l (t + 1)) = true ∧ (lastI l (t + 1) != t) = true) := by
          by_cases h : 0 < lastI l (t + 1)
          · exact .inr ⟨by simpa using h, by simp; exact fun e => hd (hdl.1 ⟨h, e⟩)⟩
          · exact .inl (by simpa using h)
        generalize lastI l (t + 1) = Z at *
        clear hdl hd hnin
        go_wp2_with fail
        refine hLa.out.mono ?_
        rintro e W4 ⟨rfl, hb4⟩
        have hrd4 := hrd.out.below hb4 (Nat.le_refl _)
        have HB4 : Hid (Below W.heap.size W W4) := BW.out.trans (hb4.mono BW.out.size)
        have HR4 := Lib.hid hrd4
        clear hb4 hrd4 hLa
        rcases hno with hz | ⟨hz, hz2⟩
        · go_wp2
          go_roundg (F + G - (t + 1)).toNat
          case measure => have := hg.out; omega
          case rel => exact ⟨t + 1, by omega, by omega, by show _ ≤ _; omega, by rw [hmy.out], by rw [hay.out], rfl, HR4.out, HB4.out⟩
        · go_wp2
          go_roundg (F + G - (t + 1)).toNat
          case measure => have := hg.out; omega
          case rel => exact ⟨t + 1, by omega, by omega, by show _ ≤ _; omega, by rw [hmy.out], by rw [hay.out], rfl, HR4.out, HB4.out⟩
    · have hlt1 : decide (t < F + G) = false := by simpa using hlt
      obtain rfl : t = F + G := by omega
      have he1 : anyB L (F + G) = E := by rw [← HE.out]; exact anyB_end fun u hu => ((hmem.out u).1 hu).2.1
      have he2 : metB L (fun t => t - work l t) S (F + G) = E := by rw [← HE.out, hsl.out]; exact metB_end fun u hu => ((hmem.out u).1 hu).2.1
      have he3 : E = false → S = 0 := fun h => by
        rw [h] at HE
        have : L = [] := by simpa using HE.out
        rw [hsl.out, this]
        rfl
      have HE3 := Lib.hid he3
      rw [he1, he2]
      clear he1 he2 he3 HE
      cases E
      · obtain rfl : S = 0 := HE3.out rfl
        clear HE3
        go_wp2
        go_ret
        exact ⟨rfl, BW.out⟩
      · clear HE3
        go_wp2
        go_ret
        exact ⟨rfl, BW.out⟩
end Go.Proofs.Ytcgfaddegglnkaa.Dem
