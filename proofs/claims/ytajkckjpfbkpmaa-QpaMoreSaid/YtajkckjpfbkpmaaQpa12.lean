/-
  The statement QpaMore, walked.
-/
import Derived.Test.YtajkckjpfbkpmaaQpa11
import Derived.Test.YtajkckjpfbkpmaaMore
namespace Go.Proofs.Ytajkckjpfbkpmaa.Dem
open Go.RowKit Go.Shelf Go.Proofs.Ytajkckjpfbkpmaa.Ari

theorem newsK {w : World} {A : Option Addr} {n : Nat} {q : List (Int × Int)} (h : RdK w A n q) : ∀ ad, A = some ad → ∀ j u, (flat2 q)[j]? = some u → w.cell? (ad.add j) = some u := by
  rintro ad rfl j u hu
  have hj : j < q.length * 2 := by have := (List.getElem?_eq_some_iff.1 hu).1; rwa [flat2_length] at this
  obtain ⟨b, o, e, hc⟩ := h.2.2 (by rw [← h.1]; omega)
  cases e
  have hi : j / 2 < q.length := by omega
  obtain ⟨c0, c1⟩ := hc (j / 2) (by rw [← h.1]; exact hi)
  obtain ⟨g0, g1⟩ := flat2_get q (j / 2) hi
  rw [Row0.plain_add']
  rcases (by omega : j = j / 2 * 2 ∨ j = j / 2 * 2 + 1) with e | e
  · rw [e] at hu ⊢; rw [g0] at hu; cases hu; exact c0
  · rw [e] at hu ⊢; rw [g1] at hu; cases hu; exact c1
theorem flat2_rd {w : World} {A : Option Addr} {n : Nat} {q : List (Int × Int)} (h : RdK w A n q) : (flat2 q).length = n * 2 := by rw [flat2_length, h.1]
theorem trips_one (W : World) (x y z : Int) (T : TypeId) (hx : (Lit.int .i64 x).wf = true) (hy : (Lit.int .i64 y).wf = true) (hz : (Lit.int .i64 z).wf = true) :
    Row0.IsTrips .i64 (W.alloc (.cells #[.int .i64 x, .int .i64 y, .int .i64 z] T)) (some ⟨W.heap.size, 0, none⟩) 1 1 [(x, y, z)] := by
  have h : (W.alloc (.cells #[.int .i64 x, .int .i64 y, .int .i64 z] T)).heap[W.heap.size]? = some (.cells #[.int .i64 x, .int .i64 y, .int .i64 z] T (0, 0)) := heap_alloc_new _ _
  generalize W.alloc (.cells #[.int .i64 x, .int .i64 y, .int .i64 z] T) = V at *
  generalize W.heap.size = k at *
  refine ⟨Nat.le_refl _, by decide, fun _ => ⟨k, 0, rfl⟩, rfl, fun p hp => by simp at hp; subst hp; exact ⟨hx, hy, hz⟩, fun b o e j hj => ?_⟩
  obtain rfl : j = 0 := by omega
  cases e
  simp [World.cell?, h]
theorem pairs_one (W : World) (x y : Int) (T : TypeId) (hx : (Lit.int .i64 x).wf = true) (hy : (Lit.int .i64 y).wf = true) :
    Row0.IsPairs .i64 .i64 (W.alloc (.cells #[.int .i64 x, .int .i64 y] T)) (some ⟨W.heap.size, 0, none⟩) 1 1 [(x, y)] := by
  have h : (W.alloc (.cells #[.int .i64 x, .int .i64 y] T)).heap[W.heap.size]? = some (.cells #[.int .i64 x, .int .i64 y] T (0, 0)) := heap_alloc_new _ _
  generalize W.alloc (.cells #[.int .i64 x, .int .i64 y] T) = V at *
  generalize W.heap.size = k at *
  refine ⟨Nat.le_refl _, by decide, fun _ => ⟨k, 0, rfl⟩, rfl, fun p hp => by simp at hp; subst hp; exact ⟨hx, hy⟩, fun b o e j hj => ?_⟩
  obtain rfl : j = 0 := by omega
  cases e
  simp [World.cell?, h]
theorem cells5 {W w' : World} {a b c d e : Int} {T : TypeId} (h : Below (W.heap.size + 1) (W.alloc (.cells #[.int .i64 a, .int .i64 b, .int .i64 c, .int .i64 d, .int .i64 e] T)) w') :
    w'.cell? ⟨W.heap.size, 0, none⟩ = some (.int .i64 a) ∧ w'.cell? ⟨W.heap.size, 1, none⟩ = some (.int .i64 b) ∧ w'.cell? ⟨W.heap.size, 2, none⟩ = some (.int .i64 c) ∧ w'.cell? ⟨W.heap.size, 3, none⟩ = some (.int .i64 d) ∧ w'.cell? ⟨W.heap.size, 4, none⟩ = some (.int .i64 e) := by
  have h : w'.heap[W.heap.size]? = some (.cells #[.int .i64 a, .int .i64 b, .int .i64 c, .int .i64 d, .int .i64 e] T (0, 0)) := (h.block _ (Nat.lt_succ_self _)).trans (heap_alloc_new _ _)
  generalize W.heap.size = k at *
  simp [World.cell?, h]

set_option maxHeartbeats 16000000 in
set_option maxRecDepth 100000 in
theorem QpaMore_walk (a0 : Option Addr) (len0 cap0 : Nat) (z0 : List (Int × Int × Int)) (a1 : Option Addr) (len1 cap1 : Nat) (z1 : List (Int × Int)) (a2x0 a2x1 a2x2 a2x3 a2x4 : Int) (W : World) (w0 : Row0.IsTrips .i64 W a0 len0 cap0 z0) (w1 : Row0.IsPairs .i64 .i64 W a1 len1 cap1 z1)
    (w2x0 : (Lit.int .i64 a2x0).wf = true) (w2x1 : (Lit.int .i64 a2x1).wf = true) (w2x2 : (Lit.int .i64 a2x2).wf = true) (w2x3 : (Lit.int .i64 a2x3).wf = true) (w2x4 : (Lit.int .i64 a2x4).wf = true) :
    Calls Try.prog 5 #[.slice a0 len0 cap0, .slice a1 len1 cap1, .agg #[.int .i64 a2x0, .int .i64 a2x1, .int .i64 a2x2, .int .i64 a2x3, .int .i64 a2x4]] W fun e w' => e = .returned (.bool true) ∧ Below W.heap.size W w' := by
  obtain ⟨i0, hi0, hz0, hz1, hz2⟩ := info_parts infoD
  obtain ⟨j0, hj0, hy0, hy1, hy2⟩ := info_parts infoK
  have HP := Lib.hid w0
  have HQ := Lib.hid w1
  have HWT := Lib.hid (And.intro w2x0 (And.intro w2x1 w2x2))
  have HWP := Lib.hid (And.intro w2x3 w2x4)
  clear w0 w1 w2x0 w2x1 w2x2 w2x3 w2x4
  have hw0 : Below W.heap.size W (W.alloc (.cells #[.int .i64 a2x0, .int .i64 a2x1, .int .i64 a2x2, .int .i64 a2x3, .int .i64 a2x4] 46)) := (Below.refl _ W).alloc (Nat.le_refl _) _
  have hc5 := fun (w' : World) (h : Below (W.heap.size + 1) (W.alloc (.cells #[.int .i64 a2x0, .int .i64 a2x1, .int .i64 a2x2, .int .i64 a2x3, .int .i64 a2x4] 46)) w') => cells5 h
  have hs0 : (W.alloc (.cells #[.int .i64 a2x0, .int .i64 a2x1, .int .i64 a2x2, .int .i64 a2x3, .int .i64 a2x4] 46)).heap.size = W.heap.size + 1 := World.size_alloc _ _
  have HC5 := Lib.hid hc5
  have HW0 := Lib.hid hw0
  have HS0 := Lib.hid hs0
  clear hw0 hc5 hs0
  go_enter Try.func5, Try.ntmps5
  go_wp2_with fail
  refine (awakeQ_any _).mono ?_
  rintro e W1 ⟨rfl, hb1⟩
  rw [HS0.out] at hb1
  have hB1 : Hid (Below (W.heap.size + 1) (W.alloc (.cells #[.int .i64 a2x0, .int .i64 a2x1, .int .i64 a2x2, .int .i64 a2x3, .int .i64 a2x4] 46)) W1) := hb1
  have hsz1 : W.heap.size + 1 ≤ W1.heap.size := by rw [← HS0.out]; exact hb1.size
  have HB1 : Hid (Below W.heap.size W W1) := HW0.out.trans (hb1.mono (Nat.le_succ _))
  clear hb1
  go_wp2_with fail
  have hp1 : Row0.IsTrips .i64 W1 a0 len0 cap0 z0 := HP.out.below HB1.out (Nat.le_refl _)
  refine (madeQ_any a0 len0 cap0 z0 W1 hp1).mono ?_
  rintro e W2 ⟨v1, l, rfl, hsm, hln, hown1, hb2⟩
  have hn1 : min len0 6 ≤ 6 := Nat.min_le_right _ _
  generalize min len0 6 = n at *
  obtain ⟨A, c, rfl, hrd1, _, _, _, hzA⟩ := own_rdD hown1 (by omega)
  have HR2 := Lib.hid hrd1
  have hB2 : Hid (Below (W.heap.size + 1) _ W2) := hB1.out.trans (hb2.mono hsz1)
  have hsz2 : W.heap.size + 1 ≤ W2.heap.size := Nat.le_trans hsz1 hb2.size
  have HB2 : Hid (Below W.heap.size W W2) := HB1.out.trans (hb2.mono HB1.out.size)
  have HZA := Lib.hid hzA
  clear hown1 hb2 hp1 HB1 hB1 HP hrd1 hzA
  go_wp2_with fail
  have hp2 : Row0.IsPairs .i64 .i64 W2 a1 len1 cap1 z1 := pairs_below HQ.out HB2.out (Nat.le_refl _)
  refine (held_any a1 len1 cap1 z1 W2 hp2).mono ?_
  rintro e W3 ⟨v2, q, rfl, hsq, hlq, hown2, hb3⟩
  have hn2 : min len1 6 ≤ 6 := Nat.min_le_right _ _
  generalize min len1 6 = m at *
  obtain ⟨A2, c2, rfl, hrk, _, _, _, hzA2⟩ := own_rdK hown2 (by omega)
  have hB3 : Hid (Below (W.heap.size + 1) _ W3) := hB2.out.trans (hb3.mono hsz2)
  have hsz3 : W.heap.size + 1 ≤ W3.heap.size := Nat.le_trans hsz2 hb3.size
  have HB3 : Hid (Below W.heap.size W W3) := HB2.out.trans (hb3.mono HB2.out.size)
  have HR3 := Lib.hid (HR2.out.below hb3 (Nat.le_refl _))
  have HK3 := Lib.hid hrk
  have HZ2 := Lib.hid hzA2
  obtain ⟨k0, k1, k2, k3, k4⟩ := HC5.out W3 hB3.out
  have HTr := Lib.hid (trips_one W3 a2x0 a2x1 a2x2 43 HWT.out.1 HWT.out.2.1 HWT.out.2.2)
  clear hown2 hb3 hp2 HB2 hB2 HQ hrk HR2 hzA2
  go_wp2_with fail
  refine (madeQ_any _ 1 1 _ _ HTr.out).mono ?_
  rintro e W4 ⟨v3, xs, rfl, hsx, hlx, hown3, hb4⟩
  rw [show min 1 6 = 1 from rfl] at hlx hown3
  obtain ⟨x, rfl⟩ : ∃ x, xs = [x] := by
    match xs, hlx with
    | [x], _ => exact ⟨x, rfl⟩
  have hb4' : Below W3.heap.size W3 W4 := ((Below.refl _ W3).alloc (Nat.le_refl _) _).trans (hb4.mono (by simp))
  obtain ⟨A3, c3, rfl, hrx, _, _, _, hzA3⟩ := own_rdD hown3 (by omega)
  have hB4 : Hid (Below (W.heap.size + 1) _ W4) := hB3.out.trans (hb4'.mono hsz3)
  have hsz4 : W.heap.size + 1 ≤ W4.heap.size := Nat.le_trans hsz3 hb4'.size
  have HB4 : Hid (Below W.heap.size W W4) := HB3.out.trans (hb4'.mono HB3.out.size)
  have HR4 := Lib.hid (HR3.out.below hb4' (Nat.le_refl _))
  have HK4 := Lib.hid (HK3.out.below hb4' (Nat.le_refl _))
  have HX4 := Lib.hid hrx
  have HZ3 := Lib.hid hzA3
  obtain ⟨m0, m1, m2, m3, m4⟩ := HC5.out W4 hB4.out
  have HPr := Lib.hid (pairs_one W4 a2x3 a2x4 44 HWP.out.1 HWP.out.2)
  clear hown3 hb4 hb4' HB3 hB3 HR3 HK3 hrx hzA3 k0 k1 k2 k3 k4 HTr
  go_wp2_with fail
  refine (held_any _ 1 1 _ _ HPr.out).mono ?_
  rintro e W5 ⟨v4, y, rfl, hsy, hly, hown4, hb5⟩
  rw [show min 1 6 = 1 from rfl] at hly hown4
  have hb5' : Below W4.heap.size W4 W5 := ((Below.refl _ W4).alloc (Nat.le_refl _) _).trans (hb5.mono (by simp))
  obtain ⟨A4, c4, rfl, hry, _, _, _, hzA4⟩ := own_rdK hown4 (by omega)
  have HB5 : Hid (Below W.heap.size W W5) := HB4.out.trans (hb5'.mono HB4.out.size)
  have HR5 := Lib.hid (HR4.out.below hb5' (Nat.le_refl _))
  have HK5 := Lib.hid (HK4.out.below hb5' (Nat.le_refl _))
  have HX5 := Lib.hid (HX4.out.below hb5' (Nat.le_refl _))
  have HY5 := Lib.hid hry
  have HZ4 := Lib.hid hzA4
  -- the plain part
  have hsml : Smalls (l ++ [x]) := fun a ha => (List.mem_append.1 ha).elim (hsm a) (hsx a)
  have hsmq : SmallsB (q ++ y) := fun a ha => (List.mem_append.1 ha).elim (hsq a) (hsy a)
  obtain ⟨P, hP, hP1⟩ := small_le hsm
  obtain ⟨P', hP', hP1'⟩ := small_le hsml
  have h1 : testI (l ++ [x]) q P' = 0 → testI l q P = 0 := fun h => test_fine.2 (fine_less hsml.oks hP hP' (test_fine.1 h))
  have h2 : testI l (q ++ y) P = 0 → testI l q P = 0 := fun h => test_fine.2 (fine_held hsm.oks hP (test_fine.1 h))
  have o1 := test_or (l ++ [x]) q P'
  have o2 := test_or l (q ++ y) P
  have o3 := test_or l q P
  have HO1 := Lib.hid (And.intro hsml.oks (And.intro hP' (show P' ≤ 1048575 by omega)))
  have HO2 := Lib.hid (And.intro hsm.oks (And.intro hP (show P ≤ 1048575 by omega)))
  have HQ1 := Lib.hid (And.intro hsq.oks hsmq.oks)
  obtain ⟨E1, hE1⟩ : ∃ E1, testI (l ++ [x]) q P' = E1 := ⟨_, rfl⟩
  obtain ⟨E2, hE2⟩ : ∃ E2, testI l (q ++ y) P = E2 := ⟨_, rfl⟩
  obtain ⟨E3, hE3⟩ : ∃ E3, testI l q P = E3 := ⟨_, rfl⟩
  rw [hE1] at h1 o1
  rw [hE2] at h2 o2
  rw [hE3] at h1 h2 o3
  have HE1 := Lib.hid hE1
  have HE2 := Lib.hid hE2
  have HE3 := Lib.hid hE3
  have HH := Lib.hid (And.intro (And.intro h1 h2) (And.intro o1 (And.intro o2 o3)))
  clear hown4 hb5 hb5' HB4 hB4 HR4 HK4 HX4 hry hzA4 m0 m1 m2 m3 m4 HPr hsm hsq hsx hsy hsml hsmq hP hP' h1 h2 o1 o2 o3 hE1 hE2 hE3
  -- more work
  have hD0 : Hid ((W5.alloc (.cells #[] 32)).ownsRow W5.heap.size 32 3 (.slice (some ⟨W5.heap.size, 0, none⟩) 0 0) 0 (flat3 [])) :=
    ⟨rfl, .inr ⟨W5.heap.size, 0, #[], rfl, Nat.le_refl _, heap_alloc_new _ _, Nat.le_refl _, by unfold maxLen; decide, rfl, rfl⟩⟩
  have hL1 := Lib.hid (flat3_rd HR5.out)
  have hL2 := Lib.hid (flat3_rd HX5.out)
  have hN1 : Hid (∀ ad, A = some ad → ∀ j u, (flat3 l)[j]? = some u → (W5.alloc (.cells #[] 32)).cell? (ad.add j) = some u) :=
    news3 (HR5.out.below ((Below.refl _ W5).alloc (Nat.le_refl _) _) (Nat.le_refl _))
  have hN2 : Hid (∀ W6, (W5.alloc (.cells #[] 32)).grownBy W6 (some W5.heap.size) → ∀ ad, A3 = some ad → ∀ j u, (flat3 [x])[j]? = some u → W6.cell? (ad.add j) = some u) := fun W6 hg =>
    news3 (HX5.out.below (((Below.refl _ W5).alloc (Nat.le_refl _) _).grown hg (by simp) (fun j e => by cases e; exact Nat.le_refl _)) (Nat.le_refl _))
  go_wp2_with (first
    | (at_builtin; refine Row0.wpList_append_sl rfl (.tmp 28) (.tmp 29) 25 rfl W5.heap.size 32 i0 (.agg #[.int .i64 0, .int .i64 0, .int .i64 0]) 3 24 Try.underlying25 hi0 hz0 hz1 hz2 rfl (by decide) _ _ _ rfl hD0.out A n c (flat3 l) rfl HZA.out hL1.out hN1.out (flat3_one _) (by unfold maxLen; omega) (by omega) (by simp) ?_; intro v6 W6 ho6 hg6; replace hg6 : (W5.alloc (.cells #[] 32)).grownBy W6 (some W5.heap.size) := hg6)
    | (at_builtin; refine Row0.wpList_append_sl rfl (.tmp 30) (.tmp 31) 25 rfl W5.heap.size 32 i0 (.agg #[.int .i64 0, .int .i64 0, .int .i64 0]) 3 24 Try.underlying25 hi0 hz0 hz1 hz2 rfl (by decide) v6 (0 + n) (flat3 [] ++ flat3 l) rfl ho6 A3 1 c3 (flat3 [x]) rfl HZ3.out hL2.out (hN2.out W6 hg6) (flat3_one _) (by unfold maxLen; omega) (by omega) (by have := hg6.size; simp at this; omega) ?_; intro v7 W7 ho7 hg7))
  have hB7 : Below W5.heap.size W5 W7 := (((Below.refl _ W5).alloc (Nat.le_refl _) _).grown hg6 (by simp) (fun j e => by cases e; exact Nat.le_refl _)).grown hg7 (by have := hg6.size; simp at this; omega) (fun j e => (ho6.lt j e).1)
  rw [show flat3 [] ++ flat3 l ++ flat3 [x] = flat3 (l ++ [x]) by rw [flat3_append]; rfl] at ho7
  simp only [Nat.zero_add] at ho7
  obtain ⟨A7, c7, rfl, hrd7, _, _, _, _⟩ := own_rdD ho7 (by omega)
  have HR7 := Lib.hid (HR5.out.below hB7 (Nat.le_refl _))
  have HK7 := Lib.hid (HK5.out.below hB7 (Nat.le_refl _))
  have HX7 := Lib.hid (HX5.out.below hB7 (Nat.le_refl _))
  have HY7 := Lib.hid (HY5.out.below hB7 (Nat.le_refl _))
  have HT1 := Lib.hid (test_any A7 (n + 1) c7 (l ++ [x]) HO1.out.1 P' HO1.out.2.1 HO1.out.2.2 A2 m c2 q HQ1.out.1 W7 hrd7 HK7.out)
  rw [HE1.out] at HT1
  have HB7 : Hid (Below W.heap.size W W7) := HB5.out.trans (hB7.mono HB5.out.size)
  clear hB7 ho7 hg7 ho6 hg6 hN1 hN2 hL1 hL2 hD0 hrd7 HR5 HK5 HX5 HY5 HB5
  refine HT1.out.mono ?_
  rintro e W8 ⟨rfl, hb8⟩
  have HR8 := Lib.hid (HR7.out.below hb8 (Nat.le_refl _))
  have HK8 := Lib.hid (HK7.out.below hb8 (Nat.le_refl _))
  have HX8 := Lib.hid (HX7.out.below hb8 (Nat.le_refl _))
  have HY8 := Lib.hid (HY7.out.below hb8 (Nat.le_refl _))
  have HB8 : Hid (Below W.heap.size W W8) := HB7.out.trans (hb8.mono HB7.out.size)
  clear hb8 HR7 HK7 HX7 HY7 HB7 HT1
  -- more held
  have hD0 : Hid ((W8.alloc (.cells #[] 50)).ownsRow W8.heap.size 50 2 (.slice (some ⟨W8.heap.size, 0, none⟩) 0 0) 0 (flat2 [])) :=
    ⟨rfl, .inr ⟨W8.heap.size, 0, #[], rfl, Nat.le_refl _, heap_alloc_new _ _, Nat.le_refl _, by unfold maxLen; decide, rfl, rfl⟩⟩
  have hL1 := Lib.hid (flat2_rd HK8.out)
  have hL2 := Lib.hid (flat2_rd HY8.out)
  have hN1 : Hid (∀ ad, A2 = some ad → ∀ j u, (flat2 q)[j]? = some u → (W8.alloc (.cells #[] 50)).cell? (ad.add j) = some u) :=
    newsK (HK8.out.below ((Below.refl _ W8).alloc (Nat.le_refl _) _) (Nat.le_refl _))
  have hN2 : Hid (∀ W6, (W8.alloc (.cells #[] 50)).grownBy W6 (some W8.heap.size) → ∀ ad, A4 = some ad → ∀ j u, (flat2 y)[j]? = some u → W6.cell? (ad.add j) = some u) := fun W6 hg =>
    newsK (HY8.out.below (((Below.refl _ W8).alloc (Nat.le_refl _) _).grown hg (by simp) (fun j e => by cases e; exact Nat.le_refl _)) (Nat.le_refl _))
  go_wp2_with (first
    | (at_builtin; refine Row0.wpList_append_sl rfl (.tmp 36) (.tmp 37) 27 rfl W8.heap.size 50 j0 (.agg #[.int .i64 0, .int .i64 0]) 2 16 Try.underlying27 hj0 hy0 hy1 hy2 rfl (by decide) _ _ _ rfl hD0.out A2 m c2 (flat2 q) rfl HZ2.out hL1.out hN1.out (flat2_one _) (by unfold maxLen; omega) (by omega) (by simp) ?_; intro v6 W6 ho6 hg6; replace hg6 : (W8.alloc (.cells #[] 50)).grownBy W6 (some W8.heap.size) := hg6)
    | (at_builtin; refine Row0.wpList_append_sl rfl (.tmp 38) (.tmp 39) 27 rfl W8.heap.size 50 j0 (.agg #[.int .i64 0, .int .i64 0]) 2 16 Try.underlying27 hj0 hy0 hy1 hy2 rfl (by decide) v6 (0 + m) (flat2 [] ++ flat2 q) rfl ho6 A4 1 c4 (flat2 y) rfl HZ4.out hL2.out (hN2.out W6 hg6) (flat2_one _) (by unfold maxLen; omega) (by omega) (by have := hg6.size; simp at this; omega) ?_; intro v7 W9 ho7 hg7))
  have hB9 : Below W8.heap.size W8 W9 := (((Below.refl _ W8).alloc (Nat.le_refl _) _).grown hg6 (by simp) (fun j e => by cases e; exact Nat.le_refl _)).grown hg7 (by have := hg6.size; simp at this; omega) (fun j e => (ho6.lt j e).1)
  rw [show flat2 [] ++ flat2 q ++ flat2 y = flat2 (q ++ y) by rw [flat2_append]; rfl] at ho7
  simp only [Nat.zero_add] at ho7
  obtain ⟨A9, c9, rfl, hrk9, _, _, _, _⟩ := own_rdK ho7 (by omega)
  have HR9 := Lib.hid (HR8.out.below hB9 (Nat.le_refl _))
  have HK9 := Lib.hid (HK8.out.below hB9 (Nat.le_refl _))
  have HX9 := Lib.hid (HX8.out.below hB9 (Nat.le_refl _))
  have HT2 := Lib.hid (test_any A n c l HO2.out.1 P HO2.out.2.1 HO2.out.2.2 A9 (m + 1) c9 (q ++ y) HQ1.out.2 W9 HR9.out hrk9)
  rw [HE2.out] at HT2
  have HB9 : Hid (Below W.heap.size W W9) := HB8.out.trans (hB9.mono HB8.out.size)
  clear hB9 ho7 hg7 ho6 hg6 hN1 hN2 hL1 hL2 hD0 hrk9 HR8 HK8 HX8 HY8 HB8
  refine HT2.out.mono ?_
  rintro e V1 ⟨rfl, hb⟩
  have HRV := Lib.hid (HR9.out.below hb (Nat.le_refl _))
  have HKV := Lib.hid (HK9.out.below hb (Nat.le_refl _))
  have HXV := Lib.hid (HX9.out.below hb (Nat.le_refl _))
  have HBV : Hid (Below W.heap.size W V1) := HB9.out.trans (hb.mono HB9.out.size)
  have HT3 := Lib.hid (test_any A n c l HO2.out.1 P HO2.out.2.1 HO2.out.2.2 A2 m c2 q HQ1.out.1 V1 HRV.out HKV.out)
  rw [HE3.out] at HT3
  clear hb HR9 HK9 HX9 HB9 HT2
  go_wp2_with fail
  refine HT3.out.mono ?_
  rintro e V2 ⟨rfl, hb⟩
  have HRU := Lib.hid (HRV.out.below hb (Nat.le_refl _))
  have HKU := Lib.hid (HKV.out.below hb (Nat.le_refl _))
  have hx := HXV.out.below hb (Nat.le_refl _)
  have HBU : Hid (Below W.heap.size W V2) := HBV.out.trans (hb.mono HBV.out.size)
  clear hb HRV HKV HXV HBV HT3
  have HF := Lib.hid (fits_any A n c l HZA.out (by omega) x HO1.out.1 P' HO1.out.2.1 HO1.out.2.2 A2 m c2 q HQ1.out.1 V2 HRU.out HKU.out)
  rw [HE1.out] at HF
  obtain ⟨g, og, rfl, hcx⟩ := hx.2.2 (by decide)
  obtain ⟨s0, s1, s2⟩ := hcx 0 (by decide)
  simp only [Nat.zero_mul, Nat.add_zero, List.getD_cons_zero] at s0 s1 s2
  unfold demV at HF
  generalize x.c = C at *
  generalize x.d = D at *
  generalize x.t = T at *
  obtain ⟨⟨h1, h2⟩, o1, o2, o3⟩ := HH.out
  clear HH HO1 HO2 HQ1 HE1 HE2 HE3 HRU HKU hx hcx HZA HZ2 HZ3 HZ4
  rcases o1 with rfl | rfl <;> rcases o2 with rfl | rfl <;> rcases o3 with rfl | rfl
  all_goals first
    | (exfalso; have := h1 rfl; omega)
    | (exfalso; have := h2 rfl; omega)
    | (clear h1 h2
       go_wp2_with fail
       refine HF.out.mono ?_
       rintro e V3 ⟨rfl, hb⟩
       have HBZ : Hid (Below W.heap.size W V3) := HBU.out.trans (hb.mono HBU.out.size)
       clear hb HF
       go_wp2
       go_ret
       exact ⟨rfl, HBZ.out⟩)
end Go.Proofs.Ytajkckjpfbkpmaa.Dem
