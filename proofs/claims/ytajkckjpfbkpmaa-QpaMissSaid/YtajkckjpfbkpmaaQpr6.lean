/-
  The statement QpaMiss, walked.
-/
import Derived.Test.YtajkckjpfbkpmaaQpr5
import Derived.Test.YtajkckjpfbkpmaaQpa8
namespace Go.Proofs.Ytajkckjpfbkpmaa.Dem
open Go.RowKit Go.Shelf Go.Proofs.Ytajkckjpfbkpmaa.Ari Go.Proofs.Ytajkckjpfbkpmaa.Box

theorem find_dls {l : List Dm} (ho : Oks l) (hl : l ≠ []) (p : Int → Bool) (til : Int) : ∀ (k : Nat) (x : Int), (til - x).toNat ≤ k → IsDl l x → ∀ t, (dls l til x).find? p = some t → p t = true ∧ ∀ u, x ≤ u → u < t → IsDl l u → p u = false := by
  intro k
  induction k with
  | zero => intro x h _ t ht; rw [dls_end (by omega)] at ht; simp at ht
  | succ k ih =>
    intro x h hx t ht
    by_cases hlt : x < til
    · have hg := next_gt ho hl x
      rw [dls_step ho hl hlt, List.find?_cons] at ht
      cases hp : p x with
      | true =>
        rw [hp] at ht
        injection ht with ht
        subst ht
        exact ⟨hp, fun u h1 h2 _ => by omega⟩
      | false =>
        rw [hp] at ht
        obtain ⟨g1, g2⟩ := ih (nextI l x) (by omega) (isDl_next hl ho) t ht
        refine ⟨g1, fun u h1 h2 h3 => ?_⟩
        by_cases he : u = x
        · subst he; exact hp
        · exact g2 u (isDl_ge ho h3 (by omega)) h2 h3
    · rw [dls_end hlt] at ht; simp at ht
/-- What the first time at which it is too much is. -/
theorem miss_some {l : List Dm} (ho : Oks l) {q : List (Int × Int)} {P t : Int} (h : missOf l q P = some t) : l ≠ [] ∧ t ≤ endI q P ∧ IsDl l t ∧ ∀ u, IsDl l u → u ≤ t → (leftI l q u < 0 ↔ u = t) := by
  have hm : t ∈ pts l q P := List.mem_of_find?_eq_some h
  have hne : l ≠ [] := by rintro rfl; simp [pts] at hm
  obtain ⟨h1, h2⟩ := (mem_pts ho).1 hm
  refine ⟨hne, h1, h2, fun u hu hut => ?_⟩
  unfold missOf pts at h
  rw [if_neg hne] at h
  obtain ⟨g1, g2⟩ := find_dls ho hne _ _ _ _ (Nat.le_refl _) (isDl_next hne ho) t h
  constructor
  · intro hlt
    by_cases he : u = t
    · exact he
    · have := g2 u (isDl_ge ho hu (isDl_pos ho hu)) (by omega) hu
      simp at this
      omega
  · rintro rfl
    simpa using g1
theorem nextr_at {W : World} {A : Option Addr} {n : Nat} {l : List Dm} (hr : RdD W A n l) (c : Nat) (ho : Oks l) : ∀ w s, Below W.heap.size W w → 0 ≤ s → s ≤ 2097152 →
    Hid (Calls Try.prog 15 #[.slice A n c, .int .i64 s] w fun e w' => e = .returned (.agg #[.int .i64 (nextI l s), .bool (decide (0 < n))]) ∧ Below w.heap.size w w') :=
  fun w s hb h0 h1 => nextr_any A n c l ho s h0 h1 w (hr.below hb (Nat.le_refl _))
theorem ofr_at {W : World} {A : Option Addr} {n : Nat} {l : List Dm} (hr : RdD W A n l) (c : Nat) (ho : Oks l) : ∀ w s, Below W.heap.size W w → 0 ≤ s → s ≤ 2097152 →
    Hid (Calls Try.prog 16 #[.slice A n c, .int .i64 s] w fun e w' => e = .returned (.agg #[.int .i64 (work l s), .bool true]) ∧ Below w.heap.size w w') :=
  fun w s hb h0 h1 => ofr_any A n c l ho s h0 h1 w (hr.below hb (Nat.le_refl _))
theorem at_at {W : World} {A2 : Option Addr} {m : Nat} {q : List (Int × Int)} (hq : RdK W A2 m q) (c2 : Nat) : ∀ w s, Below W.heap.size W w →
    Hid (Calls Try.prog 12 #[.slice A2 m c2, .int .i64 s] w fun e w' => e = .returned (.int .i64 (heldAt q s)) ∧ Below w.heap.size w w') :=
  fun w s hb => at_any A2 m c2 q s w (hq.below hb (Nat.le_refl _))
theorem loadr_at {W : World} {A : Option Addr} {n : Nat} {l : List Dm} (hr : RdD W A n l) (c : Nat) (ho : Oks l) {P : Int} (hP : Per l P) : ∀ w, Below W.heap.size W w →
    Hid (Calls Try.prog 14 #[.slice A n c] w fun e w' => e = .returned (.agg #[.int .i64 (loadI l P), .int .i64 P, .int .i64 0]) ∧ Below w.heap.size w w') :=
  fun w hb => loadr_any A n c l ho P hP w (hr.below hb (Nat.le_refl _))
theorem test_17 {l : List Dm} {q : List (Int × Int)} {P : Int} (h : (missOf l q P).isSome = true) : testI l q P = 17 := by
  unfold testI
  rw [if_neg]
  rintro ⟨_, e⟩
  rw [e] at h
  simp at h
theorem test_load {l : List Dm} {q : List (Int × Int)} {P : Int} (h : (missOf l q P).isSome = false) : (testI l q P == 0) = decide (loadI l P ≤ P) := by
  have hn : missOf l q P = none := by cases hm : missOf l q P with
    | none => rfl
    | some t => rw [hm] at h; simp at h
  unfold testI
  by_cases hle : loadI l P ≤ P
  · rw [if_pos ⟨hle, hn⟩]; simpa using hle
  · rw [if_neg fun e => hle e.1]; simp; omega

set_option maxHeartbeats 8000000 in
set_option maxRecDepth 100000 in
theorem QpaMiss_walk (a0 : Option Addr) (len0 cap0 : Nat) (z0 : List (Int × Int × Int)) (a1 : Option Addr) (len1 cap1 : Nat) (z1 : List (Int × Int)) (W : World) (w0 : Row0.IsTrips .i64 W a0 len0 cap0 z0) (w1 : Row0.IsPairs .i64 .i64 W a1 len1 cap1 z1) :
    Calls Try.prog 4 #[.slice a0 len0 cap0, .slice a1 len1 cap1] W fun e w' => e = .returned (.bool true) ∧ Below W.heap.size W w' := by
  have HP := Lib.hid w0
  have HQ := Lib.hid w1
  clear w0 w1
  go_enter Try.func4, Try.ntmps4
  go_wp2_with fail
  refine (awakeQ_any W).mono ?_
  rintro e W1 ⟨rfl, hb1⟩
  have HB1 := Lib.hid hb1
  clear hb1
  go_wp2_with fail
  have hp1 : Row0.IsTrips .i64 W1 a0 len0 cap0 z0 := HP.out.below HB1.out (Nat.le_refl _)
  refine (madeQ_any a0 len0 cap0 z0 W1 hp1).mono ?_
  rintro e W2 ⟨v1, l, rfl, hsm, hln, hown1, hb2⟩
  have hn1 : min len0 6 ≤ 6 := Nat.min_le_right _ _
  generalize min len0 6 = n at *
  obtain ⟨A, c, rfl, hrd1, _, _, _, _⟩ := own_rdD hown1 (by omega)
  have HR2 := Lib.hid hrd1
  have HB2 : Hid (Below W.heap.size W W2) := HB1.out.trans (hb2.mono HB1.out.size)
  clear hown1 hb2 hp1 HB1 HP hrd1
  go_wp2_with fail
  have hp2 : Row0.IsPairs .i64 .i64 W2 a1 len1 cap1 z1 := pairs_below HQ.out HB2.out (Nat.le_refl _)
  refine (held_any a1 len1 cap1 z1 W2 hp2).mono ?_
  rintro e W3 ⟨v2, q, rfl, hsq, hlq, hown2, hb3⟩
  have hn2 : min len1 6 ≤ 6 := Nat.min_le_right _ _
  generalize min len1 6 = m at *
  obtain ⟨A2, c2, rfl, hrk, _, _, _, _⟩ := own_rdK hown2 (by omega)
  have HB3 : Hid (Below W.heap.size W W3) := HB2.out.trans (hb3.mono HB2.out.size)
  have HR3 := HR2.out.below hb3 (Nat.le_refl _)
  obtain ⟨P, hP, hP1⟩ := per_le hsm
  have ho := hsm.oks
  have hoq := hsq.oks
  have hln2 : l.length = n := hln
  have hT := test_at HR3 c ho hP hP1 hrk c2 hoq
  have hM := missQ_at HR3 c ho hP hP1 hrk c2 hoq
  have hN := nextr_at HR3 c ho
  have hO := ofr_at HR3 c ho
  have hL := loadr_at HR3 c ho hP
  have hA := at_at hrk c2
  have hms := miss_bd ho hoq hP.pos hP1
  have h0n : n = 0 → l = [] := fun e => by cases l; rfl; simp at hln2; omega
  have heb := end_bd hoq hP.pos hP1
  have hs17 : Hid ((missOf l q P).isSome = true → testI l q P = 17) := test_17
  have hsl : Hid ((missOf l q P).isSome = false → (testI l q P == 0) = decide (loadI l P ≤ P)) := test_load
  have hmz : Hid ((missOf l q P).isSome = false → missT l q P = 0) := fun h => by
    unfold missT
    cases hm : missOf l q P with
    | none => rfl
    | some t => rw [hm] at h; simp at h
  have hmf : Hid ((missOf l q P).isSome = true → l ≠ [] ∧ missT l q P ≤ 1048575 ∧ ∀ u, IsDl l u → u ≤ missT l q P → (leftI l q u < 0 ↔ u = missT l q P)) := fun h => by
    unfold missT
    cases hm : missOf l q P with
    | none => rw [hm] at h; simp at h
    | some t =>
      obtain ⟨g1, g2, g3, g4⟩ := miss_some ho hm
      exact ⟨g1, by show t ≤ _; omega, g4⟩
  clear hown2 hb3 hp2 HB2 HQ HR2 hsm hsq
  have HO := Lib.hid ho
  have HOQ := Lib.hid hoq
  generalize missT l q P = t at *
  generalize testI l q P = E at *
  generalize loadI l P = L at *
  clear ho hoq hP hP1 heb HR3 hrk
  go_wp2_with fail
  refine (hM _ (Below.refl _ _)).out.mono ?_
  rintro e W4 ⟨rfl, hb⟩
  have Hb4 : Hid (Below W3.heap.size W3 W4) := hb
  clear hb hM
  cases hU : (missOf l q P).isSome with
  | false =>
    have hs := hsl.out hU
    have ht := hmz.out hU
    subst ht
    have HS := Lib.hid hs
    clear hs hsl hmz hs17 hmf hU hN hO hA hms h0n
    go_wp2_with fail
    refine (hL _ Hb4.out).out.mono ?_
    rintro e W5 ⟨rfl, hb⟩
    have HB5 : Hid (Below W4.heap.size W4 W5) := hb
    clear hb
    go_upto_region 7 with fail
    have hb := HB5.out
    obtain ⟨V, hV⟩ : ∃ V, W5.alloc (.cells #[.int .i64 L, .int .i64 P, .int .i64 0] 38) = V := ⟨_, rfl⟩
    have HBV : Hid (Below W3.heap.size W3 V) := by rw [← hV]; exact (Hb4.out.trans (hb.mono Hb4.out.size)).alloc (Nat.le_trans Hb4.out.size hb.size) _
    have hNV : Hid (V.heap[W5.heap.size]? = some (.cells #[.int .i64 L, .int .i64 P, .int .i64 0] 38 (0, 0))) := by rw [← hV]; exact bx_new _ _ _
    rw [hV]
    clear hV hb HB5 Hb4 hL
    generalize W5.heap.size = b5 at *
    have hb5 := bx_lt hNV.out
    have hkeep : ∀ w', Below V.heap.size V w' → w'.cell? ⟨b5, 0, none⟩ = some (.int .i64 L) ∧ w'.cell? ⟨b5, 1, none⟩ = some (.int .i64 P) := fun w' h => by
      obtain ⟨q0, q1, _⟩ := bx_three ((h.block _ hb5).trans hNV.out)
      exact ⟨q0, q1⟩
    obtain ⟨c0, c1⟩ := hkeep V (Below.refl _ _)
    have hkD : ∀ w', Below V.drew.heap.size V.drew w' → Below V.heap.size V w' := fun w' h => (Below.refl _ V).drew.trans h
    have hTV := hT V.drew HBV.out.drew
    clear hT
    have HBZ : Hid (Below W.heap.size W V) := HB3.out.trans (HBV.out.mono HB3.out.size)
    cases hD : decide (L ≤ P) with
    | false =>
      have hE := HS.out
      rw [hD] at hE
      clear HS HBV hNV HB3
      go_region_held3 (fun w' => w'.cell? ⟨b5, 0, none⟩ = some (.int .i64 L) ∧ w'.cell? ⟨b5, 1, none⟩ = some (.int .i64 P))
        (first | with_reducible exact ⟨c0, c1⟩ | with_reducible exact yy | exact ⟨c0, c1⟩)
        (first
          | (go_at_call 11; refine hTV.out.mono ?_; rintro e W6 ⟨rfl, hb6⟩; have yy := hkeep W6 (hkD _ hb6)))
      have HB6 : Hid (Below W.heap.size W W6) := HBZ.out.trans ((hkD _ hb6).mono HBZ.out.size)
      clear hb6 HBZ
      go_wp2
      go_ret
      exact ⟨rfl, HB6.out⟩
    | true =>
      have hE := HS.out
      rw [hD] at hE
      clear HS HBV hNV HB3
      go_region_held3 (fun w' => w'.cell? ⟨b5, 0, none⟩ = some (.int .i64 L) ∧ w'.cell? ⟨b5, 1, none⟩ = some (.int .i64 P))
        (first | with_reducible exact ⟨c0, c1⟩ | with_reducible exact yy | exact ⟨c0, c1⟩)
        (first
          | (go_at_call 11; refine hTV.out.mono ?_; rintro e W6 ⟨rfl, hb6⟩; have yy := hkeep W6 (hkD _ hb6)))
      have HB6 : Hid (Below W.heap.size W W6) := HBZ.out.trans ((hkD _ hb6).mono HBZ.out.size)
      clear hb6 HBZ
      go_wp2
      go_ret
      exact ⟨rfl, HB6.out⟩
  | true =>
    obtain ⟨hne, htb, hit⟩ := hmf.out hU
    have hE := hs17.out hU
    subst hE
    have HIT := Lib.hid hit
    have HNE := Lib.hid hne
    have hn0 : 0 < n := by
      rcases Nat.eq_zero_or_pos n with h | h
      · exact absurd (h0n h) hne
      · exact h
    have hnn : decide (0 < n) = true := by simpa using hn0
    rw [hnn] at hN
    clear hit hne hsl hmz hs17 hmf hL h0n hnn
    obtain ⟨t0, t1⟩ := hms
    go_wp2_with fail
    refine (hT _ Hb4.out).out.mono ?_
    rintro e W5 ⟨rfl, hb⟩
    have Hb5 : Hid (Below W3.heap.size W3 W5) := Hb4.out.trans (hb.mono Hb4.out.size)
    clear hb Hb4 hT
    go_wp2_with fail
    refine (hN _ 0 Hb5.out (Int.le_refl _) (by decide)).out.mono ?_
    rintro e W6 ⟨rfl, hb⟩
    have Hb6 : Hid (Below W3.heap.size W3 W6) := Hb5.out.trans (hb.mono Hb5.out.size)
    clear hb Hb5
    have hdl0 : Hid (IsDl l (nextI l 0)) := isDl_next HNE.out HO.out
    have hb0 := next_up HO.out (show (0 : Int) ≤ 0 by decide)
    generalize nextI l 0 = X0 at *
    go_wp2_with fail
    obtain ⟨V, hV⟩ : ∃ V, W6.alloc (.cells #[.int .i64 X0, .bool true] 41) = V := ⟨_, rfl⟩
    have HBV : Hid (Below W3.heap.size W3 V) := by rw [← hV]; exact Hb6.out.alloc Hb6.out.size _
    have hNV : Hid (V.heap[W6.heap.size]? = some (.cells #[.int .i64 X0, .bool true] 41 (0, 0))) := by rw [← hV]; exact bx_new _ _ _
    have hb36 : W3.heap.size ≤ W6.heap.size := Hb6.out.size
    rw [hV]
    clear hV Hb6
    generalize W6.heap.size = b1 at *
    go_loopg [12] (t + 1 - X0).toNat (fun gg sv wr => ∃ x : Int, 0 ≤ x ∧ x ≤ t + 1048576 ∧ Aside ((t + 1 - x).toNat ≤ gg) ∧ Aside (IsDl l x) ∧ Aside (wr.heap[b1]? = some (.cells #[.int .i64 x, .bool true] 41 (0, 0))) ∧ Aside (Below W3.heap.size W3 wr))
    case atStart => exact ⟨X0, by omega, by omega, by show _ ≤ _; omega, hdl0.out, hNV.out, HBV.out⟩
    case round =>
      obtain ⟨x, x0, x1, hg, hdl, hX, BW⟩ := hrel
      clear hdl0 hNV HBV hb0
      obtain ⟨k0, k1⟩ := bx_two hX.out
      by_cases hxt : x ≤ t
      · have e1 : decide (x ≤ t) = true := by simpa using hxt
        have hOc := hO wr x BW.out x0 (by omega)
        have hXc := bx_lt hX.out
        have hiff := HIT.out x hdl.out hxt
        have hwb := work_bd l HO.out x0 (show x ≤ 4194304 by omega)
        have hhb := held_bd HOQ.out x
        have hll : l.length ≤ 6 := by omega
        unfold leftI at hiff
        have hnx := next_gt HO.out HNE.out x
        have hnu := next_up HO.out x0
        have hdn : Hid (IsDl l (nextI l x)) := isDl_next HNE.out HO.out
        have hAc := fun w hb => hA w x hb
        have hNc := fun w hb => hN w x hb x0 (by omega)
        generalize nextI l x = x' at *
        generalize work l x = S at *
        generalize heldAt q x = H at *
        have e2 : IntKind.i64.wrap (S + H) = S + H := by rw [IntKind.wrap_i64]; omega
        go_wp2_with fail
        refine hOc.out.mono ?_
        rintro e W7 ⟨rfl, hb⟩
        have hBW7 : Hid (Below W3.heap.size W3 W7) := BW.out.trans (hb.mono BW.out.size)
        have hX7 : Hid (W7.heap[b1]? = some (.cells #[.int .i64 x, .bool true] 41 (0, 0))) := (hb.block _ hXc).trans hX.out
        clear hb hOc hX BW k0 k1
        go_upto_region 13 with fail
        obtain ⟨V, hV⟩ : ∃ V, W7.alloc (.cells #[.int .i64 S, .bool true] 41) = V := ⟨_, rfl⟩
        have HBV : Hid (Below W3.heap.size W3 V) := by rw [← hV]; exact hBW7.out.alloc hBW7.out.size _
        have hSV : Hid (V.heap[W7.heap.size]? = some (.cells #[.int .i64 S, .bool true] 41 (0, 0))) := by rw [← hV]; exact bx_new _ _ _
        have hXV : Hid (V.heap[b1]? = some (.cells #[.int .i64 x, .bool true] 41 (0, 0))) := by rw [← hV]; exact (Below.heap_alloc _ _ _ (bx_lt hX7.out)).trans hX7.out
        rw [hV]
        clear hV hBW7 hX7
        generalize W7.heap.size = b5 at *
        have hb5 := bx_lt hSV.out
        have hb1 := bx_lt hXV.out
        have hkeep : ∀ w', Below V.heap.size V w' → w'.cell? ⟨b5, 0, none⟩ = some (.int .i64 S) ∧ w'.cell? ⟨b1, 0, none⟩ = some (.int .i64 x) := fun w' h =>
          ⟨(bx_two ((h.block _ hb5).trans hSV.out)).1, (bx_two ((h.block _ hb1).trans hXV.out)).1⟩
        obtain ⟨c0, c1⟩ := hkeep V (Below.refl _ _)
        have hkD : ∀ w', Below V.drew.heap.size V.drew w' → Below V.heap.size V w' := fun w' h => (Below.refl _ V).drew.trans h
        have hAV := hAc V.drew HBV.out.drew
        by_cases hxe : x = t
        · have g1 : (x == t) = true := by simpa using hxe
          have g2 : decide (x < S + H) = true := by have := hiff.2 hxe; simp; omega
          clear hA hN hiff hxe hwb hhb
          go_region_held3 (fun w' => w'.cell? ⟨b5, 0, none⟩ = some (.int .i64 S) ∧ w'.cell? ⟨b1, 0, none⟩ = some (.int .i64 x))
            (first | with_reducible exact ⟨c0, c1⟩ | with_reducible exact yy | exact ⟨c0, c1⟩)
            (first
              | (go_at_call 12; refine hAV.out.mono ?_; rintro e W8 ⟨rfl, hb8⟩; have yy := hkeep W8 (hkD _ hb8)))
          have hb := hkD _ hb8
          have HB8 : Hid (Below W3.heap.size W3 W8) := HBV.out.trans (hb.mono HBV.out.size)
          have hX8 : Hid (W8.heap[b1]? = some (.cells #[.int .i64 x, .bool true] 41 (0, 0))) := (hb.block _ hb1).trans hXV.out
          obtain ⟨k0, k1⟩ := bx_two hX8.out
          clear hb hb8 HBV hSV hXV hkeep hkD hAV c0 c1 yy
          go_wp2_with fail
          refine (hNc _ HB8.out).out.mono ?_
          rintro e W9 ⟨rfl, hb⟩
          have HB9 : Hid (Below W3.heap.size W3 W9) := HB8.out.trans (hb.mono HB8.out.size)
          have hX9 : Hid (W9.heap[b1]? = some (.cells #[.int .i64 x, .bool true] 41 (0, 0))) := (hb.block _ (bx_lt hX8.out)).trans hX8.out
          clear hb k0 k1 HB8 hX8
          obtain ⟨k0, k1⟩ := bx_two hX9.out
          have f0 := bx_free hX9.out 0
          have f1 := bx_free hX9.out 1
          have hXX : Hid (((W9.setCell ⟨b1, 0, none⟩ (.int .i64 x')).setCell ⟨b1, 1, none⟩ (.bool true)).heap[b1]? = some (.cells #[.int .i64 x', .bool true] 41 (0, 0))) := bx_set2 hX9.out _ _
          have HBX : Hid (Below W3.heap.size W3 ((W9.setCell ⟨b1, 0, none⟩ (.int .i64 x')).setCell ⟨b1, 1, none⟩ (.bool true))) := bx_below (bx_below HB9.out _ hb36 _ _) _ hb36 _ _
          clear hX9 HB9
          go_wp2
          go_roundg (t + 1 - x').toNat
          case measure => have := hg.out; omega
          case rel => exact ⟨x', by omega, by omega, by show _ ≤ _; omega, hdn.out, hXX.out, HBX.out⟩
        · have g1 : (x == t) = false := by simpa using hxe
          have g2 : decide (x < S + H) = false := by
            have : ¬ x < S + H := fun h => hxe (hiff.1 (by omega))
            simpa using this
          clear hA hN hiff hxe hwb hhb
          go_region_held3 (fun w' => w'.cell? ⟨b5, 0, none⟩ = some (.int .i64 S) ∧ w'.cell? ⟨b1, 0, none⟩ = some (.int .i64 x))
            (first | with_reducible exact ⟨c0, c1⟩ | with_reducible exact yy | exact ⟨c0, c1⟩)
            (first
              | (go_at_call 12; refine hAV.out.mono ?_; rintro e W8 ⟨rfl, hb8⟩; have yy := hkeep W8 (hkD _ hb8)))
          have hb := hkD _ hb8
          have HB8 : Hid (Below W3.heap.size W3 W8) := HBV.out.trans (hb.mono HBV.out.size)
          have hX8 : Hid (W8.heap[b1]? = some (.cells #[.int .i64 x, .bool true] 41 (0, 0))) := (hb.block _ hb1).trans hXV.out
          obtain ⟨k0, k1⟩ := bx_two hX8.out
          clear hb hb8 HBV hSV hXV hkeep hkD hAV c0 c1 yy
          go_wp2_with fail
          refine (hNc _ HB8.out).out.mono ?_
          rintro e W9 ⟨rfl, hb⟩
          have HB9 : Hid (Below W3.heap.size W3 W9) := HB8.out.trans (hb.mono HB8.out.size)
          have hX9 : Hid (W9.heap[b1]? = some (.cells #[.int .i64 x, .bool true] 41 (0, 0))) := (hb.block _ (bx_lt hX8.out)).trans hX8.out
          clear hb k0 k1 HB8 hX8
          obtain ⟨k0, k1⟩ := bx_two hX9.out
          have f0 := bx_free hX9.out 0
          have f1 := bx_free hX9.out 1
          have hXX : Hid (((W9.setCell ⟨b1, 0, none⟩ (.int .i64 x')).setCell ⟨b1, 1, none⟩ (.bool true)).heap[b1]? = some (.cells #[.int .i64 x', .bool true] 41 (0, 0))) := bx_set2 hX9.out _ _
          have HBX : Hid (Below W3.heap.size W3 ((W9.setCell ⟨b1, 0, none⟩ (.int .i64 x')).setCell ⟨b1, 1, none⟩ (.bool true))) := bx_below (bx_below HB9.out _ hb36 _ _) _ hb36 _ _
          clear hX9 HB9
          go_wp2
          go_roundg (t + 1 - x').toNat
          case measure => have := hg.out; omega
          case rel => exact ⟨x', by omega, by omega, by show _ ≤ _; omega, hdn.out, hXX.out, HBX.out⟩
      · have e1 : decide (x ≤ t) = false := by simpa using hxt
        have HBZ : Hid (Below W.heap.size W wr) := HB3.out.trans (BW.out.mono HB3.out.size)
        clear hX BW
        go_wp2
        go_ret
        exact ⟨rfl, HBZ.out⟩
end Go.Proofs.Ytajkckjpfbkpmaa.Dem
