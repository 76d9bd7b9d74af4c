/-
  The statement DemandParts, walked.
-/
import Derived.Test.YtcgfaddegglnkaaDem5
import Derived.Test.YtcgfaddegglnkaaMask
namespace Go.Proofs.Ytcgfaddegglnkaa.Dem
open Go.RowKit Go.Shelf Go.Proofs.Ytcgfaddegglnkaa.Ari

theorem news3 {w : World} {A : Option Addr} {n : Nat} {q : List Dm} (h : RdD w A n q) : ∀ ad, A = some ad → ∀ j u, (flat3 q)[j]? = some u → w.cell? (ad.add j) = some u := by
  rintro ad rfl j u hu
  have hj : j < q.length * 3 := by have := (List.getElem?_eq_some_iff.1 hu).1; rwa [flat3_length] at this
  obtain ⟨b, o, e, hc⟩ := h.2.2 (by rw [← h.1]; omega)
  cases e
  have hi : j / 3 < q.length := by omega
  obtain ⟨c0, c1, c2⟩ := hc (j / 3) (by rw [← h.1]; exact hi)
  obtain ⟨g0, g1, g2⟩ := flat3_get q (j / 3) hi
  rw [Row0.plain_add']
  rcases (by omega : j = j / 3 * 3 ∨ j = j / 3 * 3 + 1 ∨ j = j / 3 * 3 + 2) with e | e | e
  · rw [e] at hu ⊢; rw [g0] at hu; cases hu; exact c0
  · rw [e] at hu ⊢; rw [g1] at hu; cases hu; exact c1
  · rw [e] at hu ⊢; rw [g2] at hu; cases hu; exact c2
theorem flat3_rd {w : World} {A : Option Addr} {n : Nat} {q : List Dm} (h : RdD w A n q) : (flat3 q).length = n * 3 := by rw [flat3_length, h.1]
theorem of_at {W : World} {A : Option Addr} {n : Nat} {l : List Dm} (hr : RdD W A n l) (c : Nat) (ho : Oks l) {s : Int} (h0 : 0 ≤ s) (h1 : s ≤ 4194304) : ∀ w, Below W.heap.size W w →
    Hid (Calls Try.prog 11 #[.slice A n c, .int .i64 s] w fun e w' => e = .returned (.tuple #[.int .i64 (work l s), .bool true]) ∧ Below w.heap.size w w') :=
  fun w hb => of_any A n c l ho s h0 h1 w (hr.below hb (Nat.le_refl _))
theorem next_at {W : World} {A : Option Addr} {n : Nat} {l : List Dm} (hr : RdD W A n l) (c : Nat) (ho : Oks l) {s : Int} (h0 : 0 ≤ s) (h1 : s ≤ 2097152) : ∀ w, Below W.heap.size W w →
    Hid (Calls Try.prog 12 #[.slice A n c, .int .i64 s] w fun e w' => e = .returned (.tuple #[.int .i64 (nextI l s), .bool (decide (0 < l.length))]) ∧ Below w.heap.size w w') :=
  fun w hb => (next_any A n c l ho s h0 h1 w (hr.below hb (Nat.le_refl _))).mono fun _ _ ⟨he, hb⟩ => ⟨by rw [he, hr.1], hb⟩
/-- What the least of both is. -/
theorem least_of {x y : List Dm} {t : Int} : (nextI (x ++ y) t = nextI y t ∧ (!decide (0 < x.length) || (decide (0 < y.length) && decide (nextI y t < nextI x t))) = true) ∨ (nextI (x ++ y) t = nextI x t ∧ (!decide (0 < x.length) || (decide (0 < y.length) && decide (nextI y t < nextI x t))) = false) := by
  cases x with
  | nil => exact .inl ⟨rfl, by simp⟩
  | cons a r =>
    cases y with
    | nil => exact .inr ⟨by rw [List.append_nil], by simp⟩
    | cons b u =>
      have h := next_append (a :: r) (b :: u) (by simp) (by simp) t
      by_cases hlt : nextI (b :: u) t < nextI (a :: r) t
      · exact .inl ⟨by omega, by simp [hlt]⟩
      · exact .inr ⟨by omega, by simp [hlt]⟩

set_option maxHeartbeats 16000000 in
set_option maxRecDepth 100000 in
theorem DemandParts_walk (a0 : Option Addr) (len0 cap0 : Nat) (z0 : List (Int × Int × Int)) (a1 : Option Addr) (len1 cap1 : Nat) (z1 : List (Int × Int × Int)) (a2 : Int) (W : World) (w0 : Row0.IsTrips .i64 W a0 len0 cap0 z0) (w1 : Row0.IsTrips .i64 W a1 len1 cap1 z1) (_w2 : (Lit.int .i64 a2).wf = true) :
    Calls Try.prog 4 #[.slice a0 len0 cap0, .slice a1 len1 cap1, .int .i64 a2] W fun e w' => e = .returned (.bool true) ∧ Below W.heap.size W w' := by
  have HP := Lib.hid w0
  have HQ := Lib.hid w1
  clear w0 w1
  have et := Row0.and_i64 a2 8 (by decide) 255 rfl
  obtain ⟨t, ht, t0, t1⟩ : ∃ t, a2 % 256 = t ∧ 0 ≤ t ∧ t ≤ 255 := ⟨_, rfl, by omega, by omega⟩
  have ea : Go.bits .and .i64 a2 255 = t := et.trans ht
  clear et ht
  obtain ⟨i0, hi0, hz0, hz1, hz2⟩ := info_parts infoD
  go_enter Try.func4, Try.ntmps4
  go_wp2_with fail
  refine (awakeD_any W).mono ?_
  rintro e W1 ⟨rfl, hb1⟩
  have HB1 := Lib.hid hb1
  clear hb1
  go_wp2_with fail
  have hp1 : Row0.IsTrips .i64 W1 a0 len0 cap0 z0 := HP.out.below HB1.out (Nat.le_refl _)
  refine (made_any a0 len0 cap0 z0 W1 hp1).mono ?_
  rintro e W2 ⟨v1, l1, rfl, hsm1, hln1, hown1, hb2⟩
  have hn1 : min len0 6 ≤ 6 := Nat.min_le_right _ _
  generalize min len0 6 = n1 at *
  obtain ⟨A1, c1, rfl, hrd1, hc1, _, _, hz1'⟩ := own_rdD hown1 (by omega)
  have HR1 := Lib.hid hrd1
  have HB2 : Hid (Below W.heap.size W W2) := HB1.out.trans (hb2.mono HB1.out.size)
  have HO1 := Lib.hid hsm1.oks
  have HZ1 := Lib.hid hz1'
  clear hown1 hb2 hp1 HB1 HP hrd1 hsm1 hz1'
  go_wp2_with fail
  have hp2 : Row0.IsTrips .i64 W2 a1 len1 cap1 z1 := HQ.out.below HB2.out (Nat.le_refl _)
  refine (made_any a1 len1 cap1 z1 W2 hp2).mono ?_
  rintro e W3 ⟨v2, l2, rfl, hsm2, hln2, hown2, hb3⟩
  have hn2 : min len1 6 ≤ 6 := Nat.min_le_right _ _
  generalize min len1 6 = n2 at *
  obtain ⟨A2, c2, rfl, hrd2, hc2, _, _, hz2'⟩ := own_rdD hown2 (by omega)
  have HR2 := Lib.hid hrd2
  have HB3 : Hid (Below W.heap.size W W3) := HB2.out.trans (hb3.mono HB2.out.size)
  have HO2 := Lib.hid hsm2.oks
  have HZ2 := Lib.hid hz2'
  have HR1' := Lib.hid (HR1.out.below hb3 (Nat.le_refl _))
  clear hown2 hb3 hp2 HB2 HQ hrd2 hsm2 hz2' HR1
  have hx1 : ∀ m, m = min n1 3 → Hid (RdD W3 A1 m (l1.take 3)) := fun m hm => by
    have := HR1'.out.take m (by omega)
    rw [show l1.take m = l1.take 3 by rw [hm, ← hln1, Nat.min_comm, List.take_eq_take_iff]; omega] at this
    exact this
  have hx2 : ∀ m, m = min n2 3 → Hid (RdD W3 A2 m (l2.take 3)) := fun m hm => by
    have := HR2.out.take m (by omega)
    rw [show l2.take m = l2.take 3 by rw [hm, ← hln2, Nat.min_comm, List.take_eq_take_iff]; omega] at this
    exact this
  have HXO : Hid (Oks (l1.take 3)) := oks_take HO1.out 3
  have HYO : Hid (Oks (l2.take 3)) := oks_take HO2.out 3
  clear HR1' HR2 HO1 HO2
  generalize l1.take 3 = x at *
  generalize l2.take 3 = y at *
  clear hln1 hln2
  have HZO : Hid (Oks (x ++ y)) := fun a ha => (List.mem_append.1 ha).elim (HXO.out a) (HYO.out a)
  have hB0 : Hid ((W3.alloc (.cells #[] 27)).ownsRow W3.heap.size 27 3 (.slice (some ⟨W3.heap.size, 0, none⟩) 0 0) 0 (flat3 [])) :=
    ⟨rfl, .inr ⟨W3.heap.size, 0, #[], rfl, Nat.le_refl _, heap_alloc_new _ _, Nat.le_refl _, by unfold maxLen; decide, rfl, rfl⟩⟩
  have hcs : (∃ m1, m1 = min n1 3 ∧ n1 = m1 ∧ decide ((3 : Int) < (n1 : Int)) = false) ∨ (n1 ≠ 0 ∧ 3 = min n1 3 ∧ decide ((3 : Int) < (n1 : Int)) = true ∧ (3 : Int) ≤ (c1 : Int) ∧ 3 ≤ c1) := by
    by_cases h : n1 ≤ 3
    · exact .inl ⟨n1, by omega, rfl, by simp; omega⟩
    · exact .inr ⟨by omega, by omega, by simp; omega, by omega, by omega⟩
  have hcs2 : (∃ m2, m2 = min n2 3 ∧ n2 = m2 ∧ decide ((3 : Int) < (n2 : Int)) = false) ∨ (n2 ≠ 0 ∧ 3 = min n2 3 ∧ decide ((3 : Int) < (n2 : Int)) = true ∧ (3 : Int) ≤ (c2 : Int) ∧ 3 ≤ c2) := by
    by_cases h : n2 ≤ 3
    · exact .inl ⟨n2, by omega, rfl, by simp; omega⟩
    · exact .inr ⟨by omega, by omega, by simp; omega, by omega, by omega⟩
  have hzx : ∀ m, m = min n1 3 → Hid (A1 = none → m = 0 ∧ c1 = 0) := fun m hm => fun e => ⟨by have := (HZ1.out e).1; omega, (HZ1.out e).2⟩
  have hzy : ∀ m, m = min n2 3 → Hid (A2 = none → m = 0 ∧ c2 = 0) := fun m hm => fun e => ⟨by have := (HZ2.out e).1; omega, (HZ2.out e).2⟩
  clear HZ1 HZ2
  rcases hcs with ⟨m1, e1, rfl, d1⟩ | ⟨nz1, e1, d1, cc1, cn1⟩ <;> rcases hcs2 with ⟨m2, e2, rfl, d2⟩ | ⟨nz2, e2, d2, cc2, cn2⟩
  all_goals
    have X3 := hx1 _ e1
    have Y3 := hx2 _ e2
    have ZX := hzx _ e1
    have ZY := hzy _ e2
    have l1 := X3.out.2.1
    have l2 := Y3.out.2.1
    clear hx1 hx2 hzx hzy e1 e2
    have hL1 := Lib.hid (flat3_rd X3.out)
    have hL2 := Lib.hid (flat3_rd Y3.out)
    have hN1 : Hid (∀ ad, A1 = some ad → ∀ j u, (flat3 x)[j]? = some u → (W3.alloc (.cells #[] 27)).cell? (ad.add j) = some u) :=
      news3 (X3.out.below ((Below.refl _ W3).alloc (Nat.le_refl _) _) (Nat.le_refl _))
    have hN2 : Hid (∀ W6, (W3.alloc (.cells #[] 27)).grownBy W6 (some W3.heap.size) → ∀ ad, A2 = some ad → ∀ j u, (flat3 y)[j]? = some u → W6.cell? (ad.add j) = some u) := fun W6 hg =>
      news3 (Y3.out.below (((Below.refl _ W3).alloc (Nat.le_refl _) _).grown hg (by simp) (fun j e => by cases e; exact Nat.le_refl _)) (Nat.le_refl _))
    go_wp2_with (first
      | (at_builtin; refine Row0.wpList_append_sl rfl (.tmp 40) (.tmp 41) 24 rfl W3.heap.size 27 i0 (.agg #[.int .i64 0, .int .i64 0, .int .i64 0]) 3 24 Try.underlying24 hi0 hz0 hz1 hz2 rfl (by decide) _ _ _ rfl hB0.out A1 _ c1 (flat3 x) rfl ZX.out hL1.out hN1.out (flat3_one _) (by unfold maxLen; omega) (by omega) (by simp) ?_; intro v6 W6 ho6 hg6; replace hg6 : (W3.alloc (.cells #[] 27)).grownBy W6 (some W3.heap.size) := hg6)
      | (at_builtin; refine Row0.wpList_append_sl rfl (.tmp 42) (.tmp 43) 24 rfl W3.heap.size 27 i0 (.agg #[.int .i64 0, .int .i64 0, .int .i64 0]) 3 24 Try.underlying24 hi0 hz0 hz1 hz2 rfl (by decide) v6 _ (flat3 [] ++ flat3 x) rfl ho6 A2 _ c2 (flat3 y) rfl ZY.out hL2.out (hN2.out W6 hg6) (flat3_one _) (by unfold maxLen; omega) (by omega) (by have := hg6.size; simp at this; omega) ?_; intro v7 W7 ho7 hg7))
    have hB7 : Below W3.heap.size W3 W7 := (((Below.refl _ W3).alloc (Nat.le_refl _) _).grown hg6 (by simp) (fun j e => by cases e; exact Nat.le_refl _)).grown hg7 (by have := hg6.size; simp at this; omega) (fun j e => (ho6.lt j e).1)
    rw [show flat3 [] ++ flat3 x ++ flat3 y = flat3 (x ++ y) by rw [flat3_append]; rfl] at ho7
    simp only [Nat.zero_add, Nat.reduceAdd] at ho7
    obtain ⟨A7, c7, rfl, hrd7, _, _, _, _⟩ := own_rdD ho7 (by omega)
    have X7 := Lib.hid (X3.out.below hB7 (Nat.le_refl _))
    have Y7 := Lib.hid (Y3.out.below hB7 (Nat.le_refl _))
    have Z7 := Lib.hid hrd7
    have HB7 : Hid (Below W.heap.size W W7) := HB3.out.trans (hB7.mono HB3.out.size)
    clear hB7 ho7 hg7 ho6 hg6 hN1 hN2 hL1 hL2 ZX ZY X3 Y3 hB0 HB3 hrd7
    have hE := least_of (x := x) (y := y) (t := t)
    have hK : decide (0 < (x ++ y).length) = (decide (0 < x.length) || decide (0 < y.length)) := by cases x <;> cases y <;> simp
    have p1 := work_bd x HXO.out t0 (show t ≤ 4194304 by omega)
    have p2 := work_bd y HYO.out t0 (show t ≤ 4194304 by omega)
    rw [X7.out.1] at p1
    rw [Y7.out.1] at p2
    have hOx := of_at X7.out c1 HXO.out t0 (by omega)
    have hOy := of_at Y7.out c2 HYO.out t0 (by omega)
    have hOz := of_at Z7.out c7 HZO.out t0 (by omega)
    have hNx := next_at X7.out c1 HXO.out t0 (by omega)
    have hNy := next_at Y7.out c2 HYO.out t0 (by omega)
    have hNz := next_at Z7.out c7 HZO.out t0 (by omega)
    simp only [work_append] at hOz
    simp only [hK] at hNz
    clear hK X7 Y7 Z7 HXO HYO HZO
    have ew : IntKind.i64.wrap (work x t + work y t) = work x t + work y t := by rw [IntKind.wrap_i64]; omega
    clear p1 p2
    generalize work x t = P at *
    generalize work y t = Q at *
    generalize decide (0 < x.length) = I at *
    generalize decide (0 < y.length) = J at *
    generalize nextI x t = C at *
    generalize nextI y t = D at *
    generalize nextI (x ++ y) t = E at *
    have Hb0 : Hid (Below W7.heap.size W7 W7) := Below.refl _ _
    have HE := Lib.hid hE
    clear hE
    refine (hOx _ Hb0.out).out.mono ?_
    rintro e V1 ⟨rfl, hb⟩
    have Hb1 : Hid (Below W7.heap.size W7 V1) := hb
    clear hb Hb0 hOx
    go_wp2_with fail
    refine (hOy _ Hb1.out).out.mono ?_
    rintro e V2 ⟨rfl, hb⟩
    have Hb2 : Hid (Below W7.heap.size W7 V2) := Hb1.out.trans (hb.mono Hb1.out.size)
    clear hb Hb1 hOy
    go_wp2_with fail
    refine (hOz _ Hb2.out).out.mono ?_
    rintro e V3 ⟨rfl, hb⟩
    have Hb3 : Hid (Below W7.heap.size W7 V3) := Hb2.out.trans (hb.mono Hb2.out.size)
    clear hb Hb2 hOz
    go_wp2_with fail
    refine (hNx _ Hb3.out).out.mono ?_
    rintro e V4 ⟨rfl, hb⟩
    have Hb4 : Hid (Below W7.heap.size W7 V4) := Hb3.out.trans (hb.mono Hb3.out.size)
    clear hb Hb3 hNx
    go_wp2_with fail
    refine (hNy _ Hb4.out).out.mono ?_
    rintro e V5 ⟨rfl, hb⟩
    have Hb5 : Hid (Below W7.heap.size W7 V5) := Hb4.out.trans (hb.mono Hb4.out.size)
    clear hb Hb4 hNy
    go_wp2_with fail
    refine (hNz _ Hb5.out).out.mono ?_
    rintro e V6 ⟨rfl, hb⟩
    have Hb6 : Hid (Below W7.heap.size W7 V6) := Hb5.out.trans (hb.mono Hb5.out.size)
    clear hb Hb5 hNz
    have HBZ : Hid (Below W.heap.size W V6) := HB7.out.trans (Hb6.out.mono HB7.out.size)
    clear Hb6 HB7
    rcases HE.out with ⟨rfl, he⟩ | ⟨rfl, he⟩ <;> clear HE
    · cases I
      · cases J <;> clear he
        · go_wp2
          go_ret
          exact ⟨rfl, HBZ.out⟩
        · go_wp2
          go_ret
          exact ⟨rfl, HBZ.out⟩
      · cases J
        · exact absurd he (by simp)
        · have hlt : E < C := by simpa using he
          clear he
          go_wp2
          go_ret
          exact ⟨rfl, HBZ.out⟩
    · cases I
      · exact absurd he (by simp)
      · cases J
        · clear he
          go_wp2
          go_ret
          exact ⟨rfl, HBZ.out⟩
        · have hlt : ¬ D < E := by simpa using he
          clear he
          go_wp2
          go_ret
          exact ⟨rfl, HBZ.out⟩
end Go.Proofs.Ytcgfaddegglnkaa.Dem
