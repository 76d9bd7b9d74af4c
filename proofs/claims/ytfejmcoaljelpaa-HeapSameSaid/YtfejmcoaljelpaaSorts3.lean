/-
  The statement HeapSorts, walked.
-/
import Derived.Test.YtfejmcoaljelpaaAwk3
import Derived.Test.YtfejmcoaljelpaaRow0
namespace Go.Proofs.Ytfejmcoaljelpaa.Hp
open Go.RowKit Go.Maps Go.Proofs.Ytfejmcoaljelpaa.Box

theorem cell_later {w w' : World} {a : Addr} {v : Value} (h : w.cell? a = some v) (hb : Below w.heap.size w w') : w'.cell? a = some v := (World.cell?_of_block (hb.block _ (World.block_lt_of_cell? w a h))).trans h
/-- A row of numbers that came in. -/
structure RowIn (W : World) (a : Option Addr) (len cap : Nat) (zs : List Int) : Prop where
  lc : len ≤ cap
  cm : cap ≤ 9223372036854775807
  at_ : ∀ i, i < len → ∃ ad, a = some ad
  rd : ∀ ad, a = some ad → ∀ i, i < len → W.cell? (ad.add i) = some (.int .i64 (zs.getD i 0))
  wf : ∀ i, (Lit.int .i64 (zs.getD i 0)).wf = true
theorem row_in {W : World} {a : Option Addr} {len cap : Nat} {zs : List Int} (h : Row0.IsRow .i64 W a len cap zs) : RowIn W a len cap zs := by
  rcases h with ⟨rfl, rfl, rfl, rfl⟩ | ⟨x, rfl, h1, h2, h3, h4, h5⟩
  · exact ⟨Nat.le_refl _, by decide, fun i hi => absurd hi (Nat.not_lt_zero _), fun ad e => (by cases e), fun i => (by rw [List.getD_nil]; decide)⟩
  · unfold maxLen at h2
    refine ⟨h1, h2, fun _ _ => ⟨x, rfl⟩, fun ad e i hi => ?_, fun i => ?_⟩
    · cases e
      exact h4 i (by omega)
    · by_cases hi : i < zs.length
      · rw [List.getD_eq_getElem?_getD, List.getElem?_eq_getElem hi]
        exact h5 _ (List.getElem_mem hi)
      · rw [List.getD_eq_getElem?_getD, List.getElem?_eq_none (by omega)]
        decide
def itS (z : List Int) : Nat → List (Int × Int)
  | 0 => []
  | i + 1 => (((i * 37 % 61 : Nat) : Int), z.getD i 0) :: itS z i
theorem itS_length (z : List Int) : ∀ i, (itS z i).length = i
  | 0 => rfl
  | i + 1 => by rw [itS, List.length_cons, itS_length z i]
theorem itS_mem (z : List Int) : ∀ i x, x ∈ itS z i → ∃ j, j < i ∧ x = (((j * 37 % 61 : Nat) : Int), z.getD j 0)
  | 0, x, h => by cases h
  | i + 1, x, h => by
    rcases List.mem_cons.1 h with e | e
    · exact ⟨i, Nat.lt_succ_self i, e⟩
    · obtain ⟨j, h1, h2⟩ := itS_mem z i x e
      exact ⟨j, by omega, h2⟩
theorem itS_new (z : List Int) (i : Nat) (hi : i < 60) : ((i * 37 % 61 : Nat) : Int) ∉ (itS z i).map (·.1) := fun h => by
  obtain ⟨x, h1, h2⟩ := List.mem_map.1 h
  obtain ⟨j, h3, rfl⟩ := itS_mem z i x h1
  simp only at h2
  omega
theorem key_wf (k : Nat) (h : k ≤ 9223372036854775807) : (Lit.int .i64 (k : Int)).wf = true := by simp [Lit.wf, IntKind.min, IntKind.max, IntKind.signed, IntKind.bits]; omega
/-- None of these has been seen. -/
def Seen (w : World) (bs : Nat) (L : List (Int × Int)) : Prop := ∃ cs, w.heap[bs]? = some (.cells cs 28 (0, 0)) ∧ (∀ j, j < 61 → ∃ v, cs[j]? = some v) ∧ ∀ x ∈ L, cs[x.1.toNat]? = some (.bool false)
theorem Seen.store {w : World} {bs : Nat} {L L' : List (Int × Int)} {k : Nat} (h : Seen w bs L) (hs : ∀ x ∈ L', x ∈ L ∧ x.1.toNat ≠ k) : Seen (w.setCell ⟨bs, k, none⟩ (.bool true)) bs L' := by
  obtain ⟨cs, h1, h2, h3⟩ := h
  refine ⟨_, heap_setCell_same w bs k cs _ (.bool true) h1, fun j hj => ?_, fun x hx => ?_⟩
  · obtain ⟨v, hv⟩ := h2 j hj
    by_cases e : k = j
    · subst e; exact ⟨_, Array.getElem?_setIfInBounds_self_of_lt (Array.getElem?_eq_some_iff.1 hv).1⟩
    · exact ⟨v, (Array.getElem?_setIfInBounds_ne e).trans hv⟩
  · obtain ⟨e1, e2⟩ := hs x hx
    exact (Array.getElem?_setIfInBounds_ne (Ne.symm e2)).trans (h3 x e1)
theorem itS_bd (z : List Int) (i : Nat) : ∀ x ∈ itS z i, 0 ≤ x.1 ∧ x.1 < 61 := fun x hx => by
  obtain ⟨j, _, rfl⟩ := itS_mem z i x hx
  simp only
  omega
set_option maxRecDepth 100000 in
set_option maxHeartbeats 8000000 in
theorem HeapSorts_walk (a0 : Option Addr) (len0 cap0 : Nat) (z0 : List Int) (W : World) (w0 : Row0.IsRow .i64 W a0 len0 cap0 z0) :
    Calls Try.prog 3 #[.slice a0 len0 cap0] W fun e w' => e = .returned (.bool true) ∧ Below W.heap.size W w' := by
  have hr := row_in w0
  have hlc := hr.lc
  have hcm := hr.cm
  have HR := Lib.hid hr
  clear w0 hr
  go_enter Try.func3, Try.ntmps3
  go_wp2_with fail
  refine (awake3_any W).mono ?_
  rintro e W1 ⟨rfl, hb1⟩
  have HB1 := Lib.hid hb1
  clear hb1
  go_wp2_with fail
  refine (new_b W1).mono ?_
  rintro e W2 ⟨p, bm, rfl, h2, hb2⟩
  have HH2 := Lib.hid h2
  have HK2 : Hid (Kp (fun j => j < W1.heap.size) W1 W2) := Kp.of_below hb2
  clear h2 hb2
  obtain ⟨N, hN⟩ : ∃ N, min len0 60 = N := ⟨_, rfl⟩
  have hN1 : N ≤ len0 := by omega
  have hN2 : N ≤ 60 := by omega
  go_wp2_with fail
  go_loopg [5, 6] N (fun gg v5 v6 wr => ∃ (i : Nat), i ≤ N ∧ N - i ≤ gg ∧ v5 = .int .i64 (i : Int) ∧ v6 = .int .i64 (i : Int) ∧ Aside (HB (fun j => j < W1.heap.size) wr p bm (itS z0 i)) ∧ Aside (Kp (fun j => j < W1.heap.size) W1 wr))
  case atStart => exact ⟨0, by omega, by omega, rfl, rfl, HH2.out, HK2.out⟩
  case round =>
    obtain ⟨i, hi, hgk, rfl, rfl, hH, hK⟩ := hrel
    clear HH2 HK2
    by_cases hlt : i < N
    · obtain ⟨ad, rfl⟩ := HR.out.at_ i (by omega)
      have c0 := cell_later (cell_later (HR.out.rd ad rfl i (by omega)) HB1.out) (hK.out.below (fun j h => h) (Nat.le_refl _))
      have hwy := HR.out.wf i
      have e1 : (i : Int) < (len0 : Int) := by omega
      have e2 : (i : Int) < 60 := by omega
      obtain ⟨k, hk⟩ : ∃ k : Nat, i * 37 % 61 = k := ⟨_, rfl⟩
      have ek : ((i : Int) * 37).tmod 61 = (k : Int) := by rw [Int.tmod_eq_emod_of_nonneg (by omega)]; omega
      have hk61 : k < 61 := by omega
      have ew := wrap_n k (by omega)
      have KP := put_b hH.out (k : Int) (z0.getD i 0) (key_wf k (by omega)) hwy (by rw [itS_length]; omega)
      have hnew := itS_new z0 i (by omega)
      rw [hk] at hnew
      have HNEW := Lib.hid hnew
      have HKK : Hid (itS z0 (i + 1) = ((k : Int), z0.getD i 0) :: itS z0 i) := by rw [← hk]; rfl
      clear hk hnew hwy hH
      generalize z0.getD i 0 = y at *
      go_wp2_with fail
      refine KP.mono ?_
      rintro e w3 (⟨h, _⟩ | ⟨_, rfl, h3, k3⟩)
      · exact absurd h HNEW.out
      have HH3 := Lib.hid h3
      have HK3 := Lib.hid (hK.out.trans k3)
      clear h3 k3 KP hK c0
      go_wp2
      go_roundg (N - (i + 1))
      case measure => omega
      case rel => exact ⟨i + 1, by omega, by omega, by go_num, by go_num, by rw [HKK.out]; exact HH3.out, HK3.out⟩
    · have hie : i = N := by omega
      subst hie
      have hq : ¬ (i : Int) < (len0 : Int) ∨ ((i : Int) < (len0 : Int) ∧ ¬ (i : Int) < 60) := by omega
      have hsz : W1.heap.size ≤ wr.heap.size := hK.out.size
      obtain ⟨w5, hw5⟩ : ∃ w5, wr.alloc (.cells #[.bool false, .bool false, .bool false, .bool false, .bool false, .bool false, .bool false, .bool false, .bool false, .bool false, .bool false, .bool false, .bool false, .bool false, .bool false, .bool false, .bool false, .bool false, .bool false, .bool false, .bool false, .bool false, .bool false, .bool false, .bool false, .bool false, .bool false, .bool false, .bool false, .bool false, .bool false, .bool false, .bool false, .bool false, .bool false, .bool false, .bool false, .bool false, .bool false, .bool false, .bool false, .bool false, .bool false, .bool false, .bool false, .bool false, .bool false, .bool false, .bool false, .bool false, .bool false, .bool false, .bool false, .bool false, .bool false, .bool false, .bool false, .bool false, .bool false, .bool false, .bool false] 28) = w5 := ⟨_, rfl⟩
      have HH5 : Hid (HB (fun j => j < W1.heap.size ∨ j = wr.heap.size) w5 p bm (itS z0 i)) := by rw [← hw5]; exact hH.out.more _
      have HB5 : Hid (Kp (fun j => j < W1.heap.size) W1 w5) := by rw [← hw5]; exact hK.out.trans (Kp.of_below ((Below.refl _ wr).alloc (Nat.le_refl _) _))
      have HS5 : Hid (Seen w5 wr.heap.size (itS z0 i)) := by
        rw [← hw5]
        refine ⟨Array.replicate 61 (.bool false), heap_alloc_new _ _, fun j hj => ⟨.bool false, ?_⟩, fun x hx => ?_⟩
        · rw [Array.getElem?_replicate, if_pos hj]
        · have := itS_bd z0 i x hx
          rw [Array.getElem?_replicate, if_pos (by omega)]
      have hlS := itS_length z0 i
      have hbd := itS_bd z0 i
      have HLS := Lib.hid hlS
      have HBD := Lib.hid hbd
      clear hgk hi hH hK hlS hbd
      generalize itS z0 i = L0 at *
      generalize hbs : wr.heap.size = bs at *
      rcases hq with q1 | ⟨q1, q2⟩
      all_goals
        go_wp2_with fail
        try rw [hw5]
        clear hw5 hbs
        go_loopg [7, 8, 10] i (fun gg v7 v8 v10 wr => ∃ (j : Nat) (last key : Int) (L : List (Int × Int)), j ≤ i ∧ i - j ≤ gg ∧ v7 = .int .i64 last ∧ v8 = .int .i64 key ∧ v10 = .int .i64 (j : Int) ∧ Aside (L.length = i - j) ∧ Aside (HB (fun j => j < W1.heap.size ∨ j = bs) wr p bm L) ∧
          Aside (Kp (fun j => j < W1.heap.size) W1 wr) ∧ Aside (Seen wr bs L) ∧ Aside (∀ x ∈ L, 0 ≤ x.1 ∧ x.1 < 61) ∧ Aside (0 < j → ∀ x ∈ L, ahI x (key, last) = false))
        case atStart => exact ⟨0, 0, -1, L0, by omega, by omega, rfl, rfl, rfl, by rw [HLS.out]; rfl, HH5.out, HB5.out, HS5.out, HBD.out, fun h => absurd h (Nat.lt_irrefl _)⟩
        case round =>
          obtain ⟨j, last, key, L, hj, hgk2, rfl, rfl, rfl, hL, hH, hK, hSn, hBd, hOr⟩ := hrel
          clear HH5 HB5 HS5 HBD HLS
          have KT := take_b hH.out (fun x hx => by
            obtain ⟨e1, e2⟩ := hBd.out x hx
            have := key_wf x.1.toNat (by omega)
            rwa [show ((x.1.toNat : Nat) : Int) = x.1 by omega] at this)
          have hKt : (HB (fun j => j < W1.heap.size ∨ j = bs) wr p bm L) := hH.out
          have HND := Lib.hid (nodup_b hKt)
          clear hKt
          by_cases hjl : j < i
          · go_wp2_with fail
            refine KT.mono ?_
            rintro e w6 (⟨⟨x, m⟩, L', hp, hx, rfl, h6, k6⟩ | ⟨h, _⟩)
            · have hx1 := hBd.out _ hx.1
              obtain ⟨kk, hkk⟩ : ∃ kk : Nat, x = (kk : Int) := ⟨x.toNat, by simp only at hx1; omega⟩
              subst hkk
              have hk61 : kk < 61 := by simp only at hx1; omega
              obtain ⟨cs, hc1, hc2, hc3⟩ := hSn.out
              have hsb : w6.heap[bs]? = some (.cells cs 28 (0, 0)) := (k6.block bs (.inr rfl) (bx_lt hc1)).trans hc1
              have hcell : w6.cell? ⟨bs, kk, none⟩ = some (.bool false) := by
                simp only [World.cell?, hsb]
                exact hc3 _ hx.1
              have hfr := bx_free hsb kk
              have hmem : ∀ z ∈ L', z ∈ L ∧ z.1.toNat ≠ kk := fun z hz => by
                have hz1 := hp.mem_iff.2 (List.mem_cons_of_mem _ hz)
                refine ⟨hz1, fun e => ?_⟩
                have h2 := (hp.map (·.1)).nodup_iff.1 HND.out
                rw [List.map_cons, List.nodup_cons] at h2
                refine h2.1 (List.mem_map.2 ⟨z, hz, ?_⟩)
                have := hBd.out z hz1
                simp only
                omega
              have HSE : Hid (Seen (w6.setCell ⟨bs, kk, none⟩ (.bool true)) bs L') := Seen.store ⟨cs, hsb, hc2, hc3⟩ hmem
              have HBD2 : Hid (∀ z ∈ L', 0 ≤ z.1 ∧ z.1 < 61) := fun z hz => hBd.out z (hmem z hz).1
              have HLL : Hid (L'.length = i - (j + 1)) := by
                have := hp.length_eq
                rw [hL.out, List.length_cons] at this
                show L'.length = _
                omega
              have HOR : Hid (∀ z ∈ L', ahI z ((kk : Int), m) = false) := fun z hz => hx.2 z (hmem z hz).1
              have HH7 : Hid (HB (fun j => j < W1.heap.size ∨ j = bs) (w6.setCell ⟨bs, kk, none⟩ (.bool true)) p bm L') := h6.kept (by simp [World.setCell]) fun j hj _ => bx_other _ _ _ _ (fun e => hj (.inr e)) _
              have HK7 : Hid (Kp (fun j => j < W1.heap.size) W1 (w6.setCell ⟨bs, kk, none⟩ (.bool true))) := by
                have hbs1 : W1.heap.size ≤ bs := hsz
                have k7 : Kp (fun j => j < W1.heap.size) wr w6 := ⟨k6.os, k6.tape, k6.output, k6.size, fun j hj hl => k6.block j (.inl hj) hl⟩
                exact (hK.out.trans k7).trans ⟨rfl, rfl, rfl, by simp [World.setCell], fun j hj _ => bx_other _ _ _ _ (by omega) _⟩
              have hor : 0 < j → ¬ (m < last ∨ m = last ∧ (kk : Int) < key) := fun h e => by
                have := hOr.out h _ hx.1
                rw [show ahI ((kk : Int), m) (key, last) = true from decide_eq_true e] at this
                cases this
              have f1 : ¬ (kk : Int) < 0 := by omega
              have f1' : decide ((kk : Int) < 0) = false := by simp
              have f2 : ¬ (60 : Int) < (kk : Int) := by omega
              have f2' : decide ((60 : Int) < (kk : Int)) = false := by simp; omega
              have f3 : (kk : Int) < 61 := by omega
              clear KT hp hx hx1 hc1 hc2 hc3 hsb hmem h6 k6 hH hK hSn hBd hOr HND
              have hgo : (j = 0) ∨ (0 < j ∧ last < m) ∨ (0 < j ∧ m = last ∧ key ≤ (kk : Int)) := by
                rcases Nat.eq_zero_or_pos j with h | h
                · exact .inl h
                · have := hor h; omega
              clear hor
              rcases hgo with rfl | ⟨hj0, hml⟩ | ⟨hj0, hml, hkl⟩
              · go_wp2_with fail
                go_roundg (i - (0 + 1))
                case measure => omega
                case rel => exact ⟨0 + 1, m, kk, L', by omega, by omega, rfl, rfl, by go_num, HLL.out, HH7.out, HK7.out, HSE.out, HBD2.out, fun _ => HOR.out⟩
              · have g1 : (0 : Int) < (j : Int) := by omega
                have g2 : decide (m < last) = false := by simp; omega
                have g3 : (m == last) = false := by simp; omega
                go_wp2_with fail
                go_roundg (i - (j + 1))
                case measure => omega
                case rel => exact ⟨j + 1, m, kk, L', by omega, by omega, rfl, rfl, by go_num, HLL.out, HH7.out, HK7.out, HSE.out, HBD2.out, fun _ => HOR.out⟩
              · subst hml
                have g1 : (0 : Int) < (j : Int) := by omega
                have g2 : decide (m < m) = false := by simp
                have g3 : (m == m) = true := by simp
                have g4 : decide ((kk : Int) < key) = false := by simp; omega
                go_wp2_with fail
                go_roundg (i - (j + 1))
                case measure => omega
                case rel => exact ⟨j + 1, m, kk, L', by omega, by omega, rfl, rfl, by go_num, HLL.out, HH7.out, HK7.out, HSE.out, HBD2.out, fun _ => HOR.out⟩
            · exfalso
              have := hL.out
              rw [h] at this
              simp at this
              omega
          · have hL0 : L = [] := List.eq_nil_of_length_eq_zero (by rw [hL.out]; omega)
            subst hL0
            have KL := len_b hH.out
            have HH8 := Lib.hid hH.out
            clear KL
            go_wp2_with fail
            refine KT.mono ?_
            rintro e w6 (⟨x, L', hp, _⟩ | ⟨_, rfl, hd⟩)
            · exact absurd hp.length_eq (by simp)
            · have KL := len_b (HH8.out.dn hd)
              have HE : Hid (Below W.heap.size W w6) := HB1.out.trans ((hK.out.trans (Kp.dn hd)).below (fun j h => Nat.lt_of_lt_of_le h HB1.out.size) HB1.out.size)
              clear hd KT hK
              go_wp2_with fail
              refine KL.mono ?_
              rintro e w7 ⟨rfl, rfl⟩
              go_wp2
              go_ret
              exact ⟨rfl, HE.out⟩
end Go.Proofs.Ytfejmcoaljelpaa.Hp
