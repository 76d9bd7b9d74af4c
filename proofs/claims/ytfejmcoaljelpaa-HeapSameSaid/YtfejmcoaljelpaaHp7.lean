/-
  A heap: Put, Lower.
-/
import Derived.Test.YtfejmcoaljelpaaHp6
namespace Go.Proofs.Ytfejmcoaljelpaa.Hp
open Go.RowKit Go.Maps Go.Proofs.Ytfejmcoaljelpaa.Box

/-- What an operation leaves: these items. -/
def Upd (w w' : World) (p bm : Nat) (A : Option Addr) (l' : List (Int × Int)) : Prop :=
  ∃ A' cap', Hp w' p bm A' cap' l' ∧ Chg (own3 p bm A) w w' ∧ ∀ a', A' = some a' → A' = A ∨ (w.heap.size ≤ a'.block ∧ a'.block < w'.heap.size)
theorem Its.set1 {w : World} {b n cap : Nat} {l : List (Int × Int)} (h : Its w (some ⟨b, 0, none⟩) n cap l) {i : Nat} (hi : i < n) (y : Int) :
    Its (w.setCell ⟨b, i * 2 + 1, none⟩ (.int .i64 y)) (some ⟨b, 0, none⟩) n cap (l.set i ((g l i).1, y)) :=
  { h with
    ln := by rw [List.length_set]; exact h.ln
    bl := fun hn => by
      obtain ⟨b', cur, e, hb, hc, hr⟩ := h.bl hn
      cases e
      have hs2 := heap_setCell_same w b (i * 2 + 1) cur 65 (.int .i64 y) hb
      refine ⟨b, _, rfl, hs2, by simpa using hc, fun j hj => ?_⟩
      obtain ⟨h1, h2⟩ := hr j hj
      obtain ⟨h3, h4⟩ := hr i hi
      have hl2 := (Array.getElem?_eq_some_iff.1 h4).1
      rw [g_set l i j _ (by rw [h.ln]; exact hi)]
      by_cases ej : j = i
      · subst ej
        rw [if_pos rfl, Nat.mul_comm j 2]
        refine ⟨?_, ?_⟩
        · rw [Array.getElem?_setIfInBounds_ne (by omega)]; exact h1
        · rw [Array.getElem?_setIfInBounds_self_of_lt (by simpa using hl2)]
      · rw [if_neg ej]
        rw [Array.getElem?_setIfInBounds_ne (by omega), Array.getElem?_setIfInBounds_ne (by omega)]
        exact ⟨h1, h2⟩ }
theorem wf_set {l : List (Int × Int)} {x : Int × Int} {i : Nat} (h : ∀ y ∈ l, (Lit.int .i64 y.1).wf = true ∧ (Lit.int .i64 y.2).wf = true) (hx : (Lit.int .i64 x.1).wf = true ∧ (Lit.int .i64 x.2).wf = true) :
    ∀ y ∈ l.set i x, (Lit.int .i64 y.1).wf = true ∧ (Lit.int .i64 y.2).wf = true := fun y hy => by
  rcases List.mem_or_eq_of_mem_set hy with e | e
  · exact h y e
  · rw [e]; exact hx
def LowP (w w' : World) (p bm : Nat) (A : Option Addr) (l : List (Int × Int)) (k y : Int) (e : Ending) : Prop :=
  (∃ i, i < l.length ∧ (g l i).1 = k ∧ y < (g l i).2 ∧ e = .returned (.bool true) ∧ Upd w w' p bm A (up ahI (l.set i (k, y)) i)) ∨ ((∀ i, i < l.length → (g l i).1 = k → (g l i).2 ≤ y) ∧ e = .returned (.bool false) ∧ w = w')
set_option maxRecDepth 100000 in
set_option maxHeartbeats 4000000 in
theorem lower_h (w : World) (p bm : Nat) (A : Option Addr) (cap : Nat) (l : List (Int × Int)) (h : Hp w p bm A cap l) (k y : Int) (hk : (Lit.int .i64 k).wf = true) (hy : (Lit.int .i64 y).wf = true) :
    Calls Try.prog 16 #[.pointer (some ⟨p, 0, none⟩), .int .i64 k, .int .i64 y] w fun e w' => LowP w w' p bm A l k y e := by
  have KP := place_any w p bm A cap l h k hk
  obtain ⟨x0, x1, x2⟩ := bx_three h.bx
  have HH := Lib.hid h
  have HWY := Lib.hid hy
  clear h hy hk
  go_enter Try.func16, Try.ntmps16
  go_wp2_with fail
  refine KP.mono ?_
  rintro e w1 ⟨rfl, fk, rfl, hf⟩
  clear KP
  cases fk with
  | none =>
    have HF : Hid (∀ e, e = Ending.returned (.bool false) → LowP w w p bm A l k y e) := fun e he => .inr ⟨fun i hi e => (by have := (hf i).2 ⟨hi, e⟩; cases this), he, rfl⟩
    clear hf
    go_wp2_with fail
    go_ret
    exact HF.out _ rfl
  | some i =>
    obtain ⟨hi, hk'⟩ := (hf i).1 rfl
    obtain ⟨b, rfl, _, hc⟩ := HH.out.it.cells hi
    obtain ⟨c0, c1, _, f1⟩ := hc i hi
    have e1 : (i : Int) < (l.length : Int) := by omega
    by_cases hlt : y < (g l i).2
    · have HI : Hid (∀ e w', e = Ending.returned (.bool true) → Upd w w' p bm (some ⟨b, 0, none⟩) (up ahI (l.set i (k, y)) i) → LowP w w' p bm (some ⟨b, 0, none⟩) l k y e) := fun e w' he hu => .inl ⟨i, hi, hk', hlt, he, hu⟩
      have e2 : ¬ (g l i).2 ≤ y := by omega
      obtain ⟨w2, hw2⟩ : ∃ w2, w.setCell ⟨b, i * 2 + 1, none⟩ (.int .i64 y) = w2 := ⟨_, rfl⟩
      have hpa : b ≠ p ∧ b ≠ bm := HH.out.pa _ rfl
      obtain ⟨f, hfx, hfm⟩ := HH.out.mp
      have hP2 : Hp w2 p bm (some ⟨b, 0, none⟩) cap (l.set i ((g l i).1, y)) := by
        rw [← hw2]
        exact ⟨by rw [List.length_set]; exact (bx_other _ _ _ _ (Ne.symm hpa.1) _).trans HH.out.bx, by rw [List.length_set]; exact HH.out.it.set1 hi y, ⟨f, hfx.low hi y, by rw [List.length_set]; exact hfm.kept (bx_other _ _ _ _ (Ne.symm hpa.2) _)⟩,
          wf_set HH.out.wf ⟨(HH.out.wfg hi).1, HWY.out⟩, HH.out.pb, HH.out.pa, by rw [List.length_set]; exact HH.out.mx⟩
      rw [hk'] at hP2
      have HP2 := Lib.hid hP2
      have HC2 : Hid (Chg (own3 p bm (some ⟨b, 0, none⟩)) w w2) := by rw [← hw2]; exact Chg.set _ _ (.inr (.inr ⟨_, rfl, rfl⟩))
      have KU := up_any w2 p bm (some ⟨b, 0, none⟩) cap (l.set i (k, y)) hP2 i (by rw [List.length_set]; exact hi)
      clear hf hc hk' hfx hfm hP2 hlt
      generalize (g l i).2 = y0 at *
      generalize (g l i).1 = x at *
      generalize l.length = n at *
      go_wp2_with fail
      try rw [hw2]
      clear hw2
      refine KU.mono ?_
      rintro e w3 ⟨rfl, hP3, hC3⟩
      have HP3 := Lib.hid hP3
      have HC3 : Hid (Chg (own3 p bm (some ⟨b, 0, none⟩)) w w3) := HC2.out.trans hC3 fun j h => .inl h
      clear hP3 hC3 KU
      go_wp2_with fail
      go_ret
      exact HI.out _ _ rfl ⟨_, _, HP3.out, HC3.out, fun _ _ => .inl rfl⟩
    · have hle : (g l i).2 ≤ y := by omega
      have HF : Hid (∀ e, e = Ending.returned (.bool false) → LowP w w p bm (some ⟨b, 0, none⟩) l k y e) := fun e he => .inr ⟨fun j hj e => by
        have h1 := (hf j).2 ⟨hj, e⟩
        cases h1
        exact hle, he, rfl⟩
      clear hf hc hk' hlt
      generalize (g l i).2 = y0 at *
      generalize (g l i).1 = x at *
      generalize l.length = n at *
      go_wp2_with fail
      go_ret
      exact HF.out _ rfl
def PutP (w w' : World) (p bm : Nat) (A : Option Addr) (l : List (Int × Int)) (k y : Int) (e : Ending) : Prop :=
  ((∃ i, i < l.length ∧ (g l i).1 = k) ∧ e = .returned (.bool false) ∧ w = w') ∨ ((∀ i, i < l.length → (g l i).1 ≠ k) ∧ e = .returned (.bool true) ∧ Upd w w' p bm A (up ahI (l ++ [(k, y)]) l.length))
theorem cell_newI (w : World) (vs : Array Value) (t : TypeId) (j : Nat) (u : Value) (h : vs[j]? = some u) : (w.alloc (.cells vs t)).cell? ⟨w.heap.size, j, none⟩ = some u := by
  have hb : (w.alloc (.cells vs t)).heap[w.heap.size]? = some (.cells vs t (0, 0)) := heap_alloc_new _ _
  simp only [World.cell?, hb]
  exact h
theorem own_row {p bm : Nat} {A : Option Addr} (j : Nat) (h : ∃ a, A = some a ∧ a.block = j) : own3 p bm A j := .inr (.inr h)
set_option maxRecDepth 100000 in
set_option maxHeartbeats 4000000 in
theorem put_h (w : World) (p bm : Nat) (A : Option Addr) (cap : Nat) (l : List (Int × Int)) (h : Hp w p bm A cap l) (k y : Int) (hk : (Lit.int .i64 k).wf = true) (hy : (Lit.int .i64 y).wf = true) (hn : l.length + 1 ≤ 4294967296) :
    Calls Try.prog 12 #[.pointer (some ⟨p, 0, none⟩), .int .i64 k, .int .i64 y] w fun e w' => PutP w w' p bm A l k y e := by
  have KP := place_any w p bm A cap l h k hk
  have heq := eqlF
  obtain ⟨x0, x1, x2⟩ := bx_three h.bx
  have HH := Lib.hid h
  have HWK := Lib.hid hk
  have HWY := Lib.hid hy
  clear h hy hk
  go_enter Try.func12, Try.ntmps12
  go_wp2_with fail
  refine KP.mono ?_
  rintro e w1 ⟨rfl, fk, rfl, hf⟩
  clear KP
  cases fk with
  | some i =>
    have HF : Hid (∀ e, e = Ending.returned (.bool false) → PutP w w p bm A l k y e) := fun e he => .inl ⟨⟨i, (hf i).1 rfl⟩, he, rfl⟩
    clear hf
    go_wp2_with fail
    go_ret
    exact HF.out _ rfl
  | none =>
    have hno : ∀ i, i < l.length → (g l i).1 ≠ k := fun i hi e => by have := (hf i).2 ⟨hi, e⟩; cases this
    have HI : Hid (∀ e w', e = Ending.returned (.bool true) → Upd w w' p bm A (up ahI (l ++ [(k, y)]) l.length) → PutP w w' p bm A l k y e) := fun e w' he hu => .inr ⟨hno, he, hu⟩
    have HNO := Lib.hid hno
    clear hf hno
    have hIa : Hid (∀ o, Its (w.alloc o) A l.length cap l) := fun o => HH.out.it.kept fun a e hl => Below.heap_alloc _ _ _ hl
    have hpl : p < w.heap.size := bx_lt HH.out.bx
    have hbxa : Hid (∀ o, (w.alloc o).heap[p]? = some (.cells #[.func (.func 11) #[] #[], .slice A l.length cap, .map (some bm)] 61 (0, 0))) := fun o => (Below.heap_alloc _ _ _ hpl).trans HH.out.bx
    have HPA : Hid (∀ a, A = some a → a.block ≠ p ∧ a.block ≠ bm) := HH.out.pa
    have HPB : Hid (p ≠ bm) := HH.out.pb
    obtain ⟨n, hn'⟩ : ∃ n, l.length = n := ⟨_, rfl⟩
    have HN := Lib.hid hn'
    rw [hn'] at x1 hIa hbxa hn
    clear hn'
    have X1 : ∀ o, (w.alloc o).cell? ⟨p, 1, none⟩ = some (.slice A n cap) := fun o => cell_a1 x1 o
    go_wp2_with (at_builtin; refine wpList_append_its rfl _ _ rfl A n cap l rfl (hIa.out _) w.heap.size k y rfl (cell_newI w _ _ 0 _ rfl) (cell_newI w _ _ 1 _ rfl) hn ?_; intro A' cap' w1 hI1 hC1 hA1; have hbx1 := (hC1.block p (by simp; omega) (fun ⟨a, e1, e2⟩ => (HPA.out a e1).1 e2)).trans (hbxa.out _); obtain ⟨z0, z1, z2⟩ := bx_three hbx1; have zf := bx_free hbx1 1)
    clear z0 z1 z2 zf x0 x1 x2 X1
    obtain ⟨w2, hw2⟩ : ∃ w2, w1.setCell ⟨p, 1, none⟩ (.slice A' (n + 1) cap') = w2 := ⟨_, rfl⟩
    rw [hw2]
    have hbx2 : w2.heap[p]? = some (.cells #[.func (.func 11) #[] #[], .slice A' (n + 1) cap', .map (some bm)] 61 (0, 0)) := by rw [← hw2]; exact heap_setCell_same w1 p 1 _ _ _ hbx1
    have hpA : ∀ a', A' = some a' → a'.block ≠ p ∧ a'.block ≠ bm := fun a' e => by
      rcases hA1 a' e with e2 | e2
      · exact HPA.out a' (e2 ▸ e)
      · have hbl := HH.out.mp
        obtain ⟨f, _, hm⟩ := hbl
        have := hm.lt
        simp at e2
        omega
    have hit2 : Its w2 A' (n + 1) cap' (l ++ [(k, y)]) := by rw [← hw2]; exact hI1.kept fun a e hl => bx_other _ _ _ _ (hpA a e).1 _
    obtain ⟨f, hfx, hfm⟩ := HH.out.mp
    rw [HN.out] at hfm
    have hfm2 : MapI w2 bm n f := hfm.kept (by
      rw [← hw2, bx_other _ _ _ _ (Ne.symm HPB.out)]
      exact (hC1.block bm (by simp; have := hfm.lt; omega) (fun ⟨a, e1, e2⟩ => (HPA.out a e1).2 e2)).trans (Below.heap_alloc _ _ _ hfm.lt))
    have hfk : f k = none := by
      cases hfk : f k with
      | none => rfl
      | some i =>
        obtain ⟨h1, h2⟩ := (hfx k i).1 hfk
        exact absurd h2 (HNO.out i h1)
    have hC2 : Hid (Chg (own3 p bm A) w w2) := by
      rw [← hw2]
      exact ((Chg.alloc (S := own3 p bm A) w _).trans (hC1.mono own_row) fun j h => .inl h).trans (Chg.set (S := own3 p bm A) _ _ (.inl rfl)) fun j h => .inl h
    obtain ⟨w3, hr3, hm3, ht3⟩ := (show MapI w2.drew bm n f from hfm2.kept rfl).store HWK.out n (by simp [Lit.wf, IntKind.min, IntKind.max, IntKind.signed, IntKind.bits]; omega) (by unfold maxLen; omega)
    rw [hfk] at hm3
    have hfn := hfx.put (n := y) hfk
    rw [HN.out] at hfn
    have hg3 : ∀ j, j ≠ bm → j < w2.heap.size → w3.heap[j]? = w2.heap[j]? := fun j hj hl => ht3.grown.block j hl (fun e => hj (Option.some.inj e))
    have hlen : (l ++ [(k, y)]).length = n + 1 := by rw [List.length_append, HN.out]; rfl
    have hP3 : Hp w3 p bm A' cap' (l ++ [(k, y)]) :=
      ⟨by rw [hlen]; exact (hg3 p HPB.out (bx_lt hbx2)).trans hbx2, by rw [hlen]; exact hit2.kept fun a e hl => hg3 _ (hpA a e).2 hl, ⟨_, hfn, by rw [hlen]; exact hm3⟩, fun x hx => by
        rcases List.mem_append.1 hx with hx | hx
        · exact HH.out.wf x hx
        · rw [List.mem_singleton.1 hx]; exact ⟨HWK.out, HWY.out⟩, HPB.out, hpA, by omega⟩
    have KU := up_any w3 p bm A' cap' (l ++ [(k, y)]) hP3 n (by omega)
    have HC3 : Hid (Chg (own3 p bm A) w w3) := (hC2.out.trans (Chg.drew (S := own3 p bm A) w2) fun j h => .inl h).trans (chg_turn ht3) fun j h => .inl h
    have hs3 : w2.heap.size ≤ w3.heap.size := ht3.grown.size
    have HFR : Hid (∀ a', A' = some a' → A' = A ∨ (w.heap.size ≤ a'.block ∧ a'.block < w3.heap.size)) := fun a' e => (hA1 a' e).imp id fun h => by
      obtain ⟨b, cur, e2, hb, _⟩ := hit2.bl (Nat.succ_pos n)
      have := (Array.getElem?_eq_some_iff.1 hb).1
      rw [e] at e2
      cases e2
      simp at h
      exact ⟨show w.heap.size ≤ b by omega, show b < w3.heap.size by omega⟩
    have HS3 := Lib.hid hs3
    clear hs3
    obtain ⟨x0, x1, x2⟩ := bx_three hbx2
    obtain ⟨v0, v1, v2⟩ := bx_three ((hg3 p HPB.out (bx_lt hbx2)).trans hbx2)
    clear hw2 hI1 hC1 hA1 hbx1 hbx2 hpA hit2 hfx hfm hfm2 hfk hfn hg3 hlen hP3 hm3 ht3 hIa hbxa
    go_region
    clear x0 x1 x2 hr3
    go_wp2_with fail
    refine KU.mono ?_
    rintro e w4 ⟨rfl, hP4, hC4⟩
    have HP4 := Lib.hid hP4
    have HS4 : Hid (w3.heap.size ≤ w4.heap.size) := hC4.size
    have HC4 : Hid (Chg (own3 p bm A) w w4) := HC3.out.trans hC4 fun j h => by
      rcases h with h | h | ⟨a, h1, h2⟩
      · exact .inl (.inl h)
      · exact .inl (.inr (.inl h))
      · rcases HFR.out a h1 with e | e
        · exact .inl (.inr (.inr ⟨a, e ▸ h1, h2⟩))
        · exact .inr (h2 ▸ e.1)
    clear hP4 hC4 KU v0 v1 v2
    go_wp2_with fail
    go_ret
    exact HI.out _ _ rfl ⟨A', cap', by rw [HN.out]; exact HP4.out, HC4.out, fun a' e => (HFR.out a' e).imp id fun h => ⟨h.1, Nat.lt_of_lt_of_le h.2 HS4.out⟩⟩
end Go.Proofs.Ytfejmcoaljelpaa.Hp
