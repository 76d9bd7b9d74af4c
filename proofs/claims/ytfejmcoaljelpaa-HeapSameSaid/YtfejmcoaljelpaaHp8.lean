/-
  A heap: Drop, Take.
-/
import Derived.Test.YtfejmcoaljelpaaHp7
namespace Go.Proofs.Ytfejmcoaljelpaa.Hp
open Go.RowKit Go.Maps Go.Proofs.Ytfejmcoaljelpaa.Box

def dropL (l : List (Int × Int)) (i : Nat) : List (Int × Int) := if i < l.length - 1 then down ahI (up ahI (cutAt l i) i) i else cutAt l i
def DropP (w w' : World) (p bm : Nat) (A : Option Addr) (l : List (Int × Int)) (k : Int) (e : Ending) : Prop :=
  (∃ i, i < l.length ∧ (g l i).1 = k ∧ e = .returned (.bool true) ∧ Upd w w' p bm A (dropL l i)) ∨ ((∀ i, i < l.length → (g l i).1 ≠ k) ∧ e = .returned (.bool false) ∧ w = w')
set_option maxRecDepth 100000 in
set_option maxHeartbeats 4000000 in
theorem drop_h (w : World) (p bm : Nat) (A : Option Addr) (cap : Nat) (l : List (Int × Int)) (h : Hp w p bm A cap l) (k : Int) (hk : (Lit.int .i64 k).wf = true) :
    Calls Try.prog 15 #[.pointer (some ⟨p, 0, none⟩), .int .i64 k] w fun e w' => DropP w w' p bm A l k e := by
  have KP := place_any w p bm A cap l h k hk
  obtain ⟨x0, x1, x2⟩ := bx_three h.bx
  have HH := Lib.hid h
  have HWK := Lib.hid hk
  clear h hk
  go_enter Try.func15, Try.ntmps15
  go_wp2_with fail
  refine KP.mono ?_
  rintro e w1 ⟨rfl, fk, rfl, hf⟩
  clear KP
  cases fk with
  | none =>
    have HF : Hid (∀ e, e = Ending.returned (.bool false) → DropP w w p bm A l k e) := fun e he => .inr ⟨fun i hi e => (by have := (hf i).2 ⟨hi, e⟩; cases this), he, rfl⟩
    clear hf
    go_wp2_with fail
    go_ret
    exact HF.out _ rfl
  | some i =>
    obtain ⟨hi, hk'⟩ := (hf i).1 rfl
    have HI : Hid (∀ e w', e = Ending.returned (.bool true) → Upd w w' p bm A (dropL l i) → DropP w w' p bm A l k e) := fun e w' he hu => .inl ⟨i, hi, hk', he, hu⟩
    obtain ⟨m, hm⟩ : ∃ m, l.length = m + 1 := ⟨l.length - 1, by omega⟩
    have KS := swap_any w p bm A cap l HH.out i m hi (by omega)
    have hmx := HH.out.mx
    have HM := Lib.hid hm
    have HK := Lib.hid hk'
    rw [hm] at x1 hmx hi
    clear hf hk' hm
    go_wp2_with fail
    refine KS.mono ?_
    rintro e w2 ⟨rfl, hP2, hC2⟩
    have hl2 : (sw l i m).length = m + 1 := by rw [sw_len]; exact HM.out
    have hgm : (g (sw l i m) m).1 = k := by rw [g_sw_k l i m (by rw [HM.out]; omega) (by rw [HM.out]; omega)]; exact HK.out
    have hcut : (sw l i m).take m = cutAt l i := by unfold cutAt; rw [show l.length - 1 = m by rw [HM.out]; omega]
    have HP2 := Lib.hid hP2
    have HC2 := Lib.hid hC2
    have hbx2 := hP2.bx
    rw [hl2] at hbx2
    obtain ⟨y0, y1, y2⟩ := bx_three hbx2
    have yf := bx_free hbx2 1
    clear x0 x1 x2 KS hP2 hC2
    obtain ⟨w3, hw3⟩ : ∃ w3, w2.setCell ⟨p, 1, none⟩ (.slice A m m) = w3 := ⟨_, rfl⟩
    have hbx3 : w3.heap[p]? = some (.cells #[.func (.func 11) #[] #[], .slice A m m, .map (some bm)] 61 (0, 0)) := by rw [← hw3]; exact heap_setCell_same w2 p 1 _ _ _ hbx2
    have hpa := HP2.out.pa
    have hpb := HP2.out.pb
    have hit3 : Its w3 A m m (cutAt l i) := by
      have := HP2.out.it
      rw [hl2] at this
      have h4 := this.front (Nat.lt_succ_self m)
      rw [hcut] at h4
      rw [← hw3]
      exact h4.kept fun a e hl => bx_other _ _ _ _ (hpa a e).1 _
    obtain ⟨f, hfx, hfm⟩ := HP2.out.mp
    rw [hl2] at hfm
    have hfm3 : MapI w3 bm (m + 1) f := hfm.kept (by rw [← hw3]; exact bx_other _ _ _ _ (Ne.symm hpb) _)
    have hfk : (f k).isSome = true := by
      rw [(hfx k m).2 ⟨by omega, hgm⟩]; rfl
    have hfc := hfx.cut m hl2
    rw [hcut, hgm] at hfc
    obtain ⟨w4, hr4, hm4, ht4⟩ := hfm3.drop HWK.out hfk 0
    rw [Nat.add_sub_cancel] at hm4
    have hg4 : ∀ j, j ≠ bm → j < w3.heap.size → w4.heap[j]? = w3.heap[j]? := fun j hj hl => ht4.grown.block j hl (fun e => hj (Option.some.inj e))
    have hlc : (cutAt l i).length = m := by rw [cut_len, HM.out]; omega
    have hbx4 := (hg4 p hpb (bx_lt hbx3)).trans hbx3
    have hP4 : Hp w4 p bm A m (cutAt l i) :=
      ⟨by rw [hlc]; exact hbx4, by rw [hlc]; exact hit3.kept fun a e hl => hg4 _ (hpa a e).2 hl, ⟨_, hfc, by rw [hlc]; exact hm4⟩, fun x hx => by
        refine HH.out.wf x ((cut_perm l i (by rw [HM.out]; omega)).mem_iff.2 (List.mem_cons_of_mem _ hx)), hpb, hpa, by omega⟩
    have HP4 := Lib.hid hP4
    have HC4 : Hid (Chg (own3 p bm A) w w4) := by
      have h5 : Chg (own3 p bm A) w2 w3 := by rw [← hw3]; exact Chg.set _ _ (.inl rfl)
      exact (HC2.out.trans h5 fun j h => .inl h).trans (chg_turn ht4) fun j h => .inl h
    have HD : Hid (i < m → dropL l i = down ahI (up ahI (cutAt l i) i) i) := fun h => by unfold dropL; rw [if_pos (by rw [HM.out]; omega)]
    have HD2 : Hid (¬ i < m → dropL l i = cutAt l i) := fun h => by unfold dropL; rw [if_neg (by rw [HM.out]; omega)]
    have HLC := Lib.hid hlc
    obtain ⟨v0, v1, v2⟩ := bx_three hbx3
    clear hbx2 hbx3 hbx4 hit3 hfx hfm hfm3 hfk hfc hm4 ht4 hg4 hlc hP4 hl2 hgm hcut hpa
    have hcap : m ≤ cap := by have := HP2.out.it.nc; rw [sw_len, HM.out] at this; omega
    by_cases hlt : i < m
    · have e1 : (i : Int) < (m : Int) := by omega
      have KU := up_any w4 p bm A m (cutAt l i) HP4.out i (by rw [HLC.out]; exact hlt)
      have HDD : Hid (dropL l i = down ahI (up ahI (cutAt l i) i) i) := HD.out hlt
      go_wp2_with fail
      refine KU.mono ?_
      rintro e w5 ⟨rfl, hP5, hC5⟩
      have hl5 : (up ahI (cutAt l i) i).length = m := by rw [(up_perm i (cutAt l i) (by rw [HLC.out]; exact hlt)).length_eq]; exact HLC.out
      have KD := down_any w5 p bm A m (up ahI (cutAt l i) i) hP5 i (by rw [hl5]; exact hlt)
      have HC5 : Hid (Chg (own3 p bm A) w w5) := HC4.out.trans hC5 fun j h => .inl h
      clear hP5 hC5 KU y0 y1 y2 yf v0 v1 v2 hr4
      go_wp2_with fail
      refine KD.mono ?_
      rintro e w6 ⟨rfl, hP6, hC6⟩
      have HP6 := Lib.hid hP6
      have HC6 : Hid (Chg (own3 p bm A) w w6) := HC5.out.trans hC6 fun j h => .inl h
      clear hP6 hC6 KD
      go_wp2_with fail
      go_ret
      exact HI.out _ _ rfl ⟨A, m, by rw [HDD.out]; exact HP6.out, HC6.out, fun _ _ => .inl rfl⟩
    · have e1 : ¬ (i : Int) < (m : Int) := by omega
      have HDD : Hid (dropL l i = cutAt l i) := HD2.out hlt
      go_wp2_with fail
      go_ret
      exact HI.out _ _ rfl ⟨A, m, by rw [HDD.out]; exact HP4.out, HC4.out, fun _ _ => .inl rfl⟩
/-- A heap, whole: its items in order. -/
def GH (w : World) (p bm : Nat) (A : Option Addr) (l : List (Int × Int)) : Prop := ∃ cap, Hp w p bm A cap l ∧ HO ahI l ∧ ∀ a, A = some a → a.block < w.heap.size
theorem GH.kept {w w' : World} {p bm : Nat} {A : Option Addr} {l : List (Int × Int)} (h : GH w p bm A l) (hs : w.heap.size ≤ w'.heap.size) (hk : ∀ j, own3 p bm A j → j < w.heap.size → w'.heap[j]? = w.heap[j]?) : GH w' p bm A l := by
  obtain ⟨cap, h1, h2, h3⟩ := h
  exact ⟨cap, h1.kept hk, h2, fun a e => Nat.lt_of_lt_of_le (h3 a e) hs⟩
/-- Where the row lies. -/
theorem lies {w w' : World} {A A' : Option Addr} (h : ∀ a, A = some a → a.block < w.heap.size) (hs : w.heap.size ≤ w'.heap.size) (g : ∀ a', A' = some a' → A' = A ∨ (w.heap.size ≤ a'.block ∧ a'.block < w'.heap.size)) : (∀ a, A' = some a → a.block < w'.heap.size) ∧ ∀ a', A' = some a' → A' = A ∨ w.heap.size ≤ a'.block :=
  ⟨fun a e => (g a e).elim (fun e2 => Nat.lt_of_lt_of_le (h a (e2 ▸ e)) hs) fun e2 => e2.2, fun a e => (g a e).imp id fun e2 => e2.1⟩
/-- What an operation leaves, of a whole heap: these items, in whatever order. -/
def UpG (w w' : World) (p bm : Nat) (A : Option Addr) (L : List (Int × Int)) : Prop :=
  ∃ A' l', GH w' p bm A' l' ∧ l'.Perm L ∧ Chg (own3 p bm A) w w' ∧ ∀ a', A' = some a' → A' = A ∨ w.heap.size ≤ a'.block
theorem mem_g {l : List (Int × Int)} {k : Int} : (∃ i, i < l.length ∧ (g l i).1 = k) ↔ k ∈ l.map (·.1) := by
  rw [List.mem_map]
  constructor
  · rintro ⟨i, hi, e⟩
    exact ⟨l[i], List.getElem_mem hi, by rw [← e]; simp [g, List.getD_eq_getElem?_getD, hi]⟩
  · rintro ⟨x, hx, e⟩
    obtain ⟨i, hi, rfl⟩ := List.getElem_of_mem hx
    exact ⟨i, hi, by rw [← e]; simp [g, List.getD_eq_getElem?_getD, hi]⟩
theorem put_g (w : World) (p bm : Nat) (A : Option Addr) (l : List (Int × Int)) (h : GH w p bm A l) (k y : Int) (hk : (Lit.int .i64 k).wf = true) (hy : (Lit.int .i64 y).wf = true) (hn : l.length + 1 ≤ 4294967296) :
    Calls Try.prog 12 #[.pointer (some ⟨p, 0, none⟩), .int .i64 k, .int .i64 y] w fun e w' =>
      (k ∈ l.map (·.1) ∧ e = .returned (.bool false) ∧ w = w') ∨ (k ∉ l.map (·.1) ∧ e = .returned (.bool true) ∧ UpG w w' p bm A ((k, y) :: l)) := by
  obtain ⟨cap, h1, h2, h4⟩ := h
  refine (put_h w p bm A cap l h1 k y hk hy hn).mono fun e w' hp => ?_
  rcases hp with ⟨hi, he, hw⟩ | ⟨hi, he, A', cap', g1, g2, g3⟩
  · exact .inl ⟨mem_g.1 hi, he, hw⟩
  · obtain ⟨q1, q2⟩ := lies h4 g2.size g3
    refine .inr ⟨fun hm => ?_, he, A', _, ⟨cap', g1, put_ok ordI h2 (k, y), q1⟩, ?_, g2, q2⟩
    · obtain ⟨i, hi1, hi2⟩ := mem_g.2 hm
      exact hi i hi1 hi2
    · exact (up_perm _ _ (by simp)).trans (List.perm_append_comm (l₁ := l) (l₂ := [(k, y)]))
theorem nodup_of {w : World} {p bm : Nat} {A : Option Addr} {cap : Nat} {l : List (Int × Int)} (h : Hp w p bm A cap l) : (l.map (·.1)).Nodup := by
  obtain ⟨f, hf, _⟩ := h.mp
  unfold List.Nodup
  rw [List.pairwise_iff_getElem]
  intro i j hi hj hij e
  simp only [List.length_map] at hi hj
  simp only [List.getElem_map] at e
  have gi : (g l i).1 = (l[i]'hi).1 := by simp [g, List.getD_eq_getElem?_getD, hi]
  have gj : (g l j).1 = (l[j]'hj).1 := by simp [g, List.getD_eq_getElem?_getD, hj]
  have h1 := (hf (g l i).1 i).2 ⟨hi, rfl⟩
  have h2 := (hf (g l i).1 j).2 ⟨hj, by rw [gi, gj]; exact e.symm⟩
  rw [h1] at h2
  have := Option.some.inj h2
  omega
theorem dropL_perm {l : List (Int × Int)} {i : Nat} (hi : i < l.length) : l.Perm (g l i :: dropL l i) := by
  have h1 := cut_perm l i hi
  have hl := cut_len l i
  unfold dropL
  split
  · rename_i h
    have h2 := up_perm (ah := ahI) i (cutAt l i) (by omega)
    have h3 := down_perm (ah := ahI) _ i (up ahI (cutAt l i) i) (Nat.le_refl _) (by rw [h2.length_eq]; omega)
    exact h1.trans ((h3.trans h2).symm.cons _)
  · exact h1
theorem dropL_ok {l : List (Int × Int)} {i : Nat} (hi : i < l.length) (h : HO ahI l) : HO ahI (dropL l i) := by
  unfold dropL
  split
  · rename_i h1
    exact drop_ok ordI h i h1
  · have e : i = l.length - 1 := by omega
    rw [e]
    exact cut_last l (by omega) h
/-- One is dropped: what is left has it no more. -/
theorem drop_g (w : World) (p bm : Nat) (A : Option Addr) (l : List (Int × Int)) (h : GH w p bm A l) (k : Int) (hk : (Lit.int .i64 k).wf = true) :
    Calls Try.prog 15 #[.pointer (some ⟨p, 0, none⟩), .int .i64 k] w fun e w' =>
      (k ∉ l.map (·.1) ∧ e = .returned (.bool false) ∧ w = w') ∨ (∃ y L, l.Perm ((k, y) :: L) ∧ e = .returned (.bool true) ∧ UpG w w' p bm A L) := by
  obtain ⟨cap, h1, h2, h4⟩ := h
  refine (drop_h w p bm A cap l h1 k hk).mono fun e w' hp => ?_
  rcases hp with ⟨i, hi, hki, he, A', cap', g1, g2, g3⟩ | ⟨hi, he, hw⟩
  · obtain ⟨q1, q2⟩ := lies h4 g2.size g3
    refine .inr ⟨(g l i).2, dropL l i, ?_, he, A', _, ⟨cap', g1, dropL_ok hi h2, q1⟩, List.Perm.refl _, g2, q2⟩
    have := dropL_perm hi
    rw [show g l i = (k, (g l i).2) from Prod.ext hki rfl] at this
    exact this
  · refine .inl ⟨fun hm => ?_, he, hw⟩
    obtain ⟨i, hi1, hi2⟩ := mem_g.2 hm
    exact hi i hi1 hi2
end Go.Proofs.Ytfejmcoaljelpaa.Hp
