/-
  A heap by its items alone: Put, Drop, Lower, Take, Min, Get, Len; a heap that is none.
-/
import Derived.Test.YtfejmcoaljelpaaHp8
namespace Go.Proofs.Ytfejmcoaljelpaa.Hp
open Go.RowKit Go.Maps Go.Proofs.Ytfejmcoaljelpaa.Box

/-- These blocks stay. -/
structure Kp (B : Nat → Prop) (w w' : World) : Prop where
  os : w'.os = w.os
  tape : w'.tape = w.tape
  output : w'.output = w.output
  size : w.heap.size ≤ w'.heap.size
  block : ∀ j, B j → j < w.heap.size → w'.heap[j]? = w.heap[j]?
theorem Kp.refl (B : Nat → Prop) (w : World) : Kp B w w := ⟨rfl, rfl, rfl, Nat.le_refl _, fun _ _ _ => rfl⟩
theorem Kp.trans {B : Nat → Prop} {w w1 w2 : World} (h : Kp B w w1) (g : Kp B w1 w2) : Kp B w w2 :=
  ⟨g.os.trans h.os, g.tape.trans h.tape, g.output.trans h.output, Nat.le_trans h.size g.size, fun j hj hl => (g.block j hj (Nat.lt_of_lt_of_le hl h.size)).trans (h.block j hj hl)⟩
theorem Kp.below {N : Nat} {B : Nat → Prop} {w w1 : World} (h : Kp B w w1) (hB : ∀ j, j < N → B j) (hs : N ≤ w.heap.size) : Below N w w1 := ⟨h.os, h.tape, h.output, h.size, fun j hj => h.block j (hB j hj) (Nat.lt_of_lt_of_le hj hs)⟩
theorem Kp.of_below {B : Nat → Prop} {w w1 : World} (h : Below w.heap.size w w1) : Kp B w w1 := ⟨h.os, h.tape, h.output, h.size, fun j _ hl => h.block j hl⟩
theorem Kp.of_chg {B S : Nat → Prop} {w w1 : World} (h : Chg S w w1) (hB : ∀ j, B j → ¬ S j) : Kp B w w1 := ⟨h.os, h.tape, h.output, h.size, fun j hj hl => h.block j hl (hB j hj)⟩
theorem Kp.dn {B : Nat → Prop} {w w1 : World} (h : Dn w w1) : Kp B w w1 := by obtain ⟨n, rfl⟩ := h; exact ⟨rfl, rfl, rfl, Nat.le_refl _, fun _ _ _ => rfl⟩
/-- A heap of these items, in whatever order, that has none of those blocks. -/
def HB (B : Nat → Prop) (w : World) (p bm : Nat) (L : List (Int × Int)) : Prop := ∃ A l, GH w p bm A l ∧ l.Perm L ∧ ∀ j, B j → j < w.heap.size ∧ ¬ own3 p bm A j
theorem HB.kept {B : Nat → Prop} {w w' : World} {p bm : Nat} {L : List (Int × Int)} (h : HB B w p bm L) (hs : w.heap.size ≤ w'.heap.size) (hk : ∀ j, ¬ B j → j < w.heap.size → w'.heap[j]? = w.heap[j]?) : HB B w' p bm L := by
  obtain ⟨A, l, h1, h2, h3⟩ := h
  exact ⟨A, l, h1.kept hs fun j hj hl => hk j (fun hb => (h3 j hb).2 hj) hl, h2, fun j hj => ⟨Nat.lt_of_lt_of_le (h3 j hj).1 hs, (h3 j hj).2⟩⟩
theorem HB.below {B : Nat → Prop} {w w' : World} {p bm : Nat} {L : List (Int × Int)} (h : HB B w p bm L) (hb : Below w.heap.size w w') : HB B w' p bm L := h.kept hb.size fun j _ hl => hb.block j hl
theorem HB.dn {B : Nat → Prop} {w w' : World} {p bm : Nat} {L : List (Int × Int)} (h : HB B w p bm L) (hb : Dn w w') : HB B w' p bm L := by obtain ⟨n, rfl⟩ := hb; exact h.kept (Nat.le_refl _) fun _ _ _ => rfl
theorem HB.perm {B : Nat → Prop} {w : World} {p bm : Nat} {L L' : List (Int × Int)} (h : HB B w p bm L) (hp : L.Perm L') : HB B w p bm L' := by
  obtain ⟨A, l, h1, h2, h3⟩ := h
  exact ⟨A, l, h1, h2.trans hp, h3⟩
/-- One block more that is not the heap's. -/
theorem HB.more {B : Nat → Prop} {w : World} {p bm : Nat} {L : List (Int × Int)} (h : HB B w p bm L) (o : Obj) : HB (fun j => B j ∨ j = w.heap.size) (w.alloc o) p bm L := by
  obtain ⟨A, l, ⟨cap, h1, h2, h5⟩, h4, h3⟩ := h
  refine ⟨A, l, GH.kept ⟨cap, h1, h2, h5⟩ (by simp) fun j _ hl => Below.heap_alloc _ _ _ hl, h4, fun j hj => ?_⟩
  rcases hj with hj | rfl
  · exact ⟨by have := (h3 j hj).1; simp; omega, (h3 j hj).2⟩
  · refine ⟨by simp, fun ho => ?_⟩
    obtain ⟨f, _, hm⟩ := h1.mp
    have l1 := bx_lt h1.bx
    have l2 := hm.lt
    rcases ho with e | e | ⟨a, e1, e2⟩
    · omega
    · omega
    · have := h5 a e1; omega
theorem perm_set {l : List (Int × Int)} : ∀ {i : Nat}, i < l.length → ∀ x, ∃ L', l.Perm (g l i :: L') ∧ (l.set i x).Perm (x :: L') := by
  induction l with
  | nil => intro i hi; simp at hi
  | cons a l ih =>
    intro i hi x
    cases i with
    | zero => exact ⟨l, List.Perm.refl _, List.Perm.refl _⟩
    | succ i =>
      obtain ⟨L', h1, h2⟩ := ih (i := i) (by simpa using hi) x
      refine ⟨a :: L', ?_, ?_⟩
      · have e : g (a :: l) (i + 1) = g l i := by simp [g]
        rw [e]
        exact (h1.cons a).trans (List.Perm.swap _ _ _)
      · rw [List.set_cons_succ]
        exact (h2.cons a).trans (List.Perm.swap _ _ _)
theorem nodup_b {B : Nat → Prop} {w : World} {p bm : Nat} {L : List (Int × Int)} (h : HB B w p bm L) : (L.map (·.1)).Nodup := by
  obtain ⟨A, l, ⟨cap, h1, _⟩, h2, _⟩ := h
  exact (h2.map _).nodup_iff.1 (nodup_of h1)
theorem up_hb {B : Nat → Prop} {w w' : World} {p bm : Nat} {A : Option Addr} {L : List (Int × Int)} (hB : ∀ j, B j → j < w.heap.size ∧ ¬ own3 p bm A j) (h : UpG w w' p bm A L) : HB B w' p bm L ∧ Kp B w w' := by
  obtain ⟨A', l', h1, h2, h3, h4⟩ := h
  refine ⟨⟨A', l', h1, h2, fun j hj => ⟨Nat.lt_of_lt_of_le (hB j hj).1 h3.size, fun ho => ?_⟩⟩, Kp.of_chg h3 fun j hj => (hB j hj).2⟩
  rcases ho with e | e | ⟨a, e1, e2⟩
  · exact (hB j hj).2 (.inl e)
  · exact (hB j hj).2 (.inr (.inl e))
  · rcases h4 a e1 with e | e
    · exact (hB j hj).2 (.inr (.inr ⟨a, e ▸ e1, e2⟩))
    · have := (hB j hj).1; omega
theorem put_b {B : Nat → Prop} {w : World} {p bm : Nat} {L : List (Int × Int)} (h : HB B w p bm L) (k y : Int) (hk : (Lit.int .i64 k).wf = true) (hy : (Lit.int .i64 y).wf = true) (hn : L.length + 1 ≤ 4294967296) :
    Calls Try.prog 12 #[.pointer (some ⟨p, 0, none⟩), .int .i64 k, .int .i64 y] w fun e w' =>
      (k ∈ L.map (·.1) ∧ e = .returned (.bool false) ∧ w = w') ∨ (k ∉ L.map (·.1) ∧ e = .returned (.bool true) ∧ HB B w' p bm ((k, y) :: L) ∧ Kp B w w') := by
  obtain ⟨A, l, h1, h2, h3⟩ := h
  have hm : k ∈ l.map (·.1) ↔ k ∈ L.map (·.1) := (h2.map _).mem_iff
  refine (put_g w p bm A l h1 k y hk hy (by rw [h2.length_eq]; exact hn)).mono fun e w' hp => ?_
  rcases hp with ⟨a, b, c⟩ | ⟨a, b, c⟩
  · exact .inl ⟨hm.1 a, b, c⟩
  · obtain ⟨g1, g2⟩ := up_hb h3 c
    exact .inr ⟨fun h => a (hm.2 h), b, g1.perm (h2.cons _), g2⟩
theorem drop_b {B : Nat → Prop} {w : World} {p bm : Nat} {L : List (Int × Int)} (h : HB B w p bm L) (k : Int) (hk : (Lit.int .i64 k).wf = true) :
    Calls Try.prog 15 #[.pointer (some ⟨p, 0, none⟩), .int .i64 k] w fun e w' =>
      (k ∉ L.map (·.1) ∧ e = .returned (.bool false) ∧ w = w') ∨ (∃ y L', L.Perm ((k, y) :: L') ∧ e = .returned (.bool true) ∧ HB B w' p bm L' ∧ Kp B w w') := by
  obtain ⟨A, l, h1, h2, h3⟩ := h
  have hm : k ∈ l.map (·.1) ↔ k ∈ L.map (·.1) := (h2.map _).mem_iff
  refine (drop_g w p bm A l h1 k hk).mono fun e w' hp => ?_
  rcases hp with ⟨a, b, c⟩ | ⟨y, L', a, b, c⟩
  · exact .inl ⟨fun h => a (hm.2 h), b, c⟩
  · obtain ⟨g1, g2⟩ := up_hb h3 c
    exact .inr ⟨y, L', h2.symm.trans a, b, g1, g2⟩
theorem lower_b {B : Nat → Prop} {w : World} {p bm : Nat} {L : List (Int × Int)} (h : HB B w p bm L) (k y : Int) (hk : (Lit.int .i64 k).wf = true) (hy : (Lit.int .i64 y).wf = true) :
    Calls Try.prog 16 #[.pointer (some ⟨p, 0, none⟩), .int .i64 k, .int .i64 y] w fun e w' =>
      (∃ y0 L', L.Perm ((k, y0) :: L') ∧ y < y0 ∧ e = .returned (.bool true) ∧ HB B w' p bm ((k, y) :: L') ∧ Kp B w w') ∨ ((∀ y0, (k, y0) ∈ L → y0 ≤ y) ∧ e = .returned (.bool false) ∧ w = w') := by
  obtain ⟨A, l, ⟨cap, h1, ho, h5⟩, h2, h3⟩ := h
  refine (lower_h w p bm A cap l h1 k y hk hy).mono fun e w' hp => ?_
  rcases hp with ⟨i, hi, hki, hlt, he, A', cap', g1, g2, g3⟩ | ⟨a, he, hw⟩
  · have hgi : g l i = l[i] := by simp [g, List.getD_eq_getElem?_getD, hi]
    obtain ⟨L', p1, p2⟩ := perm_set hi (k, y)
    obtain ⟨q1, q2⟩ := lies h5 g2.size g3
    have hpair : g l i = (k, (g l i).2) := Prod.ext hki rfl
    have hah : ahI (k, y) (g l i) = true := by rw [hpair]; exact decide_eq_true (.inl hlt)
    have hu : UpG w w' p bm A ((k, y) :: L') := ⟨A', _, ⟨cap', g1, lower_ok ordI ho i hi (k, y) hah, q1⟩, (up_perm i _ (by simpa using hi)).trans p2, g2, q2⟩
    obtain ⟨q3, q4⟩ := up_hb h3 hu
    rw [hpair] at p1
    exact .inl ⟨(g l i).2, L', h2.symm.trans p1, hlt, he, q3, q4⟩
  · refine .inr ⟨fun y0 hm => ?_, he, hw⟩
    have hm' := h2.mem_iff.2 hm
    obtain ⟨i, hi, hx⟩ := List.getElem_of_mem hm'
    have hgi : g l i = l[i] := by simp [g, List.getD_eq_getElem?_getD, hi]
    rw [← hgi] at hx
    have := a i hi (by rw [hx])
    rw [hx] at this
    exact this
theorem len_b {B : Nat → Prop} {w : World} {p bm : Nat} {L : List (Int × Int)} (h : HB B w p bm L) :
    Calls Try.prog 14 #[.pointer (some ⟨p, 0, none⟩)] w fun e w' => e = .returned (.int .i64 (L.length : Int)) ∧ w = w' := by
  obtain ⟨A, l, ⟨cap, h1, ho, h5⟩, h2, h3⟩ := h
  rw [← h2.length_eq]
  exact len_h w p bm A cap l h1
/-- The least one. -/
def IsMin (L : List (Int × Int)) (x : Int × Int) : Prop := x ∈ L ∧ ∀ z ∈ L, ahI z x = false
theorem min_first {l : List (Int × Int)} (h : HO ahI l) (h0 : 0 < l.length) : IsMin l (g l 0) := by
  have hg : ∀ i (hi : i < l.length), g l i = l[i] := fun i hi => by simp [g, List.getD_eq_getElem?_getD, hi]
  refine ⟨by rw [hg 0 h0]; exact List.getElem_mem h0, fun z hz => ?_⟩
  obtain ⟨i, hi, rfl⟩ := List.getElem_of_mem hz
  rw [← hg i hi]
  exact h.first ordI i hi
theorem IsMin.perm {L L' : List (Int × Int)} {x : Int × Int} (h : IsMin L x) (hp : L.Perm L') : IsMin L' x := ⟨hp.mem_iff.1 h.1, fun z hz => h.2 z (hp.mem_iff.2 hz)⟩
theorem min_b {B : Nat → Prop} {w : World} {p bm : Nat} {L : List (Int × Int)} (h : HB B w p bm L) :
    Calls Try.prog 18 #[.pointer (some ⟨p, 0, none⟩)] w fun e w' => Dn w w' ∧ ((∃ x, IsMin L x ∧ e = .returned (.tuple #[.int .i64 x.1, .int .i64 x.2, .bool true])) ∨ (L = [] ∧ e = .returned (.tuple #[.int .i64 0, .int .i64 0, .bool false]))) := by
  obtain ⟨A, l, ⟨cap, h1, ho, h5⟩, h2, h3⟩ := h
  refine (min_h w p bm A cap l h1).mono fun e w' hp => ?_
  rcases hp with ⟨hd, ⟨h0, he⟩ | ⟨h0, he⟩⟩
  · exact ⟨hd, .inl ⟨_, (min_first ho h0).perm h2, he⟩⟩
  · subst h0
    exact ⟨hd, .inr ⟨h2.nil_eq.symm, he⟩⟩
theorem get_b {B : Nat → Prop} {w : World} {p bm : Nat} {L : List (Int × Int)} (h : HB B w p bm L) (k : Int) (hk : (Lit.int .i64 k).wf = true) :
    Calls Try.prog 17 #[.pointer (some ⟨p, 0, none⟩), .int .i64 k] w fun e w' => w = w' ∧ ((∃ y, (k, y) ∈ L ∧ e = .returned (.tuple #[.int .i64 y, .bool true])) ∨ (k ∉ L.map (·.1) ∧ e = .returned (.tuple #[.int .i64 0, .bool false]))) := by
  obtain ⟨A, l, ⟨cap, h1, ho, h5⟩, h2, h3⟩ := h
  have hm : k ∈ l.map (·.1) ↔ k ∈ L.map (·.1) := (h2.map _).mem_iff
  refine (get_h w p bm A cap l h1 k hk).mono fun e w' hp => ?_
  rcases hp with ⟨hw, ⟨i, hi, hki, he⟩ | ⟨hi, he⟩⟩
  · refine ⟨hw, .inl ⟨(g l i).2, h2.mem_iff.1 ?_, he⟩⟩
    have hg : g l i = l[i] := by simp [g, List.getD_eq_getElem?_getD, hi]
    have e2 : (k, (g l i).2) = l[i] := by rw [← hg]; exact Prod.ext hki.symm rfl
    rw [e2]
    exact List.getElem_mem hi
  · refine ⟨hw, .inr ⟨fun hm' => ?_, he⟩⟩
    obtain ⟨i, hi1, hi2⟩ := mem_g.2 (hm.2 hm')
    exact hi i hi1 hi2
def TakeP (B : Nat → Prop) (w w' : World) (p bm : Nat) (L : List (Int × Int)) (e : Ending) : Prop :=
  (∃ x L', L.Perm (x :: L') ∧ IsMin L x ∧ e = .returned (.tuple #[.int .i64 x.1, .int .i64 x.2, .bool true]) ∧ HB B w' p bm L' ∧ Kp B w w') ∨ (L = [] ∧ e = .returned (.tuple #[.int .i64 0, .int .i64 0, .bool false]) ∧ Dn w w')
set_option maxRecDepth 100000 in
theorem take_b {B : Nat → Prop} {w : World} {p bm : Nat} {L : List (Int × Int)} (h : HB B w p bm L) (hwf : ∀ x ∈ L, (Lit.int .i64 x.1).wf = true) :
    Calls Try.prog 13 #[.pointer (some ⟨p, 0, none⟩)] w fun e w' => TakeP B w w' p bm L e := by
  have KM := min_b h
  have HH := Lib.hid h
  have HWF := Lib.hid hwf
  clear h hwf
  go_enter Try.func13, Try.ntmps13
  go_wp2_with fail
  refine KM.mono ?_
  rintro e w1 ⟨hd, ⟨⟨x, y⟩, hx, rfl⟩ | ⟨hx, rfl⟩⟩
  · have hH1 := HH.out.dn hd
    have KD := drop_b hH1 x (HWF.out _ hx.1)
    have hND := nodup_b HH.out
    have HX : Hid (IsMin L (x, y)) := hx
    have HND := Lib.hid hND
    have HD : Hid (Kp B w w1) := Kp.dn hd
    clear hx hND hd KM hH1
    go_wp2_with fail
    refine KD.mono ?_
    rintro e w2 (⟨hn, rfl, rfl⟩ | ⟨y', L', hp, rfl, hH2, hK2⟩)
    · exact absurd (List.mem_map.2 ⟨_, HX.out.1, rfl⟩) hn
    · have hy : y' = y := by
        have h1 := hp.mem_iff.1 HX.out.1
        rcases List.mem_cons.1 h1 with e | e
        · exact (Prod.ext_iff.1 e).2.symm
        · have h2 := (hp.map (·.1)).nodup_iff.1 HND.out
          rw [List.map_cons, List.nodup_cons] at h2
          exact absurd (List.mem_map.2 ⟨_, e, rfl⟩) h2.1
      have HT : Hid (∀ e, e = Ending.returned (.tuple #[.int .i64 x, .int .i64 y, .bool true]) → TakeP B w w2 p bm L e) := fun e he => .inl ⟨(x, y), L', hy ▸ hp, HX.out, he, hH2, HD.out.trans hK2⟩
      clear hp hH2 hK2 hy KD
      go_wp2_with fail
      go_ret3
      exact HT.out _ rfl
  · have HT : Hid (∀ e, e = Ending.returned (.tuple #[.int .i64 0, .int .i64 0, .bool false]) → TakeP B w w1 p bm L e) := fun e he => .inr ⟨hx, he, hd⟩
    clear hx hd KM
    go_wp2_with fail
    go_ret3
    exact HT.out _ rfl
theorem new_b (w : World) : Calls Try.prog 10 #[.func (.func 11) #[] #[]] w fun e w' =>
    ∃ p bm, e = .returned (.pointer (some ⟨p, 0, none⟩)) ∧ HB (fun j => j < w.heap.size) w' p bm [] ∧ Below w.heap.size w w' :=
  (new_h w).mono fun e w' ⟨p, bm, he, h1, h2, h3, h4⟩ => ⟨p, bm, he, ⟨none, [], ⟨0, h1, fun j _ hl => absurd hl (Nat.not_lt_zero _), fun a e => (by cases e)⟩, List.Perm.refl _, fun j hj => ⟨Nat.lt_of_lt_of_le hj h2.size, fun ho => by
    rcases ho with e | e | ⟨a, e1, _⟩
    · omega
    · omega
    · cases e1⟩⟩, h2⟩
end Go.Proofs.Ytfejmcoaljelpaa.Hp
