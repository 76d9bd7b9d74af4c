/-
  Package demand: jobs, Check; the least and the greatest of a row.
-/
import Derived.Test.YtajkckjpfbkpmaaDem0
import Derived.Test.YtajkckjpfbkpmaaAri7
namespace Go.Proofs.Ytajkckjpfbkpmaa.Dem
open Go.RowKit Go.Shelf Go.Proofs.Ytajkckjpfbkpmaa.Ari

def demV (c d t : Int) : Value := .agg #[.int .i64 c, .int .i64 d, .int .i64 t]
/-- A row of demands that is read. -/
def RdD (w : World) (A : Option Addr) (n : Nat) (l : List Dm) : Prop :=
  l.length = n ∧ n ≤ 64 ∧ (0 < n → ∃ b o, A = some ⟨b, o, none⟩ ∧ ∀ j, j < n →
    w.cell? ⟨b, o + j * 3, none⟩ = some (.int .i64 (l.getD j default).c) ∧ w.cell? ⟨b, o + j * 3 + 1, none⟩ = some (.int .i64 (l.getD j default).d) ∧ w.cell? ⟨b, o + j * 3 + 2, none⟩ = some (.int .i64 (l.getD j default).t))
theorem RdD.below {w w1 : World} {A : Option Addr} {n : Nat} {l : List Dm} (h : RdD w A n l) {B : Nat} (hb : Below B w w1) (hB : w.heap.size ≤ B) : RdD w1 A n l :=
  ⟨h.1, h.2.1, fun hn => by
    obtain ⟨b, o, e, hc⟩ := h.2.2 hn
    refine ⟨b, o, e, fun j hj => ?_⟩
    obtain ⟨c0, c1, c2⟩ := hc j hj
    have hb' : Below w.heap.size w w1 := ⟨hb.os, hb.tape, hb.output, hb.size, fun k hk => hb.block k (Nat.lt_of_lt_of_le hk hB)⟩
    exact ⟨(hb'.cell (World.block_lt_of_cell? w _ c0)).trans c0, (hb'.cell (World.block_lt_of_cell? w _ c1)).trans c1, (hb'.cell (World.block_lt_of_cell? w _ c2)).trans c2⟩⟩
theorem RdD.take {w : World} {A : Option Addr} {n : Nat} {l : List Dm} (h : RdD w A n l) (m : Nat) (hm : m ≤ n) : RdD w A m (l.take m) := by
  obtain ⟨h1, h2, h3⟩ := h
  refine ⟨by rw [List.length_take]; omega, by omega, fun hp => ?_⟩
  obtain ⟨b, o, e, hc⟩ := h3 (by omega)
  refine ⟨b, o, e, fun j hj => ?_⟩
  have := hc j (by omega)
  simpa [List.getD_eq_getElem?_getD, hj] using this
theorem RdD.nil (w : World) (A : Option Addr) : RdD w A 0 [] := ⟨rfl, by decide, fun h => absurd h (by decide)⟩

theorem ok_bd {x : Dm} (h : x.Ok) : 0 ≤ x.c ∧ x.c ≤ 1048576 ∧ 1 ≤ x.d ∧ x.d ≤ 1048576 ∧ 1 ≤ x.t ∧ x.t ≤ 1048576 ∧ x.d ≤ x.t := by
  obtain ⟨a, b, c, d, e⟩ := h
  exact ⟨a, b, c, by omega, by omega, e, d⟩
set_option maxHeartbeats 1000000 in
theorem jobs_any (x : Dm) (h : x.Ok) (s : Int) (h0 : -1 ≤ s) (h1 : s ≤ 4194304) (w : World) :
    Calls Try.prog 44 #[demV x.c x.d x.t, .int .i64 s] w fun e w' => e = .returned (.int .i64 (jobs x s)) ∧ Below w.heap.size w w' := by
  obtain ⟨a0, a1, a2, a3, a4, a5, a6⟩ := ok_bd h
  unfold jobs
  generalize x.c = c at *
  generalize x.d = d at *
  generalize x.t = t at *
  unfold demV
  clear h
  have hb := (Below.refl _ w).alloc (Nat.le_refl _) (.cells #[.int .i64 c, .int .i64 d, .int .i64 t] 32)
  by_cases hlt : s < d
  · have e1 : decide (s < d) = true := by simpa using hlt
    rw [if_pos hlt]
    have HB := Lib.hid hb
    clear hb hlt
    go_enter Try.func44, Try.ntmps44
    go_wp2
    go_ret
    exact ⟨rfl, HB.out⟩
  · have e1 : decide (s < d) = false := by simpa using hlt
    rw [if_neg hlt]
    have e2 : IntKind.i64.wrap (s - d) = s - d := by rw [IntKind.wrap_i64]; omega
    have q0 : 0 ≤ (s - d) / t := Int.ediv_nonneg (by omega) (by omega)
    have q1 : (s - d) / t ≤ s - d := Int.ediv_le_self _ (by omega)
    have e3 : (s - d).tdiv t = (s - d) / t := Int.tdiv_eq_ediv_of_nonneg (by omega)
    have e4 : (t == 0) = false := by simp; omega
    generalize hq : (s - d) / t = q at *
    have e5 : IntKind.i64.wrap q = q := by rw [IntKind.wrap_i64]; omega
    have e6 : IntKind.i64.wrap (q + 1) = q + 1 := by rw [IntKind.wrap_i64]; omega
    have HB := Lib.hid hb
    clear hb hlt hq
    go_enter Try.func44, Try.ntmps44
    go_wp2
    go_ret
    exact ⟨rfl, HB.out⟩

theorem wrong_any (x : Dm) (h : x.Ok) (w : World) : Calls Try.prog 37 #[demV x.c x.d x.t] w fun e w' => e = .returned (.bool false) ∧ Below w.heap.size w w' := by
  obtain ⟨a0, a1, a2, a3, a4, a5, a6⟩ := ok_bd h
  generalize x.c = c at *
  generalize x.d = d at *
  generalize x.t = t at *
  unfold demV
  clear h
  have hb := (Below.refl _ w).alloc (Nat.le_refl _) (.cells #[.int .i64 c, .int .i64 d, .int .i64 t] 32)
  have e1 : decide (c < 0) = false := by simp; omega
  have e2 : decide (1099511627776 < c) = false := by simp; omega
  have e3 : decide (d < 1) = false := by simp; omega
  have e4 : decide (t < d) = false := by simp; omega
  have e5 : decide (1073741824 < t) = false := by simp; omega
  have HB := Lib.hid hb
  clear hb
  go_enter Try.func37, Try.ntmps37
  go_wp2
  go_ret
  exact ⟨rfl, HB.out⟩

set_option maxHeartbeats 2000000 in
theorem index_any (A : Option Addr) (n c : Nat) (l : List Dm) (ho : Oks l) (w : World) (hr : RdD w A n l) :
    Calls Try.prog 48 #[.slice A n c, .func (.func 37) #[] #[]] w fun e w' => e = .returned (.int .i64 (-1)) ∧ Below w.heap.size w w' := by
  have hln := hr.1
  have hn := hr.2.1
  have HR := Lib.hid hr
  have HO := Lib.hid ho
  clear hr ho
  go_enter Try.func48, Try.ntmps48
  go_wp2
  go_loopg [5, 8] n (fun gg _ s8 wr => ∃ kk : Nat, kk ≤ n ∧ n - kk ≤ gg ∧ s8 = .int .i64 kk ∧ Aside (Below w.heap.size w wr))
  case atStart => exact ⟨0, Nat.zero_le _, by omega, rfl, Below.refl _ w⟩
  case round =>
    obtain ⟨kk, hkk, hg, rfl, BW⟩ := hrel
    by_cases hlt : kk < n
    · have hltz : (kk : Int) < (n : Int) := by omega
      obtain ⟨b, o, rfl, hc⟩ := (HR.out.below BW.out (Nat.le_refl _)).2.2 (by omega)
      obtain ⟨c0, c1, c2⟩ := hc kk hlt
      clear hc
      have hx := HO.out
      have hcall := Lib.hid (wrong_any (l.getD kk default) (getD_ok HO.out (by omega)) wr)
      generalize l.getD kk default = x at *
      unfold demV at hcall
      go_wp2_with fail
      refine hcall.out.mono ?_
      rintro e w' ⟨rfl, hb'⟩
      have HB := Lib.hid (BW.out.trans (hb'.mono BW.out.size))
      clear hb' c0 c1 c2
      go_wp2
      go_roundg (n - (kk + 1))
      case measure => omega
      case rel => exact ⟨kk + 1, by omega, by omega, by go_num, HB.out⟩
    · have hltz : ¬ (kk : Int) < (n : Int) := by omega
      go_wp2
      go_ret
      exact ⟨rfl, BW.out⟩
theorem contains_any (A : Option Addr) (n c : Nat) (l : List Dm) (ho : Oks l) (w : World) (hr : RdD w A n l) :
    Calls Try.prog 38 #[.slice A n c, .func (.func 37) #[] #[]] w fun e w' => e = .returned (.bool false) ∧ Below w.heap.size w w' := by
  have H := Lib.hid (index_any A n c l ho w hr)
  clear ho hr
  go_enter Try.func38, Try.ntmps38
  go_wp2_with fail
  refine H.out.mono ?_
  rintro e w' ⟨rfl, hb⟩
  have HB := Lib.hid hb
  clear hb
  go_wp2
  go_ret
  exact ⟨rfl, HB.out⟩
theorem check_any (A : Option Addr) (n c : Nat) (l : List Dm) (ho : Oks l) (w : World) (hr : RdD w A n l) :
    Calls Try.prog 29 #[.slice A n c] w fun e w' => e = .returned (.bool true) ∧ Below w.heap.size w w' := by
  have H := Lib.hid (contains_any A n c l ho w hr)
  have e1 : decide ((n : Int) ≤ 64) = true := by have := hr.2.1; simp; omega
  clear ho hr
  go_enter Try.func29, Try.ntmps29
  go_wp2_with fail
  refine H.out.mono ?_
  rintro e w' ⟨rfl, hb⟩
  have HB := Lib.hid hb
  clear hb
  go_wp2
  go_ret
  exact ⟨rfl, HB.out⟩

theorem take_min {l : List Int} {i : Nat} (h : i < l.length) (hi : 0 < i) : mins (l.take (i + 1)) = min (mins (l.take i)) (l.getD i 0) := by
  cases l with
  | nil => simp at h
  | cons a r =>
    obtain ⟨j, rfl⟩ : ∃ j, i = j + 1 := ⟨i - 1, by omega⟩
    simp only [List.take_succ_cons, mins]
    have hj : j < r.length := by simpa using h
    rw [List.take_add_one, List.getElem?_eq_getElem hj, List.foldl_append]
    simp [List.getD_eq_getElem?_getD, List.getElem?_eq_getElem hj]
theorem take_one {l : List Int} (h : 0 < l.length) : mins (l.take 1) = l.getD 0 0 := by
  cases l with
  | nil => simp at h
  | cons a r => simp [mins]
set_option maxHeartbeats 2000000 in
theorem min_any (A : Option Addr) (n c : Nat) (l : List Int) (w : World) (hr : Rd w .i64 A n l) (hn : 0 < n) :
    Calls Try.prog 53 #[.slice A n c] w fun e w' => e = .returned (.int .i64 (mins l)) ∧ Dn w w' := by
  have hln := hr.1
  have hn9 := hr.2.1
  obtain ⟨ad, rfl, hc⟩ := hr.2.2 hn
  have HC := Lib.hid hc
  obtain ⟨z, hz, c0⟩ : ∃ z, Hid (mins (l.take 1) = z) ∧ w.cell? ad = some (.int .i64 z) := ⟨_, take_one (by omega), hc 0 hn⟩
  clear hr hc
  have e1 : decide ((n : Int) < 1) = false := by simp; omega
  have e2 : (0 : Int) < (n : Int) := by omega
  go_enter Try.func53, Try.ntmps53
  go_wp2
  go_loopg [3, 4] n (fun gg mv s8 wr => ∃ kk : Nat, 1 ≤ kk ∧ kk ≤ n ∧ n - kk ≤ gg ∧ mv = .int .i64 (mins (l.take kk)) ∧ s8 = .int .i64 kk ∧ Aside (Dn w wr))
  case atStart => exact ⟨1, by omega, by omega, by omega, by rw [hz.out], rfl, Dn.refl _⟩
  case round =>
    obtain ⟨kk, hk1, hkk, hg, rfl, rfl, m, rfl⟩ := hrel
    clear c0
    by_cases hlt : kk < n
    · have hltz : (kk : Int) < (n : Int) := by omega
      have c1 := HC.out kk hlt
      have ht := take_min (l := l) (i := kk) (by omega) (by omega)
      have HT := Lib.hid ht
      clear ht
      generalize l.getD kk 0 = y at *
      generalize mins (l.take kk) = x at *
      go_wp2
      all_goals
        go_roundg (n - (kk + 1))
        case measure => omega
        case rel => exact ⟨kk + 1, by omega, by omega, by omega, by rw [HT.out]; congr 1; omega, by go_num, _, rfl⟩
    · have hltz : ¬ (kk : Int) < (n : Int) := by omega
      have e : l.take kk = l := List.take_of_length_le (by omega)
      rw [e]
      go_wp2
      go_ret
      exact ⟨rfl, _, rfl⟩
def maxs : List Int → Int
  | [] => 0
  | x :: r => r.foldl max x
theorem take_max {l : List Int} {i : Nat} (h : i < l.length) (hi : 0 < i) : maxs (l.take (i + 1)) = max (maxs (l.take i)) (l.getD i 0) := by
  cases l with
  | nil => simp at h
  | cons a r =>
    obtain ⟨j, rfl⟩ : ∃ j, i = j + 1 := ⟨i - 1, by omega⟩
    simp only [List.take_succ_cons, maxs]
    have hj : j < r.length := by simpa using h
    rw [List.take_add_one, List.getElem?_eq_getElem hj, List.foldl_append]
    simp [List.getD_eq_getElem?_getD, List.getElem?_eq_getElem hj]
theorem take_onex {l : List Int} (h : 0 < l.length) : maxs (l.take 1) = l.getD 0 0 := by
  cases l with
  | nil => simp at h
  | cons a r => simp [maxs]
set_option maxHeartbeats 2000000 in
theorem max_any (A : Option Addr) (n c : Nat) (l : List Int) (w : World) (hr : Rd w .i64 A n l) (hn : 0 < n) :
    Calls Try.prog 54 #[.slice A n c] w fun e w' => e = .returned (.int .i64 (maxs l)) ∧ Dn w w' := by
  have hln := hr.1
  have hn9 := hr.2.1
  obtain ⟨ad, rfl, hc⟩ := hr.2.2 hn
  have HC := Lib.hid hc
  obtain ⟨z, hz, c0⟩ : ∃ z, Hid (maxs (l.take 1) = z) ∧ w.cell? ad = some (.int .i64 z) := ⟨_, take_onex (by omega), hc 0 hn⟩
  clear hr hc
  have e1 : decide ((n : Int) < 1) = false := by simp; omega
  have e2 : (0 : Int) < (n : Int) := by omega
  go_enter Try.func54, Try.ntmps54
  go_wp2
  go_loopg [3, 4] n (fun gg mv s8 wr => ∃ kk : Nat, 1 ≤ kk ∧ kk ≤ n ∧ n - kk ≤ gg ∧ mv = .int .i64 (maxs (l.take kk)) ∧ s8 = .int .i64 kk ∧ Aside (Dn w wr))
  case atStart => exact ⟨1, by omega, by omega, by omega, by rw [hz.out], rfl, Dn.refl _⟩
  case round =>
    obtain ⟨kk, hk1, hkk, hg, rfl, rfl, m, rfl⟩ := hrel
    clear c0
    by_cases hlt : kk < n
    · have hltz : (kk : Int) < (n : Int) := by omega
      have c1 := HC.out kk hlt
      have ht := take_max (l := l) (i := kk) (by omega) (by omega)
      have HT := Lib.hid ht
      clear ht
      generalize l.getD kk 0 = y at *
      generalize maxs (l.take kk) = x at *
      go_wp2
      all_goals
        go_roundg (n - (kk + 1))
        case measure => omega
        case rel => exact ⟨kk + 1, by omega, by omega, by omega, by rw [HT.out]; congr 1; omega, by go_num, _, rfl⟩
    · have hltz : ¬ (kk : Int) < (n : Int) := by omega
      have e : l.take kk = l := List.take_of_length_le (by omega)
      rw [e]
      go_wp2
      go_ret
      exact ⟨rfl, _, rfl⟩
end Go.Proofs.Ytajkckjpfbkpmaa.Dem
