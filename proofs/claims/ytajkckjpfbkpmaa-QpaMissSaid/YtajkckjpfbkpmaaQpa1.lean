/-
  Package qpa: Right, At, end, may.
-/
import Derived.Test.YtajkckjpfbkpmaaQpa0
import Derived.Test.YtajkckjpfbkpmaaDem9
import Derived.Lib.MinMax
namespace Go.Proofs.Ytajkckjpfbkpmaa.Dem
open Go.RowKit Go.Shelf Go.Proofs.Ytajkckjpfbkpmaa.Ari

def blkV (d b : Int) : Value := .agg #[.int .i64 d, .int .i64 b]
/-- A row of blocks that is read. -/
def RdK (w : World) (A : Option Addr) (n : Nat) (l : List (Int × Int)) : Prop :=
  l.length = n ∧ n ≤ 64 ∧ (0 < n → ∃ b o, A = some ⟨b, o, none⟩ ∧ ∀ j, j < n → w.cell? ⟨b, o + j * 2, none⟩ = some (.int .i64 (l.getD j (0, 0)).1) ∧ w.cell? ⟨b, o + j * 2 + 1, none⟩ = some (.int .i64 (l.getD j (0, 0)).2))
theorem RdK.below {w w1 : World} {A : Option Addr} {n : Nat} {l : List (Int × Int)} (h : RdK w A n l) {B : Nat} (hb : Below B w w1) (hB : w.heap.size ≤ B) : RdK w1 A n l :=
  ⟨h.1, h.2.1, fun hn => by
    obtain ⟨b, o, e, hc⟩ := h.2.2 hn
    refine ⟨b, o, e, fun j hj => ?_⟩
    obtain ⟨c0, c1⟩ := hc j hj
    have hb' : Below w.heap.size w w1 := ⟨hb.os, hb.tape, hb.output, hb.size, fun k hk => hb.block k (Nat.lt_of_lt_of_le hk hB)⟩
    exact ⟨(hb'.cell (World.block_lt_of_cell? w _ c0)).trans c0, (hb'.cell (World.block_lt_of_cell? w _ c1)).trans c1⟩⟩
theorem RdK.nil (w : World) (A : Option Addr) : RdK w A 0 [] := ⟨rfl, by decide, fun h => absurd h (by decide)⟩

theorem wrongB_any (d b : Int) (h : 1 ≤ d ∧ d ≤ 1048575 ∧ 0 ≤ b ∧ b ≤ 1048576) (w : World) : Calls Try.prog 39 #[blkV d b] w fun e w' => e = .returned (.bool false) ∧ Below w.heap.size w w' := by
  obtain ⟨a0, a1, a2, a3⟩ := h
  unfold blkV
  have hb := (Below.refl _ w).alloc (Nat.le_refl _) (.cells #[.int .i64 d, .int .i64 b] 50)
  have e1 : decide (d < 1) = false := by simp; omega
  have e2 : decide (1048576 < d) = false := by simp; omega
  have e3 : decide (b < 0) = false := by simp; omega
  have e4 : decide (1099511627776 < b) = false := by simp; omega
  have HB := Lib.hid hb
  clear hb
  go_enter Try.func39, Try.ntmps39
  go_wp2
  go_ret
  exact ⟨rfl, HB.out⟩
set_option maxHeartbeats 2000000 in
theorem indexB_any (A : Option Addr) (n c : Nat) (l : List (Int × Int)) (ho : OksB l) (w : World) (hr : RdK w A n l) :
    Calls Try.prog 49 #[.slice A n c, .func (.func 39) #[] #[]] w fun e w' => e = .returned (.int .i64 (-1)) ∧ Below w.heap.size w w' := by
  have hln := hr.1
  have hn := hr.2.1
  have HR := Lib.hid hr
  have HO := Lib.hid ho
  clear hr ho
  go_enter Try.func49, Try.ntmps49
  go_wp2
  go_loopg [5, 8] n (fun gg _ s8 wr => ∃ kk : Nat, kk ≤ n ∧ n - kk ≤ gg ∧ s8 = .int .i64 kk ∧ Aside (Below w.heap.size w wr))
  case atStart => exact ⟨0, Nat.zero_le _, by omega, rfl, Below.refl _ w⟩
  case round =>
    obtain ⟨kk, hkk, hg, rfl, BW⟩ := hrel
    by_cases hlt : kk < n
    · have hltz : (kk : Int) < (n : Int) := by omega
      obtain ⟨b, o, rfl, hc⟩ := (HR.out.below BW.out (Nat.le_refl _)).2.2 (by omega)
      obtain ⟨c0, c1⟩ := hc kk hlt
      clear hc
      have hx := getDB HO.out (i := kk) (by omega)
      have hcall := Lib.hid (wrongB_any (l.getD kk (0, 0)).1 (l.getD kk (0, 0)).2 hx wr)
      generalize (l.getD kk (0, 0)).1 = d at *
      generalize (l.getD kk (0, 0)).2 = x at *
      unfold blkV at hcall
      clear hx
      go_wp2_with fail
      refine hcall.out.mono ?_
      rintro e w' ⟨rfl, hb'⟩
      have HB := Lib.hid (BW.out.trans (hb'.mono BW.out.size))
      clear hb' c0 c1
      go_wp2
      go_roundg (n - (kk + 1))
      case measure => omega
      case rel => exact ⟨kk + 1, by omega, by omega, by go_num, HB.out⟩
    · have hltz : ¬ (kk : Int) < (n : Int) := by omega
      go_wp2
      go_ret
      exact ⟨rfl, BW.out⟩
theorem containsB_any (A : Option Addr) (n c : Nat) (l : List (Int × Int)) (ho : OksB l) (w : World) (hr : RdK w A n l) :
    Calls Try.prog 40 #[.slice A n c, .func (.func 39) #[] #[]] w fun e w' => e = .returned (.bool false) ∧ Below w.heap.size w w' := by
  have H := Lib.hid (indexB_any A n c l ho w hr)
  clear ho hr
  go_enter Try.func40, Try.ntmps40
  go_wp2_with fail
  refine H.out.mono ?_
  rintro e w' ⟨rfl, hb⟩
  have HB := Lib.hid hb
  clear hb
  go_wp2
  go_ret
  exact ⟨rfl, HB.out⟩
theorem right_any (A : Option Addr) (n c : Nat) (l : List (Int × Int)) (ho : OksB l) (w : World) (hr : RdK w A n l) :
    Calls Try.prog 30 #[.slice A n c] w fun e w' => e = .returned (.bool true) ∧ Below w.heap.size w w' := by
  have H := Lib.hid (containsB_any A n c l ho w hr)
  have e1 : decide ((n : Int) ≤ 64) = true := by have := hr.2.1; simp; omega
  clear ho hr
  go_enter Try.func30, Try.ntmps30
  go_wp2_with fail
  refine H.out.mono ?_
  rintro e w' ⟨rfl, hb⟩
  have HB := Lib.hid hb
  clear hb
  go_wp2
  go_ret
  exact ⟨rfl, HB.out⟩

theorem foldl_take (f : Int → (Int × Int) → Int) (m : Int) (l : List (Int × Int)) (i : Nat) (h : i < l.length) : (l.take (i + 1)).foldl f m = f ((l.take i).foldl f m) (l.getD i (0, 0)) := by
  have e : l.getD i (0, 0) = l[i] := by rw [List.getD_eq_getElem?_getD, List.getElem?_eq_getElem h]; rfl
  rw [e, List.take_add_one, List.getElem?_eq_getElem h, List.foldl_append]
  rfl
set_option maxHeartbeats 2000000 in
theorem at_any (A : Option Addr) (n c : Nat) (l : List (Int × Int)) (s : Int) (w : World) (hr : RdK w A n l) :
    Calls Try.prog 12 #[.slice A n c, .int .i64 s] w fun e w' => e = .returned (.int .i64 (heldAt l s)) ∧ Below w.heap.size w w' := by
  have hln := hr.1
  have hn := hr.2.1
  have HR := Lib.hid hr
  clear hr
  go_enter Try.func12, Try.ntmps12
  go_wp2
  go_loopg [5, 10] n (fun gg mv s8 wr => ∃ kk : Nat, kk ≤ n ∧ n - kk ≤ gg ∧ s8 = .int .i64 kk ∧ mv = .int .i64 ((l.take kk).foldl (stepH s) 0) ∧ Aside (Below w.heap.size w wr))
  case atStart => exact ⟨0, Nat.zero_le _, by omega, rfl, rfl, Below.refl _ w⟩
  case round =>
    obtain ⟨kk, hkk, hg, rfl, rfl, BW⟩ := hrel
    by_cases hlt : kk < n
    · have hltz : (kk : Int) < (n : Int) := by omega
      obtain ⟨b, o, rfl, hc⟩ := (HR.out.below BW.out (Nat.le_refl _)).2.2 (by omega)
      obtain ⟨c0, c1⟩ := hc kk hlt
      clear hc
      have ht0 := foldl_take (stepH s) 0 l kk (by omega)
      obtain ⟨MM, hMM⟩ : ∃ MM, (l.take (kk + 1)).foldl (stepH s) 0 = MM := ⟨_, rfl⟩
      rw [hMM] at ht0
      have HM := Lib.hid hMM
      unfold stepH at ht0
      have ht := Lib.hid ht0
      clear hMM ht0
      have hfold : (l.take kk).foldl (fun m p => if s < p.1 then max m p.2 else m) 0 = (l.take kk).foldl (stepH s) 0 := rfl
      rw [hfold] at ht
      clear hfold
      generalize (l.take kk).foldl (stepH s) 0 = M at *
      generalize (l.getD kk (0, 0)).1 = d at *
      generalize (l.getD kk (0, 0)).2 = x at *
      have HB : Hid (Below w.heap.size w (wr.alloc (.cells #[.int .i64 d, .int .i64 x] 50))) := BW.out.alloc BW.out.size _
      by_cases hp : s < d
      · have e0 : decide (s < d) = true := by simpa using hp
        rw [if_pos hp] at ht
        go_wp2
        go_roundg (n - (kk + 1))
        case measure => omega
        case rel => exact ⟨kk + 1, by omega, by omega, by go_num, by rw [HM.out, ht.out], HB.out⟩
      · have e0 : decide (s < d) = false := by simpa using hp
        rw [if_neg hp] at ht
        go_wp2
        go_roundg (n - (kk + 1))
        case measure => omega
        case rel => exact ⟨kk + 1, by omega, by omega, by go_num, by rw [HM.out, ht.out], HB.out⟩
    · have hltz : ¬ (kk : Int) < (n : Int) := by omega
      obtain rfl : kk = n := by omega
      have hq : l.take kk = l := List.take_of_length_le (by omega)
      rw [hq]
      go_wp2
      go_ret
      exact ⟨rfl, BW.out⟩
set_option maxHeartbeats 2000000 in
theorem end_any (A : Option Addr) (n c : Nat) (l : List Dm) (ho : Oks l) (P : Int) (hP : Per l P) (B : Option Addr) (m c2 : Nat) (q : List (Int × Int)) (w : World) (hr : RdD w A n l) (hq : RdK w B m q) :
    Calls Try.prog 33 #[.slice A n c, .slice B m c2] w fun e w' => e = .returned (.int .i64 (endI q P)) ∧ Below w.heap.size w w' := by
  have hln := hq.1
  have hn := hq.2.1
  have HR := Lib.hid hq
  have HPe := Lib.hid (period_any A n c l ho P hP w hr)
  clear hq hr ho hP
  go_enter Try.func33, Try.ntmps33
  go_wp2_with fail
  refine HPe.out.mono ?_
  rintro e w1 ⟨rfl, hb⟩
  have HB1 := Lib.hid hb
  clear hb HPe
  go_wp2_with fail
  go_loopg [5, 16] m (fun gg mv s8 wr => ∃ kk : Nat, kk ≤ m ∧ m - kk ≤ gg ∧ s8 = .int .i64 kk ∧ mv = .int .i64 (endI (q.take kk) P) ∧ Aside (Below w.heap.size w wr))
  case atStart => exact ⟨0, Nat.zero_le _, by omega, rfl, rfl, HB1.out⟩
  case round =>
    obtain ⟨kk, hkk, hg, rfl, rfl, BW⟩ := hrel
    clear HB1
    by_cases hlt : kk < m
    · have hltz : (kk : Int) < (m : Int) := by omega
      obtain ⟨b, o, rfl, hc⟩ := (HR.out.below BW.out (Nat.le_refl _)).2.2 (by omega)
      obtain ⟨c0, c1⟩ := hc kk hlt
      clear hc
      have ht : Hid (endI (q.take (kk + 1)) P = max (endI (q.take kk) P) (q.getD kk (0, 0)).1) := foldl_take (fun m p => max m p.1) P q kk (by omega)
      generalize endI (q.take kk) P = M at *
      generalize (q.getD kk (0, 0)).1 = d at *
      generalize (q.getD kk (0, 0)).2 = x at *
      have HB : Hid (Below w.heap.size w (wr.alloc (.cells #[.int .i64 d, .int .i64 x] 50))) := BW.out.alloc BW.out.size _
      go_wp2
      go_roundg (m - (kk + 1))
      case measure => omega
      case rel => exact ⟨kk + 1, by omega, by omega, by go_num, by rw [ht.out], HB.out⟩
    · have hltz : ¬ (kk : Int) < (m : Int) := by omega
      obtain rfl : kk = m := by omega
      have hq : q.take kk = q := List.take_of_length_le (by omega)
      rw [hq]
      go_wp2
      go_ret
      exact ⟨rfl, BW.out⟩
set_option maxHeartbeats 2000000 in
theorem mayQ_any (A : Option Addr) (n c : Nat) (l : List Dm) (ho : Oks l) (P : Int) (hP : Per l P) (B : Option Addr) (m c2 : Nat) (q : List (Int × Int)) (hoq : OksB q) (w : World) (hr : RdD w A n l) (hq : RdK w B m q) :
    Calls Try.prog 19 #[.slice A n c, .slice B m c2] w fun e w' => e = .returned (.tuple #[.bool true, .int .i64 (if loadI l P ≤ P then 0 else 17)]) ∧ Below w.heap.size w w' := by
  have HC := Lib.hid (check_any A n c l ho w hr)
  have HRi := fun w h => Lib.hid (right_any B m c2 q hoq w h)
  have HL := fun w h => Lib.hid (load_any A n c l ho P hP w h)
  have HR := Lib.hid hr
  have HQ := Lib.hid hq
  clear hr hq ho hP hoq
  obtain ⟨L, hL⟩ : ∃ L, loadI l P = L := ⟨_, rfl⟩
  simp only [hL] at HL ⊢
  obtain ⟨E, hE⟩ : ∃ E : Int, (if L ≤ P then 0 else 17) = E := ⟨_, rfl⟩
  rw [hE]
  have HE := Lib.hid hE
  clear hL hE
  go_enter Try.func19, Try.ntmps19
  go_wp2_with fail
  refine HC.out.mono ?_
  rintro e w1 ⟨rfl, hb⟩
  have HR1 := Lib.hid (HR.out.below hb (Nat.le_refl _))
  have HQ1 := Lib.hid (HQ.out.below hb (Nat.le_refl _))
  have HB1 := Lib.hid hb
  clear hb HR HQ HC
  go_wp2_with fail
  refine (HRi _ HQ1.out).out.mono ?_
  rintro e w2 ⟨rfl, hb⟩
  have HR2 := Lib.hid (HR1.out.below hb (Nat.le_refl _))
  have HB2 : Hid (Below w.heap.size w w2) := HB1.out.trans (hb.mono HB1.out.size)
  clear hb HR1 HQ1 HRi HB1
  go_wp2_with fail
  refine (HL _ HR2.out).out.mono ?_
  rintro e w3 ⟨rfl, hb⟩
  have HB3 : Hid (Below w.heap.size w w3) := HB2.out.trans (hb.mono HB2.out.size)
  clear hb HR2 HL HB2
  by_cases h : L ≤ P
  · have e1 : decide (P < L) = false := by simp; omega
    have HH := Lib.hid h
    clear h
    go_wp2
    go_ret2
    exact ⟨by rw [← HE.out, if_pos (show L ≤ P by have := HH.out; omega)]; rfl, HB3.out⟩
  · have e1 : decide (P < L) = true := by simp; omega
    have HH := Lib.hid h
    clear h
    go_wp2
    go_ret2
    exact ⟨by rw [← HE.out, if_neg (show ¬ L ≤ P by have := HH.out; omega)]; rfl, HB3.out⟩
end Go.Proofs.Ytajkckjpfbkpmaa.Dem
