/-
  The reference's demands, small ones: Next.
-/
import Derived.Test.YtajkckjpfbkpmaaQpr1
import Derived.Test.YtajkckjpfbkpmaaBox
namespace Go.Proofs.Ytajkckjpfbkpmaa.Dem
open Go.RowKit Go.Shelf Go.Proofs.Ytajkckjpfbkpmaa.Ari Go.Proofs.Ytajkckjpfbkpmaa.Box

theorem mins_snoc' (l : List Int) (x : Int) : mins (l ++ [x]) = if l = [] then x else min (mins l) x := by
  cases l with
  | nil => simp [mins]
  | cons a r => simp [mins, List.foldl_append]
set_option maxHeartbeats 4000000 in
set_option maxRecDepth 100000 in
theorem nextr_any (A : Option Addr) (n c : Nat) (l : List Dm) (ho : Oks l) (s : Int) (h0 : 0 ≤ s) (h1 : s ≤ 2097152) (w : World) (hr : RdD w A n l) :
    Calls Try.prog 15 #[.slice A n c, .int .i64 s] w fun e w' => e = .returned (.agg #[.int .i64 (nextI l s), .bool (decide (0 < n))]) ∧ Below w.heap.size w w' := by
  have hln := hr.1
  have hn := hr.2.1
  have HR := Lib.hid hr
  have HO := Lib.hid ho
  have hnx : Hid (mins (nexts l s) = nextI l s) := rfl
  clear hr ho
  obtain ⟨W0, hW0⟩ : ∃ W0, w.alloc (.cells #[.int .i64 0, .bool false] 41) = W0 := ⟨_, rfl⟩
  have hR : Hid (W0.heap[w.heap.size]? = some (.cells #[.int .i64 0, .bool false] 41 (0, 0))) := by rw [← hW0]; exact bx_new _ _ _
  have hB0 : Hid (Below w.heap.size w W0) := by rw [← hW0]; exact (Below.refl _ w).alloc (Nat.le_refl _) _
  have hs0 : W0.heap.size = w.heap.size + 1 := by rw [← hW0]; simp
  go_enter Try.func15, Try.ntmps15
  go_wp2_with fail
  refine (checkr_any A n c l HO.out W0 (HR.out.below hB0.out (Nat.le_refl _))).mono ?_
  rintro e w1 ⟨rfl, hb⟩
  have hs1 : w.heap.size + 1 ≤ w1.heap.size := by have := hb.size; omega
  have HB1 : Hid (Below w.heap.size w w1) := hB0.out.trans (hb.mono (by omega))
  have hR1 : Hid (w1.heap[w.heap.size]? = some (.cells #[.int .i64 0, .bool false] 41 (0, 0))) := bx_old hR.out hb (by omega)
  clear hb hR hB0 hW0 hs0
  go_wp2_with fail
  refine (timer_any s (by omega) (by omega) w1).mono ?_
  rintro e w2 ⟨rfl, rfl⟩
  go_wp2_with fail
  obtain ⟨W2, hW2⟩ : ∃ W2, w1.alloc (.cells #[.int .i64 0, .bool false] 41) = W2 := ⟨_, rfl⟩
  have hB2 : Hid (Below w.heap.size w W2) := by rw [← hW2]; exact HB1.out.alloc HB1.out.size _
  have hN2 : Hid (W2.heap[w1.heap.size]? = some (.cells #[.int .i64 0, .bool false] 41 (0, 0))) := by rw [← hW2]; exact bx_new _ _ _
  have hR2 : Hid (W2.heap[w.heap.size]? = some (.cells #[.int .i64 0, .bool false] 41 (0, 0))) := by rw [← hW2]; exact (Below.heap_alloc _ _ _ (by omega)).trans hR1.out
  have hs2 : W2.heap.size = w1.heap.size + 1 := by rw [← hW2]; simp
  rw [hW2]
  have hb2 : w.heap.size < w1.heap.size := by omega
  clear hW2 HB1 hR1 hs1
  generalize hbe : w1.heap.size = b at *
  clear hbe
  go_loopg [8, 9] n (fun gg iv xv wr => ∃ kk : Nat, kk ≤ n ∧ n - kk ≤ gg ∧ iv = .int .i64 (kk : Int) ∧ Aside (wr.heap[b]? = some (.cells #[.int .i64 (mins ((nexts l s).take kk)), .bool (decide (0 < kk))] 41 (0, 0))) ∧ Aside (wr.heap[w.heap.size]? = some (.cells #[.int .i64 0, .bool false] 41 (0, 0))) ∧ Aside (Below w.heap.size w wr))
  case atStart => exact ⟨0, Nat.zero_le _, by omega, rfl, hN2.out, hR2.out, hB2.out⟩
  case round =>
    obtain ⟨kk, hkk, hg, rfl, hN, hR, BW⟩ := hrel
    clear hN2 hR2 hB2
    by_cases hlt : kk < n
    · have hltz : (kk : Int) < (n : Int) := by omega
      obtain ⟨b2, o, rfl, hc⟩ := (HR.out.below BW.out (Nat.le_refl _)).2.2 (by omega)
      have hbl : b2 < wr.heap.size := World.block_lt_of_cell? _ _ (hc kk hlt).1
      obtain ⟨c0, c1, c2⟩ := hc kk hlt
      clear hc
      have hx := getD_ok HO.out (i := kk) (by omega)
      have ht := Lib.hid (nexts_take l s kk (by omega))
      generalize l.getD kk default = x at *
      have jb := jobs_nonneg hx s
      have jl := jobs_le hx h0
      have d1 := dl_pos hx s
      have d2 := dl_le hx h0
      obtain ⟨a0, a1, a2, a3, a4, a5, a6⟩ := ok_bd hx
      have hJ := fun w => Lib.hid (jobsr_any x hx s (by omega) (by omega) w)
      unfold dl at ht d1 d2
      generalize jobs x s = J at *
      unfold demV at hJ
      generalize x.c = c at *
      generalize x.d = d at *
      generalize x.t = t at *
      have mb : 0 ≤ J * t := Int.mul_nonneg jb (by omega)
      have e1 : IntKind.i64.wrap (J * t) = J * t := by rw [IntKind.wrap_i64]; generalize J * t = M at *; omega
      have e2 : IntKind.i64.wrap (d + J * t) = d + J * t := by rw [IntKind.wrap_i64]; generalize J * t = M at *; omega
      go_wp2_with fail
      go_region_held3 (fun w' => w'.cell? ⟨b2, o + kk * 3, none⟩ = some (.int .i64 c) ∧ w'.cell? ⟨b2, o + kk * 3 + 1, none⟩ = some (.int .i64 d) ∧ w'.cell? ⟨b2, o + kk * 3 + 2, none⟩ = some (.int .i64 t))
        (first | with_reducible exact ⟨c0, c1, c2⟩ | with_reducible exact ⟨y0, y1, y2⟩ | exact ⟨c0, c1, c2⟩)
        (first
          | (go_at_call 24; refine (hJ _).out.mono ?_; rintro e W3 ⟨rfl, hb3⟩; have hz3 := hb3.block b2 hbl; have y0 := (World.cell?_of_block (a := ⟨b2, o + kk * 3, none⟩) hz3).trans c0; have y1 := (World.cell?_of_block (a := ⟨b2, o + kk * 3 + 1, none⟩) hz3).trans c1; have y2 := (World.cell?_of_block (a := ⟨b2, o + kk * 3 + 2, none⟩) hz3).trans c2))
      have hm := mins_snoc' ((nexts l s).take kk) (d + J * t)
      rw [← ht.out] at hm
      have htl : ((nexts l s).take kk = []) ↔ kk = 0 := by
        have : ((nexts l s).take kk).length = kk := by rw [List.length_take]; simp [nexts]; omega
        constructor
        · intro h; rw [h] at this; simpa using this.symm
        · intro h; subst h; rfl
      simp only [htl] at hm
      have hN3 := Lib.hid ((hb3.block b (bx_lt hN.out)).trans hN.out)
      have hR3 := Lib.hid ((hb3.block w.heap.size (bx_lt hR.out)).trans hR.out)
      have HB3 : Hid (Below w.heap.size w W3) := BW.out.drew.trans (hb3.mono BW.out.size)
      clear hN hR BW hb3 hz3 c0 c1 c2 y0 y1 y2 htl ht hJ
      generalize hM1 : mins ((nexts l s).take (kk + 1)) = M1 at *
      generalize mins ((nexts l s).take kk) = M0 at *
      obtain ⟨k0, k1⟩ := bx_two hN3.out
      have f0 := bx_free hN3.out 0
      have f1 := bx_free hN3.out 1
      have HM1 := Lib.hid hM1
      clear hM1
      generalize hY : d + J * t = Y at *
      have hNX : Hid (((W3.setCell ⟨b, 0, none⟩ (.int .i64 Y)).setCell ⟨b, 1, none⟩ (.bool true)).heap[b]? = some (.cells #[.int .i64 Y, .bool true] 41 (0, 0))) := bx_set2 hN3.out _ _
      have hRX : Hid (((W3.setCell ⟨b, 0, none⟩ (.int .i64 Y)).setCell ⟨b, 1, none⟩ (.bool true)).heap[w.heap.size]? = some (.cells #[.int .i64 0, .bool false] 41 (0, 0))) := (bx_other _ _ _ _ (by omega) _).trans ((bx_other _ _ _ _ (by omega) _).trans hR3.out)
      have HBX : Hid (Below w.heap.size w ((W3.setCell ⟨b, 0, none⟩ (.int .i64 Y)).setCell ⟨b, 1, none⟩ (.bool true))) := bx_below (bx_below HB3.out _ (by omega) _ _) _ (by omega) _ _
      have e9 : decide (0 < kk + 1) = true := by simp
      by_cases hz : kk = 0
      · have g1 : decide (0 < kk) = false := by simp; omega
        rw [if_pos hz] at hm
        subst hm
        clear hN3 hR3 HB3
        go_wp2
        go_roundg (n - (kk + 1))
        case measure => omega
        case rel => exact ⟨kk + 1, by omega, by omega, by go_num, by rw [HM1.out, e9]; exact hNX.out, hRX.out, HBX.out⟩
      · have g1 : decide (0 < kk) = true := by simp; omega
        rw [if_neg hz] at hm
        by_cases hlm : Y < M0
        · have g2 : decide (Y < M0) = true := by simpa using hlm
          have hm' : M1 = Y := by omega
          subst hm'
          clear hN3 hR3 HB3 hm
          go_wp2
          go_roundg (n - (kk + 1))
          case measure => omega
          case rel => exact ⟨kk + 1, by omega, by omega, by go_num, by rw [HM1.out, e9]; exact hNX.out, hRX.out, HBX.out⟩
        · have g2 : decide (Y < M0) = false := by simpa using hlm
          have hm' : M1 = M0 := by omega
          subst hm'
          clear hNX hRX HBX hm
          go_wp2
          go_roundg (n - (kk + 1))
          case measure => omega
          case rel => exact ⟨kk + 1, by omega, by omega, by go_num, by rw [HM1.out, e9, ← g1]; exact hN3.out, hR3.out, HB3.out⟩
    · have hltz : ¬ (kk : Int) < (n : Int) := by omega
      obtain rfl : kk = n := by omega
      have hq : (nexts l s).take kk = nexts l s := List.take_of_length_le (by simp [nexts]; omega)
      have hN4 := hN.out
      rw [hq, hnx.out] at hN4
      obtain ⟨k0, k1⟩ := bx_two hN4
      have hR4 := hR.out
      obtain ⟨r0, r1⟩ := bx_two hR4
      have f0 := bx_free hR4 0
      have f1 := bx_free hR4 1
      have hRX : Hid (((wr.setCell ⟨w.heap.size, 0, none⟩ (.int .i64 (nextI l s))).setCell ⟨w.heap.size, 1, none⟩ (.bool (decide (0 < kk)))).heap[w.heap.size]? = some (.cells #[.int .i64 (nextI l s), .bool (decide (0 < kk))] 41 (0, 0))) := bx_set2 hR4 _ _
      have HBX : Hid (Below w.heap.size w ((wr.setCell ⟨w.heap.size, 0, none⟩ (.int .i64 (nextI l s))).setCell ⟨w.heap.size, 1, none⟩ (.bool (decide (0 < kk))))) := bx_below (bx_below BW.out _ (by omega) _ _) _ (by omega) _ _
      clear hN hR BW hN4 hR4 hq
      generalize hU : decide (0 < kk) = U at *
      have HU := Lib.hid hU
      clear hU
      go_wp2
      obtain ⟨q0, q1⟩ := bx_two hRX.out
      refine bodyPost_ret (v := .agg #[.int .i64 (nextI l s), .bool U]) ?_ rfl ⟨by rw [HU.out], HBX.out⟩
      simp [results, Try.results15, go_sem, q0, q1]
end Go.Proofs.Ytajkckjpfbkpmaa.Dem
