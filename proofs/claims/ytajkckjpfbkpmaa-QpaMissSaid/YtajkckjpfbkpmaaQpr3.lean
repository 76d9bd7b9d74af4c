/-
  The reference's demands, small ones: Of.
-/
import Derived.Test.YtajkckjpfbkpmaaQpr2
import Derived.Deep.DeepCutAuto
namespace Go.Proofs.Ytajkckjpfbkpmaa.Dem
open Go.RowKit Go.Shelf Go.Proofs.Ytajkckjpfbkpmaa.Ari Go.Proofs.Ytajkckjpfbkpmaa.Box

set_option maxHeartbeats 4000000 in
set_option maxRecDepth 100000 in
theorem ofr_any (A : Option Addr) (n c : Nat) (l : List Dm) (ho : Oks l) (s : Int) (h0 : 0 ≤ s) (h1 : s ≤ 2097152) (w : World) (hr : RdD w A n l) :
    Calls Try.prog 16 #[.slice A n c, .int .i64 s] w fun e w' => e = .returned (.agg #[.int .i64 (work l s), .bool true]) ∧ Below w.heap.size w w' := by
  have hln := hr.1
  have hn := hr.2.1
  have HR := Lib.hid hr
  have HO := Lib.hid ho
  clear hr ho
  obtain ⟨W0, hW0⟩ : ∃ W0, w.alloc (.cells #[.int .i64 0, .bool false] 41) = W0 := ⟨_, rfl⟩
  have hR : Hid (W0.heap[w.heap.size]? = some (.cells #[.int .i64 0, .bool false] 41 (0, 0))) := by rw [← hW0]; exact bx_new _ _ _
  have hB0 : Hid (Below w.heap.size w W0) := by rw [← hW0]; exact (Below.refl _ w).alloc (Nat.le_refl _) _
  have hs0 : W0.heap.size = w.heap.size + 1 := by rw [← hW0]; simp
  go_enter Try.func16, Try.ntmps16
  go_wp2_with fail
  refine (checkr_any A n c l HO.out W0 (HR.out.below hB0.out (Nat.le_refl _))).mono ?_
  rintro e w1 ⟨rfl, hb⟩
  have hs1 : w.heap.size + 1 ≤ w1.heap.size := by have := hb.size; omega
  have HB1 : Hid (Below w.heap.size w w1) := hB0.out.trans (hb.mono (by omega))
  have hR1 : Hid (w1.heap[w.heap.size]? = some (.cells #[.int .i64 0, .bool false] 41 (0, 0))) := bx_old hR.out hb (by omega)
  clear hb hR hB0 hW0 hs0
  go_wp2_with fail
  refine (timer_any s (by omega) (by omega) w1).mono ?_
  rintro e w2 ⟨rfl, rfl⟩
  go_wp2_with fail
  go_loopg [7, 8, 9, 10] n (fun gg sv iv mv qv wr => ∃ kk : Nat, kk ≤ n ∧ n - kk ≤ gg ∧ iv = .int .i64 (kk : Int) ∧ sv = .int .u64 (work (l.take kk) s) ∧ Aside (wr.heap[w.heap.size]? = some (.cells #[.int .i64 0, .bool false] 41 (0, 0))) ∧ Aside (Below w.heap.size w wr))
  case atStart => exact ⟨0, Nat.zero_le _, by omega, rfl, rfl, hR1.out, HB1.out⟩
  case round =>
    obtain ⟨kk, hkk, hg, rfl, rfl, hR, BW⟩ := hrel
    clear hR1 HB1
    have hsz : w.heap.size ≤ wr.heap.size := BW.out.size
    by_cases hlt : kk < n
    · have hltz : (kk : Int) < (n : Int) := by omega
      obtain ⟨b2, o, rfl, hc⟩ := (HR.out.below BW.out (Nat.le_refl _)).2.2 (by omega)
      have hbl : b2 < wr.heap.size := World.block_lt_of_cell? _ _ (hc kk hlt).1
      obtain ⟨c0, c1, c2⟩ := hc kk hlt
      clear hc
      have hx := getD_ok HO.out (i := kk) (by omega)
      have hwt := Lib.hid (work_take l s kk (by omega))
      have hwb := work_bd _ (oks_take HO.out kk) (show 0 ≤ s by omega) (show s ≤ 4194304 by omega)
      have hwl : (l.take kk).length ≤ 64 := by rw [List.length_take]; omega
      have tb := term_bd hx (show 0 ≤ s by omega) (show s ≤ 4194304 by omega)
      obtain ⟨S, hS⟩ : ∃ S, work (l.take kk) s = S := ⟨_, rfl⟩
      rw [hS] at hwt hwb ⊢
      obtain ⟨S1, hS1⟩ : ∃ S1, work (l.take (kk + 1)) s = S1 := ⟨_, rfl⟩
      rw [hS1] at hwt
      have HS1 := Lib.hid hS1
      obtain ⟨s0, s1⟩ := hwb
      have s2 : S ≤ 281474976710656 := by omega
      clear hS hS1 s1 hwl
      generalize l.getD kk default = x at *
      have jb := jobs_nonneg hx s
      have jl := jobs_le hx h0
      obtain ⟨a0, a1, a2, a3, a4, a5, a6⟩ := ok_bd hx
      have hJ := fun w => Lib.hid (jobsr_any x hx s (by omega) (by omega) w)
      generalize jobs x s = J at *
      unfold demV at hJ
      generalize x.c = c at *
      generalize x.d = d at *
      generalize x.t = t at *
      have e1 : IntKind.u64.wrap c = c := by rw [IntKind.wrap_u64]; omega
      have e2 : IntKind.u64.wrap J = J := by rw [IntKind.wrap_u64]; omega
      have hM := fun w => Lib.hid (mulr_any c J (by omega) (by omega) (by omega) w)
      unfold numV at hM
      generalize hY : c * J = Y at *
      have hA := fun w => Lib.hid (addr_any S Y (by omega) (by omega) (by omega) w)
      unfold numV at hA
      have hkeep : ∀ w', Below wr.heap.size wr w' → Below wr.heap.size wr w' ∧ w'.cell? ⟨b2, o + kk * 3, none⟩ = some (.int .i64 c) ∧ w'.cell? ⟨b2, o + kk * 3 + 1, none⟩ = some (.int .i64 d) ∧ w'.cell? ⟨b2, o + kk * 3 + 2, none⟩ = some (.int .i64 t) := fun w' h =>
        have hz := h.block b2 hbl
        ⟨h, (World.cell?_of_block (a := ⟨b2, o + kk * 3, none⟩) hz).trans c0, (World.cell?_of_block (a := ⟨b2, o + kk * 3 + 1, none⟩) hz).trans c1, (World.cell?_of_block (a := ⟨b2, o + kk * 3 + 2, none⟩) hz).trans c2⟩
      have kR : Below wr.heap.size wr wr := Below.refl _ _
      have kA : ∀ w' o, Below wr.heap.size wr w' → Below wr.heap.size wr (w'.alloc o) := fun w' o h => h.alloc h.size o
      have kD : ∀ w', Below wr.heap.size wr w' → Below wr.heap.size wr w'.drew := fun w' h => h.drew
      have kC : ∀ w' w'', Below w'.heap.size w' w'' → Below wr.heap.size wr w' → Below wr.heap.size wr w'' := fun w' w'' h h' => h'.trans (h.mono h'.size)
      have hs0 := bx_lt hR.out
      have kS : ∀ w' p k v, wr.heap.size ≤ p → Below wr.heap.size wr w' → Below wr.heap.size wr (w'.setCell ⟨p, k, none⟩ v) := fun w' p k v hp h => bx_below h p hp k v
      have hq : ∀ (V V' : World) (x y : Value), Below (V.alloc (.cells #[x, y] 64)).heap.size (V.alloc (.cells #[x, y] 64)) V' → V'.heap[V.heap.size]? = some (.cells #[x, y] 64 (0, 0)) := fun V V' x y h => bx_old (bx_new _ _ _) h (by simp)
      have hqd : ∀ (V V' : World) (x y : Value), Below (V.alloc (.cells #[x, y] 64)).drew.heap.size (V.alloc (.cells #[x, y] 64)).drew V' → V'.heap[V.heap.size]? = some (.cells #[x, y] 64 (0, 0)) := fun V V' x y h => (h.block V.heap.size (by simp)).trans (bx_new V _ _)
      go_upto_region 9 with fail
      go_cut [9] (fun m wx => ∃ b4, m = .pointer (some ⟨b4, 0, none⟩) ∧ wr.heap.size ≤ b4 ∧ wx.heap[b4]? = some (.cells #[.int .u64 Y, .bool true] 64 (0, 0)) ∧ Below wr.heap.size wr wx)
      case first =>
        go_region_held3 (fun w' => Below wr.heap.size wr w' ∧ w'.cell? ⟨b2, o + kk * 3, none⟩ = some (.int .i64 c) ∧ w'.cell? ⟨b2, o + kk * 3 + 1, none⟩ = some (.int .i64 d) ∧ w'.cell? ⟨b2, o + kk * 3 + 2, none⟩ = some (.int .i64 t))
          (exact hkeep _ (by repeat first | with_reducible assumption | with_reducible apply kA | with_reducible apply kD | (with_reducible refine kC _ _ (by assumption) ?_) | (with_reducible refine kS _ _ _ _ (by first | exact Nat.le_refl _ | assumption) ?_)))
          (first
            | (go_at_call 24; refine (hJ _).out.mono ?_; rintro e W3 ⟨rfl, hb3⟩; have hz3 : wr.heap.size ≤ W3.heap.size := (by have := hb3.size; simp at this; omega); (first | (have p := hq _ _ _ _ hb3) | (have p := hqd _ _ _ _ hb3) | skip))
            | (go_at_call 25; refine (hM _).out.mono ?_; rintro e W4 ⟨rfl, hb4⟩; (first | (have q := hq _ _ _ _ hb4; have q9 := bx_two q; have q2 := bx_free q 0; have q3 := bx_free q 1; obtain ⟨q0, q1⟩ := q9) | (have q := hqd _ _ _ _ hb4; have q9 := bx_two q; have q2 := bx_free q 0; have q3 := bx_free q 1; obtain ⟨q0, q1⟩ := q9) | (have q := bx_old p hb4 (bx_lt p); have q9 := bx_two q; have q2 := bx_free q 0; have q3 := bx_free q 1; obtain ⟨q0, q1⟩ := q9) | skip)))
        all_goals (rename_i hHeld; go_wp2_with fail; go_meet)
        all_goals first | exact ⟨_, rfl, by have := hHeld.1.size; simp at this; have := hb4.size; omega, bx_new _ _ _, hHeld.1⟩ | exact ⟨_, rfl, by first | exact Nat.le_refl _ | exact hz3, bx_set2 q _ _, hHeld.1⟩
      case rest =>
        obtain ⟨b4, rfl, hb4, hN, hBx⟩ := hcut
        have HB4 : Hid (Below w.heap.size w wc) := BW.out.trans (hBx.mono hsz)
        have hR4 : Hid (wc.heap[w.heap.size]? = some (.cells #[.int .i64 0, .bool false] 41 (0, 0))) := (hBx.block _ hs0).trans hR.out
        obtain ⟨k0, k1⟩ := bx_two hN
        have hHN := Lib.hid hN
        clear hkeep kR kA kD kC kS hq hqd hBx hN c0 c1 c2 hJ hM hR BW
        have e8 : IntKind.u64.wrap (S + Y) = S + Y := by rw [IntKind.wrap_u64]; omega
        go_wp2_with fail
        refine (hA _).out.mono ?_
        rintro e W5 ⟨rfl, hb5⟩
        have hN5 : W5.heap[b4]? = some (.cells #[.int .u64 Y, .bool true] 64 (0, 0)) := (hb5.block _ (bx_lt hHN.out)).trans hHN.out
        obtain ⟨m0, m1⟩ := bx_two hN5
        have HB5 : Hid (Below w.heap.size w W5) := HB4.out.trans (hb5.mono HB4.out.size)
        have hR5 : Hid (W5.heap[w.heap.size]? = some (.cells #[.int .i64 0, .bool false] 41 (0, 0))) := (hb5.block _ (bx_lt hR4.out)).trans hR4.out
        have hs5 := bx_lt hR5.out
        have hl5 := bx_lt hN5
        have HB6 : Hid (Below w.heap.size w (W5.alloc (.cells #[.int .u64 (S + Y), .bool true] 64))) := HB5.out.alloc HB5.out.size _
        have hR6 : Hid ((W5.alloc (.cells #[.int .u64 (S + Y), .bool true] 64)).heap[w.heap.size]? = some (.cells #[.int .i64 0, .bool false] 41 (0, 0))) := (Below.heap_alloc _ _ _ hs5).trans hR5.out
        have n0 : ∀ o, (W5.alloc o).cell? ⟨b4, 1, none⟩ = some (.bool true) := fun o => (World.cell?_of_block (a := ⟨b4, 1, none⟩) (Below.heap_alloc W5 o b4 hl5)).trans m1
        have g5 : decide (4611686018427387904 < S + Y) = false := by simp; omega
        clear hb5 hN5 hHN k0 k1 hb4 HB4 hR4 HB5 hR5
        go_wp2
        go_roundg (n - (kk + 1))
        case measure => omega
        case rel => exact ⟨kk + 1, by omega, by omega, by go_num, by rw [HS1.out, hwt.out], hR6.out, HB6.out⟩
    · have hltz : ¬ (kk : Int) < (n : Int) := by omega
      obtain rfl : kk = n := by omega
      have hq : l.take kk = l := List.take_of_length_le (by omega)
      rw [hq]
      have hwb := work_bd l HO.out (show 0 ≤ s by omega) (show s ≤ 4194304 by omega)
      obtain ⟨S, hS⟩ : ∃ S, work l s = S := ⟨_, rfl⟩
      rw [hS] at hwb ⊢
      obtain ⟨s0, s1⟩ := hwb
      have e1 : IntKind.i64.wrap S = S := by rw [IntKind.wrap_i64]; omega
      have hR4 := hR.out
      obtain ⟨r0, r1⟩ := bx_two hR4
      have f0 := bx_free hR4 0
      have f1 := bx_free hR4 1
      have hRX : Hid (((wr.setCell ⟨w.heap.size, 0, none⟩ (.int .i64 S)).setCell ⟨w.heap.size, 1, none⟩ (.bool true)).heap[w.heap.size]? = some (.cells #[.int .i64 S, .bool true] 41 (0, 0))) := bx_set2 hR4 _ _
      have HBX : Hid (Below w.heap.size w ((wr.setCell ⟨w.heap.size, 0, none⟩ (.int .i64 S)).setCell ⟨w.heap.size, 1, none⟩ (.bool true))) := bx_below (bx_below BW.out _ (by omega) _ _) _ (by omega) _ _
      have HS := Lib.hid hS
      clear hR BW hR4 hq s0 s1 hS
      go_wp2
      obtain ⟨q0, q1⟩ := bx_two hRX.out
      refine bodyPost_ret (v := .agg #[.int .i64 S, .bool true]) ?_ rfl ⟨by rw [HS.out], HBX.out⟩
      simp [results, Try.results16, go_sem, q0, q1]
end Go.Proofs.Ytajkckjpfbkpmaa.Dem
