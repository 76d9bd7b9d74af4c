/-
  The reference's least multiple of a row.
-/
import Derived.Test.YtajkckjpfbkpmaaQpr3
import Derived.StillTailTactics
namespace Go.Proofs.Ytajkckjpfbkpmaa.Dem
open Go.RowKit Go.Shelf Go.Proofs.Ytajkckjpfbkpmaa.Ari Go.Proofs.Ytajkckjpfbkpmaa.Box

theorem gcdr_still (a b : Int) (b0 : 0 ≤ b) (a0 : 0 ≤ a) (w : World) :
    Calls Try.prog 47 #[.int .u64 a, .int .u64 b] w fun e w' => e = .returned (.int .u64 (gcdI a b)) ∧ w' = w := by
  go_enter Try.func47, Try.ntmps47
  go_wp2
  go_loopg [0, 1] b.natAbs (fun k x y wr => ∃ (p q : Int), x = .int .u64 p ∧ y = .int .u64 q ∧ Aside (gcdI p q = gcdI a b) ∧ Aside (q.natAbs ≤ k) ∧ Aside (0 ≤ p) ∧ 0 ≤ q ∧ wr = w)
  case atStart => exact ⟨a, b, rfl, rfl, rfl, Nat.le_refl _, a0, b0, rfl⟩
  case round =>
    obtain ⟨p, q, rfl, rfl, hg, hk, p0, q0, rfl⟩ := hrel
    by_cases hq : q = 0
    · subst hq
      have h2 : decide ((0:Int) < 0) = false := by decide
      go_wp2
      go_ret
      exact ⟨by rw [← hg.out, gcdI_zero]; rfl, rfl⟩
    · have h1 : (q == 0) = false := beq_eq_false_iff_ne.2 hq
      have h2 : decide (0 < q) = true := by simp; omega
      have hs : Aside (gcdI p q = gcdI q (p.tmod q)) := gcdI_step p q hq
      have hl : Aside ((p.tmod q).natAbs < q.natAbs) := tmod_lt p q hq
      have ht : Aside (0 ≤ p.tmod q) := Int.tmod_nonneg _ p0.out
      go_wp2
      go_roundg (p.tmod q).natAbs
      case measure => have := hl.out; have := hk.out; omega
      case rel => exact ⟨q, p.tmod q, rfl, rfl, by rw [← hg.out, hs.out]; rfl, Nat.le_refl _, q0, ht.out, rfl⟩
theorem lcm_step (a b : Nat) (ha : a < M64) (hb0 : 0 < b) : ∃ G Q : Int, gcdI a b = G ∧ 0 < G ∧ (a : Int).tdiv G = Q ∧ 0 ≤ Q ∧ Q < 18446744073709551616 ∧ Q * (b : Int) = ((Nat.lcm a b : Nat) : Int) := by
  have hg : 0 < Nat.gcd a b := Nat.gcd_pos_of_pos_right a hb0
  refine ⟨((Nat.gcd a b : Nat) : Int), ((a / Nat.gcd a b : Nat) : Int), by rw [gcdI_nat, Nat.gcd_comm b a], by omega, by rw [Int.tdiv_eq_ediv_of_nonneg (by omega)]; rfl, Int.natCast_nonneg _, by have := Nat.lt_of_le_of_lt (Nat.div_le_self a (Nat.gcd a b)) ha; unfold M64 at this; exact Int.ofNat_lt.2 this, ?_⟩
  have e3 : a / Nat.gcd a b * b = Nat.lcm a b := by
    unfold Nat.lcm
    rw [Nat.mul_comm a b, Nat.mul_div_assoc b (Nat.gcd_dvd_left a b), Nat.mul_comm]
  rw [← e3]
  simp
theorem lcm_take (ns : List Nat) (i : Nat) (h : i < ns.length) : lcmN (ns.take (i + 1)) = Nat.lcm (lcmN (ns.take i)) (ns.getD i 0) := by
  have e : ns.getD i 0 = ns[i] := by rw [List.getD_eq_getElem?_getD, List.getElem?_eq_getElem h]; rfl
  rw [e, List.take_add_one, List.getElem?_eq_getElem h]
  show lcmN (ns.take i ++ [ns[i]]) = _
  rw [lcmN_append]
  simp [lcmN]
theorem lcm_take_le (ns : List Nat) (hp : ∀ n ∈ ns, 0 < n) (i : Nat) : lcmN (ns.take i) ≤ lcmN ns := by
  have h : lcmN ns = Nat.lcm (lcmN (ns.take i)) (lcmN (ns.drop i)) := by rw [← lcmN_append, List.take_append_drop]
  exact Nat.le_of_dvd (lcmN_pos ns hp) (by rw [h]; exact Nat.dvd_lcm_left _ _)

set_option maxHeartbeats 4000000 in
set_option maxRecDepth 100000 in
theorem lcmr_any (A : Option Addr) (n c : Nat) (ns : List Nat) (hp : ∀ n ∈ ns, 0 < n) (hm : lcmN ns < M64) (w : World) (hr : Rd w .u64 A n (cs ns)) :
    Calls Try.prog 36 #[.slice A n c] w fun e w' => e = .returned (.agg #[.int .u64 (lcmN ns : Int), .bool true]) ∧ Below w.heap.size w w' := by
  have hln : ns.length = n := by have := hr.1; simpa [cs] using this
  have hn9 := hr.2.1
  have HR := Lib.hid hr.2.2
  have hget : ∀ j, j < n → (cs ns).getD j 0 = (ns.getD j 0 : Int) := fun j hj => by simp [cs, List.getD_eq_getElem?_getD, List.getElem?_eq_getElem (show j < ns.length by omega)]
  have HG := Lib.hid hget
  have HP := Lib.hid hp
  have HM := Lib.hid hm
  clear hr hget hp hm
  obtain ⟨W2, hW2⟩ : ∃ W2, (w.alloc (.cells #[.int .u64 0, .bool false] 64)).alloc (.cells #[.int .u64 1, .bool true] 64) = W2 := ⟨_, rfl⟩
  have hB2 : Hid (Below w.heap.size w W2) := by rw [← hW2]; exact ((Below.refl _ w).alloc (Nat.le_refl _) _).alloc (by simp) _
  have hN2 : Hid (W2.heap[w.heap.size + 1]? = some (.cells #[.int .u64 1, .bool true] 64 (0, 0))) := by rw [← hW2]; have := bx_new (w.alloc (.cells #[.int .u64 0, .bool false] 64)) #[.int .u64 1, .bool true] 64; rw [show (w.alloc (.cells #[.int .u64 0, .bool false] 64)).heap.size = w.heap.size + 1 by simp] at this; exact this
  have hR2 : Hid (W2.heap[w.heap.size]? = some (.cells #[.int .u64 0, .bool false] 64 (0, 0))) := by rw [← hW2]; exact (Below.heap_alloc _ _ _ (by simp)).trans (bx_new _ _ _)
  have HW2 := Lib.hid hW2
  clear hW2
  go_enter Try.func36, Try.ntmps36
  go_wp2_with fail
  rw [HW2.out]
  clear HW2
  go_loopg [4] n (fun gg iv wr => ∃ kk : Nat, kk ≤ n ∧ n - kk ≤ gg ∧ iv = .int .i64 (kk : Int) ∧ Aside (wr = W2))
  case atStart => exact ⟨0, Nat.zero_le _, by omega, rfl, rfl⟩
  case round =>
    obtain ⟨kk, hkk, hg, rfl, hw⟩ := hrel
    by_cases hlt : kk < n
    · have hltz : (kk : Int) < (n : Int) := by omega
      obtain ⟨ad, rfl, hc⟩ := HR.out (by omega)
      have c0 := hc kk hlt
      clear hc
      rw [HG.out kk hlt] at c0
      have hx : 0 < ns.getD kk 0 := HP.out _ (by rw [List.getD_eq_getElem?_getD, List.getElem?_eq_getElem (show kk < ns.length by omega)]; exact List.getElem_mem _)
      generalize ns.getD kk 0 = x at *
      have c1 : wr.cell? (ad.add kk) = some (.int .u64 (x : Int)) := by rw [hw.out]; exact (hB2.out.cell (World.block_lt_of_cell? _ _ c0)).trans c0
      have e1 : ((x : Int) == 0) = false := by simp; omega
      clear c0
      go_wp2
      go_roundg (n - (kk + 1))
      case measure => omega
      case rel => exact ⟨kk + 1, by omega, by omega, by go_num, hw.out⟩
    · have hltz : ¬ (kk : Int) < (n : Int) := by omega
      have hw' := hw.out
      subst hw'
      clear hw hg
      generalize wr = W2 at *
      go_wp2_with fail
      go_loopg [5] n (fun gg iv wr => ∃ kk : Nat, kk ≤ n ∧ n - kk ≤ gg ∧ iv = .int .i64 (kk : Int) ∧ Aside (wr.heap[w.heap.size + 1]? = some (.cells #[.int .u64 (lcmN (ns.take kk) : Int), .bool true] 64 (0, 0))) ∧ Aside (wr.heap[w.heap.size]? = some (.cells #[.int .u64 0, .bool false] 64 (0, 0))) ∧ Aside (Below w.heap.size w wr))
      case atStart => exact ⟨0, Nat.zero_le _, by omega, rfl, hN2.out, hR2.out, hB2.out⟩
      case round =>
        obtain ⟨k2, hk2, hg2, rfl, hN, hR, BW⟩ := hrel
        clear hN2 hR2 hB2
        obtain ⟨k0, k1⟩ := bx_two hN.out
        have hn2 := bx_lt hN.out
        by_cases hlt2 : k2 < n
        · have hltz2 : (k2 : Int) < (n : Int) := by omega
          obtain ⟨ad, rfl, hc⟩ := HR.out (by omega)
          have c0 := hc k2 hlt2
          clear hc
          rw [HG.out k2 hlt2] at c0
          have c1 : wr.cell? (ad.add k2) = some (.int .u64 (ns.getD k2 0 : Int)) := (BW.out.cell (World.block_lt_of_cell? _ _ c0)).trans c0
          have hx : 0 < ns.getD k2 0 := HP.out _ (by rw [List.getD_eq_getElem?_getD, List.getElem?_eq_getElem (show k2 < ns.length by omega)]; exact List.getElem_mem _)
          have ht := lcm_take ns k2 (by omega)
          have hle := lcm_take_le ns HP.out (k2 + 1)
          have hle0 := lcm_take_le ns HP.out k2
          have hM := HM.out
          generalize hL1 : lcmN (ns.take (k2 + 1)) = L1 at *
          generalize lcmN (ns.take k2) = L0 at *
          generalize ns.getD k2 0 = x at *
          have HL1 := Lib.hid hL1
          clear hL1 c0
          obtain ⟨G, Q, g1, g2, g3, g40, g4, g5⟩ := lcm_step L0 x (by omega) hx
          rw [← ht] at g5
          unfold M64 at hM
          have hGc := Lib.hid (gcdr_still L0 x (by omega) (by omega) wr.drew)
          rw [g1] at hGc
          have hMc := fun w => Lib.hid (mulr_any Q (x : Int) (by omega) (by omega) (by rw [g5]; omega) w)
          rw [g5] at hMc
          unfold numV at hMc
          have e4 : (G == 0) = false := by simp; omega
          have e40 : ¬ G = 0 := by omega
          have e5 : IntKind.u64.wrap Q = Q := by rw [IntKind.wrap_u64]; omega
          clear g1 g5 ht hle hle0 hM
          go_upto_region 10 with fail
          refine wp_region_still_tail 14 (by kernel_rfl) (by kernel_rfl) ?_
          simp only [List.take_succ_cons, List.take_zero, List.drop_succ_cons, List.drop_zero]
          repeat still_step
          still_call hGc.out
          repeat still_step
          try refine wpStill_nil ?_
          have HB3 : Hid (Below w.heap.size w wr.drew) := BW.out.drew
          have hN3 : Hid (wr.drew.heap[w.heap.size + 1]? = some (.cells #[.int .u64 (L0 : Int), .bool true] 64 (0, 0))) := hN.out
          have hR3 : Hid (wr.drew.heap[w.heap.size]? = some (.cells #[.int .u64 0, .bool false] 64 (0, 0))) := hR.out
          clear hN hR BW k0 k1 c1 hGc
          change wpList _ _ _ _ _ wr.drew
          generalize wr.drew = V at *
          go_wp2_with fail
          refine (hMc _).out.mono ?_
          rintro e V2 ⟨rfl, hb⟩
          have hN4 : V2.heap[w.heap.size + 1]? = some (.cells #[.int .u64 (L0 : Int), .bool true] 64 (0, 0)) := (hb.block _ (bx_lt hN3.out)).trans hN3.out
          have hR4 := (hb.block _ (bx_lt hR3.out)).trans hR3.out
          have HB4 : Below w.heap.size w V2 := HB3.out.trans (hb.mono HB3.out.size)
          have hNX : Hid (((V2.setCell ⟨w.heap.size + 1, 0, none⟩ (.int .u64 (L1 : Int))).setCell ⟨w.heap.size + 1, 1, none⟩ (.bool true)).heap[w.heap.size + 1]? = some (.cells #[.int .u64 (L1 : Int), .bool true] 64 (0, 0))) := bx_set2 hN4 _ _
          have hRX : Hid (((V2.setCell ⟨w.heap.size + 1, 0, none⟩ (.int .u64 (L1 : Int))).setCell ⟨w.heap.size + 1, 1, none⟩ (.bool true)).heap[w.heap.size]? = some (.cells #[.int .u64 0, .bool false] 64 (0, 0))) := (bx_other _ _ _ _ (by omega) _).trans ((bx_other _ _ _ _ (by omega) _).trans hR4)
          have HBX : Hid (Below w.heap.size w ((V2.setCell ⟨w.heap.size + 1, 0, none⟩ (.int .u64 (L1 : Int))).setCell ⟨w.heap.size + 1, 1, none⟩ (.bool true))) := bx_below (bx_below HB4 _ (by omega) _ _) _ (by omega) _ _
          obtain ⟨k0, k1⟩ := bx_two hN4
          have f0 := bx_free hN4 0
          have f1 := bx_free hN4 1
          clear hb hN4 hR4 HB4 hN3 hR3 HB3
          go_wp2
          go_roundg (n - (k2 + 1))
          case measure => omega
          case rel => exact ⟨k2 + 1, by omega, by omega, by go_num, by rw [HL1.out]; exact hNX.out, hRX.out, HBX.out⟩
        · have hltz2 : ¬ (k2 : Int) < (n : Int) := by omega
          have hq : ns.take k2 = ns := List.take_of_length_le (by omega)
          have hN4 := hN.out
          rw [hq] at hN4 k0
          have hR4 := hR.out
          obtain ⟨r0, r1⟩ := bx_two hR4
          have f0 := bx_free hR4 0
          have f1 := bx_free hR4 1
          have hRX : Hid (((wr.setCell ⟨w.heap.size, 0, none⟩ (.int .u64 (lcmN ns : Int))).setCell ⟨w.heap.size, 1, none⟩ (.bool true)).heap[w.heap.size]? = some (.cells #[.int .u64 (lcmN ns : Int), .bool true] 64 (0, 0))) := bx_set2 hR4 _ _
          have HBX : Hid (Below w.heap.size w ((wr.setCell ⟨w.heap.size, 0, none⟩ (.int .u64 (lcmN ns : Int))).setCell ⟨w.heap.size, 1, none⟩ (.bool true))) := bx_below (bx_below BW.out _ (by omega) _ _) _ (by omega) _ _
          clear hN hR BW hN4 hR4 hq
          go_wp2
          obtain ⟨q0, q1⟩ := bx_two hRX.out
          refine bodyPost_ret (v := .agg #[.int .u64 (lcmN ns : Int), .bool true]) ?_ rfl ⟨rfl, HBX.out⟩
          simp [results, Try.results36, go_sem, q0, q1]
end Go.Proofs.Ytajkckjpfbkpmaa.Dem
