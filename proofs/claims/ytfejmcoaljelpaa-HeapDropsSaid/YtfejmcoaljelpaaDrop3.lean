/-
  The statement HeapDrops, walked.
-/
import Derived.Test.YtfejmcoaljelpaaLow3
namespace Go.Proofs.Ytfejmcoaljelpaa.Hp
open Go.RowKit Go.Maps Go.Proofs.Ytfejmcoaljelpaa.Box

theorem and_one_u64 (a : Nat) (ha : a < 18446744073709551616) : Go.bits .and .u64 (a : Int) 1 = ((a % 2 : Nat) : Int) := by
  have h1 : (BitVec.ofInt IntKind.u64.bits (a : Int)).toNat = a := by
    rw [BitVec.toNat_ofInt]; show ((a : Int) % 18446744073709551616).toNat = a; omega
  have h2 : (BitVec.ofInt IntKind.u64.bits (1 : Int)).toNat = 1 := by decide
  simp only [Go.bits, BitVec.toNat_and, h1, h2]
  rw [Nat.and_one_is_mod, IntKind.wrap_u64]
  omega
theorem bit_of {a : Int} (h : (Lit.int .u64 a).wf = true) (i : Nat) : Go.bits .and .u64 (a / 2 ^ i) 1 = 0 ∨ Go.bits .and .u64 (a / 2 ^ i) 1 = 1 := by
  have hr : 0 ≤ a ∧ a < 18446744073709551616 := by
    have := h
    simp [Lit.wf, IntKind.min, IntKind.max, IntKind.signed, IntKind.bits] at this
    omega
  obtain ⟨m, rfl⟩ : ∃ m : Nat, a = (m : Int) := ⟨a.toNat, by omega⟩
  have e : (m : Int) / 2 ^ i = ((m / 2 ^ i : Nat) : Int) := by push_cast; rfl
  have hlt : m / 2 ^ i < 18446744073709551616 := Nat.lt_of_le_of_lt (Nat.div_le_self _ _) (by omega)
  rw [e, and_one_u64 _ hlt]
  omega
theorem perm_drop {L L' : List (Int × Int)} {k y : Int} (h : L.Perm ((k, y) :: L')) (hn : (L.map (·.1)).Nodup) : L'.Perm (L.filter fun x => decide (x.1 ≠ k)) := by
  have h1 := h.filter fun x => decide (x.1 ≠ k)
  have h2 := (h.map (·.1)).nodup_iff.1 hn
  rw [List.map_cons, List.nodup_cons] at h2
  have h3 : ((k, y) :: L').filter (fun x => decide (x.1 ≠ k)) = L' := by
    rw [List.filter_cons_of_neg (by simp)]
    refine List.filter_eq_self.2 fun x hx => ?_
    simp only [decide_eq_true_eq]
    exact fun e => h2.1 (List.mem_map.2 ⟨x, hx, e⟩)
  rw [h3] at h1
  exact h1.symm
/-- What is left where so many have been looked at. -/
def lft (z : List Int) (bt : Nat → Bool) (N i : Nat) : List (Int × Int) := (itL z N).filter fun x => decide ((i : Int) ≤ x.1) || !bt x.1.toNat
def cntF (bt : Nat → Bool) : Nat → Nat
  | 0 => 0
  | i + 1 => cntF bt i + if bt i then 0 else 1
theorem cntF_le (bt : Nat → Bool) : ∀ i, cntF bt i ≤ i
  | 0 => Nat.le_refl _
  | i + 1 => by
    have := cntF_le bt i
    unfold cntF
    split <;> omega
theorem lft_zero (z : List Int) (bt : Nat → Bool) (N : Nat) : lft z bt N 0 = itL z N := by
  refine List.filter_eq_self.2 fun x hx => ?_
  obtain ⟨j, _, rfl⟩ := (itL_mem z N x).1 hx
  simp
theorem lft_keep (z : List Int) (bt : Nat → Bool) (N i : Nat) (h : bt i = false) : lft z bt N (i + 1) = lft z bt N i := by
  refine List.filter_congr fun x hx => ?_
  obtain ⟨j, _, rfl⟩ := (itL_mem z N x).1 hx
  simp only [Int.toNat_natCast]
  by_cases e : j = i
  · subst e; rw [h]; simp
  · congr 1
    rw [decide_eq_decide]
    omega
theorem lft_drop (z : List Int) (bt : Nat → Bool) (N i : Nat) (h : bt i = true) : lft z bt N (i + 1) = (lft z bt N i).filter fun x => decide (x.1 ≠ (i : Int)) := by
  unfold lft
  rw [List.filter_filter]
  refine List.filter_congr fun x hx => ?_
  obtain ⟨j, _, rfl⟩ := (itL_mem z N x).1 hx
  simp only [Int.toNat_natCast]
  by_cases e : j = i
  · subst e; rw [h]; simp; omega
  · have e1 : decide ((j : Int) ≠ (i : Int)) = true := by simp; omega
    rw [e1, Bool.true_and]
    congr 1
    rw [decide_eq_decide]
    omega
theorem lft_mem (z : List Int) (bt : Nat → Bool) (N i : Nat) (x : Int × Int) : x ∈ lft z bt N i ↔ ∃ j, j < N ∧ x = ((j : Int), z.getD j 0) ∧ (i ≤ j ∨ bt j = false) := by
  unfold lft
  rw [List.mem_filter, itL_mem]
  constructor
  · rintro ⟨⟨j, h1, rfl⟩, h2⟩
    simp only [Int.toNat_natCast, Bool.or_eq_true, decide_eq_true_eq, Bool.not_eq_true'] at h2
    exact ⟨j, h1, rfl, h2.imp (fun h => by omega) id⟩
  · rintro ⟨j, h1, rfl, h2⟩
    refine ⟨⟨j, h1, rfl⟩, ?_⟩
    simp only [Int.toNat_natCast, Bool.or_eq_true, decide_eq_true_eq, Bool.not_eq_true']
    exact h2.imp (fun h => by omega) id
theorem lft_len (z : List Int) (bt : Nat → Bool) (N : Nat) : (lft z bt N N).length = cntF bt N := by
  have key : ∀ n, n ≤ N → ((itL z n).filter fun x => decide ((N : Int) ≤ x.1) || !bt x.1.toNat).length = cntF bt n := by
    intro n
    induction n with
    | zero => intro _; rfl
    | succ n ih =>
      intro hn
      have := ih (by omega)
      have e : decide ((N : Int) ≤ (n : Int)) = false := by simp; omega
      unfold itL cntF
      rw [List.filter_cons]
      simp only [Int.toNat_natCast, e, Bool.false_or]
      cases hb : bt n
      · rw [if_pos (by simp), List.length_cons, this]; simp
      · rw [if_neg (by simp), this]; simp
  exact key N (Nat.le_refl _)
set_option maxRecDepth 100000 in
set_option maxHeartbeats 8000000 in
theorem HeapDrops_walk (a0 : Option Addr) (len0 cap0 : Nat) (z0 : List Int) (a1 : Int) (W : World) (w0 : Row0.IsRow .i64 W a0 len0 cap0 z0) (_w1 : (Lit.int .u64 a1).wf = true) :
    Calls Try.prog 4 #[.slice a0 len0 cap0, .int .u64 a1] W fun e w' => e = .returned (.bool true) ∧ Below W.heap.size W w' := by
  have hr := row_in w0
  have hlc := hr.lc
  have hcm := hr.cm
  have HR := Lib.hid hr
  have hbit := bit_of _w1
  obtain ⟨bt, hbt⟩ : ∃ bt : Nat → Bool, ∀ i, bt i = decide (Go.bits .and .u64 (a1 / 2 ^ i) 1 = 1) := ⟨fun i => decide (Go.bits .and .u64 (a1 / 2 ^ i) 1 = 1), fun _ => rfl⟩
  have HBIT : Hid (∀ i, (bt i = true ∧ Go.bits .and .u64 (a1 / 2 ^ i) 1 = 1) ∨ (bt i = false ∧ Go.bits .and .u64 (a1 / 2 ^ i) 1 = 0)) := fun i => by
    rcases hbit i with h | h
    · exact .inr ⟨by rw [hbt, h]; rfl, h⟩
    · exact .inl ⟨by rw [hbt, h]; rfl, h⟩
  clear w0 hr _w1 hbit hbt
  go_enter Try.func4, Try.ntmps4
  go_wp2_with fail
  refine (awake3_any W).mono ?_
  rintro e W1 ⟨rfl, hb1⟩
  have HB1 := Lib.hid hb1
  clear hb1
  go_wp2_with fail
  refine (new_b W1).mono ?_
  rintro e W2 ⟨p, bm, rfl, h2, hb2⟩
  have HH2 := Lib.hid h2
  have HK2 : Hid (Kp (fun j => j < W1.heap.size) W1 W2) := Kp.of_below hb2
  clear h2 hb2
  obtain ⟨N, hN⟩ : ∃ N, min len0 40 = N := ⟨_, rfl⟩
  have hN1 : N ≤ len0 := by omega
  have hN2 : N ≤ 40 := by omega
  go_wp2_with fail
  go_loopg [8] N (fun gg v6 wr => ∃ (i : Nat), i ≤ N ∧ N - i ≤ gg ∧ v6 = .int .i64 (i : Int) ∧ Aside (HB (fun j => j < W1.heap.size) wr p bm (itL z0 i)) ∧ Aside (Kp (fun j => j < W1.heap.size) W1 wr))
  case atStart => exact ⟨0, by omega, by omega, rfl, HH2.out, HK2.out⟩
  case round =>
    obtain ⟨i, hi, hgk, rfl, hH, hK⟩ := hrel
    clear HH2 HK2
    by_cases hlt : i < N
    · obtain ⟨ad, rfl⟩ := HR.out.at_ i (by omega)
      have c0 := cell_later (cell_later (HR.out.rd ad rfl i (by omega)) HB1.out) (hK.out.below (fun j h => h) (Nat.le_refl _))
      have e1 : (i : Int) < (len0 : Int) := by omega
      have e2 : (i : Int) < 40 := by omega
      have hys : itL z0 (i + 1) = ((i : Int), z0.getD i 0) :: itL z0 i := rfl
      have hnew := itL_new z0 i
      have hwy := HR.out.wf i
      generalize z0.getD i 0 = y at *
      have KP := put_b hH.out (i : Int) y (key_wf i (by omega)) hwy (by rw [itL_length]; omega)
      have HNEW := Lib.hid hnew
      have HYS := Lib.hid hys
      clear hys hnew hH hwy
      go_wp2_with fail
      refine KP.mono ?_
      rintro e w3 (⟨h, _⟩ | ⟨_, rfl, h3, k3⟩)
      · exact absurd h HNEW.out
      have HH3 := Lib.hid h3
      have HK3 := Lib.hid (hK.out.trans k3)
      clear h3 k3 KP hK c0
      go_wp2
      go_roundg (N - (i + 1))
      case measure => omega
      case rel => exact ⟨i + 1, by omega, by omega, by go_num, by rw [HYS.out]; exact HH3.out, HK3.out⟩
    · have hie : i = N := by omega
      subst hie
      have hq : ¬ (i : Int) < (len0 : Int) ∨ ((i : Int) < (len0 : Int) ∧ ¬ (i : Int) < 40) := by omega
      have HH3 : Hid (HB (fun j => j < W1.heap.size) wr p bm (lft z0 bt i 0)) := by rw [lft_zero]; exact hH.out
      have HK3 := Lib.hid hK.out
      clear hgk hi hH hK
      rcases hq with q1 | ⟨q1, q2⟩
      all_goals
        go_wp2_with fail
        go_loopg [7, 9] i (fun gg v7 v9 wr => ∃ (j : Nat), j ≤ i ∧ i - j ≤ gg ∧ v7 = .int .i64 (cntF bt j : Int) ∧ v9 = .int .i64 (j : Int) ∧ Aside (HB (fun j => j < W1.heap.size) wr p bm (lft z0 bt i j)) ∧ Aside (Kp (fun j => j < W1.heap.size) W1 wr))
        case atStart => exact ⟨0, by omega, by omega, rfl, rfl, HH3.out, HK3.out⟩
        case round =>
          obtain ⟨j, hj, hgk2, rfl, rfl, hH, hK⟩ := hrel
          clear HH3 HK3
          by_cases hjl : j < i
          · have e1 : (j : Int) < (len0 : Int) := by omega
            have e2 : (j : Int) < 40 := by omega
            have hmn : min j 64 = j := by omega
            have hcl := cntF_le bt j
            rcases HBIT.out j with ⟨hb, hv⟩ | ⟨hb, hv⟩
            · have hcs : cntF bt (j + 1) = cntF bt j := by rw [cntF, if_pos hb]; omega
              have KD := drop_b hH.out (j : Int) (key_wf j (by omega))
              have HIN : Hid ((j : Int) ∈ (lft z0 bt i j).map (·.1)) := List.mem_map.2 ⟨_, (lft_mem z0 bt i j _).2 ⟨j, hjl, rfl, .inl (Nat.le_refl _)⟩, rfl⟩
              have HLD := Lib.hid (lft_drop z0 bt i j hb)
              have HND := Lib.hid (nodup_b hH.out)
              have HOUT : Hid (∀ y L', ¬ (lft z0 bt i (j + 1)).Perm (((j : Int), y) :: L')) := fun y L' hp => by
                obtain ⟨m, _, e, h⟩ := (lft_mem z0 bt i (j + 1) _).1 (hp.mem_iff.2 (List.mem_cons_self ..))
                simp only [Prod.mk.injEq] at e
                obtain rfl : j = m := by omega
                rcases h with h | h
                · omega
                · rw [hb] at h; cases h
              obtain ⟨cj, hcj⟩ : ∃ cj, cntF bt j = cj := ⟨_, rfl⟩
              rw [hcj] at hcl hcs ⊢
              have HCS := Lib.hid hcs
              clear hcs hb hH hcj
              go_wp2_with fail
              refine KD.mono ?_
              rintro e w3 (⟨h, _⟩ | ⟨y, L', hp, rfl, h3, k3⟩)
              · exact absurd HIN.out h
              have h4 := h3.perm (perm_drop hp HND.out)
              rw [← HLD.out] at h4
              have KD2 := drop_b h4 (j : Int) (key_wf j (by omega))
              have HH4 := Lib.hid h4
              have HK4 := Lib.hid (hK.out.trans k3)
              clear hp h3 k3 h4 KD hK
              go_wp2_with fail
              refine KD2.mono ?_
              rintro e w4 (⟨_, rfl, rfl⟩ | ⟨y, L', hp, _⟩)
              · clear KD2
                go_wp2
                go_roundg (i - (j + 1))
                case measure => omega
                case rel => exact ⟨j + 1, by omega, by omega, by rw [HCS.out], by go_num, HH4.out, HK4.out⟩
              · exact absurd hp (HOUT.out _ _)
            · have hcs : cntF bt (j + 1) = cntF bt j + 1 := by rw [cntF, if_neg (by rw [hb]; decide)]
              have HH4 : Hid (HB (fun j => j < W1.heap.size) wr p bm (lft z0 bt i (j + 1))) := by rw [lft_keep z0 bt i j hb]; exact hH.out
              have HK4 := Lib.hid hK.out
              obtain ⟨cj, hcj⟩ : ∃ cj, cntF bt j = cj := ⟨_, rfl⟩
              rw [hcj] at hcl hcs ⊢
              have HCS := Lib.hid hcs
              clear hcs hb hH hK hcj
              go_wp2
              go_roundg (i - (j + 1))
              case measure => omega
              case rel => exact ⟨j + 1, by omega, by omega, by rw [HCS.out]; go_num, by go_num, HH4.out, HK4.out⟩
          · have hji : j = i := by omega
            subst hji
            have KL := len_b hH.out
            rw [lft_len] at KL
            have HH5 := Lib.hid hH.out
            have HK5 := Lib.hid hK.out
            have hlen := lft_len z0 bt j
            have hmem := fun x => (lft_mem z0 bt j j x).1
            have hcl := cntF_le bt j
            obtain ⟨M, hM⟩ : ∃ M, cntF bt j = M := ⟨_, rfl⟩
            rw [hM] at KL hlen hcl ⊢
            generalize lft z0 bt j j = L0 at *
            have HLN := Lib.hid hlen
            have HMM : Hid (∀ x ∈ L0, ∃ m, m < j ∧ x = ((m : Int), z0.getD m 0) ∧ bt m = false) := fun x hx => by
              obtain ⟨m, h1, h2, h3⟩ := hmem x hx
              exact ⟨m, h1, h2, h3.resolve_left (by omega)⟩
            clear hlen hmem hH hK hM hgk2 hj hjl
            go_wp2_with fail
            refine KL.mono ?_
            rintro e w6 ⟨rfl, rfl⟩
            clear KL
            go_wp2_with fail
            go_loopg [11] M (fun gg v11 wr => ∃ (q : Nat) (L : List (Int × Int)), q ≤ M ∧ M - q ≤ gg ∧ v11 = .int .i64 (q : Int) ∧ Aside (L.length = M - q) ∧ Aside (HB (fun j => j < W1.heap.size) wr p bm L) ∧ Aside (Kp (fun j => j < W1.heap.size) W1 wr) ∧ Aside (∀ x ∈ L, ∃ m, m < j ∧ x = ((m : Int), z0.getD m 0) ∧ bt m = false))
            case atStart => exact ⟨0, L0, by omega, by omega, rfl, HLN.out, HH5.out, HK5.out, HMM.out⟩
            case round =>
              obtain ⟨q, L, hq, hgk3, rfl, hL, hH, hK, hMm⟩ := hrel
              clear HH5 HK5 HMM HLN
              by_cases hqM : q < M
              · have KT := take_b hH.out (fun x hx => by
                  obtain ⟨m, h1, rfl, _⟩ := hMm.out x hx
                  exact key_wf m (by omega))
                go_wp2_with fail
                refine KT.mono ?_
                rintro e w7 (⟨x, L', hp, hx, rfl, h7, k7⟩ | ⟨h, _⟩)
                · obtain ⟨m, hm1, rfl, hm2⟩ := hMm.out x hx.1
                  have hv : Go.bits .and .u64 (a1 / 2 ^ m) 1 = 0 := by
                    rcases HBIT.out m with ⟨h, _⟩ | ⟨_, h⟩
                    · rw [hm2] at h; cases h
                    · exact h
                  obtain ⟨ad, rfl⟩ := HR.out.at_ m (by omega)
                  have HK7 := Lib.hid (hK.out.trans ⟨k7.os, k7.tape, k7.output, k7.size, k7.block⟩)
                  have c0 := cell_later (cell_later (HR.out.rd ad rfl m (by omega)) HB1.out) (HK7.out.below (fun j h => h) (Nat.le_refl _))
                  have HH7 := Lib.hid h7
                  have HL7 : Hid (L'.length = M - (q + 1)) := by
                    have := hp.length_eq
                    rw [hL.out, List.length_cons] at this
                    show L'.length = _
                    omega
                  have HM7 : Hid (∀ x ∈ L', ∃ m, m < j ∧ x = ((m : Int), z0.getD m 0) ∧ bt m = false) := fun x hx => hMm.out x (hp.mem_iff.2 (List.mem_cons_of_mem _ hx))
                  have f1 : ¬ (m : Int) < 0 := by omega
                  have f1' : decide ((m : Int) < 0) = false := by simp
                  have f2 : ¬ (len0 : Int) ≤ (m : Int) := by omega
                  have f2' : decide ((len0 : Int) ≤ (m : Int)) = false := by simp; omega
                  have f3 : (m : Int) < (len0 : Int) := by omega
                  have f4 : min m 64 = m := by omega
                  clear KT hp hx h7 k7 hH hK hMm hm2 hL
                  generalize z0.getD m 0 = y at *
                  go_wp2_with fail
                  go_roundg (M - (q + 1))
                  case measure => omega
                  case rel => exact ⟨q + 1, L', by omega, by omega, by go_num, HL7.out, HH7.out, HK7.out, HM7.out⟩
                · exfalso
                  have := hL.out
                  rw [h] at this
                  simp at this
                  omega
              · have hLz : L.length = 0 := by rw [hL.out]; omega
                have KL := len_b hH.out
                rw [hLz] at KL
                have HE : Hid (Below W.heap.size W wr) := HB1.out.trans (hK.out.below (fun j h => Nat.lt_of_lt_of_le h HB1.out.size) HB1.out.size)
                clear hH hK hMm hL
                go_wp2_with fail
                refine KL.mono ?_
                rintro e w7 ⟨rfl, rfl⟩
                go_wp2
                go_ret
                exact ⟨rfl, HE.out⟩
end Go.Proofs.Ytfejmcoaljelpaa.Hp
