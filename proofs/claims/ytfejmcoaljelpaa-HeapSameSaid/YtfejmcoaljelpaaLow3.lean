/-
  The statement HeapLowers, walked.
-/
import Derived.Test.YtfejmcoaljelpaaSorts3
import Derived.Test.YtfejmcoaljelpaaMask
namespace Go.Proofs.Ytfejmcoaljelpaa.Hp
open Go.RowKit Go.Maps Go.Proofs.Ytfejmcoaljelpaa.Box

theorem tmod_posH (a : Int) (n : Nat) (hn : 0 < n) : ∃ (t : Int) (k : Nat), a.tmod (n : Int) = t ∧ -(n : Int) < t ∧ t < (n : Int) ∧ (t + (n : Int)).tmod (n : Int) = (k : Int) ∧ k < n := by
  have h1 := Int.tmod_lt_of_pos a (show (0 : Int) < (n : Int) by omega)
  have h2 := Int.lt_tmod_of_pos a (show (0 : Int) < (n : Int) by omega)
  have h3 := Int.emod_nonneg (a.tmod (n : Int) + (n : Int)) (show (n : Int) ≠ 0 by omega)
  have h4 := Int.emod_lt_of_pos (a.tmod (n : Int) + (n : Int)) (show (0 : Int) < (n : Int) by omega)
  refine ⟨_, ((a.tmod (n : Int) + (n : Int)) % (n : Int)).toNat, rfl, by omega, h1, ?_, by omega⟩
  rw [Int.tmod_eq_emod_of_nonneg (by omega)]
  omega
def itL (z : List Int) : Nat → List (Int × Int)
  | 0 => []
  | i + 1 => ((i : Int), z.getD i 0) :: itL z i
theorem itL_length (z : List Int) : ∀ i, (itL z i).length = i
  | 0 => rfl
  | i + 1 => by rw [itL, List.length_cons, itL_length z i]
theorem itL_mem (z : List Int) : ∀ i x, x ∈ itL z i ↔ ∃ j, j < i ∧ x = ((j : Int), z.getD j 0)
  | 0, x => ⟨fun h => (by cases h), fun ⟨j, h, _⟩ => absurd h (Nat.not_lt_zero _)⟩
  | i + 1, x => by
    rw [itL, List.mem_cons, itL_mem z i]
    constructor
    · rintro (e | ⟨j, h1, h2⟩)
      · exact ⟨i, Nat.lt_succ_self i, e⟩
      · exact ⟨j, by omega, h2⟩
    · rintro ⟨j, h1, h2⟩
      by_cases e : j = i
      · subst e; exact .inl h2
      · exact .inr ⟨j, by omega, h2⟩
theorem itL_new (z : List Int) (i : Nat) : (i : Int) ∉ (itL z i).map (·.1) := fun h => by
  obtain ⟨x, h1, h2⟩ := List.mem_map.1 h
  obtain ⟨j, h3, rfl⟩ := (itL_mem z i x).1 h1
  simp only at h2
  omega
def m62 (z : List Int) : List Int := z.map (· % 4611686018427387904)
theorem m62_get (z : List Int) (i : Nat) : (m62 z).getD i 0 = z.getD i 0 % 4611686018427387904 := by
  unfold m62
  rw [List.getD_eq_getElem?_getD, List.getD_eq_getElem?_getD, List.getElem?_map]
  cases z[i]? <;> rfl
theorem m62_bd (z : List Int) (i : Nat) : 0 ≤ (m62 z).getD i 0 ∧ (m62 z).getD i 0 < 4611686018427387904 := by
  rw [m62_get]
  omega
theorem wf_of {v : Int} (h0 : -9223372036854775808 ≤ v) (h1 : v ≤ 9223372036854775807) : (Lit.int .i64 v).wf = true := by simp [Lit.wf, IntKind.min, IntKind.max, IntKind.signed, IntKind.bits]; omega
set_option maxRecDepth 100000 in
set_option maxHeartbeats 8000000 in
theorem HeapLowers_walk (a0 : Option Addr) (len0 cap0 : Nat) (z0 : List Int) (a1 : Int) (W : World) (w0 : Row0.IsRow .i64 W a0 len0 cap0 z0) (_w1 : (Lit.int .i64 a1).wf = true) :
    Calls Try.prog 5 #[.slice a0 len0 cap0, .int .i64 a1] W fun e w' => e = .returned (.bool true) ∧ Below W.heap.size W w' := by
  have hr := row_in w0
  have hlc := hr.lc
  have hcm := hr.cm
  have HR := Lib.hid hr
  clear w0 hr _w1
  go_enter Try.func5, Try.ntmps5
  go_wp2_with fail
  refine (awake3_any W).mono ?_
  rintro e W1 ⟨rfl, hb1⟩
  have HB1 := Lib.hid hb1
  clear hb1
  go_wp2_with fail
  refine (new_b W1).mono ?_
  rintro e W2 ⟨p, bm, rfl, h2, hb2⟩
  have HH2 := Lib.hid h2
  have HK2 : Hid (Kp (fun j => j < W1.heap.size) W1 W2) := Kp.of_below hb2
  clear h2 hb2
  obtain ⟨N, hN⟩ : ∃ N, min len0 40 = N := ⟨_, rfl⟩
  have hN1 : N ≤ len0 := by omega
  have hN2 : N ≤ 40 := by omega
  obtain ⟨z, hz⟩ : ∃ z, m62 z0 = z := ⟨_, rfl⟩
  have HZ := Lib.hid hz
  have hzb := m62_bd z0
  have hzg := m62_get z0
  rw [hz] at hzb hzg
  have HZB := Lib.hid hzb
  have HZG := Lib.hid hzg
  clear hz hzb hzg
  go_wp2_with fail
  go_loopg [7, 8] N (fun gg v5 v6 wr => ∃ (i : Nat), i ≤ N ∧ N - i ≤ gg ∧ v5 = .int .i64 (i : Int) ∧ v6 = .int .i64 (i : Int) ∧ Aside (HB (fun j => j < W1.heap.size) wr p bm (itL z i)) ∧ Aside (Kp (fun j => j < W1.heap.size) W1 wr))
  case atStart => exact ⟨0, by omega, by omega, rfl, rfl, HH2.out, HK2.out⟩
  case round =>
    obtain ⟨i, hi, hgk, rfl, rfl, hH, hK⟩ := hrel
    clear HH2 HK2
    by_cases hlt : i < N
    · obtain ⟨ad, rfl⟩ := HR.out.at_ i (by omega)
      have c0 := cell_later (cell_later (HR.out.rd ad rfl i (by omega)) HB1.out) (hK.out.below (fun j h => h) (Nat.le_refl _))
      have e1 : (i : Int) < (len0 : Int) := by omega
      have e2 : (i : Int) < 40 := by omega
      have ey := Row0.and_i64 (z0.getD i 0) 62 (by decide) 4611686018427387903 rfl
      have hyb := HZB.out i
      have hyg := HZG.out i
      have hys : itL z (i + 1) = ((i : Int), z.getD i 0) :: itL z i := rfl
      have hnew := itL_new z i
      generalize z0.getD i 0 = y0 at *
      generalize z.getD i 0 = y at *
      have ey2 : Go.bits .and .i64 y0 4611686018427387903 = y := ey.trans hyg.symm
      have KP := put_b hH.out (i : Int) y (key_wf i (by omega)) (wf_of (by omega) (by omega)) (by rw [itL_length]; omega)
      have HNEW := Lib.hid hnew
      have HYS := Lib.hid hys
      clear ey hyg hys hnew hH hyb
      go_wp2_with fail
      refine KP.mono ?_
      rintro e w3 (⟨h, _⟩ | ⟨_, rfl, h3, k3⟩)
      · exact absurd h HNEW.out
      have HH3 := Lib.hid h3
      have HK3 := Lib.hid (hK.out.trans k3)
      clear h3 k3 KP hK c0
      go_wp2
      go_roundg (N - (i + 1))
      case measure => omega
      case rel => exact ⟨i + 1, by omega, by omega, by go_num, by go_num, by rw [HYS.out]; exact HH3.out, HK3.out⟩
    · have hie : i = N := by omega
      subst hie
      have hq : ¬ (i : Int) < (len0 : Int) ∨ ((i : Int) < (len0 : Int) ∧ ¬ (i : Int) < 40) := by omega
      clear hgk hi
      rcases Nat.eq_zero_or_pos i with h0 | h0
      · subst h0
        have KL := lower_b hH.out 0 (-1) (by decide) (by decide)
        have HE : Hid (Below W.heap.size W wr) := HB1.out.trans (hK.out.below (fun j h => Nat.lt_of_lt_of_le h HB1.out.size) HB1.out.size)
        clear hH hK
        have q1 : ¬ ((0 : Nat) : Int) < (len0 : Int) := by omega
        clear hq
        go_wp2_with fail
        refine KL.mono ?_
        rintro e w3 (⟨y0, L', hp, _⟩ | ⟨_, rfl, rfl⟩)
        · exact absurd hp.length_eq (by simp [itL])
        · go_wp2
          go_ret
          exact ⟨rfl, HE.out⟩
      · obtain ⟨t, k, ht, t1, t2, hkk, hkn⟩ := tmod_posH a1 i h0
        have hz1 : ((i : Int) == 0) = false := beq_eq_false_iff_ne.2 (by omega)
        have hz2 : ¬ (i : Int) = 0 := by omega
        have et : IntKind.i64.wrap t = t := by rw [IntKind.wrap_i64]; omega
        have ew : IntKind.i64.wrap (t + (i : Int)) = t + (i : Int) := by rw [IntKind.wrap_i64]; omega
        have ek := wrap_n k (by omega)
        have hbk := HZB.out k
        have KG := get_b hH.out (k : Int) (key_wf k (by omega))
        have hmk : ((k : Int), z.getD k 0) ∈ itL z i := (itL_mem z i _).2 ⟨k, hkn, rfl⟩
        have huniq : ∀ y, ((k : Int), y) ∈ itL z i → y = z.getD k 0 := fun y hy => by
          obtain ⟨j, _, e⟩ := (itL_mem z i _).1 hy
          simp only [Prod.mk.injEq] at e
          rw [e.2, show j = k by omega]
        have hno : ∀ y, ((i : Int), y) ∉ itL z i := fun y hy => by
          obtain ⟨j, hj, e⟩ := (itL_mem z i _).1 hy
          simp only [Prod.mk.injEq] at e
          omega
        have hge : ∀ x ∈ itL z i, 0 ≤ x.2 := fun x hx => by
          obtain ⟨j, hj, rfl⟩ := (itL_mem z i _).1 hx
          exact (HZB.out j).1
        have hlen := itL_length z i
        generalize itL z i = L at *
        generalize z.getD k 0 = had at *
        have HMK := Lib.hid hmk
        have HUQ := Lib.hid huniq
        have HNO := Lib.hid hno
        have HGE := Lib.hid hge
        have HLN := Lib.hid hlen
        have KL1 := lower_b hH.out (k : Int) had (key_wf k (by omega)) (wf_of (by omega) (by omega))
        have KL2 := lower_b hH.out (i : Int) (-1) (key_wf i (by omega)) (by decide)
        have KL3 := lower_b hH.out (k : Int) (-1) (key_wf k (by omega)) (by decide)
        clear hmk huniq hno hge hlen hH
        rcases hq with q1 | ⟨q1, q2⟩
        all_goals
          go_wp2_with fail
          refine KG.mono ?_
          rintro e w3 ⟨rfl, ⟨y, hy, rfl⟩ | ⟨hn, _⟩⟩
          · have hyh := HUQ.out y hy
            subst hyh
            clear hy KG
            go_wp2_with fail
            refine KL1.mono ?_
            rintro e w3 (⟨y0, L', hp, hlt2, _⟩ | ⟨_, rfl, rfl⟩)
            · have := HUQ.out y0 (hp.mem_iff.2 (List.mem_cons_self ..))
              omega
            clear KL1
            go_wp2_with fail
            refine KL2.mono ?_
            rintro e w3 (⟨y0, L', hp, hlt2, _⟩ | ⟨_, rfl, rfl⟩)
            · exact absurd (hp.mem_iff.2 (List.mem_cons_self ..)) (HNO.out y0)
            clear KL2
            go_wp2_with fail
            refine KL3.mono ?_
            rintro e w3 (⟨y0, L', hp, hlt2, rfl, h3, k3⟩ | ⟨hn, _⟩)
            · have KM := min_b h3
              have HH3 := Lib.hid h3
              have HK3 := Lib.hid (hK.out.trans k3)
              have HPL : Hid (L'.length + 1 = i) := by
                have := hp.length_eq
                rw [HLN.out, List.length_cons] at this
                exact this.symm
              have HG : Hid (∀ x ∈ L', 0 ≤ x.2) := fun x hx => HGE.out x (hp.mem_iff.2 (List.mem_cons_of_mem _ hx))
              clear KL3 h3 k3 hp hlt2 hK
              go_wp2_with fail
              refine KM.mono ?_
              rintro e w4 ⟨hd, ⟨x, hx, rfl⟩ | ⟨h, _⟩⟩
              · have hxe : x = ((k : Int), -1) := by
                  rcases List.mem_cons.1 hx.1 with e | e
                  · exact e
                  · have h1 := HG.out x e
                    have h2 := hx.2 ((k : Int), -1) (List.mem_cons_self ..)
                    rw [show ahI ((k : Int), -1) x = true from decide_eq_true (.inl (by simp only; omega))] at h2
                    cases h2
                subst hxe
                have KN := len_b (HH3.out.dn hd)
                have HE : Hid (Below W.heap.size W w4) := HB1.out.trans ((HK3.out.trans (Kp.dn hd)).below (fun j h => Nat.lt_of_lt_of_le h HB1.out.size) HB1.out.size)
                have hli : ((((k : Int), (-1 : Int)) :: L').length : Int) = (i : Int) := by rw [List.length_cons, HPL.out]
                rw [hli] at KN
                clear hx hd KM hli
                go_wp2_with fail
                refine KN.mono ?_
                rintro e w5 ⟨rfl, rfl⟩
                go_wp2
                go_ret
                exact ⟨rfl, HE.out⟩
              · cases h
            · have := hn y HMK.out
              omega
          · exact absurd (List.mem_map.2 ⟨_, HMK.out, rfl⟩) hn
end Go.Proofs.Ytfejmcoaljelpaa.Hp
