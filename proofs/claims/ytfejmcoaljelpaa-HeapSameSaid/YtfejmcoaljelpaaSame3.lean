/-
  The statement HeapSame, walked.
-/
import Derived.Test.YtfejmcoaljelpaaLow3
import Derived.Test.YtfejmcoaljelpaaHp10
import Derived.Test.YtfejmcoaljelpaaRef4
import Derived.Deep.DeepCutAuto
namespace Go.Proofs.Ytfejmcoaljelpaa.Hp
open Go.RowKit Go.Maps Go.Proofs.Ytfejmcoaljelpaa.Box

/-- Two heaps, apart. -/
def Two (N : Nat) (w : World) (pa ma : Nat) (La : List (Int × Int)) (pb mb : Nat) (Lb : List (Int × Int)) : Prop :=
  ∃ A la B lb, GH w pa ma A la ∧ la.Perm La ∧ GH w pb mb B lb ∧ lb.Perm Lb ∧ (∀ j, own3 pa ma A j → N ≤ j) ∧ (∀ j, own3 pb mb B j → N ≤ j) ∧ (∀ j, own3 pa ma A j → ¬ own3 pb mb B j) ∧ N ≤ w.heap.size
theorem Two.symm {N : Nat} {w : World} {pa ma : Nat} {La : List (Int × Int)} {pb mb : Nat} {Lb : List (Int × Int)} (h : Two N w pa ma La pb mb Lb) : Two N w pb mb Lb pa ma La := by
  obtain ⟨A, la, B, lb, h1, h2, h3, h4, h5, h6, h7, h8⟩ := h
  exact ⟨B, lb, A, la, h3, h4, h1, h2, h6, h5, fun j hb ha => h7 j ha hb, h8⟩
theorem Two.left {N : Nat} {w : World} {pa ma : Nat} {La : List (Int × Int)} {pb mb : Nat} {Lb : List (Int × Int)} (h : Two N w pa ma La pb mb Lb) :
    ∃ B0, HB B0 w pa ma La ∧ ∀ w' La', HB B0 w' pa ma La' → Kp B0 w w' → Two N w' pa ma La' pb mb Lb ∧ Kp (fun j => j < N) w w' := by
  obtain ⟨A, la, B, lb, h1, h2, h3, h4, h5, h6, h7, h8⟩ := h
  refine ⟨fun j => j < N ∨ own3 pb mb B j, ⟨A, la, h1, h2, fun j hj => ?_⟩, fun w' La' ⟨A', la', g1, g2, g3⟩ k => ⟨⟨A', la', B, lb, g1, g2, ?_, h4, fun j hj => ?_, h6, fun j ha hb => (g3 j (.inr hb)).2 ha, Nat.le_trans h8 k.size⟩, ⟨k.os, k.tape, k.output, k.size, fun j hj hl => k.block j (.inl hj) hl⟩⟩⟩
  · rcases hj with hj | hj
    · exact ⟨Nat.lt_of_lt_of_le hj h8, fun ha => by have := h5 j ha; omega⟩
    · exact ⟨h3.lt j hj, fun ha => h7 j ha hj⟩
  · exact h3.kept k.size fun j hj hl => k.block j (.inr hj) hl
  · rcases Nat.lt_or_ge j N with e | e
    · exact absurd hj (g3 j (.inl e)).2
    · exact e
theorem two_new {w w1 w2 : World} {pa ma pb mb : Nat} (h : HB (fun j => j < w.heap.size) w1 pa ma []) (h2 : HB (fun j => j < w1.heap.size) w2 pb mb []) (hb1 : Below w.heap.size w w1) (hb2 : Below w1.heap.size w1 w2) : Two w.heap.size w2 pa ma [] pb mb [] := by
  obtain ⟨A, la, g1, g2, g3⟩ := h
  obtain ⟨B, lb, q1, q2, q3⟩ := h2
  refine ⟨A, la, B, lb, g1.kept hb2.size fun j _ hl => hb2.block j hl, g2, q1, q2, fun j hj => ?_, fun j hj => ?_, fun j ha hb => ?_, Nat.le_trans hb1.size hb2.size⟩
  · rcases Nat.lt_or_ge j w.heap.size with e | e
    · exact absurd hj (g3 j e).2
    · exact e
  · rcases Nat.lt_or_ge j w1.heap.size with e | e
    · exact absurd hj (q3 j e).2
    · exact Nat.le_trans hb1.size e
  · exact (q3 j (g1.lt j ha)).2 hb
theorem sorted_ext : ∀ (S T : List (Int × Int)), S.Pairwise (fun x y => ahI x y = true) → T.Pairwise (fun x y => ahI x y = true) → (∀ x, x ∈ S ↔ x ∈ T) → S = T
  | [], [], _, _, _ => rfl
  | [], y :: T, _, _, h => absurd ((h y).2 (List.mem_cons_self ..)) List.not_mem_nil
  | x :: S, [], _, _, h => absurd ((h x).1 (List.mem_cons_self ..)) List.not_mem_nil
  | x :: S, y :: T, hS, hT, h => by
    obtain ⟨s1, s2⟩ := List.pairwise_cons.1 hS
    obtain ⟨t1, t2⟩ := List.pairwise_cons.1 hT
    have e : x = y := by
      rcases List.mem_cons.1 ((h x).1 (List.mem_cons_self ..)) with e | e
      · exact e
      · rcases List.mem_cons.1 ((h y).2 (List.mem_cons_self ..)) with e2 | e2
        · exact e2.symm
        · have a1 := t1 x e
          have a2 := ordI.asym _ _ (s1 y e2)
          rw [a1] at a2
          cases a2
    subst e
    refine congrArg (x :: ·) (sorted_ext S T s2 t2 fun z => ⟨fun hz => ?_, fun hz => ?_⟩)
    · rcases List.mem_cons.1 ((h z).1 (List.mem_cons_of_mem _ hz)) with e | e
      · subst e; have := s1 z hz; rw [ordI.irr] at this; cases this
      · exact e
    · rcases List.mem_cons.1 ((h z).2 (List.mem_cons_of_mem _ hz)) with e | e
      · subst e; have := t1 z hz; rw [ordI.irr] at this; cases this
      · exact e
theorem rd_own {w : World} {B m : Nat} {v : Value} {S : List (Int × Int)} (h : w.ownsRow B 3 1 v m (S.map fun x => .int .i64 x.1)) : ∃ A c, v = .slice A m c ∧ Bits.RdI w A m (S.map (·.1)) := by
  have hl : S.length = m := by have := h.1; simpa using this
  rcases h.2 with ⟨e, hz⟩ | ⟨b, cap, cur, e, _, hh, hnc, hcm, hcs, ht⟩
  · subst hz
    exact ⟨none, 0, e, by simpa using hl, by decide, fun h => absurd h (Nat.lt_irrefl _)⟩
  · refine ⟨_, cap, e, by simpa using hl, by unfold maxLen at hcm; omega, fun _ => ⟨b, 0, rfl, fun j hj => ?_⟩⟩
    have h1 : (S.map fun x => Value.int .i64 x.1)[j]? = some (.int .i64 ((S.map (·.1)).getD j 0)) := by
      rw [List.getElem?_map, List.getD_eq_getElem?_getD, List.getElem?_map, List.getElem?_eq_getElem (by omega)]
      rfl
    rw [← ht, List.getElem?_take_of_lt (by omega)] at h1
    simp only [World.cell?, hh, Nat.zero_add]
    simpa using h1
def rot (z : List Int) (c n : Nat) : Nat → List (Int × Int)
  | 0 => []
  | i + 1 => (((((i + c) % n : Nat)) : Int), z.getD ((i + c) % n) 0) :: rot z c n i
theorem rot_length (z : List Int) (c n : Nat) : ∀ i, (rot z c n i).length = i
  | 0 => rfl
  | i + 1 => by rw [rot, List.length_cons, rot_length z c n i]
theorem rot_mem (z : List Int) (c n : Nat) : ∀ i x, x ∈ rot z c n i ↔ ∃ j, j < i ∧ x = (((((j + c) % n : Nat)) : Int), z.getD ((j + c) % n) 0)
  | 0, x => ⟨fun h => (by cases h), fun ⟨j, h, _⟩ => absurd h (Nat.not_lt_zero _)⟩
  | i + 1, x => by
    rw [rot, List.mem_cons, rot_mem z c n i]
    constructor
    · rintro (e | ⟨j, h1, h2⟩)
      · exact ⟨i, Nat.lt_succ_self i, e⟩
      · exact ⟨j, by omega, h2⟩
    · rintro ⟨j, h1, h2⟩
      by_cases e : j = i
      · subst e; exact .inl h2
      · exact .inr ⟨j, by omega, h2⟩
theorem turn_eq {i c n : Nat} (hi : i < n) (hc : c < n) : (i + c) % n = if i + c < n then i + c else i + c - n := by
  split
  · exact Nat.mod_eq_of_lt (by assumption)
  · rw [Nat.mod_eq_sub_mod (by omega), Nat.mod_eq_of_lt (by omega)]
theorem rot_new (z : List Int) {c n i : Nat} (hi : i < n) (hc : c < n) : ((((i + c) % n : Nat)) : Int) ∉ (rot z c n i).map (·.1) := fun h => by
  obtain ⟨x, h1, h2⟩ := List.mem_map.1 h
  obtain ⟨j, h3, rfl⟩ := (rot_mem z c n i x).1 h1
  simp only at h2
  have e : (j + c) % n = (i + c) % n := by omega
  rw [turn_eq hi hc, turn_eq (by omega : j < n) hc] at e
  split at e <;> split at e <;> omega
theorem rot_all (z : List Int) {c n : Nat} (hc : c < n) (x : Int × Int) : x ∈ itL z n ↔ x ∈ rot z c n n := by
  rw [itL_mem, rot_mem]
  constructor
  · rintro ⟨j, hj, rfl⟩
    refine ⟨if c ≤ j then j - c else j + n - c, by split <;> omega, ?_⟩
    have e : ((if c ≤ j then j - c else j + n - c) + c) % n = j := by
      rw [turn_eq (by split <;> omega) hc]
      split <;> split <;> omega
    rw [e]
  · rintro ⟨j, hj, rfl⟩
    exact ⟨(j + c) % n, Nat.mod_lt _ (by omega), rfl⟩
set_option maxRecDepth 100000 in
set_option maxHeartbeats 8000000 in
theorem HeapSame_walk (a0 : Option Addr) (len0 cap0 : Nat) (z0 : List Int) (a1 : Int) (W : World) (w0 : Row0.IsRow .i64 W a0 len0 cap0 z0) (_w1 : (Lit.int .i64 a1).wf = true) :
    Calls Try.prog 6 #[.slice a0 len0 cap0, .int .i64 a1] W fun e w' => e = .returned (.bool true) ∧ Below W.heap.size W w' := by
  have hr := row_in w0
  have hlc := hr.lc
  have hcm := hr.cm
  have HR := Lib.hid hr
  clear w0 hr _w1
  go_enter Try.func6, Try.ntmps6
  go_wp2_with fail
  refine (awake3_any W).mono ?_
  rintro e W1 ⟨rfl, hb1⟩
  have HB1 := Lib.hid hb1
  clear hb1
  go_wp2_with fail
  refine (new_b W1).mono ?_
  rintro e W2 ⟨pa, ma, rfl, h2, hb2⟩
  have HH2 := Lib.hid h2
  have HB2 := Lib.hid hb2
  clear h2 hb2
  go_wp2_with fail
  refine (new_b W2).mono ?_
  rintro e W3 ⟨pb, mb, rfl, h3, hb3⟩
  have HT3 : Hid (Two W1.heap.size W3 pa ma [] pb mb []) := two_new HH2.out h3 HB2.out hb3
  have HK3 : Hid (Kp (fun j => j < W1.heap.size) W1 W3) := (Kp.of_below HB2.out).trans (Kp.of_below hb3)
  clear h3 hb3 HH2 HB2
  obtain ⟨n, hn⟩ : ∃ n, min len0 30 = n := ⟨_, rfl⟩
  have hn1 : n ≤ len0 := by omega
  have hn2 : n ≤ 30 := by omega
  go_upto_if 24 with fail
  go_cut [0] (fun v wx => v = .slice a0 n cap0 ∧ wx = W3)
  case first =>
    by_cases h30 : 30 < len0
    · have e1 : (30 : Int) < (len0 : Int) := by omega
      have e2 : (30 : Nat) ≤ cap0 := by omega
      have e3 : n = 30 := by omega
      subst e3
      clear hn
      go_wp2
      go_meet
      exact ⟨rfl, rfl⟩
    · have e1 : ¬ (30 : Int) < (len0 : Int) := by omega
      have e3 : n = len0 := by omega
      subst e3
      clear hn
      go_wp2
      go_meet
      exact ⟨rfl, rfl⟩
  case rest =>
    obtain ⟨rfl, rfl⟩ := hcut
    have ey := Row0.and_i64 a1 5 (by decide) 31 rfl
    obtain ⟨u, hu, hu0, hu1⟩ : ∃ u, a1 % 32 = u ∧ 0 ≤ u ∧ u ≤ 31 := ⟨_, rfl, by omega, by omega⟩
    have eu : Go.bits .and .i64 a1 31 = u := ey.trans hu
    clear ey hu
    obtain ⟨c, hc⟩ : ∃ c, u.toNat % n = c := ⟨_, rfl⟩
    go_wp2_with fail
    go_loopg [8] n (fun gg v8 wr => ∃ (i : Nat), i ≤ n ∧ n - i ≤ gg ∧ v8 = .int .i64 (i : Int) ∧ Aside (Two W1.heap.size wr pa ma (itL z0 i) pb mb (rot z0 c n i)) ∧ Aside (Kp (fun j => j < W1.heap.size) W1 wr))
    case atStart => exact ⟨0, by omega, by omega, rfl, HT3.out, HK3.out⟩
    case round =>
      obtain ⟨i, hi, hgk, rfl, hT, hK⟩ := hrel
      clear HT3 HK3
      by_cases hlt : i < n
      · have hcn : c < n := by rw [← hc]; exact Nat.mod_lt _ (by omega)
        obtain ⟨ad, rfl⟩ := HR.out.at_ i (by omega)
        obtain ⟨k, hk⟩ : ∃ k, (i + c) % n = k := ⟨_, rfl⟩
        have hkn : k < n := by rw [← hk]; exact Nat.mod_lt _ (by omega)
        have hz1 : ((n : Int) == 0) = false := beq_eq_false_iff_ne.2 (by omega)
        have hz2 : ¬ (n : Int) = 0 := by omega
        have ec : u.tmod (n : Int) = (c : Int) := by
          rw [Int.tmod_eq_emod_of_nonneg (by omega), ← hc, Int.natCast_emod]
          congr 1
          omega
        have ek : ((i : Int) + (c : Int)).tmod (n : Int) = (k : Int) := by
          rw [Int.tmod_eq_emod_of_nonneg (by omega), ← hk, Int.natCast_emod]
          rfl
        have ew := wrap_n c (by omega)
        have ew2 := wrap_n k (by omega)
        have c0 := cell_later (cell_later (HR.out.rd ad rfl i (by omega)) HB1.out) (hK.out.below (fun j h => h) (Nat.le_refl _))
        have e1 : (i : Int) < (n : Int) := by omega
        have e2 : (k : Int) < (n : Int) := by omega
        have HC1 : Hid (∀ w, Kp (fun j => j < W1.heap.size) W1 w → w.cell? (ad.add k) = some (.int .i64 (z0.getD k 0))) := fun w hw => cell_later (cell_later (HR.out.rd ad rfl k (by omega)) HB1.out) (hw.below (fun j h => h) (Nat.le_refl _))
        obtain ⟨B0, hH, hback⟩ := hT.out.left
        have hwi := HR.out.wf i
        have hwk := HR.out.wf k
        have KP := put_b hH (i : Int) (z0.getD i 0) (key_wf i (by omega)) hwi (by rw [itL_length]; omega)
        have HBK := Lib.hid hback
        have HN1 := Lib.hid (itL_new z0 i)
        have hn2' := rot_new z0 hlt hcn
        rw [hk] at hn2'
        have HN2 := Lib.hid hn2'
        have HS1 : Hid (itL z0 (i + 1) = ((i : Int), z0.getD i 0) :: itL z0 i) := rfl
        have HS2 : Hid (rot z0 c n (i + 1) = ((k : Int), z0.getD k 0) :: rot z0 c n i) := by rw [← hk]; rfl
        have HWK := Lib.hid hwk
        clear hback hwi hwk hn2' hH hT hk
        generalize z0.getD i 0 = y at *
        generalize z0.getD k 0 = y' at *
        go_wp2_with fail
        refine KP.mono ?_
        rintro e w4 (⟨h, _⟩ | ⟨_, rfl, h4, k4⟩)
        · exact absurd h HN1.out
        obtain ⟨t4, q4⟩ := HBK.out _ _ h4 k4
        have HK4 := Lib.hid (hK.out.trans q4)
        have c1 := HC1.out w4 HK4.out
        obtain ⟨B1, hH1, hback1⟩ := t4.symm.left
        have KP1 := put_b hH1 (k : Int) y' (key_wf k (by omega)) HWK.out (by rw [rot_length]; omega)
        have HBK1 := Lib.hid hback1
        clear hback1 hH1 t4 q4 h4 k4 KP hK c0
        go_wp2_with fail
        refine KP1.mono ?_
        rintro e w5 (⟨h, _⟩ | ⟨_, rfl, h5, k5⟩)
        · exact absurd h HN2.out
        obtain ⟨t5, q5⟩ := HBK1.out _ _ h5 k5
        have HK5 := Lib.hid (HK4.out.trans q5)
        have HT5 := Lib.hid t5.symm
        clear t5 q5 h5 k5 KP1 c1
        go_wp2
        go_roundg (n - (i + 1))
        case measure => omega
        case rel => exact ⟨i + 1, by omega, by omega, by go_num, by rw [HS1.out, HS2.out]; exact HT5.out, HK5.out⟩
      · have hie : i = n := by omega
        subst hie
        have hT' := hT.out
        obtain ⟨B0, hH, _⟩ := hT'.left
        obtain ⟨B1, hH1, _⟩ := hT'.symm.left
        have KA := keys_b hH (by rw [itL_length]; omega)
        have HHA := Lib.hid hH
        have HHB := Lib.hid hH1
        have HE : Hid (Below W.heap.size W wr) := HB1.out.trans (hK.out.below (fun j h => Nat.lt_of_lt_of_le h HB1.out.size) HB1.out.size)
        have hl1 := itL_length z0 i
        have hl2 := rot_length z0 c i i
        have HL1 := Lib.hid hl1
        have HL2 := Lib.hid hl2
        have HEQ : Hid (∀ S T, Out (itL z0 i) S [] → Out (rot z0 c i i) T [] → S = T) := fun S T h1 h2 => by
          refine sorted_ext S T h1.s h2.s fun x => ?_
          have m1 := h1.p.mem_iff (a := x)
          have m2 := h2.p.mem_iff (a := x)
          rw [List.append_nil] at m1 m2
          rw [m1, m2]
          rcases Nat.eq_zero_or_pos i with h0 | h0
          · subst h0; exact ⟨fun h => (by cases h), fun h => (by cases h)⟩
          · exact rot_all z0 (by rw [← hc]; exact Nat.mod_lt _ h0) x
        clear hT hT' hH hH1 hK hl1 hl2
        generalize itL z0 i = LA at *
        generalize rot z0 c i i = LB at *
        have e1 : ¬ (i : Int) < (i : Int) := by omega
        go_wp2_with fail
        refine KA.mono ?_
        rintro e w4 ⟨va, SA, rfl, hOA, hSA, hb4⟩
        have KB := keys_b (HHB.out.below hb4) (by rw [HL2.out]; omega)
        have HOA := Lib.hid hOA
        have HSA := Lib.hid hSA
        have HB4 := Lib.hid hb4
        clear hOA hSA hb4 KA
        go_wp2_with fail
        refine KB.mono ?_
        rintro e w5 ⟨vb, SB, rfl, hOB, hSB, hb5⟩
        have hss := HEQ.out SA SB HSA.out hSB
        subst hss
        have hOA5 := own_keptK HOA.out fun j hj => hb5.block j (HOA.out.lt j hj).2
        obtain ⟨A1, d1, rfl, hrd1⟩ := rd_own hOA5
        obtain ⟨A2, d2, rfl, hrd2⟩ := rd_own hOB
        have KS := Bits.samer_n A1 A2 SA.length d1 d2 (SA.map (·.1)) w5 hrd1 hrd2
        have HHA5 := Lib.hid ((HHA.out.below HB4.out).below hb5)
        have HE5 : Hid (Below W.heap.size W w5) := (HE.out.trans (HB4.out.mono HE.out.size)).trans (hb5.mono (Nat.le_trans HE.out.size HB4.out.size))
        clear hOA5 hrd1 hrd2 hOB hSB hb5 KB HOA HSA HB4
        go_wp2_with fail
        refine KS.mono ?_
        rintro e w6 ⟨rfl, hb6⟩
        have KN := len_b (HHA5.out.below hb6)
        rw [HL1.out] at KN
        have HE6 : Hid (Below W.heap.size W w6) := HE5.out.trans (hb6.mono HE5.out.size)
        clear hb6 KS
        go_wp2_with fail
        refine KN.mono ?_
        rintro e w7 ⟨rfl, rfl⟩
        go_wp2
        go_ret
        exact ⟨rfl, HE6.out⟩
end Go.Proofs.Ytfejmcoaljelpaa.Hp
