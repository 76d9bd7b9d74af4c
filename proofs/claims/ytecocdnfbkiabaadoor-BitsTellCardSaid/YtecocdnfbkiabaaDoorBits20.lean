/-
  The statement BitsTell, walked.
-/
import Derived.Test.YtecocdnfbkiabaaDoorRef5
import Derived.Test.YtecocdnfbkiabaaDoorBits18
import Derived.Test.YtecocdnfbkiabaaDoorBits17
namespace Go.Proofs.YtecocdnfbkiabaaDoor.Bits
open Go.RowKit Go.Shelf

/-- A row as a call hands it on. -/
def Lst (n : Nat) (l : List Int) (u : Value) (w : World) : Prop := ∃ A1 c1, u = .slice A1 n c1 ∧ RdI w A1 n l
theorem lst_own {base n : Nat} {w : World} {v : Value} {l : List Int} {t : TypeId} (h : w.ownsRow base t 1 v n (l.map (Value.int .i64))) (hn : n ≤ 9223372036854775807) : Lst n l v w := by
  obtain ⟨A1, c1, e, hr, _⟩ := own_rdI h hn
  exact ⟨A1, c1, e, hr⟩
theorem lst_stable (n : Nat) (l : List Int) (u : Value) (w w' : World) (h : Lst n l u w) (hb : Below w.heap.size w w') : Lst n l u w' := by
  obtain ⟨A1, c1, e, hr⟩ := h
  exact ⟨A1, c1, e, hr.below hb (Nat.le_refl _)⟩
theorem rdI_of {w : World} {A : Option Addr} {n : Nat} {q : List Int} (hl : q.length = n) (hn : n ≤ 9223372036854775807) (hs : 0 < n → ∃ ad, A = some ad)
    (h : ∀ ad, A = some ad → ∀ j, j < n → w.cell? (ad.add j) = some (.int .i64 (q.getD j 0))) : RdI w A n q := by
  refine ⟨hl, hn, fun hp => ?_⟩
  obtain ⟨⟨b, o, s⟩, rfl⟩ := hs hp
  have h0 := h _ rfl 0 hp
  have e0 : (⟨b, o, s⟩ : Addr).add 0 = ⟨b, o, s⟩ := rfl
  rw [e0] at h0
  cases s with
  | some k =>
    exfalso
    unfold World.cell? at h0
    revert h0
    dsimp only
    split <;> simp
  | none =>
    refine ⟨b, o, rfl, fun j hj => ?_⟩
    rw [← Row0.plain_add']
    exact h _ rfl j hj
set_option maxHeartbeats 8000000 in
set_option maxRecDepth 100000 in
theorem BitsTell_walk (A : Nat → Nat) (hA : Ws A) (B : Nat → Nat) (hB : Ws B) (a2 : Option Addr) (len2 cap2 : Nat) (z2 : List Int) (W : World) (w2 : Row0.IsRow .i64 W a2 len2 cap2 z2) (hT : TabAt 0 Lib.deBruijn64tab W) :
    Calls Tryd.prog 8 #[bv (iw A), bv (iw B), .slice a2 len2 cap2] W fun e w' => e = .returned (.bool true) ∧ Below W.heap.size W w' := by
  obtain ⟨hlc, hcm, hsome, q, hql, hqc⟩ := few_row w2
  have HA := fun w => Lib.hid (awake_any w)
  have hlt0 := TabAt.lt hT
  have HT : Hid (TabAt 0 Lib.deBruijn64tab W) := hT
  have hF := fun w => Lib.hid (few2_any a2 len2 cap2 w hlc hcm hsome)
  have hmn : min len2 20 ≤ len2 := Nat.min_le_left _ _
  have hsome2 : 0 < min len2 20 → ∃ ad, a2 = some ad := fun h => hsome (by omega)
  obtain ⟨W0, hW0⟩ : ∃ W0, (W.alloc (.cells #[.int .u64 (A 0 : Int), .int .u64 (A 1 : Int), .int .u64 (A 2 : Int), .int .u64 (A 3 : Int)] 27)).alloc (.cells #[.int .u64 (B 0 : Int), .int .u64 (B 1 : Int), .int .u64 (B 2 : Int), .int .u64 (B 3 : Int)] 27) = W0 := ⟨_, rfl⟩
  have nA : W0.heap[W.heap.size]? = some (.cells (rowc (iw A)) 27 (0, 0)) := by rw [← hW0, Below.heap_alloc _ _ _ (by simp)]; exact heap_new _ _ _ rfl
  have nB : W0.heap[W.heap.size + 1]? = some (.cells (rowc (iw B)) 27 (0, 0)) := by rw [← hW0]; exact heap_new _ _ _ (by simp)
  have hb0 : Below W.heap.size W W0 := by rw [← hW0]; exact ((Below.refl _ W).alloc (Nat.le_refl _) _).alloc (by simp) _
  have hsz0 : W.heap.size + 2 ≤ W0.heap.size := by rw [← hW0]; simp
  have HQ : Hid (q.length = min len2 20) := hql
  have HC : Hid (∀ ad, a2 = some ad → ∀ j, j < min len2 20 → W.cell? (ad.add j) = some (.int .i64 (q.getD j 0))) := hqc
  have hle : min len2 20 ≤ 20 := Nat.min_le_right _ _
  have hlec : min len2 20 ≤ cap2 := Nat.le_trans (Nat.min_le_left _ _) hlc
  generalize min len2 20 = n at *
  have HS := Lib.hid hsome2
  have HNA := Lib.hid nA
  have HNB := Lib.hid nB
  have HB0 := Lib.hid hb0
  clear hT hql hqc hsome hsome2 w2 hlc hcm hmn nA nB hb0
  rw [bvl A, bvl B]
  go_enter Tryd.func8, Tryd.ntmps8
  go_wp2_with fail
  refine ((HA _).out (TabAt.below HT.out HB0.out hlt0)).mono ?_
  rintro e W1 ⟨rfl, hb1⟩
  have HNA1 := Lib.hid (old4 HNA.out hb1 (lt4 HNA.out))
  have HNB1 := Lib.hid (old4 HNB.out hb1 (lt4 HNB.out))
  have HB1 : Hid (Below W.heap.size W W1) := HB0.out.trans (hb1.mono HB0.out.size)
  clear hb1 HNA HNB HB0 hsz0 hW0 HA
  go_wp2_with fail
  refine (hF _).out.mono ?_
  rintro e w' ⟨rfl, rfl⟩
  clear hF
  have HAB : ∀ w, Hid (Below w'.heap.size w' w → w.heap[W.heap.size]? = some (.cells (rowc (iw A)) 27 (0, 0)) ∧ w.heap[W.heap.size + 1]? = some (.cells (rowc (iw B)) 27 (0, 0))) := fun w h => ⟨old4 HNA1.out h (lt4 HNA1.out), old4 HNB1.out h (lt4 HNB1.out)⟩
  clear HNA1 HNB1
  go_wp2_with fail
  go_loopg [9] n (fun g iv wr => ∃ i : Nat, i ≤ n ∧ iv = .int .i64 (i : Int) ∧ Aside (n - i = g) ∧ Aside (Below w'.heap.size w' wr))
  case atStart => exact ⟨0, Nat.zero_le _, rfl, rfl, Below.refl _ _⟩
  case round =>
    obtain ⟨i, hi, rfl, hk, hbel⟩ := hrel
    by_cases hlt : i < n
    · obtain ⟨ad, rfl⟩ := HS.out (by omega)
      have LA := Lib.hid (box_in ((HAB wr).out hbel.out).1)
      have hbl : Below W.heap.size W wr := HB1.out.trans (hbel.out.mono HB1.out.size)
      have HCI : Hid (∀ w, Below wr.heap.size wr w → w.cell? (ad.add i) = some (.int .i64 (q.getD i 0))) := fun w h => cell_old (cell_old (HC.out ad rfl i hlt) hbl (Nat.le_refl _)) h (Nat.le_refl _)
      generalize q.getD i 0 = z at *
      clear hbl
      have q4 : (0 : Int) ≤ (i : Int) := by omega
      have q5 : (i : Int) < (n : Int) := by omega
      have f1 : eqN (withW A z) (withW A z) = true := eqN_of fun _ _ => rfl
      have f2 : eqN (withoutW A z) (withoutW A z) = true := eqN_of fun _ _ => rfl
      have f3 : (hasI A z != hasI A z) = false := bne_self_eq_false _
      go_wp2_with fail
      refine Calm.wp_region_calm (B := wr.heap.size) (W := wr) (by kernel_rfl) (by kernel_rfl) (by kernel_rfl) (Nat.le_refl _) (Below.refl _ _).drew ?_
      apply Exists.intro
      repeat (first
        | (apply Calm.calm_skip
           · rfl
           intro N hN
           go_simp
           apply hN.out
           clear hN N)
        | (apply Calm.calm_val
           · rfl
           · intro w hB hF K hK
             first
               | exact opAt_net f1 (by rfl) (by rfl) (by rfl) (hK.out _ _ rfl (Below.refl _ _))
               | exact opAt_net f2 (by rfl) (by rfl) (by rfl) (hK.out _ _ rfl (Below.refl _ _))
               | refine opAt_load (by rfl) (by rfl) (LA.out w hB) (hK.out _ _ rfl (Below.refl _ _))
               | (unfold Calm.opAt
                  have c1 := HCI.out w hB
                  go_simp
                  first
                    | (simp only [Calm.upon_value]
                       exact hK.out _ _ rfl (Below.refl _ _))
                    | (simp only [Calm.upon_enter]
                       with_reducible refine (has_n (by assumption) _ _).mono ?_
                       rintro e w' ⟨rfl, hb⟩
                       exact ⟨_, rfl, hK.out _ _ rfl hb⟩)
                    | (simp only [Calm.upon_enter]
                       with_reducible refine (hasr_n (by assumption) _ _).mono ?_
                       rintro e w' ⟨rfl, hb⟩
                       exact ⟨_, rfl, hK.out _ _ rfl hb⟩)
                    | (simp only [Calm.upon_enter]
                       with_reducible refine (with_n (by assumption) _ _).mono ?_
                       rintro e w' ⟨rfl, hb⟩
                       exact ⟨_, rfl, hK.out _ _ rfl hb⟩)
                    | (simp only [Calm.upon_enter]
                       with_reducible refine (withr_n (by assumption) _ _).mono ?_
                       rintro e w' ⟨rfl, hb⟩
                       exact ⟨_, rfl, hK.out _ _ rfl hb⟩)
                    | (simp only [Calm.upon_enter]
                       with_reducible refine (without_n (by assumption) _ _).mono ?_
                       rintro e w' ⟨rfl, hb⟩
                       exact ⟨_, rfl, hK.out _ _ rfl hb⟩)
                    | (simp only [Calm.upon_enter]
                       with_reducible refine (withoutr_n (by assumption) _ _).mono ?_
                       rintro e w' ⟨rfl, hb⟩
                       exact ⟨_, rfl, hK.out _ _ rfl hb⟩))
           intro N hN
           go_simp
           apply hN.out
           clear hN N))
      apply Calm.calm_nil
      intro w9 hB9 _
      go_wp2
      go_roundg (n - (i + 1))
      case measure => have := hk.out; omega
      case rel => exact ⟨i + 1, by omega, by go_num, rfl, hbel.out.trans (hB9.mono hbel.out.size)⟩
    · obtain rfl : i = n := by omega
      have LA := Lib.hid (box_in ((HAB wr).out hbel.out).1)
      have HBL : Hid (Below W.heap.size W wr) := HB1.out.trans (hbel.out.mono HB1.out.size)
      have HTW : Hid (∀ w, Below wr.heap.size wr w → TabAt 0 Lib.deBruijn64tab w) := fun w h => TabAt.below HT.out (HBL.out.trans (h.mono HBL.out.size)) hlt0
      have hln := len_le A
      go_wp2_with fail
      refine Calm.wp_region_calm (B := wr.heap.size) (W := wr) (by kernel_rfl) (by kernel_rfl) (by kernel_rfl) (Nat.le_refl _) (Below.refl _ _).drew ?_
      apply Exists.intro
      repeat (first
        | (apply Calm.calm_skip
           · rfl
           intro N hN
           go_simp
           apply hN.out
           clear hN N)
        | (apply Calm.calm_val
           · rfl
           · intro w hB hF K hK
             first
               | refine opAt_load (by rfl) (by rfl) (LA.out w hB) (hK.out _ _ rfl (Below.refl _ _))
               | (unfold Calm.opAt
                  go_simp
                  first
                    | (simp only [Calm.upon_value]
                       exact hK.out _ _ rfl (Below.refl _ _)))
           intro N hN
           go_simp
           apply hN.out
           clear hN N)
        | (apply Calm.calm_rel (Lst (listN A).length (cast (listN A))) (lst_stable _ _)
           · rfl
           · intro w hB hF K hK
             unfold Calm.opAt
             go_simp
             simp only [Calm.upon_enter]
             first
               | (go_at_call 15
                  refine (list_any A hA w (HTW.out w hB)).mono ?_
                  rintro e w' ⟨v, rfl, ho, _, hb⟩
                  exact ⟨_, rfl, hK.out _ _ (lst_own ho (by omega)) hb⟩)
               | (go_at_call 24
                  refine (listr_n hA w).mono ?_
                  rintro e w' ⟨v, rfl, ho, hb⟩
                  exact ⟨_, rfl, hK.out _ _ (lst_own ho (by omega)) hb⟩)
           intro u N hN
           go_simp
           apply hN.out
           clear hN N)
        | (apply Calm.calm_val
           · rfl
           · intro w hB hF K hK
             simp [Calm.facts, Region.binds] at hF
             obtain ⟨⟨A1, c1, rfl, h1⟩, ⟨A2, c2, rfl, h2⟩⟩ := hF
             unfold Calm.opAt
             go_simp
             simp only [Calm.upon_enter]
             with_reducible refine (samer_n _ _ _ _ _ _ _ h1 h2).mono ?_
             rintro e w' ⟨rfl, hb⟩
             exact ⟨_, rfl, hK.out _ _ rfl hb⟩
           intro N hN
           go_simp
           apply hN.out
           clear hN N))
      apply Calm.calm_nil
      intro W3 hB3 _
      have HB3 := Lib.hid hB3
      clear hB3
      go_wp2_with fail
      have hQ3 : Hid (∀ w, Below W3.heap.size W3 w → RdI w a2 i q) := by
        intro w h
        have h0 := rdI_of HQ.out (by omega) HS.out HC.out
        have hz := HBL.out.size
        have hz3 := HB3.out.size
        exact h0.below (HBL.out.trans ((HB3.out.mono hz).trans (h.mono (Nat.le_trans hz hz3)))) (Nat.le_refl _)
      have LA3 := Lib.hid (box_in (old4 (LA.out wr (Below.refl _ _)) HB3.out (lt4 (LA.out wr (Below.refl _ _)))))
      have LB3 := Lib.hid (box_in (old4 ((HAB wr).out hbel.out).2 HB3.out (lt4 ((HAB wr).out hbel.out).2)))
      have f1 : eqN (ofN q) (ofN q) = true := eqN_of fun _ _ => rfl
      have f2 : eqN (orL [A, B]) (orL [A, B]) = true := eqN_of fun _ _ => rfl
      have f3 : eqN (andW A B) (andW A B) = true := eqN_of fun _ _ => rfl
      have f4 : eqN (minW A B) (minW A B) = true := eqN_of fun _ _ => rfl
      have f5 : (((listN A).length : Int) == ((listN A).length : Int)) = true := beq_self_eq_true _
      refine Calm.wp_region_calm (B := W3.heap.size) (W := W3) (by kernel_rfl) (by kernel_rfl) (by kernel_rfl) (Nat.le_refl _) (Below.refl _ _).drew ?_
      apply Exists.intro
      repeat (first
        | (apply Calm.calm_skip
           · rfl
           intro N hN
           go_simp
           apply hN.out
           clear hN N)
        | (apply Calm.calm_val
           · rfl
           · intro w hB hF K hK
             first
               | exact opAt_eqt f1 (by rfl) (by rfl) (by rfl) (hK.out _ _ rfl (Below.refl _ _))
               | exact opAt_eqt f2 (by rfl) (by rfl) (by rfl) (hK.out _ _ rfl (Below.refl _ _))
               | exact opAt_eqt f3 (by rfl) (by rfl) (by rfl) (hK.out _ _ rfl (Below.refl _ _))
               | exact opAt_eqt f4 (by rfl) (by rfl) (by rfl) (hK.out _ _ rfl (Below.refl _ _))
               | refine opAt_load (by rfl) (by rfl) (LA3.out w hB) (hK.out _ _ rfl (Below.refl _ _))
               | refine opAt_load (by rfl) (by rfl) (LB3.out w hB) (hK.out _ _ rfl (Below.refl _ _))
               | (unfold Calm.opAt
                  go_simp
                  first
                    | (simp only [Calm.upon_value]
                       exact hK.out _ _ rfl (Below.refl _ _))
                    | (simp only [Calm.upon_enter]
                       with_reducible refine (and_n (by assumption) (by assumption) _).mono ?_
                       rintro e w' ⟨rfl, hb⟩
                       exact ⟨_, rfl, hK.out _ _ rfl hb⟩)
                    | (simp only [Calm.upon_enter]
                       with_reducible refine (andr_n (by assumption) (by assumption) _).mono ?_
                       rintro e w' ⟨rfl, hb⟩
                       exact ⟨_, rfl, hK.out _ _ rfl hb⟩)
                    | (simp only [Calm.upon_enter]
                       with_reducible refine (minus_n (by assumption) (by assumption) _).mono ?_
                       rintro e w' ⟨rfl, hb⟩
                       exact ⟨_, rfl, hK.out _ _ rfl hb⟩)
                    | (simp only [Calm.upon_enter]
                       with_reducible refine (minusr_n (by assumption) (by assumption) _).mono ?_
                       rintro e w' ⟨rfl, hb⟩
                       exact ⟨_, rfl, hK.out _ _ rfl hb⟩)
                    | (simp only [Calm.upon_enter]
                       with_reducible refine (len_n (by assumption) _).mono ?_
                       rintro e w' ⟨rfl, hb⟩
                       exact ⟨_, rfl, hK.out _ _ rfl hb⟩)
                    | (simp only [Calm.upon_enter]
                       with_reducible refine (lenr_n (by assumption) _).mono ?_
                       rintro e w' ⟨rfl, hb⟩
                       exact ⟨_, rfl, hK.out _ _ rfl hb⟩)
                    | (simp only [Calm.upon_enter]
                       with_reducible refine (of_n _ _ _ _ _ (hQ3.out _ hB)).mono ?_
                       rintro e w' ⟨rfl, hb⟩
                       exact ⟨_, rfl, hK.out _ _ rfl hb⟩)
                    | (simp only [Calm.upon_enter]
                       with_reducible refine (ofr_n _ _ _ _ _ (hQ3.out _ hB)).mono ?_
                       rintro e w' ⟨rfl, hb⟩
                       exact ⟨_, rfl, hK.out _ _ rfl hb⟩))
           intro N hN
           go_simp
           apply hN.out
           clear hN N)
        | (apply Calm.calm_rel ((Calm.Laid 2 (row8 A B) 27)) Calm.laid_stable
           · rfl
           · intro w hB hF K hK
             unfold Calm.opAt
             simp only [bvl]
             go_simp
             simp only [Calm.upon_value]
             exact hK.out _ _ (Calm.laid_new _) ((Below.refl _ _).alloc (Nat.le_refl _) _)
           intro u N hN
           go_simp
           apply hN.out
           clear hN N)
        | (apply Calm.calm_val
           · rfl
           · intro w hB hF K hK
             simp [Calm.facts, Region.binds] at hF
             obtain ⟨b, rfl, hb⟩ := hF
             unfold Calm.opAt
             go_simp
             simp only [Calm.upon_enter]
             first
               | (with_reducible refine (or_n _ 2 2 [A, B] (ws2 (by assumption) (by assumption)) _ (rdB_blk hb)).mono ?_
                  rintro e w' ⟨rfl, hb'⟩
                  exact ⟨_, rfl, hK.out _ _ rfl hb'⟩)
               | (with_reducible refine (orr_n _ 2 2 [A, B] (ws2 (by assumption) (by assumption)) _ (rdB_blk hb)).mono ?_
                  rintro e w' ⟨rfl, hb'⟩
                  exact ⟨_, rfl, hK.out _ _ rfl hb'⟩)
           intro N hN
           go_simp
           apply hN.out
           clear hN N))
      apply Calm.calm_nil
      intro w9 hB9 _
      go_wp2
      go_ret
      have hz := HBL.out.size
      have hz3 := HB3.out.size
      exact ⟨rfl, HBL.out.trans ((HB3.out.mono hz).trans (hB9.mono (Nat.le_trans hz hz3)))⟩
end Go.Proofs.YtecocdnfbkiabaaDoor.Bits
