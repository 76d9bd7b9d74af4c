/-
  The statement BitsSame, walked.
-/
import Derived.Test.YtecocdnfbkiabaaDoorBits18
import Derived.Test.YtecocdnfbkiabaaDoorApp
import Derived.Test.YtecocdnfbkiabaaDoorRow0
import Derived.Deep.RegionHeld3
import Derived.Deep.DeepMust
namespace Go.Proofs.YtecocdnfbkiabaaDoor.Bits
open Go.RowKit Go.Shelf

theorem few2_any (A : Option Addr) (n c : Nat) (w : World) (hc : n ≤ c) (hm : c ≤ 9223372036854775807) (hA : 0 < n → ∃ ad, A = some ad) :
    Calls Tryd.prog 10 #[.slice A n c] w fun e w' => e = .returned (.slice A (min n 20 : Nat) c) ∧ w' = w := by
  by_cases h20 : n ≤ 20
  · rw [Nat.min_eq_left h20]
    clear hA
    go_enter Tryd.func10, Tryd.ntmps10
    go_wp2
    go_ret
    exact ⟨rfl, rfl⟩
  · rw [Nat.min_eq_right (by omega)]
    obtain ⟨ad, rfl⟩ := hA (by omega)
    have h21 : 20 < n := by omega
    have h22 : 20 ≤ c := by omega
    go_enter Tryd.func10, Tryd.ntmps10
    go_wp2
    go_ret
    exact ⟨rfl, rfl⟩
/-- A slice of numbers that came in, cut to at most 20. -/
theorem few_row {w : World} {a : Option Addr} {len cap : Nat} {zs : List Int} (h : Row0.IsRow .i64 w a len cap zs) :
    len ≤ cap ∧ cap ≤ 9223372036854775807 ∧ (0 < len → ∃ ad, a = some ad) ∧ ∃ q : List Int, q.length = min len 20 ∧ (∀ ad, a = some ad → ∀ j, j < min len 20 → w.cell? (ad.add j) = some (.int .i64 (q.getD j 0))) := by
  rcases h with ⟨rfl, rfl, rfl, rfl⟩ | ⟨x, rfl, h1, h2, h3, h4, h5⟩
  · exact ⟨Nat.le_refl _, by decide, fun h => absurd h (by decide), [], rfl, fun ad e => by cases e⟩
  · unfold maxLen at h2
    refine ⟨h1, h2, fun _ => ⟨x, rfl⟩, zs.take (min len 20), by rw [List.length_take]; omega, fun ad e j hj => ?_⟩
    cases e
    rw [h4 j (by omega)]
    simp [List.getD_eq_getElem?_getD, hj]
def m16 (l : List Int) : List Int := l.map fun z => z % 16
theorem m16_snoc (l : List Int) (i : Nat) (h : i < l.length) : m16 (l.take (i + 1)) = m16 (l.take i) ++ [l.getD i 0 % 16] := by
  rw [take_int l i h]; simp [m16]
theorem rdI_news {w : World} {b o n : Nat} {l : List Int} (h : RdI w (some ⟨b, o, none⟩) n l) (k m : Nat) (hk : k + m ≤ n) : ∀ j u, (((l.drop k).take m).map (Value.int .i64))[j]? = some u → w.cell? ((⟨b, o + k, none⟩ : Addr).add j) = some u := by
  intro j u hu
  have hj : j < m := by
    have := (List.getElem?_eq_some_iff.1 hu).1
    simp at this
    omega
  rw [Row0.plain_add', Nat.add_assoc, h.atI (k + j) (by omega)]
  rw [← hu]
  have hl := h.1
  simp [List.getElem?_map, List.getElem?_take, hj, List.getElem?_drop, List.getD_eq_getElem?_getD, List.getElem?_eq_getElem (show k + j < l.length by omega)]
theorem one_i64 (l : List Int) : ∀ u ∈ l.map (Value.int .i64), u.oneCell' = true := by
  intro u hu
  obtain ⟨x, _, rfl⟩ := List.mem_map.1 hu
  rfl
/-- What the statement says of a row and how it is turned. -/
theorem same_turn (l : List Int) (k : Nat) : bv (iw (ofN (l.drop k ++ l.take k))) = bv (iw (ofN l)) := bv_ext (Ws.ofN _) (Ws.ofN _) fun i hi => by
  rw [has_ofN _ _ hi, has_ofN _ _ hi, List.any_append, Bool.or_comm, ← List.any_append, List.take_append_drop]
theorem same_more (l : List Int) (k : Nat) (m : Int) (h : l.any (fun i => i == m) = true) : bv (iw (ofN (l.drop k ++ l.take k ++ [m]))) = bv (iw (ofN l)) := bv_ext (Ws.ofN _) (Ws.ofN _) fun i hi => by
  rw [has_ofN _ _ hi, has_ofN _ _ hi, List.any_append, List.any_append, Bool.or_comm (List.any (List.drop k l) _), ← List.any_append, List.take_append_drop]
  simp only [List.any_cons, List.any_nil, Bool.or_false]
  cases hd : decide (m = (i : Int)) with
  | false => simp
  | true =>
    have e := of_decide_eq_true hd
    subst e
    rw [Bool.or_true]
    obtain ⟨x, hx, he⟩ := List.any_eq_true.1 h
    exact (List.any_eq_true.2 ⟨x, hx, by simpa using he⟩).symm
theorem same_not (l : List Int) (k : Nat) (m : Int) (h0 : 0 ≤ m) (h1 : m < 256) (h : l.any (fun i => i == m) = false) : eqN (ofN (l.drop k ++ l.take k ++ [m])) (ofN l) = false := by
  cases he : eqN (ofN (l.drop k ++ l.take k ++ [m])) (ofN l) with
  | false => rfl
  | true =>
    have := hasN_of_bv (of_eqN he) m.toNat (by omega)
    rw [has_ofN _ _ (by omega), has_ofN _ _ (by omega), List.any_append] at this
    have e : decide (m = (m.toNat : Int)) = true := decide_eq_true (by omega)
    simp only [List.any_cons, List.any_nil, e, Bool.or_true, Bool.true_or, Bool.or_false] at this
    rw [Eq.comm, List.any_eq_true] at this
    obtain ⟨x, hx, hxm⟩ := this
    have hx2 := of_decide_eq_true hxm
    have h3 := List.any_eq_false.1 h x hx
    exact absurd (beq_iff_eq.2 (by omega)) h3
theorem any_snoc (l : List Int) (i : Nat) (m : Int) (h : i < l.length) : (l.take (i + 1)).any (fun x => x == m) = ((l.take i).any (fun x => x == m) || (l.getD i 0 == m)) := by
  rw [take_int l i h, List.any_append]
  simp

theorem rdI_ad {w : World} {ad : Addr} {n : Nat} {l : List Int} (h : RdI w (some ad) n l) : ∀ j, j < n → w.cell? (ad.add j) = some (.int .i64 (l.getD j 0)) := fun j hj => by
  obtain ⟨b, o, e, hc⟩ := h.2.2 (by omega)
  cases e
  rw [Row0.plain_add']
  exact hc j hj
theorem drop_news {w : World} {ad : Addr} {n : Nat} {l : List Int} (h : RdI w (some ad) n l) (k : Nat) : ∀ a, some (ad.add k) = some a → ∀ j u, ((l.drop k).map (Value.int .i64))[j]? = some u → w.cell? (a.add j) = some u := by
  intro a e j u hu
  cases e
  have hj : j < l.length - k := by
    have := (List.getElem?_eq_some_iff.1 hu).1
    simpa using this
  have hl := h.1
  rw [show (ad.add k).add j = ad.add (k + j) by simp [Addr.add_add], rdI_ad h (k + j) (by omega), ← hu]
  simp [List.getElem?_map, List.getElem?_drop, List.getD_eq_getElem?_getD, List.getElem?_eq_getElem (show k + j < l.length by omega)]
theorem take_news {w : World} {ad : Addr} {n : Nat} {l : List Int} (h : RdI w (some ad) n l) (k : Nat) : ∀ a, some ad = some a → ∀ j u, ((l.take k).map (Value.int .i64))[j]? = some u → w.cell? (a.add j) = some u := by
  intro a e j u hu
  cases e
  have hj : j < k ∧ j < l.length := by
    have := (List.getElem?_eq_some_iff.1 hu).1
    simp at this
    omega
  have hl := h.1
  rw [rdI_ad h j (by omega), ← hu]
  simp [List.getElem?_map, List.getElem?_take, hj.1, List.getD_eq_getElem?_getD, List.getElem?_eq_getElem hj.2]
theorem own_below {B : Nat} {e : TypeId} {k : Nat} {v : Value} {n : Nat} {xs : List Value} {w w' : World} (h : w.ownsRow B e k v n xs) (hb : Below w.heap.size w w') : w'.ownsRow B e k v n xs :=
  h.kept (row := none) ⟨hb.os, hb.tape, hb.output, hb.size, fun j hj _ => hb.block j hj⟩ (by cases v.ownBlock <;> simp)
@[go_sem] theorem run_guardN (A B : Nat → Nat) (x y : Operand) (w : World) : Sem.run Tryd.prog (eqGuard .eql 27 x y (bv (iw A)) (bv (iw B))) w = .ok () w := by
  simp only [bvl]
  go_simp
@[go_sem] theorem run_binN (A B : Nat → Nat) (w : World) : Sem.run Tryd.prog (binOp .eql 27 (bv (iw A)) (bv (iw B))) w = .ok (.bool (eqN A B)) w := by
  simp only [bvl]
  go_simp
  rfl
theorem rdI0 (w : World) : RdI w none 0 [] := ⟨rfl, by decide, fun h => absurd h (by decide)⟩
theorem cell_old {B : Nat} {w w' : World} {a : Addr} {v : Value} (h : w.cell? a = some v) (hb : Below B w w') (hB : w.heap.size ≤ B) : w'.cell? a = some v :=
  (World.cell?_of_block (hb.block _ (Nat.lt_of_lt_of_le (World.block_lt_of_cell? _ _ h) hB))).trans h

set_option maxHeartbeats 8000000 in
set_option maxRecDepth 100000 in
theorem BitsSame_walk (a0 : Option Addr) (len0 cap0 : Nat) (z0 : List Int) (a1 a2 : Int) (W : World) (w0 : Row0.IsRow .i64 W a0 len0 cap0 z0) (_w1 : (Lit.int .i64 a1).wf = true) (_w2 : (Lit.int .i64 a2).wf = true) (hT : TabAt 0 Lib.deBruijn64tab W) :
    Calls Tryd.prog 3 #[.slice a0 len0 cap0, .int .i64 a1, .int .i64 a2] W fun e w' => e = .returned (.bool true) ∧ Below W.heap.size W w' := by
  obtain ⟨hlc, hcm, hsome, q, hql, hqc⟩ := few_row w0
  have HA := fun w => Lib.hid (awake_any w)
  have HT : Hid (TabAt 0 Lib.deBruijn64tab W) := hT
  have hF := fun w => Lib.hid (few2_any a0 len0 cap0 w hlc hcm hsome)
  have HQ : Hid (q.length = min len0 20) := hql
  have HC : Hid (∀ ad, a0 = some ad → ∀ j, j < min len0 20 → W.cell? (ad.add j) = some (.int .i64 (q.getD j 0))) := hqc
  have HS := Lib.hid hsome
  have hle : min len0 20 ≤ 20 := Nat.min_le_right _ _
  have hlec : min len0 20 ≤ cap0 := Nat.le_trans (Nat.min_le_left _ _) hlc
  have HN : Hid (0 < min len0 20 → 0 < len0) := fun h => by omega
  generalize min len0 20 = n at *
  clear hT hql hqc hsome w0 hlc hcm
  by_cases hn0 : n = 0
  · subst hn0
    clear hlec HN HS HC
    have e0 : eqN (ofN []) noneW = true := by decide
    go_enter Tryd.func3, Tryd.ntmps3
    go_wp2_with fail
    refine ((HA _).out HT.out).mono ?_
    rintro e W1 ⟨rfl, hb1⟩
    go_wp2_with fail
    refine (hF _).out.mono ?_
    rintro e w' ⟨rfl, rfl⟩
    go_wp2_with fail
    have nN := heap_alloc_new w' (.cells #[.int .u64 0, .int .u64 0, .int .u64 0, .int .u64 0] 27)
    have hb2 : Below W.heap.size W (w'.alloc (.cells #[.int .u64 0, .int .u64 0, .int .u64 0, .int .u64 0] 27)) := hb1.alloc hb1.size _
    generalize w'.alloc (.cells #[.int .u64 0, .int .u64 0, .int .u64 0, .int .u64 0] 27) = W2 at *
    have HB2 := Lib.hid hb2
    have LN := Lib.hid (box_in (A := noneW) nN)
    clear hb1 hb2 nN
    refine Calm.wp_region_calm (B := W2.heap.size) (W := W2) (by kernel_rfl) (by kernel_rfl) (by kernel_rfl) (Nat.le_refl _) (Below.refl _ _).drew ?_
    apply Exists.intro
    repeat (first
      | (apply Calm.calm_skip
         · rfl
         intro N hN
         go_simp
         apply hN.out
         clear hN N)
      | (apply Calm.calm_val
         · rfl
         · intro w hB hF K hK
           first
             | exact opAt_eqt e0 (by rfl) (by rfl) (by rfl) (hK.out _ _ rfl (Below.refl _ _))
             | refine opAt_load (by rfl) (by rfl) (LN.out w hB) (hK.out _ _ rfl (Below.refl _ _))
             | (unfold Calm.opAt
                go_simp
                first
                  | (simp only [Calm.upon_value]
                     exact hK.out _ _ rfl (Below.refl _ _))
                  | (simp only [Calm.upon_enter]
                     with_reducible refine (of_n none 0 0 [] _ (rdI0 _)).mono ?_
                     rintro e w' ⟨rfl, hb⟩
                     exact ⟨_, rfl, hK.out _ _ rfl hb⟩))
         intro N hN
         go_simp
         apply hN.out
         clear hN N))
    apply Calm.calm_nil
    intro w9 hB9 _
    go_wp2
    go_ret
    exact ⟨rfl, HB2.out.trans (hB9.mono HB2.out.size)⟩
  · have hn1 : 1 ≤ n := by omega
    have hnz : ((n : Int) == 0) = false := by simp; omega
    have ht := Int.tmod_lt_of_pos a1 (show (0 : Int) < (n : Int) by omega)
    have ht' := Int.lt_tmod_of_pos a1 (show (0 : Int) < (n : Int) by omega)
    obtain ⟨t, ht0, t1, t2⟩ : ∃ t, a1.tmod (n : Int) = t ∧ -(n : Int) < t ∧ t < (n : Int) := ⟨_, rfl, by omega, ht⟩
    clear ht ht'
    have ek : (t + (n : Int)).tmod (n : Int) = (t + (n : Int)) % (n : Int) := Int.tmod_eq_emod_of_nonneg (by omega)
    obtain ⟨k, hk0, k1⟩ : ∃ k : Nat, (t + (n : Int)) % (n : Int) = (k : Int) ∧ k < n := ⟨((t + (n : Int)) % (n : Int)).toNat, by have := Int.emod_nonneg (t + (n : Int)) (show (n : Int) ≠ 0 by omega); omega, by have := Int.emod_lt_of_pos (t + (n : Int)) (show (0 : Int) < (n : Int) by omega); omega⟩
    obtain ⟨ad, rfl⟩ := HS.out (HN.out (by omega))
    have q1 : (0 : Int) ≤ (k : Int) := by omega
    have q2 : (k : Int) ≤ (n : Int) := by omega
    clear hn0 HN HS
    obtain ⟨i0, hi0, hz0, hz1, hz2⟩ := info_parts infoI64
    obtain ⟨m, hm, hm0, hm1⟩ : ∃ m, a2 % 16 = m ∧ 0 ≤ m ∧ m < 16 := ⟨_, rfl, by omega, by omega⟩
    have em : Go.bits .and .i64 a2 15 = m := (Row0.and_i64 a2 4 (by decide) 15 rfl).trans hm
    clear hm
    go_enter Tryd.func3, Tryd.ntmps3
    go_wp2_with fail
    refine ((HA _).out HT.out).mono ?_
    rintro e W1 ⟨rfl, hb1⟩
    have HB1 : Hid (Below W.heap.size W W1) := hb1
    clear hb1
    go_wp2_with fail
    refine (hF _).out.mono ?_
    rintro e w' ⟨rfl, rfl⟩
    clear hF HA
    go_wp2_with fail
    go_loopg [11, 12] n (fun g av iv wr => ∃ i : Nat, i ≤ n ∧ iv = .int .i64 (i : Int) ∧ Aside (n - i = g) ∧ Aside (wr.ownsRow w'.heap.size 3 1 av i ((m16 (q.take i)).map (.int .i64))) ∧ Aside (Below W.heap.size W wr) ∧ Aside (w'.heap.size ≤ wr.heap.size))
    case atStart => exact ⟨0, Nat.zero_le _, rfl, rfl, World.ownsRow_nil _ _ _ _, HB1.out, Nat.le_refl _⟩
    case round =>
      obtain ⟨i, hi, rfl, hk, hown, hbel, hlo⟩ := hrel
      by_cases hlt : i < n
      · have hc : wr.cell? (ad.add i) = some (.int .i64 (q.getD i 0)) := cell_old (HC.out ad rfl i hlt) hbel.out (Nat.le_refl _)
        have ez := Row0.and_i64 (q.getD i 0) 4 (by decide) 15 rfl
        have hs : Hid ((m16 (q.take (i + 1))).map (Value.int .i64) = (m16 (q.take i)).map (Value.int .i64) ++ [.int .i64 (q.getD i 0 % 16)]) := by
          rw [RowKit.Hid, m16_snoc _ _ (by rw [HQ.out]; exact hlt), List.map_append]; rfl
        generalize q.getD i 0 = z at *
        obtain ⟨y, hy⟩ : ∃ y, z % 16 = y := ⟨_, rfl⟩
        have ez' : Go.bits .and .i64 z 15 = y := ez.trans hy
        rw [hy] at hs
        clear ez hy
        go_wp2_with (at_builtin; refine wpList_append_own _ rfl _ _ 22 rfl w'.heap.size 3 i0 (.int .i64 0) 1 8 Tryd.underlying22 hi0 hz0 hz1 hz2 rfl (by decide) _ _ _ rfl (hown.out.alloc _) ⟨wr.heap.size, 0, none⟩ 1 1 [.int .i64 y] rfl rfl (cell_one_new _ _ _) (by simp [Value.oneCell']) (by unfold maxLen; omega) (by omega) (by have := hlo.out; simp; omega) ?_; intro v' w1 hown' hgrow _)
        have hO2 : Aside (w1.ownsRow w'.heap.size 3 1 v' (i + 1) ((m16 (q.take (i + 1))).map (.int .i64))) := by
          rw [hs.out]; exact hown'
        have hk2 := fun j (e : _ = some j) => (hown.out.lt j e).1
        have hB2 : Aside (Below W.heap.size W w1) := (hbel.out.alloc hbel.out.size _).grown hgrow (by have := hbel.out.size; simp; omega) (fun j e => Nat.le_trans HB1.out.size (hk2 j e))
        have hL2 : Aside (w'.heap.size ≤ w1.heap.size) := show w'.heap.size ≤ w1.heap.size by have h1 := hgrow.size; simp at h1; have := hlo.out; omega
        clear hown' hgrow hk2
        go_wp2
        go_roundg (n - (i + 1))
        case measure => have := hk.out; omega
        case rel => exact ⟨i + 1, by omega, by go_num, rfl, hO2.out, hB2.out, hL2.out⟩
      · obtain rfl : i = n := by omega
        have hq : q.take i = q := List.take_of_length_le (by rw [HQ.out]; exact Nat.le_refl _)
        have hown2 := hown.out
        rw [hq] at hown2
        obtain ⟨A1, c1, rfl, hr1, hc1, _⟩ := own_rdI hown2 (by omega)
        clear hq hown hown2
        generalize m16 q = L at *
        obtain ⟨ad1, rfl⟩ : ∃ ad1, A1 = some ad1 := by
          obtain ⟨b, o, e, _⟩ := hr1.2.2 (by omega)
          exact ⟨_, e⟩
        have HR : Hid (RdI wr (some ad1) i L) := hr1
        have HL : Hid (L.length = i) := hr1.1
        have q3 : (k : Int) ≤ (c1 : Int) := by omega
        have q4 : (i : Int) ≤ (c1 : Int) := by omega
        have hck : ¬ c1 = k := by omega
        clear hr1 HQ HC
        go_wp2_with fail
        have hB0 : Hid ((wr.alloc (.cells #[] 3)).drew.ownsRow wr.heap.size 3 1 (.slice (some ⟨wr.heap.size, 0, none⟩) 0 0) 0 []) :=
          ⟨rfl, .inr ⟨wr.heap.size, 0, #[], rfl, Nat.le_refl _, heap_alloc_new _ _, Nat.le_refl _, by unfold maxLen; decide, rfl, rfl⟩⟩
        have hN1 : Hid (∀ a, some (ad1.add k) = some a → ∀ j u, ((L.drop k).map (Value.int .i64))[j]? = some u → (wr.alloc (.cells #[] 3)).drew.cell? (a.add j) = some u) := by
          exact drop_news ((HR.out.below ((Below.refl _ wr).alloc (Nat.le_refl _) (.cells #[] 3)) (Nat.le_refl _)).drewN 1) k
        have hN2 : Hid (∀ W6, (wr.alloc (.cells #[] 3)).drew.grownBy W6 (some wr.heap.size) → ∀ a, some ad1 = some a → ∀ j u, ((L.take k).map (Value.int .i64))[j]? = some u → W6.cell? (a.add j) = some u) := by
          intro W6 hg
          exact take_news (HR.out.below (((Below.refl _ wr).alloc (Nat.le_refl _) (.cells #[] 3)).grown (w' := W6) ⟨hg.os, hg.tape, hg.output, hg.size, hg.block⟩ (by simp) (fun k e => by cases e; exact Nat.le_refl _)) (Nat.le_refl _)) k
        have hl1 : Hid (((L.drop k).map (Value.int .i64)).length = (i - k) * 1) := by simp [RowKit.Hid, HL.out]
        have hl2 : Hid (((L.take k).map (Value.int .i64)).length = k * 1) := by simp [RowKit.Hid, HL.out]; omega
        go_region_held3 (fun _ => True) (trivial)
          (first
            | (refine Row0.step_append_sl (by rfl) (.tmp 53) (.tmp 56) 22 (by rfl) wr.heap.size 3 i0 (.int .i64 0) 1 8 Tryd.underlying22 hi0 hz0 hz1 hz2 rfl (by decide) _ 0 [] (by rfl) hB0.out (some (ad1.add k)) (i - k) (c1 - k) ((L.drop k).map (Value.int .i64)) (by rfl) (fun e => by cases e) hl1.out hN1.out (one_i64 _) (by unfold maxLen; omega) (by omega) (by simp) ?_; intro v6 W6 ho6 hg6)
            | (refine Row0.step_append_sl (by rfl) (.tmp 57) (.tmp 60) 22 (by rfl) wr.heap.size 3 i0 (.int .i64 0) 1 8 Tryd.underlying22 hi0 hz0 hz1 hz2 rfl (by decide) v6 (0 + (i - k)) _ (by rfl) ho6 (some ad1) k c1 ((L.take k).map (Value.int .i64)) (by rfl) (fun e => by cases e) hl2.out (hN2.out W6 hg6) (one_i64 _) (by unfold maxLen; omega) (by omega) (by have := hg6.size; simp at this; omega) ?_; intro v7 W7 ho7 hg7))
        have hk6 := fun j (e : v6.ownBlock = some j) => (ho6.lt j e).1
        have hb6 : Below wr.heap.size wr W6 := (((Below.refl _ wr).alloc (Nat.le_refl _) (.cells #[] 3)).drew).grown hg6 (by simp) (fun j e => by cases e; exact Nat.le_refl _)
        have hb7 : Hid (Below wr.heap.size wr W7) := hb6.grown hg7 hb6.size (fun j e => hk6 j e)
        rw [show 0 + (i - k) + k = i by omega, List.nil_append, ← List.map_append] at ho7
        obtain ⟨A7, c7, rfl, hx7, hc7, _⟩ := own_rdI ho7 (by omega)
        have HO7 := Lib.hid ho7
        have HX7 := Lib.hid hx7
        have e1 := Lib.hid (same_turn L k)
        have e2 := Lib.hid (same_more L k m)
        have e3 := Lib.hid (same_not L k m hm0 (by omega))
        have e4 : Hid (∀ j, j < i → L.take (j + 1) = L.take j ++ [L.getD j 0]) := fun j hj => take_int L j (by rw [HL.out]; exact hj)
        generalize L.drop k ++ L.take k = L2 at *
        clear hB0 hN1 hN2 hl1 hl2 hk6 hb6 hg6 hg7 ho6 ho7 hx7
        have hsz : Hid (wr.heap.size ≤ W7.heap.size) := hb7.out.size
        generalize wr = W3 at *
        go_wp2_with fail
        go_loopg [14, 15] i (fun g tv iv wr2 => ∃ j : Nat, j ≤ i ∧ tv = .bool ((L.take j).any (fun x => x == m)) ∧ iv = .int .i64 (j : Int) ∧ Aside (i - j = g) ∧ wr2 = W7)
        case atStart => exact ⟨0, Nat.zero_le _, by simp, rfl, rfl, rfl⟩
        case round =>
          obtain ⟨j, hj, rfl, rfl, hk2, rfl⟩ := hrel
          by_cases hlt2 : j < i
          · have hc := rdI_ad (HR.out.below hb7.out (Nat.le_refl _)) j hlt2
            have e5 := e4.out j hlt2
            generalize L.getD j 0 = z at *
            cases ha : (L.take j).any (fun x => x == m) with
            | true =>
              have hn : Hid ((L.take (j + 1)).any (fun x => x == m) = true) := by rw [RowKit.Hid, e5, List.any_append, ha]; rfl
              clear e5 ha
              go_wp2
              go_roundg (i - (j + 1))
              case measure => have := hk2.out; omega
              case rel => exact ⟨j + 1, by omega, by rw [hn.out], by go_num, rfl, rfl⟩
            | false =>
              cases hz : z == m with
              | true =>
                have hn : Hid ((L.take (j + 1)).any (fun x => x == m) = true) := by rw [RowKit.Hid, e5, List.any_append, ha]; simpa using hz
                clear e5 ha
                go_wp2
                go_roundg (i - (j + 1))
                case measure => have := hk2.out; omega
                case rel => exact ⟨j + 1, by omega, by rw [hn.out], by go_num, rfl, rfl⟩
              | false =>
                have hn : Hid ((L.take (j + 1)).any (fun x => x == m) = false) := by rw [RowKit.Hid, e5, List.any_append, ha]; simpa using hz
                clear e5 ha
                go_wp2
                go_roundg (i - (j + 1))
                case measure => have := hk2.out; omega
                case rel => exact ⟨j + 1, by omega, by rw [hn.out], by go_num, rfl, rfl⟩
          · obtain rfl : j = i := by omega
            have hq : L.take j = L := List.take_of_length_le (by rw [HL.out]; exact Nat.le_refl _)
            rw [hq]
            clear hq
            go_wp2_with fail
            refine (of_n _ _ _ _ _ (HR.out.below hb7.out (Nat.le_refl _))).mono ?_
            rintro e W8 ⟨rfl, hb8⟩
            have HB8 : Hid (Below wr.heap.size wr W8) := hb8
            clear hb8
            go_wp2_with fail
            refine (of_n _ _ _ _ _ (HX7.out.below HB8.out (Nat.le_refl _))).mono ?_
            rintro e W9 ⟨rfl, hb9⟩
            rw [e1.out]
            have HB9 : Hid (Below wr.heap.size wr W9) := HB8.out.trans (hb9.mono HB8.out.size)
            have HB9' : Hid (Below W3.heap.size W3 W9) := hb7.out.trans (HB9.out.mono hsz.out)
            clear hb9 HB8
            have hE : eqN (ofN L) (ofN L) = true := eqN_of fun _ _ => rfl
            have hO9 := Lib.hid (own_below HO7.out HB9.out)
            clear HO7 HX7
            go_wp2_with (at_builtin; go_must (refine Row0.wpList_append_gd (by rfl) _ _ 22 rfl W3.heap.size 3 i0 (.int .i64 0) 1 8 Tryd.underlying22 hi0 hz0 hz1 hz2 rfl (by decide) _ _ _ rfl (hO9.out.alloc _) (some ⟨W9.heap.size, 0, none⟩) 1 1 [.int .i64 m] rfl (fun e => by cases e) rfl (fun ad e => by cases e; exact cell_one_new _ _ _) (by simp [Value.oneCell']) (by unfold maxLen; omega) (by omega) (by have := HB9'.out.size; simp; omega) ?_; intro v' w1 hown' hgrow; obtain ⟨A10, c10, rfl, hx10, _⟩ := own_rdI (l := L2 ++ [m]) (by simpa using hown') (by omega); have HX10 := Lib.hid hx10; have HB10 : Hid (Below W3.heap.size W3 w1) := (HB9'.out.alloc HB9'.out.size _).grown hgrow (by have := HB9'.out.size; simp; omega) (fun j e => (hO9.out.lt j e).1); clear hx10 hown' hgrow))
            refine (of_n _ _ _ _ _ HX10.out).mono ?_
            rintro e W11 ⟨rfl, hb11⟩
            have HB11 : Hid (Below W3.heap.size W3 W11) := HB10.out.trans (hb11.mono HB10.out.size)
            clear hb11 HX10
            cases ha : L.any (fun x => x == m) with
            | true =>
              rw [e2.out ha]
              go_wp2_with fail
              refine (of_n _ _ _ _ _ (HR.out.below HB11.out (Nat.le_refl _))).mono ?_
              rintro e W12 ⟨rfl, hb12⟩
              have HB12 : Hid (Below W3.heap.size W3 W12) := HB11.out.trans (hb12.mono HB11.out.size)
              go_wp2
              go_ret
              exact ⟨rfl, hbel.out.trans (HB12.out.mono hbel.out.size)⟩
            | false =>
              have hF := e3.out ha
              go_wp2_with fail
              refine (of_n _ _ _ _ _ (HR.out.below HB11.out (Nat.le_refl _))).mono ?_
              rintro e W12 ⟨rfl, hb12⟩
              have HB12 : Hid (Below W3.heap.size W3 W12) := HB11.out.trans (hb12.mono HB11.out.size)
              go_wp2
              go_ret
              exact ⟨rfl, hbel.out.trans (HB12.out.mono hbel.out.size)⟩
end Go.Proofs.YtecocdnfbkiabaaDoor.Bits
