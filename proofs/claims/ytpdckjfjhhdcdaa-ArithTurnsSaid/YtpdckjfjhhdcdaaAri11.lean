/-
  The statement ArithTurns, walked.
-/
import Derived.Test.YtpdckjfjhhdcdaaAri9
import Derived.Test.YtpdckjfjhhdcdaaApp
import Derived.Deep.RegionHeld3
import Derived.StillTailTactics
import Derived.Deep.DeepCutAuto
import Derived.Test.YtpdckjfjhhdcdaaCalm
namespace Go.Proofs.Ytpdckjfjhhdcdaa.Ari
open Go.RowKit Go.Shelf

/-- A row that the call made, as it is read. -/
theorem own_rd64 {w : World} {base n : Nat} {v : Value} {l : List Int} {t : TypeId} (h : w.ownsRow base t 1 v n (l.map (Value.int .u64))) (hn : n ≤ 9223372036854775807) :
    ∃ A c, v = .slice A n c ∧ Rd w .u64 A n l := by
  have hl : l.length = n := by have := h.1; simpa using this
  rcases h.2 with ⟨rfl, rfl⟩ | ⟨g, cap, cur, rfl, hb, hh, hnc, hcm, hcs, htk⟩
  · exact ⟨none, 0, rfl, hl, hn, fun h => absurd h (by decide)⟩
  · refine ⟨_, _, rfl, hl, hn, fun _ => ⟨_, rfl, fun j hj => ?_⟩⟩
    rw [Row0.plain_add', Nat.zero_add, h.cellAt j (by omega)]
    simp [List.getElem?_map, List.getD_eq_getElem?_getD, List.getElem?_eq_getElem (show j < l.length by omega)]
theorem rd_news {w : World} {A : Option Addr} {n : Nat} {l : List Int} (h : Rd w .u64 A n l) : ∀ ad, A = some ad → ∀ j u, (l.map (Value.int .u64))[j]? = some u → w.cell? (ad.add j) = some u := by
  rintro ad rfl j u hu
  have hj : j < l.length := by
    have := (List.getElem?_eq_some_iff.1 hu).1
    simpa using this
  obtain ⟨ad', e, hc⟩ := h.2.2 (by rw [← h.1]; omega)
  cases e
  rw [hc j (by rw [← h.1]; exact hj)]
  simp [List.getElem?_eq_getElem hj] at hu
  subst hu
  simp [List.getD_eq_getElem?_getD, List.getElem?_eq_getElem hj]
theorem one_cells (l : List Int) : ∀ u ∈ l.map (Value.int .u64), u.oneCell' = true := by
  intro u hu
  obtain ⟨x, _, rfl⟩ := List.mem_map.1 hu
  rfl
theorem rd_drop {w : World} {k : IntKind} {ad : Addr} {n : Nat} {xs : List Int} (h : Rd w k (some ad) n xs) (m : Nat) (hm : m ≤ n) : Rd w k (some (ad.add m)) (n - m) (xs.drop m) := by
  obtain ⟨h1, h2, h3⟩ := h
  refine ⟨by rw [List.length_drop]; omega, by omega, fun hp => ?_⟩
  obtain ⟨ad', e, hc⟩ := h3 (by omega)
  cases e
  refine ⟨_, rfl, fun j hj => ?_⟩
  rw [show (ad.add m).add j = ad.add (m + j) by simp [Addr.add_add], hc (m + j) (by omega)]
  simp [List.getD_eq_getElem?_getD]

theorem rd_blk {w : World} {b : Nat} {g2 g3 : Int} {t : TypeId} (h : w.heap[b]? = some (.cells #[.int .u64 g2, .int .u64 g3] t (0, 0))) : Rd w .u64 (some ⟨b, 0, none⟩) 2 [g2, g3] := by
  refine ⟨rfl, by decide, fun _ => ⟨_, rfl, fun j hj => ?_⟩⟩
  rw [Row0.plain_add', Nat.zero_add]
  match j, hj with
  | 0, _ => simp [World.cell?, h]
  | 1, _ => simp [World.cell?, h]
theorem infoU64 : (Try.prog.info? 22).map (fun i => (i.zero, i.size, i.bytes)) = some (some (.int .u64 0), 1, 8) := by kernel_rfl
set_option maxHeartbeats 4000000 in
set_option maxRecDepth 100000 in
theorem ArithTurns_walk (a0 : Option Addr) (len0 cap0 : Nat) (z0 : List Int) (a1 : Int) (W : World) (w0 : Row0.IsRow .u64 W a0 len0 cap0 z0) (_w1 : (Lit.int .i64 a1).wf = true) :
    Calls Try.prog 5 #[.slice a0 len0 cap0, .int .i64 a1] W fun e w' => e = .returned (.bool true) ∧ Below W.heap.size W w' := by
  obtain ⟨_, hlc, hcm, hsome, _⟩ := isRow_rd w0
  obtain ⟨ns, hrd, hns, hlen⟩ := few_nums w0 8
  clear w0
  have hA := fun w => Lib.hid (awake_any w)
  have hF := fun w => Lib.hid (few_any a0 len0 cap0 w hlc hcm hsome)
  have HR : Hid (Rd W .u64 a0 (min len0 8) (cs ns)) := hrd
  have HL : Hid (ns.length = min len0 8) := hlen
  have hle : min len0 8 ≤ 8 := Nat.min_le_right _ _
  have hlec : min len0 8 ≤ cap0 := Nat.le_trans (Nat.min_le_left _ _) hlc
  generalize min len0 8 = n at *
  clear hrd hlen hlc hsome
  have HN := Lib.hid hns
  clear hns
  by_cases hn0 : n = 0
  · subst hn0
    go_enter Try.func5, Try.ntmps5
    go_wp2_with (first | (go_at_call 9; refine (hA _).out.mono ?_; rintro e W1 ⟨rfl, hb⟩) | (go_at_call 12; refine (hF _).out.mono ?_; rintro e w' ⟨rfl, rfl⟩) | (go_at_call 13; refine (gcd_row none 0 0 [] _ ⟨rfl, by decide, fun h => absurd h (by decide)⟩).mono ?_; rintro e w' ⟨rfl, n1, rfl⟩))
    go_ret
    exact ⟨rfl, below_dn hb n1⟩
  · have hn1 : 1 ≤ n := by omega
    have hnz : ((n : Int) == 0) = false := by simp; omega
    have ht := Int.tmod_lt_of_pos a1 (show (0 : Int) < (n : Int) by omega)
    have ht' := Int.lt_tmod_of_pos a1 (show (0 : Int) < (n : Int) by omega)
    obtain ⟨t, ht0, t1, t2⟩ : ∃ t, a1.tmod (n : Int) = t ∧ -(n : Int) < t ∧ t < (n : Int) := ⟨_, rfl, by omega, ht⟩
    clear ht ht'
    have ek : (t + (n : Int)).tmod (n : Int) = (t + (n : Int)) % (n : Int) := Int.tmod_eq_emod_of_nonneg (by omega)
    obtain ⟨k, hk0, k1⟩ : ∃ k : Nat, (t + (n : Int)) % (n : Int) = (k : Int) ∧ k < n := ⟨((t + (n : Int)) % (n : Int)).toNat, by have := Int.emod_nonneg (t + (n : Int)) (show (n : Int) ≠ 0 by omega); omega, by have := Int.emod_lt_of_pos (t + (n : Int)) (show (0 : Int) < (n : Int) by omega); omega⟩
    obtain ⟨ad, rfl, _⟩ := HR.out.2.2 (by omega)
    have q1 : (0 : Int) ≤ (k : Int) := by omega
    have q2 : (k : Int) ≤ (n : Int) := by omega
    have q3 : (k : Int) ≤ (cap0 : Int) := by omega
    have q4 : (n : Int) ≤ (cap0 : Int) := by omega
    clear hn0
    go_enter Try.func5, Try.ntmps5
    go_wp2_with (first | (go_at_call 9; refine (hA _).out.mono ?_; rintro e W1 ⟨rfl, hb⟩) | (go_at_call 12; refine (hF _).out.mono ?_; rintro e w' ⟨rfl, rfl⟩))
    have hR1 : Hid (Rd W1 .u64 (some ad) n (cs ns)) := HR.out.below hb
    obtain ⟨i0, hi0, hz0, hz1, hz2⟩ := info_parts infoU64
    have hck : ¬ cap0 = k := by omega
    have hB0 : Hid ((W1.alloc (.cells #[] 22)).drew.ownsRow W1.heap.size 22 1 (.slice (some ⟨W1.heap.size, 0, none⟩) 0 0) 0 []) :=
      ⟨rfl, .inr ⟨W1.heap.size, 0, #[], rfl, Nat.le_refl _, heap_alloc_new _ _, Nat.le_refl _, by unfold maxLen; decide, rfl, rfl⟩⟩
    have hN1 : Hid (∀ a, some (ad.add k) = some a → ∀ j u, (((cs ns).drop k).map (Value.int .u64))[j]? = some u → (W1.alloc (.cells #[] 22)).drew.cell? (a.add j) = some u) := by
      exact rd_news ((rd_drop (hR1.out.below ((Below.refl _ W1).alloc (Nat.le_refl _) (.cells #[] 22))) k (by omega)).drewN 1)
    have hN2 : Hid (∀ W6, (W1.alloc (.cells #[] 22)).drew.grownBy W6 (some W1.heap.size) → ∀ a, some ad = some a → ∀ j u, (((cs ns).take k).map (Value.int .u64))[j]? = some u → W6.cell? (a.add j) = some u) := by
      intro W6 hg
      have := rd_take (hR1.out.below (((Below.refl _ W1).alloc (Nat.le_refl _) (.cells #[] 22)).grown (w' := W6) ⟨hg.os, hg.tape, hg.output, hg.size, hg.block⟩ (by simp) (fun k e => by cases e; exact Nat.le_refl _))) k
      rw [show min n k = k by omega] at this
      exact rd_news this
    have hl1 : Hid ((((cs ns).drop k).map (Value.int .u64)).length = (n - k) * 1) := by simp [RowKit.Hid, cs, HL.out]
    have hl2 : Hid ((((cs ns).take k).map (Value.int .u64)).length = k * 1) := by simp [RowKit.Hid, cs, HL.out]; omega
    go_region_held3 (fun _ => True) (trivial)
      (first
        | (refine Row0.step_append_sl (by rfl) (.tmp 38) (.tmp 41) 27 (by rfl) W1.heap.size 22 i0 (.int .u64 0) 1 8 Try.underlying27 hi0 hz0 hz1 hz2 rfl (by decide) _ 0 [] (by rfl) hB0.out (some (ad.add k)) (n - k) (cap0 - k) (((cs ns).drop k).map (Value.int .u64)) (by rfl) (fun e => by cases e) hl1.out hN1.out (one_cells _) (by unfold maxLen; omega) (by omega) (by simp) ?_; intro v6 W6 ho6 hg6)
        | (refine Row0.step_append_sl (by rfl) (.tmp 42) (.tmp 45) 27 (by rfl) W1.heap.size 22 i0 (.int .u64 0) 1 8 Try.underlying27 hi0 hz0 hz1 hz2 rfl (by decide) v6 (0 + (n - k)) _ (by rfl) ho6 (some ad) k cap0 (((cs ns).take k).map (Value.int .u64)) (by rfl) (fun e => by cases e) hl2.out (hN2.out W6 hg6) (one_cells _) (by unfold maxLen; omega) (by omega) (by have := hg6.size; simp at this; omega) ?_; intro v7 W7 ho7 hg7))
    have hk6 := fun j (e : v6.ownBlock = some j) => (ho6.lt j e).1
    have hb6 : Below W.heap.size W W6 := (((hb.alloc hb.size (.cells #[] 22)).drew).grown hg6 (by have := hb.size; simp; omega) (fun j e => by cases e; exact hb.size))
    have hb7 : Below W.heap.size W W7 := hb6.grown hg7 hb6.size (fun j e => Nat.le_trans hb.size (hk6 j e))
    have hR7 : Hid (Rd W7 .u64 (some ad) n (cs ns)) := HR.out.below hb7
    rw [show 0 + (n - k) + k = n by omega, List.nil_append, ← List.map_append] at ho7
    obtain ⟨A7, c7, rfl, hx7⟩ := own_rd64 ho7 (by omega)
    have ecs : (cs ns).drop k ++ (cs ns).take k = cs (ns.drop k ++ ns.take k) := by simp [cs]
    rw [ecs] at hx7
    have hX7 : Hid (Rd W7 .u64 A7 n (cs (ns.drop k ++ ns.take k))) := hx7
    have HB7 := Lib.hid hb7
    have hns' : ∀ m ∈ ns.drop k ++ ns.take k, m < M64 := fun m hm => by
      rcases List.mem_append.1 hm with h | h
      · exact HN.out m (List.mem_of_mem_drop h)
      · exact HN.out m (List.mem_of_mem_take h)
    have e1 : Hid (sumM (cs (ns.drop k ++ ns.take k)) = sumM (cs ns)) := by
      rw [RowKit.Hid, sumM_eq _ hns', sumM_eq _ HN.out]
      have : (ns.drop k ++ ns.take k).sum = ns.sum := by
        rw [List.sum_append, Nat.add_comm, ← List.sum_append, List.take_append_drop]
      rw [this]
    have e2 : Hid (lcmM (cs (ns.drop k ++ ns.take k)) = lcmM (cs ns)) := by
      rw [RowKit.Hid, lcmM_eq _ hns', lcmM_eq _ HN.out]
      have h1 : lcmN (ns.drop k ++ ns.take k) = lcmN ns := by
        rw [lcmN_append, Nat.lcm_comm, ← lcmN_append, List.take_append_drop]
      have h2 : (0 ∈ ns.drop k ++ ns.take k) = (0 ∈ ns) := by
        apply propext
        rw [List.mem_append, Or.comm, ← List.mem_append, List.take_append_drop]
      rw [h1]
      simp only [h2]
    have e3 : Hid (gcdM (cs (ns.drop k ++ ns.take k)) = gcdM (cs ns)) := by
      rw [RowKit.Hid, gcdM_eq, gcdM_eq, gcdN_append, Nat.gcd_comm, ← gcdN_append, List.take_append_drop]
    have e4 : Hid (gcdM [gcdM (cs (ns.take k)), gcdM (cs (ns.drop k))] = gcdM (cs ns)) := by
      rw [RowKit.Hid, gcdM_eq, gcdM_eq, gcdM_eq]
      have : [(gcdN (ns.take k) : Int), (gcdN (ns.drop k) : Int)] = cs [gcdN (ns.take k), gcdN (ns.drop k)] := rfl
      rw [this, gcdM_eq, ← List.take_append_drop k ns, gcdN_append, List.take_append_drop]
      simp [gcdN]
    have hnum1 : Hid (Nums (cs ns)) := fun j hj => by
      rw [cs_getD]
      have : ns.getD j 0 < M64 := by
        rw [List.getD_eq_getElem?_getD, List.getElem?_eq_getElem (by simpa [cs] using hj)]
        exact HN.out _ (List.getElem_mem _)
      unfold M64 at this
      omega
    have hnum2 : Hid (Nums (cs (ns.drop k ++ ns.take k))) := fun j hj => by
      rw [cs_getD]
      have : (ns.drop k ++ ns.take k).getD j 0 < M64 := by
        rw [List.getD_eq_getElem?_getD, List.getElem?_eq_getElem (by simpa [cs] using hj)]
        exact hns' _ (List.getElem_mem _)
      unfold M64 at this
      omega
    clear hb hb6 hb7 hg6 hg7 ho6 ho7 hk6 hx7 ecs hB0 hN1 hN2 hl1 hl2 hR1 hns'
    generalize hS : sumM (cs ns) = S at *
    generalize hLL : lcmM (cs ns) = L at *
    obtain ⟨s1, s2⟩ := S
    obtain ⟨l1, l2⟩ := L
    have HS := Lib.hid hS
    have HLL := Lib.hid hLL
    clear hS hLL
    go_wp2_with fail
    refine (sum_any (some ad) n cap0 (cs ns) W7 hR7.out hnum1.out).mono ?_
    rintro e w' ⟨rfl, n1, rfl⟩
    rw [HS.out]
    go_wp2_with fail
    refine (sum_any A7 n c7 _ _ (hX7.out.drewN _) hnum2.out).mono ?_
    rintro e w' ⟨rfl, n2, rfl⟩
    rw [e1.out]
    go_wp2_with fail
    refine (lcm_row (some ad) n cap0 (cs ns) _ (hR7.out.drewN _)).mono ?_
    rintro e w' ⟨rfl, n3, rfl⟩
    rw [HLL.out]
    go_wp2_with fail
    refine (lcm_row A7 n c7 _ _ (hX7.out.drewN _)).mono ?_
    rintro e w' ⟨rfl, n4, rfl⟩
    rw [e2.out]
    go_wp2_with fail
    have hh1 : Hid (∀ w, Below W7.heap.size W7 w → Rd w .u64 (some ad) n (cs ns)) := fun w h => hR7.out.below h
    have hh2 : Hid (∀ w, Below W7.heap.size W7 w → Rd w .u64 A7 n (cs (ns.drop k ++ ns.take k))) := fun w h => hX7.out.below h
    have hh3 : Hid (∀ w, Below W7.heap.size W7 w → Rd w .u64 (some ad) k (cs (ns.take k))) := fun w h => by
      have := rd_take (hR7.out.below h) k
      rw [show min n k = k by omega] at this
      simpa [cs] using this
    have hh4 : Hid (∀ w, Below W7.heap.size W7 w → Rd w .u64 (some (ad.add k)) (n - k) (cs (ns.drop k))) := fun w h => by
      simpa [cs] using rd_drop (hR7.out.below h) k (by omega)
    rw [← e3.out] at e4
    generalize hg0 : gcdM (cs (ns.drop k ++ ns.take k)) = g0 at *
    generalize hg1 : gcdM (cs ns) = g1 at *
    generalize hg2 : gcdM (cs (ns.take k)) = g2 at *
    generalize hg3 : gcdM (cs (ns.drop k)) = g3 at *
    have E1 := Lib.hid hg0
    have E2 := Lib.hid hg1
    have E3 := Lib.hid hg2
    have E4 := Lib.hid hg3
    have E5 : g0 = g1 := e3.out
    subst E5
    clear hg0 hg1 hg2 hg3 e1 e2 e3
    all_goals (refine Calm.wp_region_calm (B := W7.heap.size) (W := W7) (by kernel_rfl) (by kernel_rfl) (by kernel_rfl) (Nat.le_refl _) (below_dn (Below.refl _ _) _).drew ?_
               apply Exists.intro)
    all_goals (repeat (first
      | (apply Calm.calm_skip
         · rfl
         intro N hN
         go_simp
         apply hN.out
         clear hN N)
      | (apply Calm.calm_val
         · rfl
         · intro w hB hF K hK
           unfold Calm.opAt
           go_simp
           first
             | (simp only [Calm.upon_value]
                exact hK.out _ _ rfl (Below.refl _ _))
             | (simp only [Calm.upon_enter]
                with_reducible refine (gcd_row _ _ _ _ _ (by first | with_reducible exact hh1.out _ hB | with_reducible exact hh2.out _ hB | with_reducible exact hh3.out _ hB | with_reducible exact hh4.out _ hB)).mono ?_
                rintro e w' ⟨rfl, m, rfl⟩
                first | rw [E1.out] | rw [E2.out] | rw [E3.out] | rw [E4.out]
                exact ⟨_, rfl, hK.out _ _ rfl (below_dn (Below.refl _ _) m)⟩)
         intro N hN
         go_simp
         apply hN.out
         clear hN N)
      | (apply Calm.calm_rel (Calm.Laid 2 #[.int .u64 g2, .int .u64 g3] 22) Calm.laid_stable
         · rfl
         · intro w hB hF K hK
           unfold Calm.opAt
           go_simp
           simp only [Calm.upon_value]
           exact hK.out _ _ (Calm.laid_new _) ((Below.refl _ _).alloc (Nat.le_refl _) _)
         intro u N hN
         go_simp
         apply hN.out
         clear hN N)
      | (apply Calm.calm_val
         · rfl
         · intro w hB hF K hK
           obtain ⟨b, rfl, hb⟩ := hF _ (List.mem_singleton.2 rfl) (by rfl)
           unfold Calm.opAt
           go_simp
           simp only [Calm.upon_enter]
           with_reducible refine (gcd_row _ _ _ [g2, g3] _ (rd_blk hb)).mono ?_
           rintro e w' ⟨rfl, m, rfl⟩
           rw [e4.out]
           exact ⟨_, rfl, hK.out _ _ rfl (below_dn (Below.refl _ _) m)⟩
         intro N hN
         go_simp
         apply hN.out
         clear hN N)))
    apply Calm.calm_nil
    intro w hB hF
    go_wp2
    go_ret
    exact ⟨rfl, HB7.out.trans (hB.mono HB7.out.size)⟩
end Go.Proofs.Ytpdckjfjhhdcdaa.Ari
