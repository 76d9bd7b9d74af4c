/-
  Systems by numbers: the statement's own made.
-/
import Derived.Test.YtdmfdgadhobkpaaSys5
import Derived.Deep.RegionLaw
namespace Go.Proofs.Ytdmfdgadhobkpaa.Sys
open Go.RowKit Go.Proofs.Ytdmfdgadhobkpaa.Box

theorem infoM : (Try.prog.info? 63).map (fun i => (i.zero, i.size, i.bytes)) = some (some (.agg #[.int .i64 0, .int .i64 0, .int .i64 0, .int .i64 0, .int .i64 0, .slice none 0 0]), 6, 64) := by kernel_rfl
theorem vals6_one (v : Row0.NumV) : ∀ u ∈ vals6 v, u.oneCell' = true := by
  intro u h
  simp [vals6] at h
  rcases h with rfl | rfl | rfl | rfl | rfl | rfl <;> rfl
/-- What holds of the tasks by numbers that were copied so far. -/
structure CI (B : Nat) (w wr : World) (q : List Row0.NumV) (kk : Nat) (tv : Value) : Prop where
  own : wr.ownsRow B 63 6 tv kk (flat6 (q.take kk))
  sz : B ≤ wr.heap.size
  bw : Below w.heap.size w wr
theorem takes_snoc (q : List Row0.NumV) (k : Nat) (h : k < q.length) : q.take (k + 1) = q.take k ++ [q.getD k default] := by
  rw [List.take_succ_eq_append_getElem h, List.getD_eq_getElem?_getD, List.getElem?_eq_getElem h]; rfl
set_option maxHeartbeats 8000000 in
set_option maxRecDepth 100000 in
theorem made_sys (a b : Int) (x : Option Addr) (len cap : Nat) (q : List Row0.NumV) (w : World) (h : RdN w x len q) (hlc : len ≤ cap) (hcm : cap ≤ 9223372036854775807) :
    Calls Try.prog 9 #[.agg #[.int .i64 a, .int .i64 b, .slice x len cap]] w (MadeP w) := by
  obtain ⟨i0, hi0, hz0, hz1, hz2⟩ := info_parts' infoM
  have HN := Lib.hid h
  clear h
  go_enter Try.func9, Try.ntmps9
  go_wp2_with fail
  obtain ⟨W4, hW4⟩ : ∃ W4, ((w.alloc (.cells #[.int .i64 a, .int .i64 b, .slice x len cap] 24)).alloc (.cells #[.int .i64 0, .int .i64 0, .slice none 0 0] 28)).alloc (.cells #[.int .i64 a, .int .i64 b, .slice none 0 0] 61) = W4 := ⟨_, rfl⟩
  rw [hW4]
  have hB4 : Hid (Below w.heap.size w W4) := by rw [← hW4]; exact (((Below.refl _ w).alloc (Nat.le_refl _) _).alloc (by simp) _).alloc (by simp; omega) _
  have hN4 : Hid (W4.heap[w.heap.size]? = some (.cells #[.int .i64 a, .int .i64 b, .slice x len cap] 24 (0, 0))) := by
    rw [← hW4]; exact (Below.heap_alloc _ _ _ (by simp; omega)).trans ((Below.heap_alloc _ _ _ (by simp)).trans (bx_new _ _ _))
  have hZ4 : Hid (W4.heap[w.heap.size + 1]? = some (.cells #[.int .i64 0, .int .i64 0, .slice none 0 0] 28 (0, 0))) := by
    rw [← hW4]; exact (Below.heap_alloc _ _ _ (by simp)).trans (heap_at _ _ _ (by simp))
  have hX4 : Hid (W4.heap[w.heap.size + 1 + 1]? = some (.cells #[.int .i64 a, .int .i64 b, .slice none 0 0] 61 (0, 0))) := by
    rw [← hW4]; exact heap_at _ _ _ (by simp)
  have hs4 : W4.heap.size = w.heap.size + 3 := by rw [← hW4]; simp
  clear hW4
  go_loopg [4] (min len 6) (fun gg kv wr => ∃ (kk : Nat) (tv : Value), kk ≤ min len 6 ∧ min len 6 - kk ≤ gg ∧ kv = .int .i64 (kk : Int) ∧
    Aside (CI (w.heap.size + 3) w wr q kk tv) ∧
    Aside (wr.heap[w.heap.size + 1 + 1]? = some (.cells #[.int .i64 a, .int .i64 b, tv] 61 (0, 0))) ∧
    Aside (wr.heap[w.heap.size]? = some (.cells #[.int .i64 a, .int .i64 b, .slice x len cap] 24 (0, 0))) ∧
    Aside (wr.heap[w.heap.size + 1]? = some (.cells #[.int .i64 0, .int .i64 0, .slice none 0 0] 28 (0, 0))))
  case atStart => exact ⟨0, .slice none 0 0, Nat.zero_le _, by omega, rfl, ⟨World.ownsRow_nil _ _ _ _, by omega, hB4.out⟩, hX4.out, hN4.out, hZ4.out⟩
  case round =>
    obtain ⟨kk, tv, g1, g2, rfl, hCI, hX, hN, hZ⟩ := hrel
    clear hX4 hN4 hZ4 hB4 hs4
    by_cases hlt : kk < min len 6
    · have kz1 : (kk : Int) < (len : Int) := by omega
      have kz2 : (kk : Int) < 6 := by omega
      have kz0 : (0 : Int) ≤ (kk : Int) := by omega
      obtain ⟨n0, n1, n2⟩ := bx_three hN.out
      obtain ⟨x0, x1, x2⟩ := bx_three hX.out
      have HNW := HN.out.below hCI.out.bw (Nat.le_refl _)
      obtain ⟨nb, no, rfl, hcs⟩ := HNW.ad (by omega)
      obtain ⟨m0, m1, m2, m3, m4, m5⟩ := hcs kk (by omega)
      have htk := Lib.hid (takes_snoc q kk (by have := HN.out.ln; omega))
      clear hcs HNW
      have hnb : nb < w.heap.size := World.block_lt_of_cell? w _ ((HN.out.ad (by omega)).elim fun b h => by obtain ⟨o, e, hc⟩ := h; cases e; exact (hc kk (by omega)).c0)
      generalize q.getD kk default = v at *
      have hsz' := hCI.out.sz
      have hkeep : ∀ w', Lo (w.heap.size + 3) wr w' → w'.cell? ⟨w.heap.size, 2, none⟩ = some (.slice (some ⟨nb, no, none⟩) len cap) ∧ w'.cell? ⟨nb, no + kk * 6, none⟩ = some (.int .i64 v.c) ∧ w'.cell? ⟨nb, no + kk * 6 + 1, none⟩ = some (.int .i64 v.d) ∧ w'.cell? ⟨nb, no + kk * 6 + 2, none⟩ = some (.int .i64 v.t) ∧ w'.cell? ⟨nb, no + kk * 6 + 3, none⟩ = some (.int .i64 v.p) ∧ w'.cell? ⟨nb, no + kk * 6 + 4, none⟩ = some (.int .i64 v.k) ∧ w'.cell? ⟨nb, no + kk * 6 + 5, none⟩ = some (.slice v.ua v.ul v.uc) :=
        fun w' h => ⟨h.cell (by simp) n2, h.cell (by simp; omega) m0, h.cell (by simp; omega) m1, h.cell (by simp; omega) m2, h.cell (by simp; omega) m3, h.cell (by simp; omega) m4, h.cell (by simp; omega) m5⟩
      have hLR : Lo (w.heap.size + 3) wr wr := Lo.refl hsz'
      have hob : ∀ j, tv.ownBlock = some j → w.heap.size + 3 ≤ j := fun j e => (hCI.out.own.lt j e).1
      have hd1 : ∀ o, Hid ((wr.alloc o).drew.ownsRow (w.heap.size + 3) 63 6 tv kk (flat6 (q.take kk))) := fun o => own_belowS hCI.out.own ((((Below.refl _ wr).alloc (Nat.le_refl _) o)).drew)
      have x2'' : ∀ o, (wr.alloc o).drew.cell? ⟨w.heap.size + 1 + 1, 2, none⟩ = some tv := fun o => ((((Below.refl _ wr).alloc (Nat.le_refl _) o).drew).cell (p := ⟨w.heap.size + 1 + 1, 2, none⟩) (World.block_lt_of_cell? _ _ x2)).trans x2
      have hbk : ∀ o w4, ((wr.alloc o).drew).grownBy w4 tv.ownBlock → ∀ j, j < w.heap.size + 3 → w4.heap[j]? = wr.heap[j]? := fun o w4 hg j hj => (hg.block j (by simp; omega) (fun e => by have := hob j e.symm; omega)).trans (Below.heap_alloc _ _ _ (by omega))
      have hXk : ∀ o w4, ((wr.alloc o).drew).grownBy w4 tv.ownBlock → w4.heap[w.heap.size + 1 + 1]? = some (.cells #[.int .i64 a, .int .i64 b, tv] 61 (0, 0)) := fun o w4 hg => (hbk o w4 hg _ (by omega)).trans hX.out
      have hLk : ∀ o w4, ((wr.alloc o).drew).grownBy w4 tv.ownBlock → Lo (w.heap.size + 3) wr w4 := fun o w4 hg => ⟨by have h2 := hg.size; simp at h2; omega, fun j hj => hbk o w4 hg j hj⟩
      have hkeep2 : ∀ w4 v', Lo (w.heap.size + 3) wr w4 → (w4.setCell ⟨w.heap.size + 1 + 1, 2, none⟩ v').cell? ⟨w.heap.size, 2, none⟩ = some (.slice (some ⟨nb, no, none⟩) len cap) ∧ (w4.setCell ⟨w.heap.size + 1 + 1, 2, none⟩ v').cell? ⟨nb, no + kk * 6, none⟩ = some (.int .i64 v.c) ∧ (w4.setCell ⟨w.heap.size + 1 + 1, 2, none⟩ v').cell? ⟨nb, no + kk * 6 + 1, none⟩ = some (.int .i64 v.d) ∧ (w4.setCell ⟨w.heap.size + 1 + 1, 2, none⟩ v').cell? ⟨nb, no + kk * 6 + 2, none⟩ = some (.int .i64 v.t) ∧ (w4.setCell ⟨w.heap.size + 1 + 1, 2, none⟩ v').cell? ⟨nb, no + kk * 6 + 3, none⟩ = some (.int .i64 v.p) ∧ (w4.setCell ⟨w.heap.size + 1 + 1, 2, none⟩ v').cell? ⟨nb, no + kk * 6 + 4, none⟩ = some (.int .i64 v.k) ∧ (w4.setCell ⟨w.heap.size + 1 + 1, 2, none⟩ v').cell? ⟨nb, no + kk * 6 + 5, none⟩ = some (.slice v.ua v.ul v.uc) :=
        fun w4 v' hl => by
          obtain ⟨k1, k3, k4, k5, k6, k7, k8⟩ := hkeep w4 hl
          have hz : ∀ (b o : Nat), b ≠ w.heap.size + 1 + 1 → (w4.setCell ⟨w.heap.size + 1 + 1, 2, none⟩ v').cell? ⟨b, o, none⟩ = w4.cell? ⟨b, o, none⟩ := fun b o hb => World.cell?_of_block (a := ⟨b, o, none⟩) (bx_other _ _ _ _ hb _)
          exact ⟨(hz _ _ (by omega)).trans k1, (hz _ _ (by omega)).trans k3, (hz _ _ (by omega)).trans k4, (hz _ _ (by omega)).trans k5, (hz _ _ (by omega)).trans k6, (hz _ _ (by omega)).trans k7, (hz _ _ (by omega)).trans k8⟩
      clear n0 n1 x0 x1
      go_wp2_with fail
      go_region_law
        (first
          | (refine Row0.step_append_sl (by rfl) (.tmp 22) (.tmp 28) 59 (by rfl) (w.heap.size + 3) 63 i0 (.agg #[.int .i64 0, .int .i64 0, .int .i64 0, .int .i64 0, .int .i64 0, .slice none 0 0]) 6 64 Try.underlying59 hi0 hz0 hz1 hz2 rfl (by decide) _ kk _ (by rfl) (hd1 _).out (some ⟨wr.heap.size, 0, none⟩) 1 1 [.int .i64 v.c, .int .i64 v.d, .int .i64 v.t, .int .i64 v.p, .int .i64 v.k, .slice v.ua v.ul v.uc] (by rfl) (fun e => by cases e) rfl (fun a e => by cases e; exact cells_new wr #[.int .i64 v.c, .int .i64 v.d, .int .i64 v.t, .int .i64 v.p, .int .i64 v.k, .slice v.ua v.ul v.uc] _) (vals6_one v) (by unfold maxLen; omega) (by omega) (Nat.le_trans hsz' (size_a _ _)) ?_; intro v' w4 hown' hgrow; obtain ⟨A', c', rfl⟩ := own_form hown'; have hL4 := hLk _ _ hgrow; have hX4 := hXk _ _ hgrow; have z2 := (bx_three hX4).2.2; have f2 := bx_free hX4 2))
      all_goals
        have hM4 : Hid (CI (w.heap.size + 3) w (w4.setCell ⟨w.heap.size + 1 + 1, 2, none⟩ (.slice A' (kk + 1) c')) q (kk + 1) (.slice A' (kk + 1) c')) := ⟨own_set (by rw [htk.out, flat6_snoc]; exact hown') (by omega) _ _, by have := hL4.size; simpa [World.setCell] using this, bx_below (((hCI.out.bw.alloc hCI.out.bw.size _).drew).grown hgrow (by have := hCI.out.bw.size; simp; omega) (fun j e => by have := hob j e; omega)) _ (by omega) _ _⟩
        have hX5 : Hid ((w4.setCell ⟨w.heap.size + 1 + 1, 2, none⟩ (.slice A' (kk + 1) c')).heap[w.heap.size + 1 + 1]? = some (.cells #[.int .i64 a, .int .i64 b, .slice A' (kk + 1) c'] 61 (0, 0))) := bx_threeI hX4 _
        have hN5 : Hid ((w4.setCell ⟨w.heap.size + 1 + 1, 2, none⟩ (.slice A' (kk + 1) c')).heap[w.heap.size]? = some (.cells #[.int .i64 a, .int .i64 b, .slice (some ⟨nb, no, none⟩) len cap] 24 (0, 0))) := (bx_other _ _ _ _ (by omega) _).trans ((hL4.block _ (by omega)).trans hN.out)
        have hZ5 : Hid ((w4.setCell ⟨w.heap.size + 1 + 1, 2, none⟩ (.slice A' (kk + 1) c')).heap[w.heap.size + 1]? = some (.cells #[.int .i64 0, .int .i64 0, .slice none 0 0] 28 (0, 0))) := (bx_other _ _ _ _ (by omega) _).trans ((hL4.block _ (by omega)).trans hZ.out)
        clear hkeep hkeep2 hbk hXk hLk hLR hd1 x2'' hob hown' hgrow z2 f2 hX4 hL4 hCI hX hN hZ hsz' hnb x2 n2 m0 m1 m2 m3 m4 m5 htk
        go_wp2
        go_roundg (min len 6 - (kk + 1))
        case measure => omega
        case rel => exact ⟨kk + 1, _, by omega, by omega, by go_num, hM4.out, hX5.out, hN5.out, hZ5.out⟩
    · have hk6 : kk ≤ 6 := by omega
      have hrow : ∀ v ∈ q.take kk, Row0.IsRow .i64 wr v.ua v.ul v.uc v.uz := fun v hv => isRow_below (HN.out.rd v (List.mem_of_mem_take hv)) hCI.out.bw (Nat.le_refl _)
      obtain ⟨A, c, rfl, hrt, h1c, h2c⟩ := own_rdN hCI.out.own hrow
      have hsz := hCI.out.sz
      have HRT := Lib.hid hrt
      have HBW := Lib.hid hCI.out.bw
      obtain ⟨x0, x1, x2⟩ := bx_three hX.out
      obtain ⟨z0, z1, z2⟩ := bx_three hZ.out
      have f0 := bx_free hZ.out 0
      have f1 := bx_free hZ.out 1
      have f2 := bx_free hZ.out 2
      have hZo := Lib.hid hZ.out
      clear z0 z1 z2 f0 f1 f2
      obtain ⟨n0, n1, n2⟩ := bx_three hN.out
      have HI : Hid (¬ (kk : Int) < (len : Int) ∨ ((kk : Int) < (len : Int) ∧ ¬ (kk : Int) < 6)) := by
        rw [RowKit.Hid]; omega
      clear hrt hrow hX hN hZ hCI hlt g1 g2
      rcases HI.out with hl1 | ⟨hl1, hl2⟩
      all_goals
        clear HI
        go_wp2_with fail
        refine (rmade_any a b A kk c (q.take kk) wr HRT.out h1c h2c).mono ?_
        rintro e w5 ⟨S, R, A2, n2', c2, q2, rfl, hok, hb5⟩
        have hZ5 : w5.heap[w.heap.size + 1]? = some (.cells #[.int .i64 0, .int .i64 0, .slice none 0 0] 28 (0, 0)) := (hb5.block _ (by omega)).trans hZo.out
        obtain ⟨z0, z1, z2⟩ := bx_three hZ5
        have f0 := bx_free hZ5 0
        have f1 := bx_free hZ5 1
        have f2 := bx_free hZ5 2
        have Q9 := Lib.hid (bx_three (bx_set3 hZ5 (.int .i64 (S : Int)) (.int .i64 R) (.slice A2 n2' c2)))
        have HF : Hid (MadeP w (.returned (.agg #[.int .i64 (S : Int), .int .i64 R, .slice A2 n2' c2])) (put3 w5 (w.heap.size + 1) (.int .i64 (S : Int)) (.int .i64 R) (.slice A2 n2' c2))) := by
          have hkk : ∀ a, wr.heap.size ≤ a → (put3 w5 (w.heap.size + 1) (.int .i64 (S : Int)) (.int .i64 R) (.slice A2 n2' c2)).heap[a]? = w5.heap[a]? := fun a h => put3_other _ _ _ (by omega) _ _ _
          exact ⟨S, R, A2, n2', c2, q2, rfl, (hok.kept (by rw [put3_size]; exact Nat.le_refl _) fun j h1 _ => hkk j h1).base HBW.out.size, put3_below (HBW.out.trans (hb5.mono HBW.out.size)) _ (by omega) _ _ _⟩
        clear hok hb5 hZ5 hZo HRT HBW n0 n1 n2 x0 x1 x2
        go_wp2
        obtain ⟨q0, q1, q2⟩ := Q9.out
        refine bodyPost_ret (v := .agg #[.int .i64 (S : Int), .int .i64 R, .slice A2 n2' c2]) ?_ rfl HF.out
        simp [results, Try.results9, go_sem, q0, q1, q2]
end Go.Proofs.Ytdmfdgadhobkpaa.Sys
