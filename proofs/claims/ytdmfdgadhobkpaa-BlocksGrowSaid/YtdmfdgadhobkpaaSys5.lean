/-
  Systems by numbers: the reference's Made.
-/
import Derived.Test.YtdmfdgadhobkpaaSys4
import Derived.Test.YtdmfdgadhobkpaaApp2
import Derived.Deep.RegionLaw
namespace Go.Proofs.Ytdmfdgadhobkpaa.Sys
open Go.RowKit Go.Proofs.Ytdmfdgadhobkpaa.Box

theorem infoT : (Try.prog.info? 36).map (fun i => (i.zero, i.size, i.bytes)) = some (some (.agg #[.int .i64 0, .int .i64 0, .int .i64 0, .int .i64 0, .int .i64 0, .slice none 0 0, .slice none 0 0]), 7, 88) := by kernel_rfl
/-- A task of its place. -/
theorem task_at (v : Row0.NumV) (i : Nat) (hi : i < 6) (S : Nat) (h1 : 1 ≤ S) (h2 : S ≤ 8) (w : World) (hr : Row0.IsRow .i64 w v.ua v.ul v.uc v.uz) :
    Calls Try.prog 44 #[numV v, .int .i64 (i : Int), .int .i64 (S : Int)] w fun e w' => ∃ r : RT, e = .returned r.val ∧ r.Rd w' ∧ TOk i (S : Int) r.x ∧ (∀ a, r.ca = some a ∨ r.ua = some a → w.heap.size ≤ a.block ∧ a.block < w'.heap.size) ∧ Below w.heap.size w w' :=
  (task_any v i hi S h1 h2 w hr).mono fun e w' ⟨u, x, he, ⟨ok, ca, cl, cc, ua, ul, uc, hu, r1, r2, f1, f2, a1, a2, a3, a4, a5, a6⟩, hb⟩ =>
    ⟨⟨x, ca, cl, cc, ua, ul, uc⟩, by rw [he, hu]; rfl, ⟨⟨r1, a1, a2, a5⟩, r2, a3, a4, a6⟩, ok, fun a h => h.elim (f1 a) (f2 a), hb⟩
/-- What holds of the tasks that were made so far. -/
structure MI (B : Nat) (S : Nat) (w wr : World) (kk : Nat) (tv : Value) (ts : List RT) : Prop where
  rd : ∀ r ∈ ts, r.Rd wr
  ok : ∀ i, i < kk → TOk i (S : Int) (ts.getD i default).x
  own : wr.ownsRow B 36 7 tv kk (flat7 ts)
  fr : ∀ r ∈ ts, ∀ a, r.ca = some a ∨ r.ua = some a → tv.ownBlock ≠ some a.block ∧ B ≤ a.block ∧ a.block < wr.heap.size
  sz : B ≤ wr.heap.size
  ln : ts.length = kk
theorem MI.next {B S kk : Nat} {w wr w1 w4 : World} {tv v' : Value} {ts : List RT} {r : RT} {o : Obj} (h : MI B S w wr kk tv ts) (hb : Below wr.heap.size wr w1) (hr1 : r.Rd w1) (hr2 : TOk kk (S : Int) r.x)
    (hf : ∀ a, r.ca = some a ∨ r.ua = some a → wr.heap.size ≤ a.block ∧ a.block < w1.heap.size) (hown : w4.ownsRow B 36 7 v' (kk + 1) (flat7 ts ++ r.vals.toList)) (hg : (w1.alloc o).grownBy w4 tv.ownBlock)
    (hat : v'.ownBlock = tv.ownBlock ∨ v'.ownBlock = some (w1.alloc o).heap.size) (p k : Nat) (hp : p < B) (x : Value) : MI B S w (w4.setCell ⟨p, k, none⟩ x) (kk + 1) v' (ts ++ [r]) := by
  have hs1 := hb.size
  have hs2 := hg.size
  have hs3 : (w1.alloc o).heap.size = w1.heap.size + 1 := by simp
  have hol := fun j (e : tv.ownBlock = some j) => h.own.lt j e
  have hsz := h.sz
  have hold : ∀ r' ∈ ts, ∀ a, r'.ca = some a ∨ r'.ua = some a → (w4.setCell ⟨p, k, none⟩ x).heap[a.block]? = wr.heap[a.block]? := fun r' hr' a ha => by
    obtain ⟨f1, f2, f3⟩ := h.fr r' hr' a ha
    exact (bx_other _ _ _ _ (by omega) _).trans ((hg.block _ (by omega) (fun e => f1 e.symm)).trans ((Below.heap_alloc _ _ _ (by omega)).trans (hb.block _ f3)))
  have hnew : ∀ a, r.ca = some a ∨ r.ua = some a → (w4.setCell ⟨p, k, none⟩ x).heap[a.block]? = w1.heap[a.block]? := fun a ha => by
    obtain ⟨f1, f2⟩ := hf a ha
    exact (bx_other _ _ _ _ (by omega) _).trans ((hg.block _ (by omega) (fun e => by have := hol _ e.symm; omega)).trans (Below.heap_alloc _ _ _ (by omega)))
  have hsz4 : (w4.setCell ⟨p, k, none⟩ x).heap.size = w4.heap.size := by simp [World.setCell]
  refine ⟨fun r' hr' => ?_, fun i hi => ?_, own_set (by rw [flat7_snoc]; exact hown) hp _ _, fun r' hr' a ha => ?_, by omega, by rw [List.length_append, h.ln]; rfl⟩
  · rcases List.mem_append.1 hr' with h1 | h1
    · exact (h.rd r' h1).kept (hold r' h1)
    · simp at h1; subst h1; exact hr1.kept hnew
  · rw [rt_getD_snoc _ _ _ (by rw [h.ln]; omega), h.ln]
    by_cases hk : i < kk
    · rw [if_pos hk]; exact h.ok i hk
    · rw [if_neg hk]
      obtain rfl : i = kk := by omega
      exact hr2
  · rcases List.mem_append.1 hr' with h1 | h1
    · obtain ⟨f1, f2, f3⟩ := h.fr r' h1 a ha
      refine ⟨fun e => ?_, f2, by omega⟩
      rcases hat with h2 | h2
      · exact f1 (h2.symm.trans e)
      · rw [h2] at e; injection e with e; omega
    · simp at h1; subst h1
      obtain ⟨f1, f2⟩ := hf a ha
      refine ⟨fun e => ?_, by omega, by omega⟩
      rcases hat with h2 | h2
      · have := hol _ (h2.symm.trans e); omega
      · rw [h2] at e; injection e with e; omega
def MadeP (w : World) (e : Ending) (w' : World) : Prop := ∃ (S : Nat) (R : Int) (A : Option Addr) (n c : Nat) (q : List RT), e = .returned (.agg #[.int .i64 (S : Int), .int .i64 R, .slice A n c]) ∧ SysOk w' w.heap.size S R A n c q ∧ Below w.heap.size w w'
theorem bx_threeI {w : World} {b : Nat} {x y z : Value} {t : TypeId} (h : w.heap[b]? = some (.cells #[x, y, z] t (0, 0))) (v : Value) : (w.setCell ⟨b, 2, none⟩ v).heap[b]? = some (.cells #[x, y, v] t (0, 0)) := by
  have h1 := Lib.heap_setCell_same (i := 2) h v
  rw [h1]
  simp
def put3 (w : World) (b : Nat) (x y z : Value) : World := ((w.setCell ⟨b, 0, none⟩ x).setCell ⟨b, 1, none⟩ y).setCell ⟨b, 2, none⟩ z
theorem put3_other (w : World) (b j : Nat) (hj : j ≠ b) (x y z : Value) : (put3 w b x y z).heap[j]? = w.heap[j]? := (bx_other _ _ _ _ hj _).trans ((bx_other _ _ _ _ hj _).trans (bx_other _ _ _ _ hj _))
theorem put3_below {B : Nat} {w w' : World} (h : Below B w w') (b : Nat) (hb : B ≤ b) (x y z : Value) : Below B w (put3 w' b x y z) := bx_below (bx_below (bx_below h _ hb _ _) _ hb _ _) _ hb _ _
theorem put3_size (w : World) (b : Nat) (x y z : Value) : (put3 w b x y z).heap.size = w.heap.size := by simp [put3, World.setCell]
set_option maxHeartbeats 8000000 in
set_option maxRecDepth 100000 in
theorem rmade_any (a b : Int) (x : Option Addr) (len cap : Nat) (q : List Row0.NumV) (w : World) (h : RdN w x len q) (hlc : len ≤ cap) (hcm : cap ≤ 9223372036854775807) :
    Calls Try.prog 24 #[.agg #[.int .i64 a, .int .i64 b, .slice x len cap]] w (MadeP w) := by
  obtain ⟨i0, hi0, hz0, hz1, hz2⟩ := info_parts' infoT
  have HN := Lib.hid h
  clear h
  have hd0 := Int.emod_nonneg a (show (8 : Int) ≠ 0 by omega)
  have hd1 := Int.emod_lt_of_pos a (show (0 : Int) < 8 by omega)
  obtain ⟨S, hS, S1, S2⟩ : ∃ S : Nat, 1 + a % 8 = (S : Int) ∧ 1 ≤ S ∧ S ≤ 8 := ⟨(1 + a % 8).toNat, by omega, by omega, by omega⟩
  have hwS : IntKind.i64.wrap (S : Int) = (S : Int) := by rw [IntKind.wrap_i64]; omega
  have hb0 := Int.emod_nonneg b (show (4 : Int) ≠ 0 by omega)
  have hb1 := Int.emod_lt_of_pos b (show (0 : Int) < 4 by omega)
  have eb := Row0.and_i64 b 2 (by decide) 3 rfl
  obtain ⟨R, hR, R0, R3⟩ : ∃ R, Go.bits .and .i64 b 3 = R ∧ 0 ≤ R ∧ R ≤ 3 := ⟨_, eb, hb0, by omega⟩
  clear hd0 hd1 hb0 hb1 eb
  have c1 := fun w => rest_any a 8 (by omega) (by omega) w
  go_enter Try.func24, Try.ntmps24
  go_wp2_with fail
  go_region_held3 (fun w' => w'.cell? ⟨w.heap.size, 0, none⟩ = some (.int .i64 a) ∧ w'.cell? ⟨w.heap.size, 1, none⟩ = some (.int .i64 b)) (go_keep)
    (first | (go_at_call 43; refine (c1 _).mono ?_; rintro e w' ⟨rfl, rfl⟩))
  all_goals
    obtain ⟨W4, hW4⟩ : ∃ W4, (((w.alloc (.cells #[.int .i64 a, .int .i64 b, .slice x len cap] 61)).alloc (.cells #[.int .i64 0, .int .i64 0, .slice none 0 0] 28)).alloc (.cells #[.int .i64 (S : Int), .int .i64 R, .slice none 0 0] 28)).drew = W4 := ⟨_, rfl⟩
    rw [hW4]
    have hB4 : Hid (Below w.heap.size w W4) := by rw [← hW4]; exact ((((Below.refl _ w).alloc (Nat.le_refl _) _).alloc (by simp) _).alloc (by simp; omega) _).drew
    have hN4 : Hid (W4.heap[w.heap.size]? = some (.cells #[.int .i64 a, .int .i64 b, .slice x len cap] 61 (0, 0))) := by
      rw [← hW4]; exact (Below.heap_alloc _ _ _ (by simp; omega)).trans ((Below.heap_alloc _ _ _ (by simp)).trans (bx_new _ _ _))
    have hZ4 : Hid (W4.heap[w.heap.size + 1]? = some (.cells #[.int .i64 0, .int .i64 0, .slice none 0 0] 28 (0, 0))) := by
      rw [← hW4]; exact (Below.heap_alloc _ _ _ (by simp)).trans (heap_at _ _ _ (by simp))
    have hX4 : Hid (W4.heap[w.heap.size + 1 + 1]? = some (.cells #[.int .i64 (S : Int), .int .i64 R, .slice none 0 0] 28 (0, 0))) := by
      rw [← hW4]; exact heap_at _ _ _ (by simp)
    have hs4 : W4.heap.size = w.heap.size + 3 := by rw [← hW4]; simp
    clear hW4 c1 hS hR hwS
    go_wp2_with fail
    go_loopg [4] (min len 6) (fun gg kv wr => ∃ (kk : Nat) (tv : Value) (ts : List RT), kk ≤ min len 6 ∧ min len 6 - kk ≤ gg ∧ kv = .int .i64 (kk : Int) ∧
      Aside (MI (w.heap.size + 3) S w wr kk tv ts) ∧
      Aside (wr.heap[w.heap.size + 1 + 1]? = some (.cells #[.int .i64 (S : Int), .int .i64 R, tv] 28 (0, 0))) ∧
      Aside (wr.heap[w.heap.size]? = some (.cells #[.int .i64 a, .int .i64 b, .slice x len cap] 61 (0, 0))) ∧
      Aside (wr.heap[w.heap.size + 1]? = some (.cells #[.int .i64 0, .int .i64 0, .slice none 0 0] 28 (0, 0))) ∧ Aside (Below w.heap.size w wr))
    case atStart => exact ⟨0, .slice none 0 0, [], Nat.zero_le _, by omega, rfl, ⟨(fun x h => by cases h), (fun i h => absurd h (Nat.not_lt_zero _)), World.ownsRow_nil _ _ _ _, (fun x h => by cases h), by omega, rfl⟩, hX4.out, hN4.out, hZ4.out, hB4.out⟩
    case round =>
      obtain ⟨kk, tv, ts, g1, g2, rfl, hMI, hX, hN, hZ, BW⟩ := hrel
      clear hX4 hN4 hZ4 hB4 hs4
      by_cases hlt : kk < min len 6
      · have kz1 : (kk : Int) < (len : Int) := by omega
        have kz2 : (kk : Int) < 6 := by omega
        have kz0 : (0 : Int) ≤ (kk : Int) := by omega
        obtain ⟨n0, n1, n2⟩ := bx_three hN.out
        obtain ⟨x0, x1, x2⟩ := bx_three hX.out
        have HNW := HN.out.below BW.out (Nat.le_refl _)
        obtain ⟨nb, no, rfl, hcs⟩ := HNW.ad (by omega)
        obtain ⟨m0, m1, m2, m3, m4, m5⟩ := hcs kk (by omega)
        have hrow := HNW.getRow (j := kk) (by omega)
        clear hcs HNW
        generalize q.getD kk default = v at *
        have hcall := fun w2 h => task_at v kk (by omega) S S1 S2 w2 h
        unfold numV RT.val RT.vals taskCells at hcall
        have hrowd : Row0.IsRow .i64 wr.drew v.ua v.ul v.uc v.uz := hrow
        have hsz' := hMI.out.sz
        have hLR : Lo (w.heap.size + 3) wr wr := Lo.refl hsz'
        have hnb : nb < w.heap.size := World.block_lt_of_cell? w _ ((HN.out.ad (by omega)).elim fun b h => by obtain ⟨o, e, hc⟩ := h; cases e; exact (hc kk (by omega)).c0)
        have hkeep : ∀ w', Lo (w.heap.size + 3) wr w' → w'.cell? ⟨w.heap.size, 2, none⟩ = some (.slice (some ⟨nb, no, none⟩) len cap) ∧ w'.cell? ⟨w.heap.size + 1 + 1, 0, none⟩ = some (.int .i64 (S : Int)) ∧ w'.cell? ⟨nb, no + kk * 6, none⟩ = some (.int .i64 v.c) ∧ w'.cell? ⟨nb, no + kk * 6 + 1, none⟩ = some (.int .i64 v.d) ∧ w'.cell? ⟨nb, no + kk * 6 + 2, none⟩ = some (.int .i64 v.t) ∧ w'.cell? ⟨nb, no + kk * 6 + 3, none⟩ = some (.int .i64 v.p) ∧ w'.cell? ⟨nb, no + kk * 6 + 4, none⟩ = some (.int .i64 v.k) ∧ w'.cell? ⟨nb, no + kk * 6 + 5, none⟩ = some (.slice v.ua v.ul v.uc) :=
          fun w' h => ⟨h.cell (by simp) n2, h.cell (by simp) x0, h.cell (by simp; omega) m0, h.cell (by simp; omega) m1, h.cell (by simp; omega) m2, h.cell (by simp; omega) m3, h.cell (by simp; omega) m4, h.cell (by simp; omega) m5⟩
        have hob : ∀ j, tv.ownBlock = some j → w.heap.size + 3 ≤ j := fun j e => (hMI.out.own.lt j e).1
        have hOb : ∀ w1 : World, Below wr.heap.size wr w1 → ∀ o, Hid ((w1.alloc o).ownsRow (w.heap.size + 3) 36 7 tv kk (flat7 ts)) := fun w1 hb o => own_belowS hMI.out.own (hb.alloc hb.size o)
        have hbk : ∀ w1 : World, Below wr.heap.size wr w1 → ∀ o w4, (w1.alloc o).grownBy w4 tv.ownBlock → ∀ j, j < w.heap.size + 3 → w4.heap[j]? = wr.heap[j]? := fun w1 hb o w4 hg j hj => (hg.block j (by have := hb.size; simp; omega) (fun e => by have := hob j e.symm; omega)).trans ((Below.heap_alloc _ _ _ (by have := hb.size; omega)).trans (hb.block j (by omega)))
        have hXk : ∀ w1 : World, Below wr.heap.size wr w1 → ∀ o w4, (w1.alloc o).grownBy w4 tv.ownBlock → w4.heap[w.heap.size + 1 + 1]? = some (.cells #[.int .i64 (S : Int), .int .i64 R, tv] 28 (0, 0)) := fun w1 hb o w4 hg => (hbk w1 hb o w4 hg _ (by omega)).trans hX.out
        have hLk : ∀ w1 : World, Below wr.heap.size wr w1 → ∀ o w4, (w1.alloc o).grownBy w4 tv.ownBlock → Lo (w.heap.size + 3) wr w4 := fun w1 hb o w4 hg => ⟨by have h1 := hb.size; have h2 := hg.size; simp at h2; omega, fun j hj => hbk w1 hb o w4 hg j hj⟩
        have hkeep2 : ∀ w4 v', Lo (w.heap.size + 3) wr w4 → w4.heap[w.heap.size + 1 + 1]? = some (.cells #[.int .i64 (S : Int), .int .i64 R, tv] 28 (0, 0)) → (w4.setCell ⟨w.heap.size + 1 + 1, 2, none⟩ v').cell? ⟨w.heap.size, 2, none⟩ = some (.slice (some ⟨nb, no, none⟩) len cap) ∧ (w4.setCell ⟨w.heap.size + 1 + 1, 2, none⟩ v').cell? ⟨w.heap.size + 1 + 1, 0, none⟩ = some (.int .i64 (S : Int)) ∧ (w4.setCell ⟨w.heap.size + 1 + 1, 2, none⟩ v').cell? ⟨nb, no + kk * 6, none⟩ = some (.int .i64 v.c) ∧ (w4.setCell ⟨w.heap.size + 1 + 1, 2, none⟩ v').cell? ⟨nb, no + kk * 6 + 1, none⟩ = some (.int .i64 v.d) ∧ (w4.setCell ⟨w.heap.size + 1 + 1, 2, none⟩ v').cell? ⟨nb, no + kk * 6 + 2, none⟩ = some (.int .i64 v.t) ∧ (w4.setCell ⟨w.heap.size + 1 + 1, 2, none⟩ v').cell? ⟨nb, no + kk * 6 + 3, none⟩ = some (.int .i64 v.p) ∧ (w4.setCell ⟨w.heap.size + 1 + 1, 2, none⟩ v').cell? ⟨nb, no + kk * 6 + 4, none⟩ = some (.int .i64 v.k) ∧ (w4.setCell ⟨w.heap.size + 1 + 1, 2, none⟩ v').cell? ⟨nb, no + kk * 6 + 5, none⟩ = some (.slice v.ua v.ul v.uc) :=
          fun w4 v' hl hx => by
            obtain ⟨k1, k2, k3, k4, k5, k6, k7, k8⟩ := hkeep w4 hl
            have hz : ∀ (b o : Nat), b ≠ w.heap.size + 1 + 1 → (w4.setCell ⟨w.heap.size + 1 + 1, 2, none⟩ v').cell? ⟨b, o, none⟩ = w4.cell? ⟨b, o, none⟩ := fun b o hb => World.cell?_of_block (a := ⟨b, o, none⟩) (bx_other _ _ _ _ hb _)
            exact ⟨(hz _ _ (by omega)).trans k1, (bx_three (bx_threeI hx v')).1, (hz _ _ (by omega)).trans k3, (hz _ _ (by omega)).trans k4, (hz _ _ (by omega)).trans k5, (hz _ _ (by omega)).trans k6, (hz _ _ (by omega)).trans k7, (hz _ _ (by omega)).trans k8⟩
        clear n0 n1 x1
        go_wp2_with fail
        go_region_law
          (first
            | (refine Row0.step_append_at (by rfl) (.tmp 25) (.tmp 35) 26 (by rfl) (w.heap.size + 3) 36 i0 (.agg #[.int .i64 0, .int .i64 0, .int .i64 0, .int .i64 0, .int .i64 0, .slice none 0 0, .slice none 0 0]) 7 88 Try.underlying26 hi0 hz0 hz1 hz2 rfl (by decide) _ kk _ (by rfl) (hd1 _).out ⟨w1.heap.size, 0, none⟩ 1 1 [.int .i64 r.x.id, .int .i64 r.x.c, .int .i64 r.x.d, .int .i64 r.x.t, .int .i64 r.x.prio, .slice r.ca r.cl r.cc, .slice r.ua r.ul r.uc] (by rfl) rfl (cells_newp w1 #[.int .i64 r.x.id, .int .i64 r.x.c, .int .i64 r.x.d, .int .i64 r.x.t, .int .i64 r.x.prio, .slice r.ca r.cl r.cc, .slice r.ua r.ul r.uc] _) (vals_one r) (by unfold maxLen; omega) (by omega) (Nat.le_trans hz8 (size_a _ _)) ?_; intro v' w4 hown' hgrow hat0; have hat := Lib.hid hat0; clear hat0; obtain ⟨A', c', rfl⟩ := own_form hown'; have hL4 := hLk _ hb1' _ _ hgrow; have hX4 := hXk _ hb1' _ _ hgrow; have z2 := (bx_three hX4).2.2; have f2 := bx_free hX4 2)
            | (go_simp; go_at_call 44; (first | with_reducible refine (hcall wr.drew hrowd).mono ?_ | with_reducible refine (hcall wr hrow).mono ?_); rintro e w1 ⟨r, rfl, hr1, hr2, hr3, hb1⟩; have hb1' := below_undrew hb1; have hL1 := hLR.below hb1' hsz'; have hd1 := hOb w1 hb1'; have hz8 := hL1.size; have x2' : w1.cell? ⟨w.heap.size + 1 + 1, 2, none⟩ = some tv := (hb1'.cell (p := ⟨w.heap.size + 1 + 1, 2, none⟩) (World.block_lt_of_cell? _ _ x2)).trans x2; have x2'' : ∀ o, (w1.alloc o).cell? ⟨w.heap.size + 1 + 1, 2, none⟩ = some tv := fun o => ((hb1'.alloc hb1'.size o).cell (p := ⟨w.heap.size + 1 + 1, 2, none⟩) (World.block_lt_of_cell? _ _ x2)).trans x2))
        all_goals
          have hM4 : Hid (MI (w.heap.size + 3) S w (w4.setCell ⟨w.heap.size + 1 + 1, 2, none⟩ (.slice A' (kk + 1) c')) (kk + 1) (.slice A' (kk + 1) c') (ts ++ [r])) := hMI.out.next hb1' hr1 hr2 hr3 hown' hgrow hat.out _ _ (by omega) _
          have hX5 : Hid ((w4.setCell ⟨w.heap.size + 1 + 1, 2, none⟩ (.slice A' (kk + 1) c')).heap[w.heap.size + 1 + 1]? = some (.cells #[.int .i64 (S : Int), .int .i64 R, .slice A' (kk + 1) c'] 28 (0, 0))) := bx_threeI hX4 _
          have hN5 : Hid ((w4.setCell ⟨w.heap.size + 1 + 1, 2, none⟩ (.slice A' (kk + 1) c')).heap[w.heap.size]? = some (.cells #[.int .i64 a, .int .i64 b, .slice (some ⟨nb, no, none⟩) len cap] 61 (0, 0))) := (bx_other _ _ _ _ (by omega) _).trans ((hL4.block _ (by omega)).trans hN.out)
          have hZ5 : Hid ((w4.setCell ⟨w.heap.size + 1 + 1, 2, none⟩ (.slice A' (kk + 1) c')).heap[w.heap.size + 1]? = some (.cells #[.int .i64 0, .int .i64 0, .slice none 0 0] 28 (0, 0))) := (bx_other _ _ _ _ (by omega) _).trans ((hL4.block _ (by omega)).trans hZ.out)
          have hB5 : Hid (Below w.heap.size w (w4.setCell ⟨w.heap.size + 1 + 1, 2, none⟩ (.slice A' (kk + 1) c'))) := bx_below ((((BW.out.trans (hb1'.mono BW.out.size)).alloc (Nat.le_trans BW.out.size hb1'.size) _)).grown hgrow (by have := BW.out.size; have := hb1'.size; simp; omega) (fun j e => by have := hob j e; omega)) _ (by omega) _ _
          clear hkeep hkeep2 hbk hXk hLk hcall hrow hrowd hLR hd1 x2' x2'' hOb hob hown' hgrow hat z2 f2 hX4 hL4 hL1 hb1 hb1' hr1 hr2 hr3 hMI hX hN hZ BW hz8 hsz' hnb x0 x2 n2 m0 m1 m2 m3 m4 m5
          go_wp2
          go_roundg (min len 6 - (kk + 1))
          case measure => omega
          case rel => exact ⟨kk + 1, _, _, by omega, by omega, by go_num, hM4.out, hX5.out, hN5.out, hZ5.out, hB5.out⟩
      · have HI : Hid (kk = min len 6) := by rw [RowKit.Hid]; omega
        obtain ⟨A, c, rfl, hrt, h1c, h2c, hfr, _⟩ := own_rdT hMI.out.own hMI.out.rd
        have hsz := hMI.out.sz
        obtain ⟨n0, n1, n2⟩ := bx_three hN.out
        obtain ⟨x0, x1, x2⟩ := bx_three hX.out
        obtain ⟨z0, z1, z2⟩ := bx_three hZ.out
        have f0 := bx_free hZ.out 0
        have f1 := bx_free hZ.out 1
        have f2 := bx_free hZ.out 2
        by_cases hk0 : kk = 0
        · subst hk0
          obtain rfl : len = 0 := by have := HI.out; omega
          have g2 := bx_free hX.out 2
          have hp1 : w.heap.size + 1 + 1 < wr.heap.size := by omega
          have hX6 : ((wr.setCell ⟨w.heap.size + 1 + 1, 2, none⟩ (.slice (some ⟨wr.heap.size, 0, none⟩) 1 1)).alloc (.cells #[.int .i64 1, .int .i64 1, .int .i64 4, .int .i64 4, .int .i64 10, .slice none 0 0, .slice none 0 0] 36)).heap[w.heap.size + 1 + 1]? = some (.cells #[.int .i64 (S : Int), .int .i64 R, (.slice (some ⟨wr.heap.size, 0, none⟩) 1 1)] 28 (0, 0)) := (Below.heap_alloc _ _ _ (by simp [World.setCell]; omega)).trans (bx_threeI hX.out _)
          have hZ6 : ((wr.setCell ⟨w.heap.size + 1 + 1, 2, none⟩ (.slice (some ⟨wr.heap.size, 0, none⟩) 1 1)).alloc (.cells #[.int .i64 1, .int .i64 1, .int .i64 4, .int .i64 4, .int .i64 10, .slice none 0 0, .slice none 0 0] 36)).heap[w.heap.size + 1]? = some (.cells #[.int .i64 0, .int .i64 0, .slice none 0 0] 28 (0, 0)) := (Below.heap_alloc _ _ _ (by simp [World.setCell]; omega)).trans ((bx_other _ _ _ _ (by omega) _).trans hZ.out)
          have hR6 : ((wr.setCell ⟨w.heap.size + 1 + 1, 2, none⟩ (.slice (some ⟨wr.heap.size, 0, none⟩) 1 1)).alloc (.cells #[.int .i64 1, .int .i64 1, .int .i64 4, .int .i64 4, .int .i64 10, .slice none 0 0, .slice none 0 0] 36)).heap[wr.heap.size]? = some (.cells #[.int .i64 1, .int .i64 1, .int .i64 4, .int .i64 4, .int .i64 10, .slice none 0 0, .slice none 0 0] 36) := heap_at _ _ _ (by simp [World.setCell])
          obtain ⟨i0', i1', i2'⟩ := bx_three hX6
          obtain ⟨j0', j1', j2'⟩ := bx_three hZ6
          have k0' := bx_free hZ6 0
          have k1' := bx_free hZ6 1
          have k2' := bx_free hZ6 2
          have Q9 := Lib.hid (bx_three (bx_set3 hZ6 (.int .i64 (S : Int)) (.int .i64 R) (.slice (some ⟨wr.heap.size, 0, none⟩) 1 1)))
          have HF : Hid (MadeP w (.returned (.agg #[.int .i64 (S : Int), .int .i64 R, (.slice (some ⟨wr.heap.size, 0, none⟩) 1 1)])) (put3 ((wr.setCell ⟨w.heap.size + 1 + 1, 2, none⟩ (.slice (some ⟨wr.heap.size, 0, none⟩) 1 1)).alloc (.cells #[.int .i64 1, .int .i64 1, .int .i64 4, .int .i64 4, .int .i64 10, .slice none 0 0, .slice none 0 0] 36)) (w.heap.size + 1) (.int .i64 (S : Int)) (.int .i64 R) (.slice (some ⟨wr.heap.size, 0, none⟩) 1 1))) := by
            have hR7 : (put3 ((wr.setCell ⟨w.heap.size + 1 + 1, 2, none⟩ (.slice (some ⟨wr.heap.size, 0, none⟩) 1 1)).alloc (.cells #[.int .i64 1, .int .i64 1, .int .i64 4, .int .i64 4, .int .i64 10, .slice none 0 0, .slice none 0 0] 36)) (w.heap.size + 1) (.int .i64 (S : Int)) (.int .i64 R) (.slice (some ⟨wr.heap.size, 0, none⟩) 1 1)).heap[wr.heap.size]? = some (.cells #[.int .i64 1, .int .i64 1, .int .i64 4, .int .i64 4, .int .i64 10, .slice none 0 0, .slice none 0 0] 36) := (put3_other _ _ _ (by omega) _ _ _).trans hR6
            obtain ⟨e0, e1, e2, e3, e4, e5, e6⟩ := bx_seven (x := .slice none 0 0) (y := .slice none 0 0) hR7
            refine ⟨S, R, _, 1, 1, [⟨⟨1, 1, 4, 4, 10, [], []⟩, none, 0, 0, none, 0, 0⟩], rfl, ⟨S1, S2, R0, R3, Nat.le_refl _, by decide, Nat.le_refl _, by decide, ⟨rfl, fun _ => ⟨_, 0, rfl, fun j hj => ?_⟩, fun r hr => ?_⟩, fun i hi => ?_, fun a e => ?_, fun r hr a ha => ?_⟩, ?_⟩
            · obtain rfl : j = 0 := by omega
              exact ⟨e0, e1, e2, e3, e4, e5, e6⟩
            · simp at hr; subst hr
              exact ⟨⟨⟨rfl, fun h => absurd h (by decide)⟩, Nat.le_refl _, by decide, fun _ => ⟨rfl, rfl⟩⟩, ⟨rfl, fun h => absurd h (by decide)⟩, Nat.le_refl _, by decide, fun _ => ⟨rfl, rfl⟩⟩
            · obtain rfl : i = 0 := by omega
              exact ⟨rfl, by decide, by decide, by decide, by decide, ⟨1, by decide, by decide, rfl⟩, (fun k hk => by cases hk), (fun h => absurd rfl h), (fun k hk => by cases hk), by decide⟩
            · injection e with e; subst e
              rw [put3_size]; simp [World.setCell]; omega
            · simp at hr; subst hr
              rcases ha with e | e <;> cases e
            · exact put3_below ((bx_below BW.out _ (by omega) _ _).alloc (by simp [World.setCell]; omega) _) _ (by omega) _ _ _
          clear hlt HI hMI hrt hfr h1c h2c hX6 hZ6 hR6
          go_wp2
          obtain ⟨q0, q1, q2⟩ := Q9.out
          refine bodyPost_ret (v := .agg #[.int .i64 (S : Int), .int .i64 R, (.slice (some ⟨wr.heap.size, 0, none⟩) 1 1)]) ?_ rfl HF.out
          simp [results, Try.results24, go_sem, q0, q1, q2]
        · have hne : ((kk : Int) == 0) = false := by simp; omega
          have HF : Hid (MadeP w (.returned (.agg #[.int .i64 (S : Int), .int .i64 R, .slice A kk c])) (put3 wr (w.heap.size + 1) (.int .i64 (S : Int)) (.int .i64 R) (.slice A kk c))) := by
            refine ⟨S, R, A, kk, c, ts, rfl, ⟨S1, S2, R0, R3, by omega, by have := HI.out; omega, h1c, h2c, ⟨hrt.ln, fun hn => ?_, fun r hr => ?_⟩, hMI.out.ok, fun a e => ?_, fun r hr a ha => ?_⟩, ?_⟩
            · obtain ⟨b', o', e, hc⟩ := hrt.ad hn
              have := hfr _ e
              exact ⟨b', o', e, fun j hj => (hc j hj).block (put3_other _ _ _ (by simp at this; omega) _ _ _)⟩
            · exact (hrt.rd r hr).kept fun a ha => put3_other _ _ _ (by have := (hMI.out.fr r hr a ha).2.1; omega) _ _ _
            · rw [put3_size]; have := hfr _ e; omega
            · rw [put3_size]; have := hMI.out.fr r hr a ha; omega
            · exact put3_below BW.out _ (by omega) _ _ _
          have q9 := bx_set3 hZ.out (.int .i64 (S : Int)) (.int .i64 R) (.slice A kk c)
          have Q9 := Lib.hid (bx_three q9)
          clear q9 hMI hX hN hZ BW hrt hfr hk0
          by_cases hl : kk < len
          · have hl1 : (kk : Int) < (len : Int) := by omega
            have hl2 : ¬ (kk : Int) < 6 := by have := HI.out; omega
            clear hlt HI
            go_wp2
            obtain ⟨q0, q1, q2⟩ := Q9.out
            refine bodyPost_ret (v := .agg #[.int .i64 (S : Int), .int .i64 R, .slice A kk c]) ?_ rfl HF.out
            simp [results, Try.results24, go_sem, q0, q1, q2]
          · have hl1 : ¬ (kk : Int) < (len : Int) := by omega
            clear hlt HI
            go_wp2
            obtain ⟨q0, q1, q2⟩ := Q9.out
            refine bodyPost_ret (v := .agg #[.int .i64 (S : Int), .int .i64 R, .slice A kk c]) ?_ rfl HF.out
            simp [results, Try.results24, go_sem, q0, q1, q2]
end Go.Proofs.Ytdmfdgadhobkpaa.Sys
