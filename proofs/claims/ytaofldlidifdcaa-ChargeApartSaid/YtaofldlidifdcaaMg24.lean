/-
  Texts of one claim, joined in build order: Apart10.
-/
import Derived.Test.YtaofldlidifdcaaMg23
/-
  The statement ChargeApart, walked.
-/
namespace Go.Proofs.Ytaofldlidifdcaa.Blk
open Go.RowKit Go.Shelf Go.Proofs.Ytaofldlidifdcaa.Sys Go.Proofs.Ytaofldlidifdcaa.Box Go.Proofs.Ytaofldlidifdcaa.Bits Go.Proofs.Ytaofldlidifdcaa.Tsk

set_option maxHeartbeats 16000000 in
set_option maxRecDepth 100000 in
theorem ChargeApart_walk (a0 b0 : Int) (x0 : Option Addr) (len0 cap0 : Nat) (q0 : List Row0.NumV) (W : World) (w0 : Row0.IsNums W x0 len0 cap0 q0) :
    Calls Try.prog 4 #[.agg #[.int .i64 a0, .int .i64 b0, .slice x0 len0 cap0]] W fun e w' => e = .returned (.bool true) ∧ Below W.heap.size W w' := by
  have HN := Lib.hid (nums_rdN w0)
  have hlc := w0.le
  have hcm := w0.mx
  clear w0
  go_enter Try.func4, Try.ntmps4
  go_wp2_with fail
  obtain ⟨W0, hW0⟩ : ∃ W0, W.alloc (.cells #[.int .i64 a0, .int .i64 b0, .slice x0 len0 cap0] 24) = W0 := ⟨_, rfl⟩
  rw [hW0]
  have hB0 : Below W.heap.size W W0 := by rw [← hW0]; exact (Below.refl _ W).alloc (Nat.le_refl _) _
  have nS : W0.heap[W.heap.size]? = some (.cells #[.int .i64 a0, .int .i64 b0, .slice x0 len0 cap0] 24 (0, 0)) := by rw [← hW0]; exact heap_newT _ _ _ rfl
  clear hW0
  refine (awake10_any _).mono ?_
  rintro e W1 ⟨rfl, hb1⟩
  have HB1 : Hid (Below W.heap.size W W1) := hB0.trans (hb1.mono hB0.size)
  have hcell : W1.heap[W.heap.size]? = some (.cells #[.int .i64 a0, .int .i64 b0, .slice x0 len0 cap0] 24 (0, 0)) := (hb1.block _ (bx_lt nS)).trans nS
  obtain ⟨s0, s1, s2⟩ := bx_three hcell
  clear hb1 hB0 nS
  go_wp2_with fail
  refine (made_sys a0 b0 x0 len0 cap0 q0 W1 (HN.out.below HB1.out (Nat.le_refl _)) hlc hcm).mono ?_
  rintro e W2 ⟨S, R, A, n, c, q, rfl, hok, hb2⟩
  have HOK := Lib.hid hok
  have HB2 : Hid (Below W.heap.size W W2) := HB1.out.trans (hb2.mono HB1.out.size)
  clear hok hb2 hcell s0 s1 s2 HN
  obtain ⟨W3, hW3⟩ : ∃ W3, W2.alloc (.cells #[.int .i64 (S : Int), .int .i64 R, .slice A n c] 28) = W3 := ⟨_, rfl⟩
  have HS3 : Hid (W3.heap[W2.heap.size]? = some (.cells #[.int .i64 (S : Int), .int .i64 R, .slice A n c] 28 (0, 0))) := by rw [← hW3]; exact heap_newT _ _ _ rfl
  have HO3 : Hid (SysOk W3 W1.heap.size S R A n c q) := by rw [← hW3]; exact HOK.out.below ((Below.refl _ W2).alloc (Nat.le_refl _) _) (Nat.le_refl _)
  have HB3 : Hid (Below W.heap.size W W3) := by rw [← hW3]; exact HB2.out.alloc HB2.out.size _
  have HR : Hid (RightS (S : Int) R n q) := right_of HOK.out
  have HQ : Hid (∀ r ∈ q, ∀ a, r.ca = some a ∨ r.ua = some a → a.block < W2.heap.size) := fun r h a e => (HOK.out.fq r h a e).2
  have HZ : Hid (W.heap.size ≤ W2.heap.size) := HB2.out.size
  clear HOK HB2
  have o5 := HO3.out.n1
  have o6 := HO3.out.n6
  have o7 := HO3.out.nc
  have o8 := HO3.out.cm
  have o1 := HO3.out.s1
  generalize hbs : W2.heap.size = bs at *
  have hs3 := bx_lt HS3.out
  have hs8 := HO3.out.s8
  have hr0 := HO3.out.r0
  have hq := HO3.out.rd.ln
  obtain ⟨i0, hi0, hz0, hz1, hz2⟩ := info_parts' infoInt
  obtain ⟨t0, ti0, tz0, tz1, tz2⟩ := info_parts' infoT
  obtain ⟨b, o, rfl, _⟩ := HO3.out.rd.ad (by omega)
  have hB4 : Below W3.heap.size W3 (W3.alloc (.cells #[] 33)) := (Below.refl _ W3).alloc (Nat.le_refl _) _
  have hr4 := HO3.out.rd.below hB4 (Nat.le_refl _)
  have hB0 : Hid ((W3.alloc (.cells #[] 33)).ownsRow W3.heap.size 33 7 (.slice (some ⟨W3.heap.size, 0, none⟩) 0 0) 0 (flat7 [])) :=
    ⟨rfl, .inr ⟨W3.heap.size, 0, #[], rfl, Nat.le_refl _, heap_alloc_new _ _, Nat.le_refl _, by unfold maxLen; decide, rfl, rfl⟩⟩
  have hL1 : Hid ((flat7 q).length = n * 7) := by show _ = _; rw [flat7_length, hq]
  have hN1 : Hid (∀ a, some (⟨b, o, none⟩ : Addr) = some a → ∀ j u, (flat7 q)[j]? = some u → (W3.alloc (.cells #[] 33)).cell? (a.add j) = some u) := rdT_news hr4
  obtain ⟨s0, s1, s2⟩ := bx_three ((hB4.block _ hs3).trans HS3.out)
  clear hr4 hB4
  go_wp2_with (at_builtin; go_must (refine Row0.wpList_append_sl rfl (.tmp 15) (.tmp 17) 26 rfl W3.heap.size 33 t0 (.agg #[.int .i64 0, .int .i64 0, .int .i64 0, .int .i64 0, .int .i64 0, .slice none 0 0, .slice none 0 0]) 7 88 Try.underlying26 ti0 tz0 tz1 tz2 rfl (by decide) _ _ _ rfl hB0.out (some ⟨b, o, none⟩) n c (flat7 q) rfl (fun e => by cases e) hL1.out hN1.out (flat7_one q) (by unfold maxLen; omega) (by omega) (by simp) ?_); intro v6 W6 ho6 hg6; replace hg6 : (W3.alloc (.cells #[] 33)).grownBy W6 (some W3.heap.size) := hg6; have hb6 : Below W3.heap.size W3 W6 := ((Below.refl _ W3).alloc (Nat.le_refl _) _).grown hg6 (by simp) (fun j e => by cases e; exact Nat.le_refl _); have hrr6 : ∀ r ∈ q, r.Rd W6 := (fun r h => (HO3.out.rd.rd r h).below hb6 (Nat.le_refl _)); obtain ⟨g, cg, cur, rfl, hrd6, hng, hcg, hbg, hblk⟩ := own_blkT (show W6.ownsRow W3.heap.size 33 7 v6 n (flat7 q) by rwa [show flat7 [] ++ flat7 q = flat7 q from rfl, Nat.zero_add] at ho6) hrr6 (by omega); have HS6 : Hid (W6.heap[bs]? = some (.cells #[.int .i64 (S : Int), .int .i64 R, .slice (some ⟨b, o, none⟩) n c] 28 (0, 0))) := (hb6.block _ hs3).trans HS3.out; have fz := bx_free HS6.out 2; clear s0 s1 s2; obtain ⟨s0, s1, s2⟩ := bx_three HS6.out; have HR6 := Lib.hid hrd6; have HP6 := Lib.hid hrr6; have HB6 := Lib.hid hb6; have HG6 := Lib.hid hblk; clear ho6 hg6 hrd6 hrr6 hb6 hblk)
  obtain ⟨W7, hW7⟩ : ∃ W7, W6.setCell ⟨bs, 2, none⟩ (.slice (some ⟨g, 0, none⟩) n cg) = W7 := ⟨_, rfl⟩
  have hgb : g ≠ bs := by omega
  have hO7 : ∀ j, j ≠ bs → W7.heap[j]? = W6.heap[j]? := fun j hj => by rw [← hW7]; exact bx_other _ _ _ _ hj _
  have HS7 : Hid (W7.heap[bs]? = some (.cells #[.int .i64 (S : Int), .int .i64 R, .slice (some ⟨g, 0, none⟩) n cg] 28 (0, 0))) := by rw [← hW7]; exact (Lib.heap_setCell_same (i := 2) HS6.out _).trans (by simp)
  have HP7 : Hid (∀ r ∈ q, r.Rd W7) := fun r h => (HP6.out r h).kept fun a e => hO7 _ (by have := HQ.out r h a e; omega)
  have HR7 : Hid (RdT W7 (some ⟨g, 0, none⟩) n q) := rdT_kept HR6.out (hO7 _ hgb) HP7.out
  have HG7 : Hid (W7.heap[g]? = some (.cells cur 33 (0, 0))) := (hO7 _ hgb).trans HG6.out
  have HB7 : Hid (Below W.heap.size W W7) := by
    rw [← hW7]
    exact bx_below (HB3.out.trans (HB6.out.mono HB3.out.size)) _ HZ.out _ _
  have hs7 : bs < W7.heap.size := bx_lt HS7.out
  have hg7 : g < W7.heap.size := bx_lt HG7.out
  clear s0 s1 s2 fz HS6 HP6 HR6 HG6 hO7 hB0 hL1 hN1
  obtain ⟨r, hr⟩ : ∃ r, q.getD 0 default = r := ⟨_, rfl⟩
  have hrr7 : r.Rd W7 := by rw [← hr]; exact HR7.out.getRd (by omega)
  have hul := hrr7.2.len
  have hum := hrr7.2.2.2.1
  have huc := hrr7.2.2.1
  have HU : Hid (∀ u ∈ r.x.use, 0 ≤ u ∧ u < (S : Int)) := by rw [← hr]; exact (HR.out.t 0 (by omega)).us
  have HL : Hid (r.x.use.length ≤ 64) := by rw [← hr]; exact (HR.out.t 0 (by omega)).ul
  have hl64 := HL.out
  have HW7 : Hid (SlI W7 r.ua r.ul r.uc r.x.use) := hrr7.2
  have hy7 : W7.cell? ⟨g, 6, none⟩ = some (.slice r.ua r.ul r.uc) := by
    obtain ⟨b', o', e, hc⟩ := HR7.out.ad (by omega)
    cases e
    have := (hc 0 (by omega)).c6
    rw [hr] at this
    simpa using this
  have HY7 := Lib.hid hy7
  obtain ⟨s0, s1, s2⟩ := bx_three HS7.out
  clear hrr7
  go_wp2_with fail
  try rw [hW7]
  clear hW7 s0 s1 s2 hy7
  go_loopg [5, 6] r.ul (fun gg v5 iv wr => ∃ (i : Nat), i ≤ r.ul ∧ r.ul - i ≤ gg ∧ iv = .int .i64 (i : Int) ∧ Aside (wr.ownsRow W7.heap.size 3 1 v5 i (((r.x.use.map (· + (S : Int))).take i).map (.int .i64))) ∧ Aside (Below W7.heap.size W7 wr))
  case atStart => exact ⟨0, Nat.zero_le _, by omega, rfl, ⟨rfl, .inl ⟨rfl, rfl⟩⟩, Below.refl _ _⟩
  case round =>
    obtain ⟨i, hi, hgk, rfl, hown, hB⟩ := hrel
    generalize wr = wo at *
    have hsz : W7.heap.size ≤ wo.heap.size := hB.out.size
    obtain ⟨s0, s1, s2⟩ := bx_three (bx_old HS7.out hB.out hs7)
    have y6 : wo.cell? ⟨g, 6, none⟩ = some (.slice r.ua r.ul r.uc) := (hB.out.cell (p := ⟨g, 6, none⟩) hg7).trans HY7.out
    by_cases hlt : i < r.ul
    · obtain ⟨ub, uo, hua, hcu⟩ := HW7.out.1.2 (by omega)
      have hub7 : ub < W7.heap.size := World.block_lt_of_cell? W7 _ (hcu i hlt)
      have x1 := (hB.out.cell (p := ⟨ub, uo + i, none⟩) hub7).trans (hcu i hlt)
      rw [hua] at y6
      have ht : Aside (((r.x.use.map (· + (S : Int))).take (i + 1)).map (Value.int .i64) = ((r.x.use.map (· + (S : Int))).take i).map (.int .i64) ++ [.int .i64 (r.x.use.getD i 0 + (S : Int))]) := by
        rw [Aside, List.take_succ_eq_append_getElem (by simp; omega), List.map_append]
        simp [List.getD_eq_getElem?_getD, List.getElem?_eq_getElem (show i < r.x.use.length by omega)]
      have hyb : 0 ≤ r.x.use.getD i 0 ∧ r.x.use.getD i 0 < (S : Int) := HU.out _ (by rw [List.getD_eq_getElem?_getD, List.getElem?_eq_getElem (show i < r.x.use.length by omega)]; exact List.getElem_mem _)
      generalize r.x.use.getD i 0 = y at *
      obtain ⟨y0, y1⟩ := hyb
      clear hcu hua
      have hob : ∀ j, u5.ownBlock = some j → W7.heap.size ≤ j := fun j e => (hown.out.lt j e).1
      have yy : ∀ o, (wo.alloc o).drew.cell? ⟨bs, 0, none⟩ = some (.int .i64 (S : Int)) ∧ (wo.alloc o).drew.cell? ⟨bs, 2, none⟩ = some (.slice (some ⟨g, 0, none⟩) n cg) ∧ (wo.alloc o).drew.cell? ⟨g, 6, none⟩ = some (.slice (some ⟨ub, uo, none⟩) r.ul r.uc) ∧ (wo.alloc o).drew.cell? ⟨ub, uo + i, none⟩ = some (.int .i64 y) := fun o => by
        have hb := ((Below.refl wo.heap.size wo).alloc (Nat.le_refl _) o).drew
        exact ⟨(hb.cell (p := ⟨bs, 0, none⟩) (by simp; omega)).trans s0, (hb.cell (p := ⟨bs, 2, none⟩) (by simp; omega)).trans s2, (hb.cell (p := ⟨g, 6, none⟩) (by simp; omega)).trans y6, (hb.cell (p := ⟨ub, uo + i, none⟩) (by simp; omega)).trans x1⟩
      have hO3 : ∀ o, Hid ((wo.alloc o).drew.ownsRow W7.heap.size 3 1 u5 i (((r.x.use.map (· + (S : Int))).take i).map (.int .i64))) := fun o => own_belowS (hown.out.alloc o) (Below.refl _ _).drew
      have hC3 : ∀ j u, ([.int .i64 (y + (S : Int))] : List Value)[j]? = some u → (wo.alloc (.cells #[.int .i64 (y + (S : Int))] 3)).drew.cell? ((⟨wo.heap.size, 0, none⟩ : Addr).add j) = some u := cell_one_new _ _ _
      have HC3 := Lib.hid hC3
      clear hC3
      have e0 : (0 : Int) < (n : Int) := by omega
      have f1 : decide ((0 : Int) < (n : Int)) = true := by simp; omega
      have f3 : 0 < n := by omega
      have f5 : ¬ n = 0 := by omega
      have e1 : IntKind.i64.wrap (y + (S : Int)) = y + (S : Int) := by rw [IntKind.wrap_i64]; omega
      have e2 : (i : Int) < (r.ul : Int) := by omega
      have e3 : (0 : Int) ≤ (i : Int) := by omega
      go_wp2_with fail
      go_region_held3 (fun w' => w'.cell? ⟨bs, 0, none⟩ = some (.int .i64 (S : Int)) ∧ w'.cell? ⟨bs, 2, none⟩ = some (.slice (some ⟨g, 0, none⟩) n cg) ∧ w'.cell? ⟨g, 6, none⟩ = some (.slice (some ⟨ub, uo, none⟩) r.ul r.uc) ∧ w'.cell? ⟨ub, uo + i, none⟩ = some (.int .i64 y))
        (first | with_reducible exact ⟨s0, s2, y6, x1⟩ | with_reducible exact yy _ | with_reducible exact ⟨z0, z2, z3, z4⟩ | exact ⟨s0, s2, y6, x1⟩)
        (first
          | (refine Row0.step_append_sl (by rfl) (.tmp 30) (.tmp 42) 31 (by rfl) W7.heap.size 3 i0 (.int .i64 0) 1 8 Try.underlying31 hi0 hz0 hz1 hz2 rfl (by decide) _ i _ (by rfl) (hO3 _).out (some ⟨wo.heap.size, 0, none⟩) 1 1 [.int .i64 (y + (S : Int))] (by rfl) (fun e => by cases e) rfl (fun a e => by cases e; exact HC3.out) (by simp [Value.oneCell']) (by unfold maxLen; omega) (by omega) (by simp; omega) ?_; intro v' w4 hown' hgrow; have hk9 : ∀ k, k < W7.heap.size → w4.heap[k]? = wo.heap[k]? := (fun k hk => (hgrow.block k (by simp; omega) (fun e => by have := hob k e.symm; omega)).trans (Below.heap_alloc _ _ _ (by omega))); have z0 := (World.cell?_of_block (a := ⟨bs, 0, none⟩) (hk9 _ hs7)).trans s0; have z2 := (World.cell?_of_block (a := ⟨bs, 2, none⟩) (hk9 _ hs7)).trans s2; have z3 := (World.cell?_of_block (a := ⟨g, 6, none⟩) (hk9 _ hg7)).trans y6; have z4 := (World.cell?_of_block (a := ⟨ub, uo + i, none⟩) (hk9 _ hub7)).trans x1))
      have hO4 : Aside (w4.ownsRow W7.heap.size 3 1 v' (i + 1) (((r.x.use.map (· + (S : Int))).take (i + 1)).map (.int .i64))) := by
        rw [ht.out]; exact hown'
      have hB4 : Aside (Below W7.heap.size W7 w4) := ((hB.out.alloc hB.out.size _).drew).grown hgrow (by simp; omega) (fun j e => hob j e)
      clear hown' hgrow s0 s1 s2 y6 x1 hB hown yy z0 z2 z3 z4 hk9 e0 f1 f3 f5 e1 e2 e3 hO3 HC3 hob
      go_wp2
      go_roundg (r.ul - (i + 1))
      case measure => omega
      case rel => exact ⟨i + 1, by omega, by omega, by go_num, hO4.out, hB4.out⟩
    · obtain rfl : i = r.ul := by omega
      have hown2 := hown.out
      rw [List.take_of_length_le (by simp; omega)] at hown2
      obtain ⟨A1, c1, rfl, hl1, hl2, hl3, hl4, hl5⟩ := Sys.own_rdI hown2
      have HSL : SlI wo A1 r.ul c1 (r.x.use.map (· + (S : Int))) := ⟨hl1, hl2, hl3, hl5⟩
      have hG : wo.heap[g]? = some (.cells cur 33 (0, 0)) := bx_old HG7.out hB.out hg7
      have hSB := bx_old HS7.out hB.out hs7
      have fz := bx_free hG 6
      have hR0 := HR7.out.below hB.out (Nat.le_refl _)
      have hP0 : ∀ r ∈ q, r.Rd wo := hR0.rd
      obtain ⟨W9, hW9⟩ : ∃ W9, wo.setCell ⟨g, 6, none⟩ (.slice A1 r.ul c1) = W9 := ⟨_, rfl⟩
      have hO9 : ∀ j, j ≠ g → W9.heap[j]? = wo.heap[j]? := fun j hj => by rw [← hW9]; exact bx_other _ _ _ _ hj _
      have hP9 : ∀ r ∈ q, r.Rd W9 := fun r h => (hP0 r h).kept fun a e => hO9 _ (by have := HQ.out r h a e; omega)
      have hL9 : SlI W9 A1 r.ul c1 (r.x.use.map (· + (S : Int))) := HSL.kept fun a e => hO9 _ (by have := (hl4 a e).1; omega)
      have hR9 : RdT W9 (some ⟨g, 0, none⟩) n (q.set 0 ((q.getD 0 default).uses (r.x.use.map (· + (S : Int))) A1 r.ul c1)) := by
        subst hW9
        exact rdT_set hR0 (by omega) hP9 hL9
      have hS9 : W9.heap[bs]? = some (.cells #[.int .i64 (S : Int), .int .i64 R, .slice (some ⟨g, 0, none⟩) n cg] 28 (0, 0)) := (hO9 _ (by omega)).trans hSB
      have hG9 : ∃ cur', W9.heap[g]? = some (.cells cur' 33 (0, 0)) := ⟨_, by rw [← hW9]; exact Lib.heap_setCell_same (i := 6) hG _⟩
      have hB9 : Below W.heap.size W W9 := by rw [← hW9]; exact bx_below (HB7.out.trans (hB.out.mono HB7.out.size)) _ (by have := HZ.out; omega) _ _
      have ew : IntKind.i64.wrap (2 * (S : Int)) = 2 * (S : Int) := by rw [IntKind.wrap_i64]; omega
      obtain ⟨t0', t1', t2'⟩ := bx_three hS9
      have fy := bx_free hS9 0
      obtain ⟨WA, hWA⟩ : ∃ WA, W9.setCell ⟨bs, 0, none⟩ (.int .i64 (2 * (S : Int))) = WA := ⟨_, rfl⟩
      have hOA : ∀ j, j ≠ bs → WA.heap[j]? = W9.heap[j]? := fun j hj => by rw [← hWA]; exact bx_other _ _ _ _ hj _
      have hSA : WA.heap[bs]? = some (.cells #[.int .i64 (2 * (S : Int)), .int .i64 R, .slice (some ⟨g, 0, none⟩) n cg] 28 (0, 0)) := by rw [← hWA]; exact (Lib.heap_setCell_same (i := 0) hS9 _).trans (by simp)
      have hBA : Below W.heap.size W WA := by rw [← hWA]; exact bx_below hB9 _ HZ.out _ _
      have hPA : ∀ x ∈ q.set 0 ((q.getD 0 default).uses (r.x.use.map (· + (S : Int))) A1 r.ul c1), x.Rd WA := fun x hx => (hR9.rd x hx).kept fun a e => hOA _ (by
        rcases List.mem_or_eq_of_mem_set hx with h1 | h1
        · have := HQ.out x h1 a e; omega
        · subst h1
          rcases e with e | e
          · have := HQ.out (q.getD 0 default) (by rw [List.getD_eq_getElem?_getD, List.getElem?_eq_getElem (by omega)]; exact List.getElem_mem _) a (.inl e); omega
          · have := (hl4 a e).1; omega)
      have hRA : RdT WA (some ⟨g, 0, none⟩) n (q.set 0 ((q.getD 0 default).uses (r.x.use.map (· + (S : Int))) A1 r.ul c1)) := rdT_kept hR9 (hOA _ hgb) hPA
      have hRR : RightS (2 * (S : Int)) R n (q.set 0 ((q.getD 0 default).uses (r.x.use.map (· + (S : Int))) A1 r.ul c1)) := right_apart HR.out (by omega) hq (by rw [hr])
      have hz := apart_zero (A := A1) (m := r.ul) (c := c1) HR.out hq (show r.x.use.map (· + (S : Int)) = (q.getD 0 default).x.use.map (· + (S : Int)) by rw [hr])
      clear hown hown2 hl1 hl2 hl3 hl4 hl5 HSL hSB hR0 hP0 hO9 hP9 hL9 hR9 hS9 hG9 hB9 hOA hPA hG
      obtain ⟨q', hq'⟩ : ∃ q', q.set 0 ((q.getD 0 default).uses (r.x.use.map (· + (S : Int))) A1 r.ul c1) = q' := ⟨_, rfl⟩
      rw [hq'] at hRA hRR hz
      have HRA := Lib.hid hRA
      have HRR := Lib.hid hRR
      have HKA : Hid (∀ w, Below WA.heap.size WA w → Calls Try.prog 13 #[.agg #[.int .i64 (2 * (S : Int)), .int .i64 R, .slice (some ⟨g, 0, none⟩) n cg], .int .i64 (q'.getD 0 default).x.id] w fun e w' => e = .returned (.tuple #[.int .i64 0, .bool true]) ∧ Below w.heap.size w w') := fun w h => of_apart (2 * (S : Int)) R (some ⟨g, 0, none⟩) n cg q' 0 w (hRA.below h (Nat.le_refl _)) hng hcg hRR (by omega) hz
      have HCS : Hid (∀ w, Below WA.heap.size WA w → ∀ j, j < n → Cs7 w g (j * 7) (q'.getD j default)) := fun w h j hj => by
        obtain ⟨b', o', e, hc⟩ := (hRA.below h (Nat.le_refl _)).ad (by omega)
        cases e
        have := hc j hj
        rwa [Nat.zero_add] at this
      have HSA : Hid (∀ w, Below WA.heap.size WA w → w.heap[bs]? = some (.cells #[.int .i64 (2 * (S : Int)), .int .i64 R, .slice (some ⟨g, 0, none⟩) n cg] 28 (0, 0))) := fun w h => (h.block _ (bx_lt hSA)).trans hSA
      have HBA := Lib.hid hBA
      clear hq' hRA hRR hz hSA hBA HG7 HR7 HP7 HU HL HW7 HY7 HS7 hB HB7
      have e0 : (0 : Int) < (n : Int) := by omega
      have f1 : decide ((0 : Int) < (n : Int)) = true := by simp; omega
      have f3 : 0 < n := by omega
      have f5 : ¬ n = 0 := by omega
      go_wp2_with fail
      try rw [hW9]
      try rw [hWA]
      clear hW9 hWA t0' t1' t2' fy fz s0 s1 s2 y6
      obtain ⟨id0, hid0⟩ : ∃ d, (q'.getD 0 default).x.id = d := ⟨_, rfl⟩
      have HC0 : Hid (∀ w, Below WA.heap.size WA w → w.cell? ⟨g, 0, none⟩ = some (.int .i64 id0)) := fun w h => by
        have := (HCS.out w h 0 (by omega)).c0
        rw [hid0] at this
        simpa using this
      simp only [hid0] at HKA
      clear hid0
      refine Calm.wp_region_calm (B := WA.heap.size) (W := WA) (by kernel_rfl) (by kernel_rfl) (by kernel_rfl) (Nat.le_refl _) (Below.refl _ _).drew ?_
      apply Exists.intro
      repeat (first
        | (apply Calm.calm_skip
           · rfl
           intro N hN
           go_simp
           apply hN.out
           clear hN N)
        | (apply Calm.calm_val
           · rfl
           · intro w hB hF K hK
             unfold Calm.opAt
             obtain ⟨s0, s1, s2⟩ := bx_three (HSA.out _ hB)
             have y0 := HC0.out _ hB
             go_simp
             first
               | (simp only [Calm.upon_value]
                  exact hK.out _ _ rfl (Below.refl _ _))
               | (simp only [Calm.upon_enter]
                  with_reducible refine (HKA.out _ (by assumption)).mono ?_
                  rintro e w' ⟨rfl, hb⟩
                  exact ⟨_, rfl, hK.out _ _ rfl hb⟩)
           intro N hN
           go_simp
           apply hN.out
           clear hN N))
      apply Calm.calm_nil
      intro WB hBB _
      have HBB := Lib.hid hBB
      clear hBB HKA HC0
      obtain ⟨s0, s1, s2⟩ := bx_three (HSA.out _ HBB.out)
      go_wp2_with fail
      clear s0 s1 s2
      go_loopg [9] n (fun gg iv wr => ∃ (j : Nat), j ≤ n ∧ n - j ≤ gg ∧ iv = .int .i64 (j : Int) ∧ Aside (Below WA.heap.size WA wr))
      case atStart => exact ⟨0, Nat.zero_le _, by omega, rfl, HBB.out⟩
      case round =>
        obtain ⟨j, hj, hgk2, rfl, hB⟩ := hrel
        generalize wr = wp at *
        obtain ⟨s0, s1, s2⟩ := bx_three (HSA.out _ hB.out)
        by_cases hlt2 : j < n
        · have hsz2 : WA.heap.size ≤ wp.heap.size := hB.out.size
          obtain ⟨v, hv, KG⟩ := of_some (2 * (S : Int)) R (some ⟨g, 0, none⟩) n cg q' j wp (HRA.out.below hB.out (Nat.le_refl _)) hng hcg HRR.out hlt2
          have hcs : ∀ w, Below wp.heap.size wp w → Cs7 w g (j * 7) (q'.getD j default) := fun w h => HCS.out w (hB.out.trans (h.mono hB.out.size)) j hlt2
          obtain ⟨x, hx⟩ : ∃ x, q'.getD j default = x := ⟨_, rfl⟩
          rw [hx] at hv KG
          simp only [hx] at hcs
          clear hx
          have HKG := Lib.hid KG
          have HC8 := Lib.hid hcs
          have HS8 : Hid (∀ w, Below wp.heap.size wp w → w.heap[bs]? = some (.cells #[.int .i64 (2 * (S : Int)), .int .i64 R, .slice (some ⟨g, 0, none⟩) n cg] 28 (0, 0))) := fun w h => HSA.out w (hB.out.trans (h.mono hB.out.size))
          clear KG hcs
          have g2 : (j : Int) < (n : Int) := by omega
          have g3 : (0 : Int) ≤ (j : Int) := by omega
          go_wp2_with fail
          clear s0 s1 s2
          refine Calm.wp_region_calm (B := wp.heap.size) (W := wp) (by kernel_rfl) (by kernel_rfl) (by kernel_rfl) (Nat.le_refl _) (Below.refl _ _).drew ?_
          apply Exists.intro
          repeat (first
            | (apply Calm.calm_skip
               · rfl
               intro N hN
               go_simp
               apply hN.out
               clear hN N)
            | (apply Calm.calm_val
               · rfl
               · intro w hB hF K hK
                 unfold Calm.opAt
                 obtain ⟨s0, s1, s2⟩ := bx_three (HS8.out _ hB)
                 obtain ⟨y0, y1, y2, y3, y4, y5, y6⟩ := HC8.out _ hB
                 go_simp
                 first
                   | (simp only [Calm.upon_value]
                      exact hK.out _ _ rfl (Below.refl _ _))
                   | (simp only [Calm.upon_enter]
                      with_reducible refine (HKG.out _ (by assumption)).mono ?_
                      rintro e w' ⟨rfl, hb⟩
                      exact ⟨_, rfl, hK.out _ _ rfl hb⟩)
               intro N hN
               go_simp
               apply hN.out
               clear hN N))
          apply Calm.calm_nil
          intro WC hBC _
          have HBC := Lib.hid hBC
          obtain ⟨s0, s1, s2⟩ := bx_three (HS8.out _ HBC.out)
          obtain ⟨y0, y1, y2, y3, y4, y5, y6⟩ := HC8.out _ HBC.out
          have HBD : Hid (Below WA.heap.size WA WC) := hB.out.trans (HBC.out.mono hB.out.size)
          clear hBC HBC HKG HC8 HS8 hB
          by_cases hc : x.x.c = 1
          · obtain rfl := hv hc
            have c8 : (x.x.c == 1) = true := beq_iff_eq.2 hc
            clear hv hc
            go_wp2
            go_roundg (n - (j + 1))
            case measure => omega
            case rel => exact ⟨j + 1, by omega, by omega, by go_num, HBD.out⟩
          · have c8 : (x.x.c == 1) = false := beq_eq_false_iff_ne.2 hc
            clear hv hc
            go_wp2
            go_roundg (n - (j + 1))
            case measure => omega
            case rel => exact ⟨j + 1, by omega, by omega, by go_num, HBD.out⟩
        · have HBD : Hid (Below W.heap.size W wp) := HBA.out.trans (hB.out.mono HBA.out.size)
          clear hB
          go_wp2
          go_ret
          exact ⟨rfl, HBD.out⟩
end Go.Proofs.Ytaofldlidifdcaa.Blk
