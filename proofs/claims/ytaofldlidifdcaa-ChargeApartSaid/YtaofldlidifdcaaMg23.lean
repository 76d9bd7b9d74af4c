/-
  Texts of one claim, joined in build order: BlkG, Blk8, Chg1, Chg2, ChgP, Chg3, ApartP, Awk10.
-/
import Derived.Test.YtaofldlidifdcaaMg22
import Derived.Deep.RegionLaw
import Derived.Deep.LoopGhost
/-
  Plain: with more other sets no fewer are useful; all others' sets and a task's own are all.
-/
namespace Go.Proofs.Ytaofldlidifdcaa.Blk
open Go.RowKit Go.Shelf Go.Proofs.Ytaofldlidifdcaa.Sys Go.Proofs.Ytaofldlidifdcaa.Box Go.Proofs.Ytaofldlidifdcaa.Bits

theorem filt_or {α : Type} (p q r : α → Bool) : ∀ (l : List α), (∀ x ∈ l, p x = true → q x = true ∨ r x = true) → (l.filter p).length ≤ (l.filter q).length + (l.filter r).length
  | [], _ => Nat.zero_le _
  | a :: l, h => by
    have ih := filt_or p q r l fun x hx => h x (List.mem_cons_of_mem _ hx)
    have ha := h a (List.mem_cons_self ..)
    cases hp : p a <;> cases hq : q a <;> cases hr : r a <;> simp [hp, hq, hr] at ha <;> simp [List.filter_cons, hp, hq, hr] <;> omega
theorem cnt_up {x : TaskV} {A O : Nat → Nat} (p : Int) (h : ∀ i, i < 256 → hasN A i = true → hasN O i = true) : cntU x A p ≤ cntU x O p := len_mono fun i hi g => by
  rw [has_and, Bool.and_eq_true] at g ⊢
  exact ⟨g.1, h i hi g.2⟩
theorem cnt_sum {x : TaskV} {A B O : Nat → Nat} (p : Int) (h : ∀ i, i < 256 → hasN O i = true → hasN A i = true ∨ hasN B i = true) : cntU x O p ≤ cntU x A p + cntU x B p := filt_or _ _ _ _ fun i hi g => by
  rw [has_and, Bool.and_eq_true] at g
  rcases h i (List.mem_range.1 hi) g.2 with e | e
  · left; rw [has_and, g.1, e]; rfl
  · right; rw [has_and, g.1, e]; rfl
theorem MostR.up2 {x : TaskV} {A O : Nat → Nat} {m k : Nat} {a b e : Int} (hA : MostR x A m a e) (hO : MostR x O k b e) (h : ∀ i, i < 256 → hasN A i = true → hasN O i = true) : m ≤ k := by
  rcases Nat.eq_zero_or_pos m with h0 | h0
  · omega
  · obtain ⟨h1, h2, h3, _⟩ := hA.at1 h0
    rw [← h3]
    exact Nat.le_trans (cnt_up a h) (hO.le a h1 h2)
theorem MostR.sum {x : TaskV} {A B O : Nat → Nat} {m k n : Nat} {a b c e : Int} (hA : MostR x A m a e) (hB : MostR x B n c e) (hO : MostR x O k b e) (h : ∀ i, i < 256 → hasN O i = true → hasN A i = true ∨ hasN B i = true) : k ≤ m + n := by
  rcases Nat.eq_zero_or_pos k with h0 | h0
  · omega
  · obtain ⟨h1, h2, h3, _⟩ := hO.at1 h0
    rw [← h3]
    exact Nat.le_trans (cnt_sum b h) (Nat.add_le_add (hA.le b h1 h2) (hB.le b h1 h2))
theorem has_two (A B : Nat → Nat) (i : Nat) : hasN (orL [A, B]) i = (hasN A i || hasN B i) := by rw [has_orL]; simp
/-- The sets of all others of some tasks. -/
def allT (q : List RT) (id : Int) : Nat → (Nat → Nat)
  | 0 => ofN []
  | i + 1 => if (q.getD i default).x.id = id then allT q id i else orL [allT q id i, usedN (q.getD i default).x]
theorem allW (q : List RT) (id : Int) : ∀ n, Ws (allT q id n)
  | 0 => Ws.ofN _
  | n + 1 => by
    unfold allT
    split
    · exact allW q id n
    · exact Ws.orL fun B h => by
        simp only [List.mem_cons, List.not_mem_nil, or_false] at h
        rcases h with rfl | rfl
        · exact allW q id n
        · exact Ws.ofN _
theorem has_all (q : List RT) (id : Int) (k : Nat) : ∀ n, hasN (allT q id n) k = true ↔ ∃ i, i < n ∧ (q.getD i default).x.id ≠ id ∧ hasN (usedN (q.getD i default).x) k = true
  | 0 => by
    unfold allT
    rw [show ofN [] = noneW from rfl, has_none]
    simp
  | n + 1 => by
    have ih := has_all q id k n
    unfold allT
    split
    · rename_i h
      rw [ih]
      constructor
      · rintro ⟨i, h1, h2⟩; exact ⟨i, by omega, h2⟩
      · rintro ⟨i, h1, h2, h3⟩
        by_cases e : i = n
        · subst e; exact absurd h h2
        · exact ⟨i, by omega, h2, h3⟩
    · rename_i h
      rw [has_two, Bool.or_eq_true, ih]
      constructor
      · rintro (⟨i, h1, h2⟩ | h2)
        · exact ⟨i, by omega, h2⟩
        · exact ⟨n, by omega, h, h2⟩
      · rintro ⟨i, h1, h2, h3⟩
        by_cases e : i = n
        · subst e; exact .inr h3
        · exact .inl ⟨i, by omega, h2, h3⟩
theorem all_own {q : List RT} {n i : Nat} (hid : ∀ j, j < n → (q.getD j default).x.id = (j : Int) + 1) (hi : i < n) : eqN (orL [allT q (q.getD i default).x.id n, usedN (q.getD i default).x]) (allT q 0 n) = true := by
  refine eqN_ext (Ws.orL fun B h => ?_) (allW _ _ _) fun k hk => ?_
  · simp only [List.mem_cons, List.not_mem_nil, or_false] at h
    rcases h with rfl | rfl
    · exact allW q _ n
    · exact Ws.ofN _
  · rw [Bool.eq_iff_iff, has_two, Bool.or_eq_true, has_all, has_all]
    constructor
    · rintro (⟨j, h1, h2, h3⟩ | h3)
      · exact ⟨j, h1, by rw [hid j h1]; omega, h3⟩
      · exact ⟨i, hi, by rw [hid i hi]; omega, h3⟩
    · rintro ⟨j, h1, h2, h3⟩
      by_cases e : j = i
      · subst e; exact .inr h3
      · exact .inl ⟨j, h1, by rw [hid j h1, hid i hi]; omega, h3⟩
theorem MostR.ex (x : TaskV) (O : Nat → Nat) : ∀ k : Nat, ∃ m a, MostR x O m a ((k : Int) + 1)
  | 0 => ⟨0, 0, MostR.none x O⟩
  | k + 1 => by
    obtain ⟨m, a, h⟩ := MostR.ex x O k
    by_cases hk : m < cntU x O ((k : Int) + 1)
    · exact ⟨_, _, h.up (by omega) hk⟩
    · exact ⟨m, a, h.same (by omega)⟩
theorem MostR.any (x : TaskV) (O : Nat → Nat) (c : Int) : ∃ m a, MostR x O m a c := by
  by_cases h : 1 ≤ c
  · obtain ⟨m, a, hm⟩ := MostR.ex x O (c - 1).toNat
    rw [show (((c - 1).toNat : Int) + 1) = c by omega] at hm
    exact ⟨m, a, hm⟩
  · exact ⟨0, 0, fun p h1 h2 => by omega, fun _ => rfl, fun h => absurd h (by decide)⟩
theorem MostR.uniq {x : TaskV} {O : Nat → Nat} {m k : Nat} {a b c : Int} (h : MostR x O m a c) (g : MostR x O k b c) : m = k ∧ a = b := by
  have e : m = k := Nat.le_antisymm (h.up2 g fun _ _ h => h) (g.up2 h fun _ _ h => h)
  subst e
  refine ⟨rfl, ?_⟩
  rcases Nat.eq_zero_or_pos m with h0 | h0
  · rw [h.z h0, g.z h0]
  · obtain ⟨h1, h2, h3, h4⟩ := h.at1 h0
    obtain ⟨g1, g2, g3, g4⟩ := g.at1 h0
    rcases Int.lt_trichotomy a b with e | e | e
    · have := g4 a h1 e; omega
    · exact e
    · have := h4 b g1 e; omega
theorem listN_le (A : Nat → Nat) : (listN A).length ≤ 256 := by
  have := List.length_filter_le (hasN A) (List.range 256)
  rw [List.length_range] at this
  exact this
theorem MostR.small {x : TaskV} {O : Nat → Nat} {m : Nat} {a c : Int} (h : MostR x O m a c) : m ≤ 256 := by
  rcases Nat.eq_zero_or_pos m with h0 | h0
  · omega
  · obtain ⟨_, _, h3, _⟩ := h.at1 h0
    rw [← h3]; exact listN_le _
/-- Its answers: named. -/
theorem most_det (r : RT) (O : Nat → Nat) (hO : Ws O) : ∃ m a, MostR r.x O m a r.x.c ∧ ∀ (w : World), r.Rd w → Calls Try.prog 46 #[.agg #[.int .i64 r.x.id, .int .i64 r.x.c, .int .i64 r.x.d, .int .i64 r.x.t, .int .i64 r.x.prio, .slice r.ca r.cl r.cc, .slice r.ua r.ul r.uc], .agg #[.int .u64 (O 0 : Int), .int .u64 (O 1 : Int), .int .u64 (O 2 : Int), .int .u64 (O 3 : Int)]] w fun e w' => e = .returned (.tuple #[.int .i64 (m : Int), .int .i64 a]) ∧ Below w.heap.size w w' := by
  obtain ⟨m, a, h⟩ := MostR.any r.x O r.x.c
  refine ⟨m, a, h, fun w hr => (most_all r O hO w hr).mono ?_⟩
  rintro e w' ⟨k, b, rfl, g, hb⟩
  obtain ⟨rfl, rfl⟩ := h.uniq g
  exact ⟨rfl, hb⟩
end Go.Proofs.Ytaofldlidifdcaa.Blk

/-
  Package blocks: All.
-/
namespace Go.Proofs.Ytaofldlidifdcaa.Blk
open Go.RowKit Go.Shelf Go.Proofs.Ytaofldlidifdcaa.Sys Go.Proofs.Ytaofldlidifdcaa.Box Go.Proofs.Ytaofldlidifdcaa.Bits

set_option maxHeartbeats 8000000 in
set_option maxRecDepth 100000 in
theorem all_any (A : Option Addr) (n c : Nat) (q : List RT) (id : Int) (w : World) (hr : RdT w A n q) (hn : n ≤ c) (hc : c ≤ 9223372036854775807) :
    Calls Try.prog 45 #[.slice A n c, .int .i64 id] w fun e w' => e = .returned (bv (iw (allT q id n))) ∧ Below w.heap.size w w' := by
  have HR := Lib.hid hr
  clear hr
  go_enter Try.func45, Try.ntmps45
  go_wp2_with fail
  refine (of_n none 0 0 [] _ (rdI0 _)).mono ?_
  rintro e W1 ⟨rfl, hb1⟩
  rw [bvl]
  have HR1 : Hid (W1.heap[w.heap.size]? = some (.cells (rowc (iw noneW)) 50 (0, 0))) := (hb1.block _ (by simp)).trans (heap_new _ _ _ rfl)
  have HB1 : Hid (Below w.heap.size w W1) := ((Below.refl _ w).alloc (Nat.le_refl _) _).trans (hb1.mono (by simp))
  have hs1 : w.heap.size < W1.heap.size := bx_lt HR1.out
  clear hb1
  obtain ⟨W2, hW2⟩ : ∃ W2, W1.alloc (.cells #[.int .u64 (ofN [] 0 : Int), .int .u64 (ofN [] 1 : Int), .int .u64 (ofN [] 2 : Int), .int .u64 (ofN [] 3 : Int)] 50) = W2 := ⟨_, rfl⟩
  have HR2 : Hid (W2.heap[w.heap.size]? = some (.cells (rowc (iw noneW)) 50 (0, 0))) := by rw [← hW2]; exact (Below.heap_alloc _ _ _ hs1).trans HR1.out
  have HB2 : Hid (Below w.heap.size w W2) := by rw [← hW2]; exact HB1.out.alloc HB1.out.size _
  have HA2 : Hid (W2.heap[W1.heap.size]? = some (.cells (rowc (iw (ofN []))) 50 (0, 0))) := by rw [← hW2]; exact new4 _ _
  clear HR1 HB1
  go_wp2_with fail
  try rw [hW2]
  clear hW2
  generalize hb5 : W1.heap.size = b5 at *
  clear hb5
  go_loopg [11] n (fun gg iv wr => ∃ (i : Nat), i ≤ n ∧ n - i ≤ gg ∧ iv = .int .i64 (i : Int) ∧ Aside (Below w.heap.size w wr ∧ wr.heap[w.heap.size]? = some (.cells (rowc (iw noneW)) 50 (0, 0)) ∧ wr.heap[b5]? = some (.cells (rowc (iw (allT q id i))) 50 (0, 0))))
  case atStart => exact ⟨0, Nat.zero_le _, by omega, rfl, HB2.out, HR2.out, HA2.out⟩
  case round =>
    obtain ⟨i, hi, hgk, rfl, hB, hR, hA⟩ := hrel
    have HB := Lib.hid hB
    have HRR := Lib.hid hR
    have HA := Lib.hid hA
    clear hB hR hA
    by_cases hlt : i < n
    · have hro := HR.out.below HB.out (Nat.le_refl _)
      obtain ⟨b, o, rfl, hcs⟩ := hro.ad (by omega)
      obtain ⟨y0, y1, y2, y3, y4, y5, y6⟩ := hcs i hlt
      have hrr := Lib.hid (hro.getRd hlt)
      have hstep : allT q id (i + 1) = if (q.getD i default).x.id = id then allT q id i else orL [allT q id i, usedN (q.getD i default).x] := rfl
      have hXW := allW q id i
      obtain ⟨r, hr⟩ : ∃ r, q.getD i default = r := ⟨_, rfl⟩
      obtain ⟨X, hX⟩ : ∃ X, allT q id i = X := ⟨_, rfl⟩
      have HA0 : Hid (wr.heap[b5]? = some (.cells (rowc (iw X)) 50 (0, 0))) := by rw [← hX]; exact HA.out
      rw [hr] at y0 y1 y2 y3 y4 y5 y6 hrr
      rw [hr, hX] at hstep
      rw [hX] at hXW
      clear hcs hro hr HA hX
      obtain ⟨w4, hw4⟩ : ∃ w4, wr.alloc (.cells #[.int .i64 r.x.id, .int .i64 r.x.c, .int .i64 r.x.d, .int .i64 r.x.t, .int .i64 r.x.prio, .slice r.ca r.cl r.cc, .slice r.ua r.ul r.uc] 33) = w4 := ⟨_, rfl⟩
      have hT4 : Hid (w4.heap[wr.heap.size]? = some (.cells (taskCells r.x.id r.x.c r.x.d r.x.t r.x.prio (.slice r.ca r.cl r.cc) (.slice r.ua r.ul r.uc)) 33 (0, 0))) := by rw [← hw4]; exact heap_new _ _ _ rfl
      have hB4 : Hid (Below w.heap.size w w4) := by rw [← hw4]; exact HB.out.alloc HB.out.size _
      have hR4 : Hid (r.Rd w4) := by rw [← hw4]; exact hrr.out.below ((Below.refl _ wr).alloc (Nat.le_refl _) _) (Nat.le_refl _)
      have hA4 : Hid (w4.heap[b5]? = some (.cells (rowc (iw X)) 50 (0, 0))) := by rw [← hw4]; exact (Below.heap_alloc _ _ _ (lt4 HA0.out)).trans HA0.out
      have hQ4 : Hid (w4.heap[w.heap.size]? = some (.cells (rowc (iw noneW)) 50 (0, 0))) := by rw [← hw4]; exact (Below.heap_alloc _ _ _ (lt4 HRR.out)).trans HRR.out
      have hsz : w4.heap.size = wr.heap.size + 1 := by rw [← hw4]; simp
      have hl5 := lt4 HA0.out
      have hlr := lt4 HRR.out
      have hbb : w.heap.size ≠ b5 := by omega
      obtain ⟨x0, x1, x2, x3, x4, x5, x6⟩ := bx_seven hT4.out
      by_cases hid : r.x.id = id
      · have e1 : (r.x.id == id) = true := by simp [hid]
        rw [if_pos hid] at hstep
        clear hid
        go_wp2
        go_roundg (n - (i + 1))
        case measure => omega
        case rel => exact ⟨i + 1, by omega, by omega, by go_num, hB4.out, hQ4.out, by rw [hstep]; exact hA4.out⟩
      · have e1 : (r.x.id == id) = false := by simp [hid]
        rw [if_neg hid] at hstep
        clear hid
        have hYW : Ws (usedN r.x) := Ws.ofN _
        have hU := fun w2 (h : Below w4.heap.size w4 w2) => used_any r w2 (hR4.out.below h (Nat.le_refl _))
        obtain ⟨Y, hY⟩ : ∃ Y, usedN r.x = Y := ⟨_, rfl⟩
        simp only [hY] at hU hstep hYW
        have hO : ∀ w2, Below w4.heap.size w4 w2 → Calls Try.prog 57 #[.slice (some ⟨w2.heap.size, 0, none⟩) 2 2] (w2.alloc (.cells #[.int .u64 (X 0 : Int), .int .u64 (X 1 : Int), .int .u64 (X 2 : Int), .int .u64 (X 3 : Int), .int .u64 (Y 0 : Int), .int .u64 (Y 1 : Int), .int .u64 (Y 2 : Int), .int .u64 (Y 3 : Int)] 50)) fun e w' => e = .returned (bv (iw (orL [X, Y]))) ∧ Below w4.heap.size w4 w' := fun w2 h =>
          (or_n _ 2 2 [X, Y] (ws2 hXW hYW) (w2.alloc (.cells (row8 X Y) 50)) (rdB_blk (heap_alloc_new _ _))).mono fun _ _ ⟨he, hb⟩ => ⟨he, (h.alloc h.size _).trans (hb.mono (by have := h.size; simp; omega))⟩
        obtain ⟨Z, hZ⟩ : ∃ Z, orL [X, Y] = Z := ⟨_, rfl⟩
        simp only [hZ] at hO hstep
        simp only [bvl] at hU hO
        have hres : ∀ w', Below w4.heap.size w4 w' → w'.heap[b5]? = some (.cells (rowc (iw X)) 50 (0, 0)) := fun w' h => (h.block _ (by omega)).trans hA4.out
        have hBd : Below w4.heap.size w4 w4.drew := (Below.refl _ _).drew
        obtain ⟨a0, a1, a2, a3⟩ := c4 hA4.out
        go_wp2_with fail
        try rw [hw4]
        clear hw4
        obtain ⟨z0, z1, z2, z3, z4, z5, z6⟩ := bx_seven hT4.out
        go_region_law
          (first
            | (go_simp; go_at_call 65; (with_reducible refine (hU _ (by assumption)).mono ?_); rintro e w1 ⟨rfl, hb⟩; have hBn := below_next (by assumption) hb; obtain ⟨e0, e1, e2, e3⟩ := c4 (hres _ hBn))
            | (go_simp; go_at_call 57; (with_reducible refine (hO _ (by assumption)).mono ?_); rintro e w3 ⟨rfl, hBm⟩; obtain ⟨e0, e1, e2, e3⟩ := c4 (hres _ hBm); have k0 := frozen_row (hres _ hBm) 0; have k1 := frozen_row (hres _ hBm) 1; have k2 := frozen_row (hres _ hBm) 2; have k3 := frozen_row (hres _ hBm) 3))
        all_goals
          have hw := set4 (hres _ hBm) (iw Z)
          have hbw := below_set (below_set (below_set (below_set (hB4.out.trans (hBm.mono hB4.out.size)) b5 (by omega) 0 (.int .u64 (Z 0 : Int))) b5 (by omega) 1 (.int .u64 (Z 1 : Int))) b5 (by omega) 2 (.int .u64 (Z 2 : Int))) b5 (by omega) 3 (.int .u64 (Z 3 : Int))
          simp only [iw] at hw
          have hq := (set4_other w3 b5 (w.heap.size) (by omega) (.int .u64 (Z 0 : Int)) (.int .u64 (Z 1 : Int)) (.int .u64 (Z 2 : Int)) (.int .u64 (Z 3 : Int))).trans ((hBm.block _ (by omega)).trans hQ4.out)
          have HW := Lib.hid hw
          have HBW := Lib.hid hbw
          have HQW := Lib.hid hq
          clear hw hbw hq hres hU hO hBd
          go_wp2
          go_roundg (n - (i + 1))
          case measure => omega
          case rel => exact ⟨i + 1, by omega, by omega, by go_num, HBW.out, HQW.out, by rw [hstep]; exact HW.out⟩
    · have e : i = n := by omega
      subst e
      have hXW := allW q id i
      obtain ⟨X, hX⟩ : ∃ X, allT q id i = X := ⟨_, rfl⟩
      have HXX := Lib.hid hX
      have HA0 : Hid (wr.heap[b5]? = some (.cells (rowc (iw X)) 50 (0, 0))) := by rw [← hX]; exact HA.out
      have hlr := lt4 HRR.out
      clear HA hX
      obtain ⟨e0, e1, e2, e3⟩ := c4 HA0.out
      obtain ⟨g0, g1, g2, g3⟩ := c4 HRR.out
      have k0 := frozen_row HRR.out 0
      have k1 := frozen_row HRR.out 1
      have k2 := frozen_row HRR.out 2
      have k3 := frozen_row HRR.out 3
      have hw := set4 HRR.out (iw X)
      have hbw := below_set (below_set (below_set (below_set HB.out w.heap.size (by omega) 0 (.int .u64 (X 0 : Int))) w.heap.size (by omega) 1 (.int .u64 (X 1 : Int))) w.heap.size (by omega) 2 (.int .u64 (X 2 : Int))) w.heap.size (by omega) 3 (.int .u64 (X 3 : Int))
      simp only [iw] at hw
      have HBW := Lib.hid hbw
      have HW9 := Lib.hid hw
      clear hw hbw
      go_wp2
      obtain ⟨q0, q1, q2, q3⟩ := c4 HW9.out
      refine bodyPost_ret (v := .agg #[.int .u64 (X 0 : Int), .int .u64 (X 1 : Int), .int .u64 (X 2 : Int), .int .u64 (X 3 : Int)]) ?_ rfl ⟨by rw [HXX.out]; rfl, HBW.out⟩
      simp [results, Try.results45, go_sem, q0, q1, q2, q3]
end Go.Proofs.Ytaofldlidifdcaa.Blk

/-
  Package charge: charges of a system that is right, by its three ways.
-/
namespace Go.Proofs.Ytaofldlidifdcaa.Blk
open Go.RowKit Go.Shelf Go.Proofs.Ytaofldlidifdcaa.Sys Go.Proofs.Ytaofldlidifdcaa.Box Go.Proofs.Ytaofldlidifdcaa.Bits Go.Proofs.Ytaofldlidifdcaa.Tsk

noncomputable def mostN (x : TaskV) (O : Nat → Nat) : Nat := (MostR.any x O x.c).choose
noncomputable def mostA (x : TaskV) (O : Nat → Nat) : Int := (MostR.any x O x.c).choose_spec.choose
theorem most_spec (x : TaskV) (O : Nat → Nat) : MostR x O (mostN x O) (mostA x O) x.c := (MostR.any x O x.c).choose_spec.choose_spec
theorem mostN_le (x : TaskV) (O : Nat → Nat) : mostN x O ≤ 256 := (most_spec x O).small
theorem most_n (r : RT) (O : Nat → Nat) (hO : Ws O) (w : World) (hr : r.Rd w) :
    Calls Try.prog 46 #[.agg #[.int .i64 r.x.id, .int .i64 r.x.c, .int .i64 r.x.d, .int .i64 r.x.t, .int .i64 r.x.prio, .slice r.ca r.cl r.cc, .slice r.ua r.ul r.uc], .agg #[.int .u64 (O 0 : Int), .int .u64 (O 1 : Int), .int .u64 (O 2 : Int), .int .u64 (O 3 : Int)]] w fun e w' => e = .returned (.tuple #[.int .i64 (mostN r.x O : Int), .int .i64 (mostA r.x O)]) ∧ Below w.heap.size w w' :=
  (most_all r O hO w hr).mono fun e w' ⟨m, a, he, hM, hb⟩ => by
    obtain ⟨rfl, rfl⟩ := hM.uniq (most_spec r.x O)
    exact ⟨he, hb⟩
theorem box4 {w : World} {b : Nat} {t : TypeId} {u0 u1 u2 u3 : Value} (h : w.heap[b]? = some (.cells #[u0, u1, u2, u3] t (0, 0))) : w.cell? ⟨b, 0, none⟩ = some u0 ∧ w.cell? ⟨b, 1, none⟩ = some u1 ∧ w.cell? ⟨b, 2, none⟩ = some u2 ∧ w.cell? ⟨b, 3, none⟩ = some u3 := by
  refine ⟨?_, ?_, ?_, ?_⟩ <;> simp [World.cell?, h]
theorem mostC_any (r : RT) (O : Nat → Nat) (hO : Ws O) (w : World) (hr : r.Rd w) :
    Calls Try.prog 23 #[.agg #[.int .i64 r.x.id, .int .i64 r.x.c, .int .i64 r.x.d, .int .i64 r.x.t, .int .i64 r.x.prio, .slice r.ca r.cl r.cc, .slice r.ua r.ul r.uc], .agg #[.int .u64 (O 0 : Int), .int .u64 (O 1 : Int), .int .u64 (O 2 : Int), .int .u64 (O 3 : Int)]] w fun e w' => e = .returned (.int .i64 (mostN r.x O : Int)) ∧ Below w.heap.size w w' := by
  obtain ⟨w1, hw1⟩ : ∃ w1, (w.alloc (.cells #[.int .i64 r.x.id, .int .i64 r.x.c, .int .i64 r.x.d, .int .i64 r.x.t, .int .i64 r.x.prio, .slice r.ca r.cl r.cc, .slice r.ua r.ul r.uc] 33)).alloc (.cells #[.int .u64 (O 0 : Int), .int .u64 (O 1 : Int), .int .u64 (O 2 : Int), .int .u64 (O 3 : Int)] 50) = w1 := ⟨_, rfl⟩
  have hB1 : Below w.heap.size w w1 := by rw [← hw1]; exact ((Below.refl _ w).alloc (Nat.le_refl _) _).alloc (by simp) _
  have nT : w1.heap[w.heap.size]? = some (.cells #[.int .i64 r.x.id, .int .i64 r.x.c, .int .i64 r.x.d, .int .i64 r.x.t, .int .i64 r.x.prio, .slice r.ca r.cl r.cc, .slice r.ua r.ul r.uc] 33 (0, 0)) := by rw [← hw1]; exact (Below.heap_alloc _ _ _ (by simp)).trans (heap_newT _ _ _ rfl)
  have nO : w1.heap[w.heap.size + 1]? = some (.cells #[.int .u64 (O 0 : Int), .int .u64 (O 1 : Int), .int .u64 (O 2 : Int), .int .u64 (O 3 : Int)] 50 (0, 0)) := by rw [← hw1]; exact heap_newT _ _ _ (by simp)
  have KM := most_n r O hO w1 (hr.below hB1 (Nat.le_refl _))
  have HB := Lib.hid hB1
  obtain ⟨y0, y1, y2, y3, y4, y5, y6⟩ := seven nT
  obtain ⟨z0, z1, z2, z3⟩ := box4 nO
  clear hB1 nT nO hr hO
  generalize mostN r.x O = m at *
  generalize mostA r.x O = a at *
  go_enter Try.func23, Try.ntmps23
  go_wp2_with fail
  try rw [hw1]
  refine KM.mono ?_
  rintro e w2 ⟨rfl, hb⟩
  have HE : Hid (Below w.heap.size w w2) := HB.out.trans (hb.mono HB.out.size)
  clear hb KM
  go_wp2
  go_ret
  exact ⟨rfl, HE.out⟩
theorem whole_any (w : World) : Calls Try.prog 24 #[] w fun e w' => e = .returned (.agg #[.int .u64 18446744073709551615, .int .u64 18446744073709551615, .int .u64 18446744073709551615, .int .u64 18446744073709551615]) ∧ Below w.heap.size w w' := by
  have hB := (Below.refl _ w).alloc (Nat.le_refl _) (.cells #[.int .u64 18446744073709551615, .int .u64 18446744073709551615, .int .u64 18446744073709551615, .int .u64 18446744073709551615] 50)
  have HB := Lib.hid hB
  have nO : (w.alloc (.cells #[.int .u64 18446744073709551615, .int .u64 18446744073709551615, .int .u64 18446744073709551615, .int .u64 18446744073709551615] 50)).heap[w.heap.size]? = some (.cells #[.int .u64 18446744073709551615, .int .u64 18446744073709551615, .int .u64 18446744073709551615, .int .u64 18446744073709551615] 50 (0, 0)) := heap_newT _ _ _ rfl
  have HN := Lib.hid nO
  clear hB nO
  go_enter Try.func24, Try.ntmps24
  go_wp2
  obtain ⟨q0, q1, q2, q3⟩ := box4 HN.out
  refine bodyPost_ret (v := .agg #[.int .u64 18446744073709551615, .int .u64 18446744073709551615, .int .u64 18446744073709551615, .int .u64 18446744073709551615]) ?_ rfl ⟨rfl, HB.out⟩
  simp [results, Try.results24, go_sem, q0, q1, q2, q3]
def fullW : Nat → Nat := fun _ => 18446744073709551615
theorem fullW_ws : Ws fullW := fun j _ => show (18446744073709551615 : Nat) < 18446744073709551616 by decide
set_option maxRecDepth 100000 in
set_option maxHeartbeats 4000000 in
theorem useF_any (r : RT) (o0 o1 o2 o3 : Int) (w : World) (hr : r.Rd w) :
    Calls Try.prog 22 #[.agg #[.int .i64 r.x.id, .int .i64 r.x.c, .int .i64 r.x.d, .int .i64 r.x.t, .int .i64 r.x.prio, .slice r.ca r.cl r.cc, .slice r.ua r.ul r.uc], .agg #[.int .u64 o0, .int .u64 o1, .int .u64 o2, .int .u64 o3]] w fun e w' => e = .returned (.int .i64 (mostN r.x fullW : Int)) ∧ Below w.heap.size w w' := by
  obtain ⟨w1, hw1⟩ : ∃ w1, (w.alloc (.cells #[.int .i64 r.x.id, .int .i64 r.x.c, .int .i64 r.x.d, .int .i64 r.x.t, .int .i64 r.x.prio, .slice r.ca r.cl r.cc, .slice r.ua r.ul r.uc] 33)).alloc (.cells #[.int .u64 o0, .int .u64 o1, .int .u64 o2, .int .u64 o3] 50) = w1 := ⟨_, rfl⟩
  have hB1 : Below w.heap.size w w1 := by rw [← hw1]; exact ((Below.refl _ w).alloc (Nat.le_refl _) _).alloc (by simp) _
  have nT : w1.heap[w.heap.size]? = some (.cells #[.int .i64 r.x.id, .int .i64 r.x.c, .int .i64 r.x.d, .int .i64 r.x.t, .int .i64 r.x.prio, .slice r.ca r.cl r.cc, .slice r.ua r.ul r.uc] 33 (0, 0)) := by rw [← hw1]; exact (Below.heap_alloc _ _ _ (by simp)).trans (heap_newT _ _ _ rfl)
  have hr1 := hr.below hB1 (Nat.le_refl _)
  have KM : Hid (∀ w2, Below w1.heap.size w1 w2 → Calls Try.prog 23 #[.agg #[.int .i64 r.x.id, .int .i64 r.x.c, .int .i64 r.x.d, .int .i64 r.x.t, .int .i64 r.x.prio, .slice r.ca r.cl r.cc, .slice r.ua r.ul r.uc], .agg #[.int .u64 18446744073709551615, .int .u64 18446744073709551615, .int .u64 18446744073709551615, .int .u64 18446744073709551615]] w2 fun e w' => e = .returned (.int .i64 (mostN r.x fullW : Int)) ∧ Below w2.heap.size w2 w') := fun w2 h => mostC_any r fullW fullW_ws w2 (hr1.below h (Nat.le_refl _))
  have HB := Lib.hid hB1
  have HT : Hid (∀ w2, Below w1.heap.size w1 w2 → w2.heap[w.heap.size]? = some (.cells #[.int .i64 r.x.id, .int .i64 r.x.c, .int .i64 r.x.d, .int .i64 r.x.t, .int .i64 r.x.prio, .slice r.ca r.cl r.cc, .slice r.ua r.ul r.uc] 33 (0, 0))) := fun w2 h => (h.block _ (bx_lt nT)).trans nT
  clear hB1 nT hr hr1
  generalize mostN r.x fullW = m at *
  go_enter Try.func22, Try.ntmps22
  go_wp2_with fail
  try rw [hw1]
  clear hw1
  refine Calm.wp_region_calm (B := w1.heap.size) (W := w1) (by kernel_rfl) (by kernel_rfl) (by kernel_rfl) (Nat.le_refl _) (Below.refl _ _).drew ?_
  apply Exists.intro
  repeat (first
    | (apply Calm.calm_skip
       · rfl
       intro N hN
       go_simp
       apply hN.out
       clear hN N)
    | (apply Calm.calm_val
       · rfl
       · intro w hB hF K hK
         unfold Calm.opAt
         obtain ⟨y0, y1, y2, y3, y4, y5, y6⟩ := seven (HT.out w hB)
         go_simp
         first
           | (simp only [Calm.upon_value]
              exact hK.out _ _ rfl (Below.refl _ _))
           | (simp only [Calm.upon_enter]
              with_reducible refine (KM.out _ (by assumption)).mono ?_
              rintro e w' ⟨rfl, hb⟩
              exact ⟨_, rfl, hK.out _ _ rfl hb⟩)
           | (simp only [Calm.upon_enter]
              with_reducible refine (whole_any _).mono ?_
              rintro e w' ⟨rfl, hb⟩
              exact ⟨_, rfl, hK.out _ _ rfl hb⟩)
       intro N hN
       go_simp
       apply hN.out
       clear hN N))
  apply Calm.calm_nil
  intro w9 hB9 _
  have HE : Hid (Below w.heap.size w w9) := HB.out.trans (hB9.mono HB.out.size)
  clear hB9
  go_wp2
  go_ret
  exact ⟨rfl, HE.out⟩
theorem usedF_any (r : RT) (O : Nat → Nat) (hO : Ws O) (w : World) :
    Calls Try.prog 25 #[.agg #[.int .i64 r.x.id, .int .i64 r.x.c, .int .i64 r.x.d, .int .i64 r.x.t, .int .i64 r.x.prio, .slice r.ca r.cl r.cc, .slice r.ua r.ul r.uc], .agg #[.int .u64 (O 0 : Int), .int .u64 (O 1 : Int), .int .u64 (O 2 : Int), .int .u64 (O 3 : Int)]] w fun e w' => e = .returned (.int .i64 ((listN O).length : Int)) ∧ Below w.heap.size w w' := by
  obtain ⟨w1, hw1⟩ : ∃ w1, (w.alloc (.cells #[.int .i64 r.x.id, .int .i64 r.x.c, .int .i64 r.x.d, .int .i64 r.x.t, .int .i64 r.x.prio, .slice r.ca r.cl r.cc, .slice r.ua r.ul r.uc] 33)).alloc (.cells #[.int .u64 (O 0 : Int), .int .u64 (O 1 : Int), .int .u64 (O 2 : Int), .int .u64 (O 3 : Int)] 50) = w1 := ⟨_, rfl⟩
  have hB1 : Below w.heap.size w w1 := by rw [← hw1]; exact ((Below.refl _ w).alloc (Nat.le_refl _) _).alloc (by simp) _
  have nO : w1.heap[w.heap.size + 1]? = some (.cells #[.int .u64 (O 0 : Int), .int .u64 (O 1 : Int), .int .u64 (O 2 : Int), .int .u64 (O 3 : Int)] 50 (0, 0)) := by rw [← hw1]; exact heap_newT _ _ _ (by simp)
  have KL := len_n hO w1
  rw [bvl] at KL
  have HB := Lib.hid hB1
  obtain ⟨z0, z1, z2, z3⟩ := box4 nO
  clear hB1 nO hO
  generalize (listN O).length = m at *
  go_enter Try.func25, Try.ntmps25
  go_wp2_with fail
  try rw [hw1]
  refine KL.mono ?_
  rintro e w2 ⟨rfl, hb⟩
  have HE : Hid (Below w.heap.size w w2) := HB.out.trans (hb.mono HB.out.size)
  clear hb KL
  go_wp2
  go_ret
  exact ⟨rfl, HE.out⟩
set_option maxRecDepth 100000 in
set_option maxHeartbeats 8000000 in
theorem charge_ok (F : FuncId) (hent : ∀ (args : Array Value) (w : World), (callFunc F args).run Try.prog w = .ok (.enter F args) w) (m : Nat) (hm : m ≤ 256) (S R : Int) (A : Option Addr) (n c : Nat) (q : List RT) (k : Nat) (w : World) (hr : RdT w A n q) (hnc : n ≤ c) (hcm : c ≤ 9223372036854775807) (h : RightS S R n q) (hk : k < n)
    (hF : ∀ (w' : World) (r' : RT), r'.x = (q.getD k default).x → r'.Rd w' → Calls Try.prog F #[.agg #[.int .i64 r'.x.id, .int .i64 r'.x.c, .int .i64 r'.x.d, .int .i64 r'.x.t, .int .i64 r'.x.prio, .slice r'.ca r'.cl r'.cc, .slice r'.ua r'.ul r'.uc], bv (iw (allT q (q.getD k default).x.id n))] w' fun e w'' => e = .returned (.int .i64 (m : Int)) ∧ Below w'.heap.size w' w'') :
    Calls Try.prog 21 #[.agg #[.int .i64 S, .int .i64 R, .slice A n c], .int .i64 (q.getD k default).x.id, .func (.func F) #[] #[]] w fun e w' => e = .returned (.tuple #[.int .i64 (R * (m : Int)), .bool true]) ∧ Below w.heap.size w w' := by
  obtain ⟨w1, hw1⟩ : ∃ w1, w.alloc (.cells #[.int .i64 S, .int .i64 R, .slice A n c] 28) = w1 := ⟨_, rfl⟩
  have hB1 : Below w.heap.size w w1 := by rw [← hw1]; exact (Below.refl _ w).alloc (Nat.le_refl _) _
  have nS : w1.heap[w.heap.size]? = some (.cells #[.int .i64 S, .int .i64 R, .slice A n c] 28 (0, 0)) := by rw [← hw1]; exact heap_newT _ _ _ rfl
  have hr1 := hr.below hB1 (Nat.le_refl _)
  have KF := find_ok S R A n c q k w1 hr1 hnc hcm h hk
  have KC : Hid (∀ w2, Below w1.heap.size w1 w2 → Calls Try.prog 44 #[.agg #[.int .i64 S, .int .i64 R, .slice A n c]] w2 fun e w' => e = .returned (.int .i64 0) ∧ Below w2.heap.size w2 w') := fun w2 hb => check_ok S R A n c q w2 (hr1.below hb (Nat.le_refl _)) hnc hcm h
  have KA : Hid (∀ id w2, Below w1.heap.size w1 w2 → Calls Try.prog 45 #[.slice A n c, .int .i64 id] w2 fun e w' => e = .returned (bv (iw (allT q id n))) ∧ Below w2.heap.size w2 w') := fun id w2 hb => all_any A n c q id w2 (hr1.below hb (Nat.le_refl _)) hnc hcm
  have hR := h.r
  have ew : IntKind.i64.wrap (R * (m : Int)) = R * (m : Int) := by
    have h1 : R * (m : Int) ≤ 1000 * 256 := Int.mul_le_mul hR.2 (by omega) (by omega) (by omega)
    have h2 : 0 ≤ R * (m : Int) := Int.mul_nonneg hR.1 (by omega)
    rw [IntKind.wrap_i64]
    omega
  have HF := Lib.hid hF
  have HB1 := Lib.hid hB1
  have HS1 := Lib.hid nS
  obtain ⟨s0, s1, s2⟩ := bx_three nS
  clear hr h hF hr1 hB1 nS hm
  generalize (q.getD k default).x = x at *
  go_enter Try.func21, Try.ntmps21
  go_wp2_with fail
  try rw [hw1]
  refine KF.mono ?_
  rintro e w2 ⟨r', hx, hr2, _, rfl, hb2⟩
  obtain ⟨w3, hw3⟩ : ∃ w3, w2.alloc (.cells #[.int .i64 r'.x.id, .int .i64 r'.x.c, .int .i64 r'.x.d, .int .i64 r'.x.t, .int .i64 r'.x.prio, .slice r'.ca r'.cl r'.cc, .slice r'.ua r'.ul r'.uc] 33) = w3 := ⟨_, rfl⟩
  have hB3 : Below w1.heap.size w1 w3 := by rw [← hw3]; exact hb2.alloc hb2.size _
  have HT3 : Hid (w3.heap[w2.heap.size]? = some (.cells #[.int .i64 r'.x.id, .int .i64 r'.x.c, .int .i64 r'.x.d, .int .i64 r'.x.t, .int .i64 r'.x.prio, .slice r'.ca r'.cl r'.cc, .slice r'.ua r'.ul r'.uc] 33 (0, 0))) := by rw [← hw3]; exact heap_newT _ _ _ rfl
  have HR3 : Hid (r'.Rd w3) := by rw [← hw3]; exact hr2.below ((Below.refl _ w2).alloc (Nat.le_refl _) _) (Nat.le_refl _)
  have HB3 := Lib.hid hB3
  have HX := Lib.hid hx
  clear s0 s1 s2 hw1
  obtain ⟨s0, s1, s2⟩ := bx_three ((hB3.block _ (bx_lt HS1.out)).trans HS1.out)
  clear KF hx hr2 hb2 hB3
  go_wp2_with fail
  try rw [hw3]
  clear hw3
  refine (KC.out _ HB3.out).mono ?_
  rintro e w4 ⟨rfl, hb4⟩
  have HB4 : Hid (Below w1.heap.size w1 w4) := HB3.out.trans (hb4.mono HB3.out.size)
  have HT4 : Hid (∀ w, Below w4.heap.size w4 w → w.heap[w2.heap.size]? = some (.cells #[.int .i64 r'.x.id, .int .i64 r'.x.c, .int .i64 r'.x.d, .int .i64 r'.x.t, .int .i64 r'.x.prio, .slice r'.ca r'.cl r'.cc, .slice r'.ua r'.ul r'.uc] 33 (0, 0))) := fun w h => (h.block _ (Nat.lt_of_lt_of_le (bx_lt HT3.out) hb4.size)).trans ((hb4.block _ (bx_lt HT3.out)).trans HT3.out)
  have HS4 : Hid (∀ w', Below w4.heap.size w4 w' → w'.heap[w.heap.size]? = some (.cells #[.int .i64 S, .int .i64 R, .slice A n c] 28 (0, 0))) := fun w' h => (h.block _ (Nat.lt_of_lt_of_le (bx_lt HS1.out) HB4.out.size)).trans ((HB4.out.block _ (bx_lt HS1.out)).trans HS1.out)
  have hA4 := fun (w : World) (h : Below w4.heap.size w4 w) => KA.out x.id w (HB4.out.trans (h.mono HB4.out.size))
  have hF4 := fun (w : World) (h : Below w4.heap.size w4 w) => HF.out w r' HX.out ((HR3.out.below hb4 (Nat.le_refl _)).below h (Nat.le_refl _))
  obtain ⟨Z, hZ⟩ : ∃ Z, allT q x.id n = Z := ⟨_, rfl⟩
  simp only [hZ] at hA4 hF4
  simp only [bvl] at hA4 hF4
  have HA4 := Lib.hid hA4
  have HF4 := Lib.hid hF4
  clear s0 s1 s2 hb4 hA4 hF4 hZ KC KA HF HX HR3 HT3 HB3
  go_wp2_with fail
  refine Calm.wp_region_calm (B := w4.heap.size) (W := w4) (by kernel_rfl) (by kernel_rfl) (by kernel_rfl) (Nat.le_refl _) (Below.refl _ _).drew ?_
  apply Exists.intro
  repeat (first
    | (apply Calm.calm_skip
       · rfl
       intro N hN
       go_simp
       apply hN.out
       clear hN N)
    | (apply Calm.calm_val
       · rfl
       · intro w hB hF K hK
         unfold Calm.opAt
         obtain ⟨y0, y1, y2, y3, y4, y5, y6⟩ := seven (HT4.out _ hB)
         obtain ⟨s0, s1, s2⟩ := bx_three (HS4.out _ hB)
         go_simp
         first
           | (simp only [Calm.upon_value]
              exact hK.out _ _ rfl (Below.refl _ _))
           | (simp only [Calm.upon_enter]
              with_reducible refine (HA4.out _ (by assumption)).mono ?_
              rintro e w' ⟨rfl, hb⟩
              exact ⟨_, rfl, hK.out _ _ rfl hb⟩)
           | (simp only [Calm.upon_enter]
              with_reducible refine (HF4.out _ (by assumption)).mono ?_
              rintro e w' ⟨rfl, hb⟩
              exact ⟨_, rfl, hK.out _ _ rfl hb⟩)
       intro N hN
       go_simp
       apply hN.out
       clear hN N))
  apply Calm.calm_nil
  intro w9 hB9 _
  have HE : Hid (Below w.heap.size w w9) := (HB1.out.trans (HB4.out.mono HB1.out.size)).trans (hB9.mono (Nat.le_trans HB1.out.size HB4.out.size))
  clear hB9
  go_wp2
  go_ret2
  exact ⟨rfl, HE.out⟩
theorem ent_useful : ∀ (args : Array Value) (w : World), (callFunc 22 args).run Try.prog w = .ok (.enter 22 args) w := by
  intro args w
  go_simp
theorem ent_used : ∀ (args : Array Value) (w : World), (callFunc 25 args).run Try.prog w = .ok (.enter 25 args) w := by
  intro args w
  go_simp
theorem ent_both : ∀ (args : Array Value) (w : World), (callFunc 23 args).run Try.prog w = .ok (.enter 23 args) w := by
  intro args w
  go_simp
end Go.Proofs.Ytaofldlidifdcaa.Blk

/-
  Package charge: the charges of a system that is right.
-/
namespace Go.Proofs.Ytaofldlidifdcaa.Blk
open Go.RowKit Go.Shelf Go.Proofs.Ytaofldlidifdcaa.Sys Go.Proofs.Ytaofldlidifdcaa.Box Go.Proofs.Ytaofldlidifdcaa.Bits Go.Proofs.Ytaofldlidifdcaa.Tsk

def leastN (u : Int) (f : Nat → Int) : Nat → Int
  | 0 => u
  | k + 1 => if leastN u f k ≤ f k then leastN u f k else f k
theorem leastN_two (u : Int) (f : Nat → Int) : leastN u f 2 = min (min u (f 0)) (f 1) := by
  simp only [leastN]
  omega
theorem least_two (u : Int) (f : Nat → Int) (bk : Nat) (w : World) (h : ∀ i, i < 2 → w.cell? ⟨bk, i, none⟩ = some (.int .i64 (f i))) :
    Calls Try.prog 48 #[.int .i64 u, .slice (some ⟨bk, 0, none⟩) 2 2] w fun e w' => e = .returned (.int .i64 (min (min u (f 0)) (f 1))) ∧ w = w' := by
  have HC := Lib.hid h
  clear h
  go_enter Try.func48, Try.ntmps48
  go_wp2
  go_step3
  go_wp2
  go_step3
  go_wp2
  go_loopg [0, 9] 2 (fun g xv iv wr => ∃ (i : Nat), i ≤ 2 ∧ xv = .int .i64 (leastN u f i) ∧ iv = .int .i64 (i : Int) ∧ Aside (2 - i = g) ∧ wr = w)
  case atStart => exact ⟨0, Nat.zero_le _, rfl, rfl, rfl, rfl⟩
  case round =>
    obtain ⟨i, hi, rfl, rfl, hk, rfl⟩ := hrel
    by_cases hlt : i < 2
    · have h1 : decide ((i : Int) < 2) = true := by simp; omega
      have hcell := HC.out i hlt
      have hs : Aside (leastN u f (i + 1) = if leastN u f i ≤ f i then leastN u f i else f i) := rfl
      generalize leastN u f i = y at *
      generalize f i = z at *
      by_cases hyz : y ≤ z
      · have h2 : decide (z ≥ y) = true := by simpa using hyz
        have h2' : decide (y ≤ z) = true := by simpa using hyz
        have HY := Lib.hid hyz
        clear hyz
        go_wp2
        go_roundg (2 - (i + 1))
        case measure => have := hk.out; omega
        case rel => exact ⟨i + 1, by omega, by rw [hs.out, if_pos HY.out], by go_num, rfl, rfl⟩
      · have h2 : decide (z ≥ y) = false := by simpa using hyz
        have h2' : decide (y ≤ z) = false := by simpa using hyz
        have HY := Lib.hid hyz
        clear hyz
        go_wp2
        go_roundg (2 - (i + 1))
        case measure => have := hk.out; omega
        case rel => exact ⟨i + 1, by omega, by rw [hs.out, if_neg (Int.not_le.2 HY.out)], by go_num, rfl, rfl⟩
    · have h1 : decide ((i : Int) < 2) = false := by simp; omega
      have he : i = 2 := by omega
      have HE := Lib.hid he
      clear he
      go_wp2
      try rw [Exit.noGoto_ret]
      go_ret
      refine ⟨?_, rfl⟩
      rw [HE.out, leastN_two]
      rfl
theorem useful_sys (S R : Int) (A : Option Addr) (n c : Nat) (q : List RT) (k : Nat) (w : World) (hr : RdT w A n q) (hnc : n ≤ c) (hcm : c ≤ 9223372036854775807) (h : RightS S R n q) (hk : k < n) :
    Calls Try.prog 10 #[.agg #[.int .i64 S, .int .i64 R, .slice A n c], .int .i64 (q.getD k default).x.id] w fun e w' => e = .returned (.tuple #[.int .i64 (R * ((mostN (q.getD k default).x fullW : Nat) : Int)), .bool true]) ∧ Below w.heap.size w w' := by
  obtain ⟨w1, hw1⟩ : ∃ w1, w.alloc (.cells #[.int .i64 S, .int .i64 R, .slice A n c] 28) = w1 := ⟨_, rfl⟩
  have hB1 : Below w.heap.size w w1 := by rw [← hw1]; exact (Below.refl _ w).alloc (Nat.le_refl _) _
  have nS : w1.heap[w.heap.size]? = some (.cells #[.int .i64 S, .int .i64 R, .slice A n c] 28 (0, 0)) := by rw [← hw1]; exact heap_newT _ _ _ rfl
  have KC := charge_ok 22 ent_useful (mostN (q.getD k default).x fullW) (mostN_le _ _) S R A n c q k w1 (hr.below hB1 (Nat.le_refl _)) hnc hcm h hk (fun w' r' hx hr' => by
    have h1 := useF_any r' (allT q (q.getD k default).x.id n 0) (allT q (q.getD k default).x.id n 1) (allT q (q.getD k default).x.id n 2) (allT q (q.getD k default).x.id n 3) w' hr'
    rw [hx] at h1
    rw [hx, bvl]
    exact h1)
  have HB1 := Lib.hid hB1
  obtain ⟨s0, s1, s2⟩ := bx_three nS
  clear hr h hB1 nS
  generalize (mostN (q.getD k default).x fullW) = m at *
  generalize (q.getD k default).x = x at *
  go_enter Try.func10, Try.ntmps10
  go_wp2_with fail
  try rw [hw1]
  refine KC.mono ?_
  rintro e w2 ⟨rfl, hb⟩
  have HE : Hid (Below w.heap.size w w2) := HB1.out.trans (hb.mono HB1.out.size)
  clear hb KC
  go_wp2
  go_ret2
  exact ⟨rfl, HE.out⟩
theorem used_sys (S R : Int) (A : Option Addr) (n c : Nat) (q : List RT) (k : Nat) (w : World) (hr : RdT w A n q) (hnc : n ≤ c) (hcm : c ≤ 9223372036854775807) (h : RightS S R n q) (hk : k < n) :
    Calls Try.prog 11 #[.agg #[.int .i64 S, .int .i64 R, .slice A n c], .int .i64 (q.getD k default).x.id] w fun e w' => e = .returned (.tuple #[.int .i64 (R * (((listN (allT q (q.getD k default).x.id n)).length : Nat) : Int)), .bool true]) ∧ Below w.heap.size w w' := by
  obtain ⟨w1, hw1⟩ : ∃ w1, w.alloc (.cells #[.int .i64 S, .int .i64 R, .slice A n c] 28) = w1 := ⟨_, rfl⟩
  have hB1 : Below w.heap.size w w1 := by rw [← hw1]; exact (Below.refl _ w).alloc (Nat.le_refl _) _
  have nS : w1.heap[w.heap.size]? = some (.cells #[.int .i64 S, .int .i64 R, .slice A n c] 28 (0, 0)) := by rw [← hw1]; exact heap_newT _ _ _ rfl
  have KC := charge_ok 25 ent_used ((listN (allT q (q.getD k default).x.id n)).length) (listN_le _) S R A n c q k w1 (hr.below hB1 (Nat.le_refl _)) hnc hcm h hk (fun w' r' hx hr' => by
    have h1 := usedF_any r' _ (allW q (q.getD k default).x.id n) w'
    rw [bvl]
    exact h1)
  have HB1 := Lib.hid hB1
  obtain ⟨s0, s1, s2⟩ := bx_three nS
  clear hr h hB1 nS
  generalize ((listN (allT q (q.getD k default).x.id n)).length) = m at *
  generalize (q.getD k default).x = x at *
  go_enter Try.func11, Try.ntmps11
  go_wp2_with fail
  try rw [hw1]
  refine KC.mono ?_
  rintro e w2 ⟨rfl, hb⟩
  have HE : Hid (Below w.heap.size w w2) := HB1.out.trans (hb.mono HB1.out.size)
  clear hb KC
  go_wp2
  go_ret2
  exact ⟨rfl, HE.out⟩
theorem both_sys (S R : Int) (A : Option Addr) (n c : Nat) (q : List RT) (k : Nat) (w : World) (hr : RdT w A n q) (hnc : n ≤ c) (hcm : c ≤ 9223372036854775807) (h : RightS S R n q) (hk : k < n) :
    Calls Try.prog 12 #[.agg #[.int .i64 S, .int .i64 R, .slice A n c], .int .i64 (q.getD k default).x.id] w fun e w' => e = .returned (.tuple #[.int .i64 (R * ((mostN (q.getD k default).x (allT q (q.getD k default).x.id n) : Nat) : Int)), .bool true]) ∧ Below w.heap.size w w' := by
  obtain ⟨w1, hw1⟩ : ∃ w1, w.alloc (.cells #[.int .i64 S, .int .i64 R, .slice A n c] 28) = w1 := ⟨_, rfl⟩
  have hB1 : Below w.heap.size w w1 := by rw [← hw1]; exact (Below.refl _ w).alloc (Nat.le_refl _) _
  have nS : w1.heap[w.heap.size]? = some (.cells #[.int .i64 S, .int .i64 R, .slice A n c] 28 (0, 0)) := by rw [← hw1]; exact heap_newT _ _ _ rfl
  have KC := charge_ok 23 ent_both (mostN (q.getD k default).x (allT q (q.getD k default).x.id n)) (mostN_le _ _) S R A n c q k w1 (hr.below hB1 (Nat.le_refl _)) hnc hcm h hk (fun w' r' hx hr' => by
    have h1 := mostC_any r' _ (allW q (q.getD k default).x.id n) w' hr'
    rw [hx] at h1
    rw [hx, bvl]
    exact h1)
  have HB1 := Lib.hid hB1
  obtain ⟨s0, s1, s2⟩ := bx_three nS
  clear hr h hB1 nS
  generalize (mostN (q.getD k default).x (allT q (q.getD k default).x.id n)) = m at *
  generalize (q.getD k default).x = x at *
  go_enter Try.func12, Try.ntmps12
  go_wp2_with fail
  try rw [hw1]
  refine KC.mono ?_
  rintro e w2 ⟨rfl, hb⟩
  have HE : Hid (Below w.heap.size w w2) := HB1.out.trans (hb.mono HB1.out.size)
  clear hb KC
  go_wp2
  go_ret2
  exact ⟨rfl, HE.out⟩
theorem bx_put5 {w : World} {b : Nat} {t : TypeId} {u0 u1 u2 u3 u4 : Value} (h : w.heap[b]? = some (.cells #[u0, u1, u2, u3, u4] t (0, 0))) (v0 v1 v2 v3 v4 : Value) :
    (((((w.setCell ⟨b, 0, none⟩ v0).setCell ⟨b, 1, none⟩ v1).setCell ⟨b, 2, none⟩ v2).setCell ⟨b, 3, none⟩ v3).setCell ⟨b, 4, none⟩ v4).heap[b]? = some (.cells #[v0, v1, v2, v3, v4] t (0, 0)) := by
  have h1 := Lib.heap_setCell_same (i := 0) h v0
  have h2 := Lib.heap_setCell_same (i := 1) h1 v1
  have h3 := Lib.heap_setCell_same (i := 2) h2 v2
  have h4 := Lib.heap_setCell_same (i := 3) h3 v3
  have h5 := Lib.heap_setCell_same (i := 4) h4 v4
  rw [h5]
  simp
theorem bx_five {w : World} {b : Nat} {t : TypeId} {u0 u1 u2 u3 u4 : Value} (h : w.heap[b]? = some (.cells #[u0, u1, u2, u3, u4] t (0, 0))) : w.cell? ⟨b, 0, none⟩ = some u0 ∧ w.cell? ⟨b, 1, none⟩ = some u1 ∧ w.cell? ⟨b, 2, none⟩ = some u2 ∧ w.cell? ⟨b, 3, none⟩ = some u3 ∧ w.cell? ⟨b, 4, none⟩ = some u4 := by
  refine ⟨?_, ?_, ?_, ?_, ?_⟩ <;> simp [World.cell?, h]
set_option maxRecDepth 100000 in
set_option maxHeartbeats 4000000 in
theorem one_sys (S R : Int) (A : Option Addr) (n c : Nat) (q : List RT) (k : Nat) (w : World) (hr : RdT w A n q) (hnc : n ≤ c) (hcm : c ≤ 9223372036854775807) (h : RightS S R n q) (hk : k < n) (v1 v2 v3 : Int) (hv1 : R * ((mostN (q.getD k default).x fullW : Nat) : Int) = v1) (hv2 : R * (((listN (allT q (q.getD k default).x.id n)).length : Nat) : Int) = v2) (hv3 : R * ((mostN (q.getD k default).x (allT q (q.getD k default).x.id n) : Nat) : Int) = v3) :
    Calls Try.prog 27 #[.agg #[.int .i64 S, .int .i64 R, .slice A n c], .int .i64 (q.getD k default).x.id] w fun e w' => e = .returned (.tuple #[.agg #[.int .i64 (q.getD k default).x.id, .int .i64 v1, .int .i64 v2, .int .i64 v3, .int .i64 (min (min v1 v2) v3)], .bool true]) ∧ Below w.heap.size w w' := by
  have KU := fun w1 (hb : Below w.heap.size w w1) => useful_sys S R A n c q k w1 (hr.below hb (Nat.le_refl _)) hnc hcm h hk
  have KV := fun w1 (hb : Below w.heap.size w w1) => used_sys S R A n c q k w1 (hr.below hb (Nat.le_refl _)) hnc hcm h hk
  have KB := fun w1 (hb : Below w.heap.size w w1) => both_sys S R A n c q k w1 (hr.below hb (Nat.le_refl _)) hnc hcm h hk
  clear hr h hk
  simp only [hv1] at KU
  simp only [hv2] at KV
  simp only [hv3] at KB
  clear hv1 hv2 hv3
  replace KU := Lib.hid KU
  replace KV := Lib.hid KV
  replace KB := Lib.hid KB
  generalize (q.getD k default).x.id = id at *
  go_enter Try.func27, Try.ntmps27
  go_wp2_with fail
  obtain ⟨w3, hw3⟩ : ∃ w3, ((w.alloc (.cells #[.int .i64 S, .int .i64 R, .slice A n c] 28)).alloc (.cells #[.int .i64 0, .int .i64 0, .int .i64 0, .int .i64 0, .int .i64 0] 70)).alloc (.cells #[.int .i64 id, .int .i64 0, .int .i64 0, .int .i64 0, .int .i64 0] 70) = w3 := ⟨_, rfl⟩
  have hB3 : Below w.heap.size w w3 := by rw [← hw3]; exact (((Below.refl _ w).alloc (Nat.le_refl _) _).alloc (by simp) _).alloc (by simp; omega) _
  have nS : w3.heap[w.heap.size]? = some (.cells #[.int .i64 S, .int .i64 R, .slice A n c] 28 (0, 0)) := by rw [← hw3, Below.heap_alloc _ _ _ (by simp; omega), Below.heap_alloc _ _ _ (by simp)]; exact heap_newT _ _ _ rfl
  have nR : w3.heap[w.heap.size + 1]? = some (.cells #[.int .i64 0, .int .i64 0, .int .i64 0, .int .i64 0, .int .i64 0] 70 (0, 0)) := by rw [← hw3, Below.heap_alloc _ _ _ (by simp)]; exact heap_newT _ _ _ (by simp)
  have nC : w3.heap[w.heap.size + 1 + 1]? = some (.cells #[.int .i64 id, .int .i64 0, .int .i64 0, .int .i64 0, .int .i64 0] 70 (0, 0)) := by rw [← hw3]; exact heap_newT _ _ _ (by simp)
  have HB3 := Lib.hid hB3
  have NS3 := Lib.hid nS
  have NR3 := Lib.hid nR
  have NC3 := Lib.hid nC
  obtain ⟨s0, s1, s2⟩ := bx_three nS
  clear hB3 nS nR nC
  rw [hw3]
  clear hw3
  refine (KU.out _ HB3.out).mono ?_
  rintro e w4 ⟨rfl, hb4⟩
  have HB4 : Hid (Below w.heap.size w w4) := HB3.out.trans (hb4.mono HB3.out.size)
  have NS4 : Hid (w4.heap[w.heap.size]? = some (.cells #[.int .i64 S, .int .i64 R, .slice A n c] 28 (0, 0))) := (hb4.block _ (bx_lt NS3.out)).trans NS3.out
  have NR4 : Hid (w4.heap[w.heap.size + 1]? = some (.cells #[.int .i64 0, .int .i64 0, .int .i64 0, .int .i64 0, .int .i64 0] 70 (0, 0))) := (hb4.block _ (bx_lt NR3.out)).trans NR3.out
  have NC4 : Hid (w4.heap[w.heap.size + 1 + 1]? = some (.cells #[.int .i64 id, .int .i64 0, .int .i64 0, .int .i64 0, .int .i64 0] 70 (0, 0))) := (hb4.block _ (bx_lt NC3.out)).trans NC3.out
  clear hb4
  clear s0 s1 s2
  obtain ⟨s0, s1, s2⟩ := bx_three NS4.out
  obtain ⟨c0, c1, c2, c3, c4⟩ := bx_five NC4.out
  have fz := bx_free NC4.out 1
  go_wp2_with fail
  obtain ⟨w5, hw5⟩ : ∃ w5, w4.setCell ⟨w.heap.size + 1 + 1, 1, none⟩ (.int .i64 v1) = w5 := ⟨_, rfl⟩
  have HB5 : Hid (Below w.heap.size w w5) := by rw [← hw5]; exact bx_below HB4.out _ (by omega) _ _
  have NS5 : Hid (w5.heap[w.heap.size]? = some (.cells #[.int .i64 S, .int .i64 R, .slice A n c] 28 (0, 0))) := by rw [← hw5]; exact (bx_other _ _ _ _ (by omega) _).trans NS4.out
  have NR5 : Hid (w5.heap[w.heap.size + 1]? = some (.cells #[.int .i64 0, .int .i64 0, .int .i64 0, .int .i64 0, .int .i64 0] 70 (0, 0))) := by rw [← hw5]; exact (bx_other _ _ _ _ (by omega) _).trans NR4.out
  have NC5 : Hid (w5.heap[w.heap.size + 1 + 1]? = some (.cells #[.int .i64 id, .int .i64 v1, .int .i64 0, .int .i64 0, .int .i64 0] 70 (0, 0))) := by rw [← hw5]; exact (Lib.heap_setCell_same (i := 1) NC4.out _).trans (by simp)
  rw [hw5]
  clear hw5 fz
  refine (KV.out _ HB5.out).mono ?_
  rintro e w6 ⟨rfl, hb6⟩
  have HB6 : Hid (Below w.heap.size w w6) := HB5.out.trans (hb6.mono HB5.out.size)
  have NS6 : Hid (w6.heap[w.heap.size]? = some (.cells #[.int .i64 S, .int .i64 R, .slice A n c] 28 (0, 0))) := (hb6.block _ (bx_lt NS5.out)).trans NS5.out
  have NR6 : Hid (w6.heap[w.heap.size + 1]? = some (.cells #[.int .i64 0, .int .i64 0, .int .i64 0, .int .i64 0, .int .i64 0] 70 (0, 0))) := (hb6.block _ (bx_lt NR5.out)).trans NR5.out
  have NC6 : Hid (w6.heap[w.heap.size + 1 + 1]? = some (.cells #[.int .i64 id, .int .i64 v1, .int .i64 0, .int .i64 0, .int .i64 0] 70 (0, 0))) := (hb6.block _ (bx_lt NC5.out)).trans NC5.out
  clear hb6
  clear s0 s1 s2 c0 c1 c2 c3 c4
  obtain ⟨s0, s1, s2⟩ := bx_three NS6.out
  obtain ⟨c0, c1, c2, c3, c4⟩ := bx_five NC6.out
  have fz := bx_free NC6.out 2
  go_wp2_with fail
  obtain ⟨w7, hw7⟩ : ∃ w7, w6.setCell ⟨w.heap.size + 1 + 1, 2, none⟩ (.int .i64 v2) = w7 := ⟨_, rfl⟩
  have HB7 : Hid (Below w.heap.size w w7) := by rw [← hw7]; exact bx_below HB6.out _ (by omega) _ _
  have NS7 : Hid (w7.heap[w.heap.size]? = some (.cells #[.int .i64 S, .int .i64 R, .slice A n c] 28 (0, 0))) := by rw [← hw7]; exact (bx_other _ _ _ _ (by omega) _).trans NS6.out
  have NR7 : Hid (w7.heap[w.heap.size + 1]? = some (.cells #[.int .i64 0, .int .i64 0, .int .i64 0, .int .i64 0, .int .i64 0] 70 (0, 0))) := by rw [← hw7]; exact (bx_other _ _ _ _ (by omega) _).trans NR6.out
  have NC7 : Hid (w7.heap[w.heap.size + 1 + 1]? = some (.cells #[.int .i64 id, .int .i64 v1, .int .i64 v2, .int .i64 0, .int .i64 0] 70 (0, 0))) := by rw [← hw7]; exact (Lib.heap_setCell_same (i := 2) NC6.out _).trans (by simp)
  rw [hw7]
  clear hw7 fz
  refine (KB.out _ HB7.out).mono ?_
  rintro e w8 ⟨rfl, hb8⟩
  have HB8 : Hid (Below w.heap.size w w8) := HB7.out.trans (hb8.mono HB7.out.size)
  have NS8 : Hid (w8.heap[w.heap.size]? = some (.cells #[.int .i64 S, .int .i64 R, .slice A n c] 28 (0, 0))) := (hb8.block _ (bx_lt NS7.out)).trans NS7.out
  have NR8 : Hid (w8.heap[w.heap.size + 1]? = some (.cells #[.int .i64 0, .int .i64 0, .int .i64 0, .int .i64 0, .int .i64 0] 70 (0, 0))) := (hb8.block _ (bx_lt NR7.out)).trans NR7.out
  have NC8 : Hid (w8.heap[w.heap.size + 1 + 1]? = some (.cells #[.int .i64 id, .int .i64 v1, .int .i64 v2, .int .i64 0, .int .i64 0] 70 (0, 0))) := (hb8.block _ (bx_lt NC7.out)).trans NC7.out
  clear hb8
  clear s0 s1 s2 c0 c1 c2 c3 c4
  obtain ⟨s0, s1, s2⟩ := bx_three NS8.out
  obtain ⟨c0, c1, c2, c3, c4⟩ := bx_five NC8.out
  have fz := bx_free NC8.out 3
  obtain ⟨w9, hw9⟩ : ∃ w9, w8.setCell ⟨w.heap.size + 1 + 1, 3, none⟩ (.int .i64 v3) = w9 := ⟨_, rfl⟩
  have HB9 : Hid (Below w.heap.size w w9) := by rw [← hw9]; exact bx_below HB8.out _ (by omega) _ _
  have NS9 : Hid (w9.heap[w.heap.size]? = some (.cells #[.int .i64 S, .int .i64 R, .slice A n c] 28 (0, 0))) := by rw [← hw9]; exact (bx_other _ _ _ _ (by omega) _).trans NS8.out
  have NR9 : Hid (w9.heap[w.heap.size + 1]? = some (.cells #[.int .i64 0, .int .i64 0, .int .i64 0, .int .i64 0, .int .i64 0] 70 (0, 0))) := by rw [← hw9]; exact (bx_other _ _ _ _ (by omega) _).trans NR8.out
  have NC9 : Hid (w9.heap[w.heap.size + 1 + 1]? = some (.cells #[.int .i64 id, .int .i64 v1, .int .i64 v2, .int .i64 v3, .int .i64 0] 70 (0, 0))) := by rw [← hw9]; exact (Lib.heap_setCell_same (i := 3) NC8.out _).trans (by simp)
  clear s0 s1 s2 c0 c1 c2 c3 c4
  obtain ⟨s0, s1, s2⟩ := bx_three NS9.out
  obtain ⟨c0, c1, c2, c3, c4⟩ := bx_five NC9.out
  clear KU KV KB HB3 NS3 NR3 NC3 HB4 NS4 NR4 NC4 HB5 NS5 NR5 NC5 HB6 NS6 NR6 NC6 HB7 NS7 NR7 NC7
  obtain ⟨z0, z1, z2⟩ := bx_three NS8.out
  obtain ⟨y0, y1, y2, y3, y4⟩ := bx_five NC8.out
  go_wp2_with fail
  obtain ⟨wA, hwA⟩ : ∃ wA, w9.alloc (.cells #[.int .i64 v2, .int .i64 v3] 2) = wA := ⟨_, rfl⟩
  rw [hwA]
  have hbA : Below w9.heap.size w9 wA := by rw [← hwA]; exact (Below.refl _ w9).alloc (Nat.le_refl _) _
  have nA : wA.heap[w9.heap.size]? = some (.cells #[.int .i64 v2, .int .i64 v3] 2 (0, 0)) := by rw [← hwA]; exact heap_newT _ _ _ rfl
  clear hwA
  have KL : Calls Try.prog 48 #[.int .i64 v1, .slice (some ⟨w9.heap.size, 0, none⟩) 2 2] wA fun e w' => e = .returned (.int .i64 (min (min v1 v2) v3)) ∧ wA = w' := least_two v1 (fun i => if i = 0 then v2 else v3) _ wA (by
    intro i hi
    obtain ⟨g0, g1⟩ := bx_two nA
    match i, hi with
    | 0, _ => exact g0
    | 1, _ => exact g1)
  clear nA
  refine KL.mono ?_
  rintro e w' ⟨rfl, rfl⟩
  clear KL
  have HBA : Hid (Below w.heap.size w wA) := HB9.out.trans (hbA.mono HB9.out.size)
  have NSA : Hid (wA.heap[w.heap.size]? = some (.cells #[.int .i64 S, .int .i64 R, .slice A n c] 28 (0, 0))) := (hbA.block _ (bx_lt NS9.out)).trans NS9.out
  have NRA : Hid (wA.heap[w.heap.size + 1]? = some (.cells #[.int .i64 0, .int .i64 0, .int .i64 0, .int .i64 0, .int .i64 0] 70 (0, 0))) := (hbA.block _ (bx_lt NR9.out)).trans NR9.out
  have NCA : Hid (wA.heap[w.heap.size + 1 + 1]? = some (.cells #[.int .i64 id, .int .i64 v1, .int .i64 v2, .int .i64 v3, .int .i64 0] 70 (0, 0))) := (hbA.block _ (bx_lt NC9.out)).trans NC9.out
  clear hbA
  obtain ⟨g, hg⟩ : ∃ g, min (min v1 v2) v3 = g := ⟨_, rfl⟩
  simp only [hg]
  clear s0 s1 s2 c0 c1 c2 c3 c4 z0 z1 z2 y0 y1 y2 y3 y4 hw9 fz
  obtain ⟨c0, c1, c2, c3, c4⟩ := bx_five NCA.out
  obtain ⟨r0, r1, r2, r3, r4⟩ := bx_five NRA.out
  have fz := bx_free NCA.out 4
  have fy := bx_free NRA.out
  clear HB9 NS9 NR9 NC9 NSA HB8 NS8 NR8 NC8
  obtain ⟨wB, hwB⟩ : ∃ wB, wA.setCell ⟨w.heap.size + 1 + 1, 4, none⟩ (.int .i64 g) = wB := ⟨_, rfl⟩
  have HBB : Hid (Below w.heap.size w wB) := by rw [← hwB]; exact bx_below HBA.out _ (by omega) _ _
  -- (wB.heap[w.heap.size]? = some (.cells #[.int .i64 S, .int .i64 R, .slice A n c] 28 (0, 0))) := by rw [← hwB]; exact (bx_other _ _ _ _ (by omega) _).trans NSA.out
  have NRB : Hid (wB.heap[w.heap.size + 1]? = some (.cells #[.int .i64 0, .int .i64 0, .int .i64 0, .int .i64 0, .int .i64 0] 70 (0, 0))) := by rw [← hwB]; exact (bx_other _ _ _ _ (by omega) _).trans NRA.out
  have NCB : Hid (wB.heap[w.heap.size + 1 + 1]? = some (.cells #[.int .i64 id, .int .i64 v1, .int .i64 v2, .int .i64 v3, .int .i64 g] 70 (0, 0))) := by rw [← hwB]; exact (Lib.heap_setCell_same (i := 4) NCA.out _).trans (by simp)
  obtain ⟨y0, y1, y2, y3, y4⟩ := bx_five NCB.out
  obtain ⟨x0, x1, x2, x3, x4⟩ := bx_five NRB.out
  have fx := bx_free NRB.out
  go_wp2_with fail
  have HE : Hid (Below w.heap.size w (((((wB.setCell ⟨w.heap.size + 1, 0, none⟩ (.int .i64 id)).setCell ⟨w.heap.size + 1, 1, none⟩ (.int .i64 v1)).setCell ⟨w.heap.size + 1, 2, none⟩ (.int .i64 v2)).setCell ⟨w.heap.size + 1, 3, none⟩ (.int .i64 v3)).setCell ⟨w.heap.size + 1, 4, none⟩ (.int .i64 g))) := bx_below (bx_below (bx_below (bx_below (bx_below HBB.out _ (by omega) _ _) _ (by omega) _ _) _ (by omega) _ _) _ (by omega) _ _) _ (by omega) _ _
  have nE : (((((wB.setCell ⟨w.heap.size + 1, 0, none⟩ (.int .i64 id)).setCell ⟨w.heap.size + 1, 1, none⟩ (.int .i64 v1)).setCell ⟨w.heap.size + 1, 2, none⟩ (.int .i64 v2)).setCell ⟨w.heap.size + 1, 3, none⟩ (.int .i64 v3)).setCell ⟨w.heap.size + 1, 4, none⟩ (.int .i64 g)).heap[w.heap.size + 1]? = some (.cells #[.int .i64 id, .int .i64 v1, .int .i64 v2, .int .i64 v3, .int .i64 g] 70 (0, 0)) := bx_put5 NRB.out _ _ _ _ _
  generalize ((((wB.setCell ⟨w.heap.size + 1, 0, none⟩ (.int .i64 id)).setCell ⟨w.heap.size + 1, 1, none⟩ (.int .i64 v1)).setCell ⟨w.heap.size + 1, 2, none⟩ (.int .i64 v2)).setCell ⟨w.heap.size + 1, 3, none⟩ (.int .i64 v3)).setCell ⟨w.heap.size + 1, 4, none⟩ (.int .i64 g) = wE at *
  obtain ⟨q0, q1, q2, q3, q4⟩ := bx_five nE
  clear nE x0 x1 x2 x3 x4 y0 y1 y2 y3 y4 r0 r1 r2 r3 r4 c0 c1 c2 c3 c4 hwB
  refine bodyPost_ret (v := .tuple #[.agg #[.int .i64 id, .int .i64 v1, .int .i64 v2, .int .i64 v3, .int .i64 g], .bool true]) ?_ rfl ⟨by rw [hg], HE.out⟩
  simp [results, Try.results27, go_sem, q0, q1, q2, q3, q4]
set_option maxRecDepth 100000 in
set_option maxHeartbeats 4000000 in
theorem of_sys (S R : Int) (A : Option Addr) (n c : Nat) (q : List RT) (k : Nat) (w : World) (hr : RdT w A n q) (hnc : n ≤ c) (hcm : c ≤ 9223372036854775807) (h : RightS S R n q) (hk : k < n) (v1 v2 v3 : Int) (hv1 : R * ((mostN (q.getD k default).x fullW : Nat) : Int) = v1) (hv2 : R * (((listN (allT q (q.getD k default).x.id n)).length : Nat) : Int) = v2) (hv3 : R * ((mostN (q.getD k default).x (allT q (q.getD k default).x.id n) : Nat) : Int) = v3) :
    Calls Try.prog 13 #[.agg #[.int .i64 S, .int .i64 R, .slice A n c], .int .i64 (q.getD k default).x.id] w fun e w' => e = .returned (.tuple #[.int .i64 (min (min v1 v2) v3), .bool true]) ∧ Below w.heap.size w w' := by
  obtain ⟨w1, hw1⟩ : ∃ w1, w.alloc (.cells #[.int .i64 S, .int .i64 R, .slice A n c] 28) = w1 := ⟨_, rfl⟩
  have hB1 : Below w.heap.size w w1 := by rw [← hw1]; exact (Below.refl _ w).alloc (Nat.le_refl _) _
  have nS : w1.heap[w.heap.size]? = some (.cells #[.int .i64 S, .int .i64 R, .slice A n c] 28 (0, 0)) := by rw [← hw1]; exact heap_newT _ _ _ rfl
  have KC := one_sys S R A n c q k w1 (hr.below hB1 (Nat.le_refl _)) hnc hcm h hk v1 v2 v3 hv1 hv2 hv3
  have HB1 := Lib.hid hB1
  obtain ⟨s0, s1, s2⟩ := bx_three nS
  clear hr h hB1 nS hv1 hv2 hv3
  generalize min (min v1 v2) v3 = g at *
  generalize (q.getD k default).x = x at *
  go_enter Try.func13, Try.ntmps13
  go_wp2_with fail
  try rw [hw1]
  refine KC.mono ?_
  rintro e w2 ⟨rfl, hb⟩
  have HE : Hid (Below w.heap.size w w2) := HB1.out.trans (hb.mono HB1.out.size)
  clear hb KC
  go_wp2
  go_ret2
  exact ⟨rfl, HE.out.alloc HE.out.size _⟩
end Go.Proofs.Ytaofldlidifdcaa.Blk

/-
  Charges, in plain Lean: which is less than which.
-/
namespace Go.Proofs.Ytaofldlidifdcaa.Blk
open Go.RowKit Go.Shelf Go.Proofs.Ytaofldlidifdcaa.Sys Go.Proofs.Ytaofldlidifdcaa.Box Go.Proofs.Ytaofldlidifdcaa.Bits Go.Proofs.Ytaofldlidifdcaa.Tsk

theorem sum_len : ∀ (l : List Int), (∀ k ∈ l, 1 ≤ k) → (l.length : Int) ≤ l.sum
  | [], _ => Int.le_refl _
  | a :: l, h => by
    have h1 := h a (List.mem_cons_self ..)
    have h2 := sum_len l fun k hk => h k (List.mem_cons_of_mem _ hk)
    simp only [List.length_cons, List.sum_cons]
    omega
theorem rightT_of {i : Nat} {S : Int} {x : TaskV} (hi : i < 6) (h : TOk i S x) : RightT S x := by
  obtain ⟨p1, p2⟩ := period_bd h.tp
  obtain ⟨r, r1, r9, hp⟩ := h.pr
  have e1 := h.id
  have e2 := h.c1
  have e3 := h.cd
  have e4 := h.dt
  have e5 := h.ul
  refine ⟨⟨by omega, by omega⟩, ⟨by omega, by omega⟩, ⟨e2, e3⟩, ⟨by omega, e4⟩, by omega, ⟨h.ch, h.cs, ?_⟩, by omega, h.us⟩
  by_cases hc : x.chunks = []
  · rw [hc]; decide
  · have := sum_len _ h.ch
    rw [h.cs hc] at this
    omega
theorem right_of {w : World} {B S : Nat} {R : Int} {A : Option Addr} {n c : Nat} {q : List RT} (h : SysOk w B S R A n c q) : RightS (S : Int) R n q where
  s := ⟨by omega, by have := h.s8; omega⟩
  r := ⟨h.r0, by have := h.r3; omega⟩
  n1 := h.n1
  n64 := by have := h.n6; omega
  t := fun i hi => rightT_of (by have := h.n6; omega) (h.ok i hi)
  inc := fun i hi => by rw [(h.ok i (by omega)).id, (h.ok (i + 1) hi).id]; omega
  pr := fun i j h1 h2 => by
    obtain ⟨r, _, _, e1⟩ := (h.ok i (by omega)).pr
    obtain ⟨r', _, _, e2⟩ := (h.ok j h2).pr
    have := h.n6
    omega
theorem full_has (i : Nat) (hi : i < 256) : hasN fullW i = true := by
  have h : ∀ i ∈ List.range 256, hasN fullW i = true := by decide +kernel
  exact h i (List.mem_range.2 hi)
theorem most_up {x : TaskV} {A O : Nat → Nat} (h : ∀ i, i < 256 → hasN A i = true → hasN O i = true) : mostN x A ≤ mostN x O := (most_spec x A).up2 (most_spec x O) h
theorem most_full (x : TaskV) (A : Nat → Nat) : mostN x A ≤ mostN x fullW := most_up fun i hi _ => full_has i hi
theorem most_len (x : TaskV) (O : Nat → Nat) : mostN x O ≤ (listN O).length := by
  rcases Nat.eq_zero_or_pos (mostN x O) with h0 | h0
  · omega
  · obtain ⟨_, _, h3, _⟩ := (most_spec x O).at1 h0
    rw [← h3]
    exact len_mono fun i hi h => by rw [has_and, Bool.and_eq_true] at h; exact h.2
theorem range_lt (S : Nat) : ∀ n, ((List.range n).filter (fun i => decide (i < S))).length ≤ min n S
  | 0 => by simp
  | n + 1 => by
    have ih := range_lt S n
    rw [List.range_succ, List.filter_append, List.length_append]
    by_cases h : n < S
    · simp [h]; omega
    · simp [h]; omega
theorem len_small {O : Nat → Nat} {S : Nat} (h : ∀ i, i < 256 → hasN O i = true → i < S) : (listN O).length ≤ S :=
  Nat.le_trans (count_mono (q := fun i => decide (i < S)) _ fun i hi hh => decide_eq_true (h i (List.mem_range.1 hi) hh)) (Nat.le_trans (range_lt S 256) (Nat.min_le_right _ _))
theorem acc_bd {u : List Int} {S : Int} (hS : 1 ≤ S) (h : ∀ k ∈ u, 0 ≤ k ∧ k < S) (k : Int) : accI u k < S := by
  unfold accI
  split
  · rw [List.getD_eq_getElem?_getD]
    by_cases hl : (k % (u.length : Int)).toNat < u.length
    · rw [List.getElem?_eq_getElem hl]
      exact (h _ (List.getElem_mem _)).2
    · rw [List.getElem?_eq_none (by omega)]
      simp; omega
  · omega
theorem put_bd {x : TaskV} {S : Nat} (hS : 1 ≤ S) (h : ∀ k ∈ x.use, 0 ≤ k ∧ k < (S : Int)) (f t : Int) {i : Nat} (hi : i < 256) (hh : hasN (ofN (putL x f t)) i = true) : i < S := by
  rw [has_ofN _ _ hi, List.any_eq_true] at hh
  obtain ⟨e, he, hd⟩ := hh
  have hd := of_decide_eq_true hd
  unfold putL at he
  split at he
  · obtain ⟨j, _, hj⟩ := List.mem_map.1 he
    have := acc_bd (by omega : (1 : Int) ≤ S) h (max f 0 + (j : Int))
    omega
  · cases he
theorem all_bd {q : List RT} {n S : Nat} (hS : 1 ≤ S) (h : ∀ i, i < n → ∀ k ∈ (q.getD i default).x.use, 0 ≤ k ∧ k < (S : Int)) (id : Int) {i : Nat} (hi : i < 256) (hh : hasN (allT q id n) i = true) : i < S := by
  obtain ⟨j, hj, _, hu⟩ := (has_all q id i n).1 hh
  exact put_bd hS (h j hj) _ _ hi hu
theorem all_one {q : List RT} {k : Nat} : allT [q.getD k default] (q.getD k default).x.id 1 = ofN [] := by
  unfold allT allT
  simp
theorem len_none : (listN (ofN [])).length = 0 := by decide +kernel
end Go.Proofs.Ytaofldlidifdcaa.Blk

/-
  Charges that are nothing: without a reload, of a task alone.
-/
namespace Go.Proofs.Ytaofldlidifdcaa.Blk
open Go.RowKit Go.Shelf Go.Proofs.Ytaofldlidifdcaa.Sys Go.Proofs.Ytaofldlidifdcaa.Box Go.Proofs.Ytaofldlidifdcaa.Bits Go.Proofs.Ytaofldlidifdcaa.Tsk

theorem of_free (S : Int) (A : Option Addr) (n c : Nat) (q : List RT) (k : Nat) (w : World) (hr : RdT w A n q) (hnc : n ≤ c) (hcm : c ≤ 9223372036854775807) (h : RightS S 0 n q) (hk : k < n) :
    Calls Try.prog 13 #[.agg #[.int .i64 S, .int .i64 0, .slice A n c], .int .i64 (q.getD k default).x.id] w fun e w' => e = .returned (.tuple #[.int .i64 0, .bool true]) ∧ Below w.heap.size w w' := by
  have h1 := of_sys S 0 A n c q k w hr hnc hcm h hk 0 0 0 (Int.zero_mul _) (Int.zero_mul _) (Int.zero_mul _)
  rwa [show min (min (0 : Int) 0) 0 = 0 by decide] at h1
theorem right_lone {S R : Int} {n : Nat} {q : List RT} (h : RightS S R n q) {k : Nat} (hk : k < n) : RightS S R 1 [q.getD k default] where
  s := h.s
  r := h.r
  n1 := Nat.le_refl _
  n64 := by decide
  t := fun i hi => by
    obtain rfl : i = 0 := by omega
    exact h.t k hk
  inc := fun i hi => by omega
  pr := fun i j h1 h2 => by omega
theorem rd_lone {w : World} {b : Nat} {r : RT} {t : TypeId} (h : w.heap[b]? = some (.cells r.vals t (0, 0))) (hr : r.Rd w) : RdT w (some ⟨b, 0, none⟩) 1 [r] :=
  ⟨rfl, fun _ => ⟨b, 0, rfl, fun j hj => by
    obtain rfl : j = 0 := by omega
    constructor <;> simp [World.cell?, h, RT.vals, taskCells]⟩, fun x hx => by
    obtain rfl := List.mem_singleton.1 hx
    exact hr⟩
theorem of_lone (S R : Int) (A : Option Addr) (c : Nat) (q : List RT) (n k : Nat) (w : World) (hr : RdT w A 1 [q.getD k default]) (hnc : 1 ≤ c) (hcm : c ≤ 9223372036854775807) (h : RightS S R n q) (hk : k < n) :
    Calls Try.prog 13 #[.agg #[.int .i64 S, .int .i64 R, .slice A 1 c], .int .i64 (q.getD k default).x.id] w fun e w' => e = .returned (.tuple #[.int .i64 0, .bool true]) ∧ Below w.heap.size w w' := by
  have hR := h.r.1
  have h1 := of_sys S R A 1 c [q.getD k default] 0 w hr hnc hcm (right_lone h hk) Nat.one_pos _ 0 _ rfl (by
    rw [show ([q.getD k default].getD 0 default) = q.getD k default from rfl, all_one, len_none]; simp) rfl
  have g1 : 0 ≤ R * ((mostN ([q.getD k default].getD 0 default).x fullW : Nat) : Int) := Int.mul_nonneg hR (by omega)
  have g2 : 0 ≤ R * ((mostN ([q.getD k default].getD 0 default).x (allT [q.getD k default] ([q.getD k default].getD 0 default).x.id 1) : Nat) : Int) := Int.mul_nonneg hR (by omega)
  generalize R * ((mostN ([q.getD k default].getD 0 default).x fullW : Nat) : Int) = u1 at *
  generalize R * ((mostN ([q.getD k default].getD 0 default).x (allT [q.getD k default] ([q.getD k default].getD 0 default).x.id 1) : Nat) : Int) = u2 at *
  rwa [show min (min u1 0) u2 = 0 by omega] at h1
/-- The four charges of a task of a made system. -/
theorem four_le {S : Nat} {R : Int} {n : Nat} {q : List RT} (h : RightS (S : Int) R n q) (hS : 1 ≤ S) {k : Nat} (v1 v2 v3 : Int) (hv1 : R * ((mostN (q.getD k default).x fullW : Nat) : Int) = v1) (hv2 : R * (((listN (allT q (q.getD k default).x.id n)).length : Nat) : Int) = v2) (hv3 : R * ((mostN (q.getD k default).x (allT q (q.getD k default).x.id n) : Nat) : Int) = v3) :
    v3 ≤ v1 ∧ v3 ≤ v2 ∧ 0 ≤ v3 ∧ v3 ≤ R * (S : Int) := by
  have hR := h.r.1
  have k1 := most_full (q.getD k default).x (allT q (q.getD k default).x.id n)
  have k2 := most_len (q.getD k default).x (allT q (q.getD k default).x.id n)
  have k3 := len_small (O := allT q (q.getD k default).x.id n) (S := S) fun i hi hh => all_bd hS (fun i hi => (h.t i hi).us) _ hi hh
  subst hv1 hv2 hv3
  exact ⟨Int.mul_le_mul_of_nonneg_left (by omega) hR, Int.mul_le_mul_of_nonneg_left (by omega) hR, Int.mul_nonneg hR (by omega), Int.mul_le_mul_of_nonneg_left (by omega) hR⟩
theorem right_free {S R : Int} {n : Nat} {q : List RT} (h : RightS S R n q) : RightS S 0 n q := { h with r := by decide }
end Go.Proofs.Ytaofldlidifdcaa.Blk

/-
  ChargeApart, in plain Lean: a task that shares no set pays nothing, one of a single tick neither.
-/
namespace Go.Proofs.Ytaofldlidifdcaa.Blk
open Go.RowKit Go.Shelf Go.Proofs.Ytaofldlidifdcaa.Sys Go.Proofs.Ytaofldlidifdcaa.Box Go.Proofs.Ytaofldlidifdcaa.Bits Go.Proofs.Ytaofldlidifdcaa.Tsk

/-- The task with other sets, elsewhere. -/
def _root_.Go.Proofs.Ytaofldlidifdcaa.Sys.RT.uses (r : RT) (l : List Int) (A : Option Addr) (n c : Nat) : RT := { r with x := { r.x with use := l }, ua := A, ul := n, uc := c }
theorem set0_zero {q : List RT} (hq : 0 < q.length) (r : RT) : (q.set 0 r).getD 0 default = r := by
  cases q with
  | nil => cases hq
  | cons a l => rfl
theorem set0_next (q : List RT) (r : RT) (j : Nat) : (q.set 0 r).getD (j + 1) default = q.getD (j + 1) default := by
  cases q with
  | nil => rfl
  | cons a l => rfl
theorem put_of {x : TaskV} {f t : Int} {i : Nat} (hi : i < 256) (hh : hasN (ofN (putL x f t)) i = true) : (i : Int) ∈ x.use := by
  rw [has_ofN _ _ hi, List.any_eq_true] at hh
  obtain ⟨e, he, hd⟩ := hh
  have hd := of_decide_eq_true hd
  unfold putL at he
  split at he
  · rename_i hm
    have h := of_decide_eq_true hm
    have hu : x.use ≠ [] := by intro e; rw [e] at h; simp at h
    have hl : 0 < x.use.length := List.length_pos_iff.2 hu
    obtain ⟨j, _, hj⟩ := List.mem_map.1 he
    have hb : accB x.use (max f 0 + (j : Int)) = true := by
      simp [accB, hu]
      try omega
    unfold accI at hj
    rw [if_pos hb] at hj
    have m0 := Int.emod_nonneg (max f 0 + (j : Int)) (show (x.use.length : Int) ≠ 0 by omega)
    have m1 := Int.emod_lt_of_pos (max f 0 + (j : Int)) (show (0 : Int) < (x.use.length : Int) by omega)
    have h9 : ((max f 0 + (j : Int)) % (x.use.length : Int)).toNat < x.use.length := by omega
    rw [← hd, ← hj, List.getD_eq_getElem?_getD, List.getElem?_eq_getElem h9]
    exact List.getElem_mem _
  · cases he
theorem most_none {x : TaskV} {O : Nat → Nat} (h : ∀ i : Nat, i < 256 → (i : Int) ∈ x.use → hasN O i = true → False) : mostN x O = 0 := by
  rcases Nat.eq_zero_or_pos (mostN x O) with h0 | h0
  · exact h0
  · obtain ⟨_, _, h3, _⟩ := (most_spec x O).at1 h0
    have : cntU x O (mostA x O) ≤ (listN (ofN [])).length := len_mono fun i hi hh => by
      rw [has_and, Bool.and_eq_true] at hh
      have h1 := hh.1
      unfold usefulN at h1
      rw [has_and, Bool.and_eq_true] at h1
      exact (h i hi (put_of hi h1.1) hh.2).elim
    rw [len_none] at this
    omega
theorem most_single {x : TaskV} {O : Nat → Nat} (h : x.c = 1) : mostN x O = 0 := by
  rcases Nat.eq_zero_or_pos (mostN x O) with h0 | h0
  · exact h0
  · obtain ⟨h1, h2, _⟩ := (most_spec x O).at1 h0
    omega
theorem right_apart {S R : Int} {n : Nat} {q : List RT} (h : RightS S R n q) (hS : S ≤ 128) (hq : q.length = n) {l : List Int} {A : Option Addr} {m c : Nat} (hl : l = (q.getD 0 default).x.use.map (· + S)) :
    RightS (2 * S) R n (q.set 0 ((q.getD 0 default).uses l A m c)) := by
  have n1 := h.n1
  have hs := h.s
  have e0 : (q.set 0 ((q.getD 0 default).uses l A m c)).getD 0 default = (q.getD 0 default).uses l A m c := set0_zero (by omega) _
  have eid : ∀ j, ((q.set 0 ((q.getD 0 default).uses l A m c)).getD j default).x.id = (q.getD j default).x.id := fun j => by
    cases j with
    | zero => rw [e0]; rfl
    | succ j => rw [set0_next]
  have epr : ∀ j, ((q.set 0 ((q.getD 0 default).uses l A m c)).getD j default).x.prio = (q.getD j default).x.prio := fun j => by
    cases j with
    | zero => rw [e0]; rfl
    | succ j => rw [set0_next]
  refine ⟨⟨by omega, by omega⟩, h.r, h.n1, h.n64, fun i hi => ?_, fun i hi => by rw [eid, eid]; exact h.inc i hi, fun i j h1 h2 => by rw [epr, epr]; exact h.pr i j h1 h2⟩
  have ht := h.t i hi
  cases i with
  | zero =>
    rw [e0]
    exact ⟨ht.i1, ht.p1, ht.c1, ht.d1, ht.t1, ht.ch, by show l.length ≤ 64; rw [hl, List.length_map]; exact ht.ul, fun u hu => by
      rw [show ((q.getD 0 default).uses l A m c).x.use = l from rfl, hl] at hu
      obtain ⟨y, hy, rfl⟩ := List.mem_map.1 hu
      have := ht.us y hy
      omega⟩
  | succ i =>
    rw [set0_next]
    exact ⟨ht.i1, ht.p1, ht.c1, ht.d1, ht.t1, ht.ch, ht.ul, fun u hu => by
      have := ht.us u hu
      omega⟩
theorem apart_zero {S R : Int} {n : Nat} {q : List RT} (h : RightS S R n q) (hq : q.length = n) {l : List Int} {A : Option Addr} {m c : Nat} (hl : l = (q.getD 0 default).x.use.map (· + S)) :
    mostN ((q.set 0 ((q.getD 0 default).uses l A m c)).getD 0 default).x (allT (q.set 0 ((q.getD 0 default).uses l A m c)) ((q.set 0 ((q.getD 0 default).uses l A m c)).getD 0 default).x.id n) = 0 := by
  have n1 := h.n1
  have e0 : (q.set 0 ((q.getD 0 default).uses l A m c)).getD 0 default = (q.getD 0 default).uses l A m c := set0_zero (by omega) _
  refine most_none fun (i : Nat) hi hu ho => ?_
  obtain ⟨j, hj, hne, hh⟩ := (has_all _ _ i n).1 ho
  rw [e0] at hu
  rw [show ((q.getD 0 default).uses l A m c).x.use = l from rfl, hl] at hu
  obtain ⟨y, hy, e⟩ := List.mem_map.1 hu
  have hy0 := (h.t 0 (by omega)).us y hy
  cases j with
  | zero => exact hne rfl
  | succ j =>
    rw [set0_next] at hh
    have h1 := (h.t (j + 1) hj).us _ (put_of hi hh)
    omega
/-- The row with the first task's sets elsewhere. -/
theorem rdT_set {w : World} {b o n : Nat} {q : List RT} (h : RdT w (some ⟨b, o, none⟩) n q) (hn : 0 < n) {l : List Int} {A : Option Addr} {m c : Nat}
    (hr : ∀ r ∈ q, r.Rd (w.setCell ⟨b, o + 6, none⟩ (.slice A m c))) (hl : SlI (w.setCell ⟨b, o + 6, none⟩ (.slice A m c)) A m c l) :
    RdT (w.setCell ⟨b, o + 6, none⟩ (.slice A m c)) (some ⟨b, o, none⟩) n (q.set 0 ((q.getD 0 default).uses l A m c)) := by
  have hq : q.length = n := h.ln
  obtain ⟨b', o', e, hc⟩ := h.ad hn
  cases e
  have hoth : ∀ k, k ≠ o + 6 → (w.setCell ⟨b, o + 6, none⟩ (.slice A m c)).cell? ⟨b, k, none⟩ = w.cell? ⟨b, k, none⟩ := fun k hk => World.cell?_setCell_other _ _ _ _ (fun e => hk (by cases e; rfl))
  refine ⟨by rw [List.length_set]; exact hq, fun _ => ⟨b, o, rfl, fun j hj => ?_⟩, fun r hrm => ?_⟩
  · have hcj := hc j hj
    cases j with
    | zero =>
      rw [set0_zero (by omega)]
      rw [show o + 0 * 7 = o by omega] at hcj ⊢
      exact ⟨(hoth _ (by omega)).trans hcj.c0, (hoth _ (by omega)).trans hcj.c1, (hoth _ (by omega)).trans hcj.c2, (hoth _ (by omega)).trans hcj.c3, (hoth _ (by omega)).trans hcj.c4, (hoth _ (by omega)).trans hcj.c5, World.cell?_setCell_same _ _ _ hcj.c6⟩
    | succ j =>
      rw [set0_next]
      exact ⟨(hoth _ (by omega)).trans hcj.c0, (hoth _ (by omega)).trans hcj.c1, (hoth _ (by omega)).trans hcj.c2, (hoth _ (by omega)).trans hcj.c3, (hoth _ (by omega)).trans hcj.c4, (hoth _ (by omega)).trans hcj.c5, (hoth _ (by omega)).trans hcj.c6⟩
  · rcases List.mem_or_eq_of_mem_set hrm with h1 | h1
    · exact hr r h1
    · subst h1
      have h0 := hr (q.getD 0 default) (by rw [List.getD_eq_getElem?_getD, List.getElem?_eq_getElem (by omega)]; exact List.getElem_mem _)
      exact ⟨h0.1, hl⟩
/-- A row of tasks as the news of an append. -/
theorem rdT_news {w : World} {A : Option Addr} {n : Nat} {q : List RT} (h : RdT w A n q) : ∀ a, A = some a → ∀ j u, (flat7 q)[j]? = some u → w.cell? (a.add j) = some u := by
  intro a e j u hj
  have hl : j < q.length * 7 := by have := (List.getElem?_eq_some_iff.1 hj).1; rwa [flat7_length] at this
  have hq := h.ln
  obtain ⟨b, o, e', hc⟩ := h.ad (by omega)
  rw [e] at e'
  cases e'
  have h1 : j / 7 < q.length := by omega
  have h2 : j % 7 < 7 := Nat.mod_lt _ (by decide)
  have h3 := flat7_get q (j / 7) h1 (j % 7) h2
  rw [show j / 7 * 7 + j % 7 = j by omega, hj] at h3
  have hcj := hc (j / 7) (by omega)
  rw [Row0.plain_add', show o + j = o + j / 7 * 7 + j % 7 by omega]
  generalize q.getD (j / 7) default = r at *
  generalize o + j / 7 * 7 = p at *
  match hm : j % 7, h2 with
  | 0, _ => rw [hm] at h3; exact hcj.c0.trans h3.symm
  | 1, _ => rw [hm] at h3; exact hcj.c1.trans h3.symm
  | 2, _ => rw [hm] at h3; exact hcj.c2.trans h3.symm
  | 3, _ => rw [hm] at h3; exact hcj.c3.trans h3.symm
  | 4, _ => rw [hm] at h3; exact hcj.c4.trans h3.symm
  | 5, _ => rw [hm] at h3; exact hcj.c5.trans h3.symm
  | 6, _ => rw [hm] at h3; exact hcj.c6.trans h3.symm
theorem flat7_one (q : List RT) : ∀ u ∈ flat7 q, u.oneCell' = true := by
  intro u hu
  obtain ⟨r, _, h⟩ := List.mem_flatMap.1 hu
  exact vals_one r u h
theorem own_blkT {w : World} {base n : Nat} {v : Value} {q : List RT} {t : TypeId} (h : w.ownsRow base t 7 v n (flat7 q)) (hr : ∀ r ∈ q, r.Rd w) (hn : 0 < n) :
    ∃ g c cur, v = .slice (some ⟨g, 0, none⟩) n c ∧ RdT w (some ⟨g, 0, none⟩) n q ∧ n ≤ c ∧ c ≤ 9223372036854775807 ∧ base ≤ g ∧ w.heap[g]? = some (.cells cur t (0, 0)) := by
  obtain ⟨A, c, e, h1, h2, h3, h4, _⟩ := own_rdT h hr
  rcases h.2 with ⟨e2, e3⟩ | ⟨g, cap, cur, e2, hb, hh, _⟩
  · omega
  · rw [e2] at e
    cases e
    exact ⟨g, c, cur, e2, h1, h2, h3, hb, hh⟩
theorem rdT_kept {w w1 : World} {b o n : Nat} {q : List RT} (h : RdT w (some ⟨b, o, none⟩) n q) (hb : w1.heap[b]? = w.heap[b]?) (hr : ∀ r ∈ q, r.Rd w1) : RdT w1 (some ⟨b, o, none⟩) n q :=
  ⟨h.ln, fun hn => by
    obtain ⟨b', o', e, hc⟩ := h.ad hn
    cases e
    exact ⟨b, o, rfl, fun j hj => (hc j hj).block hb⟩, hr⟩
/-- The charges then. -/
theorem of_apart (S R : Int) (A : Option Addr) (n c : Nat) (q : List RT) (k : Nat) (w : World) (hr : RdT w A n q) (hnc : n ≤ c) (hcm : c ≤ 9223372036854775807) (h : RightS S R n q) (hk : k < n)
    (hz : mostN (q.getD k default).x (allT q (q.getD k default).x.id n) = 0) :
    Calls Try.prog 13 #[.agg #[.int .i64 S, .int .i64 R, .slice A n c], .int .i64 (q.getD k default).x.id] w fun e w' => e = .returned (.tuple #[.int .i64 0, .bool true]) ∧ Below w.heap.size w w' := by
  have hR := h.r.1
  have h1 := of_sys S R A n c q k w hr hnc hcm h hk _ _ 0 rfl rfl (by rw [hz]; simp)
  have g1 : 0 ≤ R * ((mostN (q.getD k default).x fullW : Nat) : Int) := Int.mul_nonneg hR (by omega)
  have g2 : 0 ≤ R * (((listN (allT q (q.getD k default).x.id n)).length : Nat) : Int) := Int.mul_nonneg hR (by omega)
  generalize R * ((mostN (q.getD k default).x fullW : Nat) : Int) = u1 at *
  generalize R * (((listN (allT q (q.getD k default).x.id n)).length : Nat) : Int) = u2 at *
  rwa [show min (min u1 u2) 0 = 0 by omega] at h1
theorem of_some (S R : Int) (A : Option Addr) (n c : Nat) (q : List RT) (k : Nat) (w : World) (hr : RdT w A n q) (hnc : n ≤ c) (hcm : c ≤ 9223372036854775807) (h : RightS S R n q) (hk : k < n) :
    ∃ g : Int, ((q.getD k default).x.c = 1 → g = 0) ∧ ∀ w', Below w.heap.size w w' → Calls Try.prog 13 #[.agg #[.int .i64 S, .int .i64 R, .slice A n c], .int .i64 (q.getD k default).x.id] w' fun e w'' => e = .returned (.tuple #[.int .i64 g, .bool true]) ∧ Below w'.heap.size w' w'' := by
  by_cases hc : (q.getD k default).x.c = 1
  · exact ⟨0, fun _ => rfl, fun w' hb => of_apart S R A n c q k w' (hr.below hb (Nat.le_refl _)) hnc hcm h hk (most_single hc)⟩
  · exact ⟨_, fun e => absurd e hc, fun w' hb => of_sys S R A n c q k w' (hr.below hb (Nat.le_refl _)) hnc hcm h hk _ _ _ rfl rfl rfl⟩
end Go.Proofs.Ytaofldlidifdcaa.Blk

/-
  Package ostinatolaw10: awake.
-/
namespace Go.Proofs.Ytaofldlidifdcaa.Blk
open Go.RowKit Go.Shelf Go.Proofs.Ytaofldlidifdcaa.Sys Go.Proofs.Ytaofldlidifdcaa.Box Go.Proofs.Ytaofldlidifdcaa.Bits Go.Proofs.Ytaofldlidifdcaa.Tsk

def ex1 : TaskV := ⟨1, 4, 9, 9, 2, [], [0, 1]⟩
def ex2 : TaskV := ⟨2, 2, 9, 9, 1, [], [1, 2]⟩
def exQ (b1 b2 : Nat) : List RT := [⟨ex1, none, 0, 0, some ⟨b1, 0, none⟩, 2, 2⟩, ⟨ex2, none, 0, 0, some ⟨b2, 0, none⟩, 2, 2⟩]
theorem exQ_all (b1 b2 : Nat) : allT (exQ b1 b2) 1 2 = orL [ofN [], usedN ex2] := rfl
theorem ex_full : mostN ex1 fullW = 2 := by
  have h : MostR ex1 fullW 2 2 ex1.c := by
    refine ⟨fun p h1 h2 => ?_, fun h => absurd h (by decide), fun _ => ⟨by decide, by decide, by decide +kernel, fun q h1 h2 => ?_⟩⟩
    · have h3 : p < 4 := h2
      rcases (by omega : p = 1 ∨ p = 2 ∨ p = 3) with rfl | rfl | rfl <;> decide +kernel
    · have : q = 1 := by omega
      subst this
      decide +kernel
  exact ((most_spec ex1 fullW).uniq h).1
theorem ex_alone : mostN ex1 (orL [ofN [], usedN ex2]) = 1 := by
  have h : MostR ex1 (orL [ofN [], usedN ex2]) 1 2 ex1.c := by
    refine ⟨fun p h1 h2 => ?_, fun h => absurd h (by decide), fun _ => ⟨by decide, by decide, by decide +kernel, fun q h1 h2 => ?_⟩⟩
    · have h3 : p < 4 := h2
      rcases (by omega : p = 1 ∨ p = 2 ∨ p = 3) with rfl | rfl | rfl <;> decide +kernel
    · have : q = 1 := by omega
      subst this
      decide +kernel
  exact ((most_spec ex1 _).uniq h).1
theorem ex_two : (listN (orL [ofN [], usedN ex2])).length = 2 := by decide +kernel
theorem ex_right1 : RightT 4 ex1 := ⟨by decide, by decide, by decide, by decide, by decide, ⟨(fun _ h => by cases h), (fun h => absurd rfl h), by decide⟩, by decide, by decide⟩
theorem ex_right2 : RightT 4 ex2 := ⟨by decide, by decide, by decide, by decide, by decide, ⟨(fun _ h => by cases h), (fun h => absurd rfl h), by decide⟩, by decide, by decide⟩
theorem ex_right (b1 b2 : Nat) : RightS 4 3 2 (exQ b1 b2) where
  s := by decide
  r := by decide
  n1 := by decide
  n64 := by decide
  t := fun i hi => by
    match i, hi with
    | 0, _ => exact ex_right1
    | 1, _ => exact ex_right2
  inc := fun i hi => by
    obtain rfl : i = 0 := by omega
    show ex1.id < ex2.id
    decide
  pr := fun i j h1 h2 => by
    obtain rfl : i = 0 := by omega
    obtain rfl : j = 1 := by omega
    show ex1.prio ≠ ex2.prio
    decide
theorem ex_sl {w : World} {b : Nat} {t : TypeId} {x y : Int} (h : w.heap[b]? = some (.cells #[.int .i64 x, .int .i64 y] t (0, 0))) : SlI w (some ⟨b, 0, none⟩) 2 2 [x, y] :=
  ⟨⟨rfl, fun _ => ⟨b, 0, rfl, fun j hj => by
    obtain ⟨g0, g1⟩ := bx_two h
    match j, hj with
    | 0, _ => exact g0
    | 1, _ => exact g1⟩⟩, Nat.le_refl _, by decide, fun h => by cases h⟩
theorem ex_nil (w : World) : SlI w none 0 0 [] := ⟨⟨rfl, fun h => absurd h (Nat.lt_irrefl 0)⟩, Nat.le_refl _, Nat.zero_le _, fun _ => ⟨rfl, rfl⟩⟩
theorem ex_rd {w : World} {b1 b2 b3 : Nat} {t1 t2 t3 : TypeId} (h1 : w.heap[b1]? = some (.cells #[.int .i64 0, .int .i64 1] t1 (0, 0))) (h2 : w.heap[b2]? = some (.cells #[.int .i64 1, .int .i64 2] t2 (0, 0)))
    (h3 : w.heap[b3]? = some (.cells #[.int .i64 1, .int .i64 4, .int .i64 9, .int .i64 9, .int .i64 2, .slice none 0 0, .slice (some ⟨b1, 0, none⟩) 2 2, .int .i64 2, .int .i64 2, .int .i64 9, .int .i64 9, .int .i64 1, .slice none 0 0, .slice (some ⟨b2, 0, none⟩) 2 2] t3 (0, 0))) :
    RdT w (some ⟨b3, 0, none⟩) 2 (exQ b1 b2) := by
  refine ⟨rfl, fun _ => ⟨b3, 0, rfl, fun j hj => ?_⟩, fun r hr => ?_⟩
  · match j, hj with
    | 0, _ => constructor <;> simp [World.cell?, h3, exQ, ex1]
    | 1, _ => constructor <;> simp [World.cell?, h3, exQ, ex2]
  · rcases List.mem_cons.1 hr with rfl | hr
    · exact ⟨ex_nil w, ex_sl h1⟩
    · obtain rfl := List.mem_singleton.1 hr
      exact ⟨ex_nil w, ex_sl h2⟩
set_option maxHeartbeats 4000000 in
set_option maxRecDepth 100000 in
theorem awake10_any (w : World) : Calls Try.prog 8 #[] w fun e w' => e = .returned (.bool true) ∧ Below w.heap.size w w' := by
  go_enter Try.func8, Try.ntmps8
  go_wp2_with fail
  obtain ⟨W, hW⟩ : ∃ W, (((w.alloc (.cells #[.int .i64 0, .int .i64 1] 3)).alloc (.cells #[.int .i64 1, .int .i64 2] 3)).alloc (.cells #[.int .i64 1, .int .i64 4, .int .i64 9, .int .i64 9, .int .i64 2, .slice none 0 0, .slice (some ⟨w.heap.size, 0, none⟩) 2 2, .int .i64 2, .int .i64 2, .int .i64 9, .int .i64 9, .int .i64 1, .slice none 0 0, .slice (some ⟨w.heap.size + 1, 0, none⟩) 2 2] 33)).alloc (.cells #[.int .i64 4, .int .i64 3, .slice (some ⟨w.heap.size + 1 + 1, 0, none⟩) 2 2] 28) = W := ⟨_, rfl⟩
  rw [hW]
  have hB : Below w.heap.size w W := by rw [← hW]; exact ((((Below.refl _ w).alloc (Nat.le_refl _) _).alloc (by simp) _).alloc (by simp <;> omega) _).alloc (by simp <;> omega) _
  have h1 : W.heap[w.heap.size]? = some (.cells #[.int .i64 0, .int .i64 1] 3 (0, 0)) := by rw [← hW, Below.heap_alloc _ _ _ (by simp <;> omega), Below.heap_alloc _ _ _ (by simp <;> omega), Below.heap_alloc _ _ _ (by simp)]; exact heap_newT _ _ _ rfl
  have h2 : W.heap[w.heap.size + 1]? = some (.cells #[.int .i64 1, .int .i64 2] 3 (0, 0)) := by rw [← hW, Below.heap_alloc _ _ _ (by simp <;> omega), Below.heap_alloc _ _ _ (by simp)]; exact heap_newT _ _ _ (by simp)
  have h3 : W.heap[w.heap.size + 1 + 1]? = some (.cells #[.int .i64 1, .int .i64 4, .int .i64 9, .int .i64 9, .int .i64 2, .slice none 0 0, .slice (some ⟨w.heap.size, 0, none⟩) 2 2, .int .i64 2, .int .i64 2, .int .i64 9, .int .i64 9, .int .i64 1, .slice none 0 0, .slice (some ⟨w.heap.size + 1, 0, none⟩) 2 2] 33 (0, 0)) := by rw [← hW, Below.heap_alloc _ _ _ (by simp)]; exact heap_newT _ _ _ (by simp)
  clear hW
  have KO : Calls Try.prog 13 #[.agg #[.int .i64 4, .int .i64 3, .slice (some ⟨w.heap.size + 1 + 1, 0, none⟩) 2 2], .int .i64 1] W fun e w' => e = .returned (.tuple #[.int .i64 3, .bool true]) ∧ Below W.heap.size W w' :=
    of_sys 4 3 _ 2 2 (exQ w.heap.size (w.heap.size + 1)) 0 W (ex_rd h1 h2 h3) (Nat.le_refl _) (by decide) (ex_right _ _) (by decide) 6 6 3 (by rw [show ((exQ w.heap.size (w.heap.size + 1)).getD 0 default).x = ex1 from rfl, ex_full]; decide) (by rw [show ((exQ w.heap.size (w.heap.size + 1)).getD 0 default).x.id = 1 from rfl, exQ_all, ex_two]; rfl) (by rw [show ((exQ w.heap.size (w.heap.size + 1)).getD 0 default).x = ex1 from rfl, show ex1.id = 1 from rfl, exQ_all, ex_alone]; rfl)
  clear h1 h2 h3
  refine KO.mono ?_
  rintro e W1 ⟨rfl, hb1⟩
  have HB1 : Hid (Below w.heap.size w W1) := hB.trans (hb1.mono hB.size)
  clear hb1 hB KO
  go_wp2
  go_ret
  exact ⟨rfl, HB1.out⟩
end Go.Proofs.Ytaofldlidifdcaa.Blk
