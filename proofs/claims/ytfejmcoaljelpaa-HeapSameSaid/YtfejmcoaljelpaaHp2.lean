/-
  A heap: place, less, ahead, swap.
-/
import Derived.Test.YtfejmcoaljelpaaHp1
import Derived.BigRegion
import Derived.BigQuiet
import Derived.StillTailTactics
namespace Go.Proofs.Ytfejmcoaljelpaa.Hp
open Go.RowKit Go.Maps Go.Proofs.Ytfejmcoaljelpaa.Box

abbrev LESS : Value := .func (.func 11) #[] #[]
structure Hp (w : World) (p bm : Nat) (A : Option Addr) (cap : Nat) (l : List (Int × Int)) : Prop where
  bx : w.heap[p]? = some (.cells #[.func (.func 11) #[] #[], .slice A l.length cap, .map (some bm)] 61 (0, 0))
  it : Its w A l.length cap l
  mp : ∃ f, Ix l f ∧ MapI w bm l.length f
  wf : ∀ x ∈ l, (Lit.int .i64 x.1).wf = true ∧ (Lit.int .i64 x.2).wf = true
  pb : p ≠ bm
  pa : ∀ a, A = some a → a.block ≠ p ∧ a.block ≠ bm
  mx : l.length ≤ 4294967296
def own3 (p bm : Nat) (A : Option Addr) (j : Nat) : Prop := j = p ∨ j = bm ∨ ∃ a, A = some a ∧ a.block = j
def ahI (a b : Int × Int) : Bool := decide (a.2 < b.2 ∨ a.2 = b.2 ∧ a.1 < b.1)
theorem ordI : Ord ahI where
  asym a b h := by simp [ahI] at h ⊢; omega
  trans a b c h k := by simp [ahI] at h k ⊢; omega
  neg a b c h k := by simp [ahI] at h k ⊢; omega
theorem Hp.wfg {w : World} {p bm : Nat} {A : Option Addr} {cap : Nat} {l : List (Int × Int)} (h : Hp w p bm A cap l) {i : Nat} (hi : i < l.length) : (Lit.int .i64 (g l i).1).wf = true ∧ (Lit.int .i64 (g l i).2).wf = true := by
  have e : g l i = l[i] := by simp [g, List.getD_eq_getElem?_getD, hi]
  rw [e]
  exact h.wf _ (List.getElem_mem hi)
theorem Hp.kept {w w' : World} {p bm : Nat} {A : Option Addr} {cap : Nat} {l : List (Int × Int)} (h : Hp w p bm A cap l) (hk : ∀ j, own3 p bm A j → j < w.heap.size → w'.heap[j]? = w.heap[j]?) : Hp w' p bm A cap l :=
  { h with
    bx := (hk p (.inl rfl) (Array.getElem?_eq_some_iff.1 h.bx).1).trans h.bx
    it := h.it.kept fun a e hl => hk _ (.inr (.inr ⟨a, e, rfl⟩)) hl
    mp := by
      obtain ⟨f, h1, h2⟩ := h.mp
      exact ⟨f, h1, h2.kept (hk bm (.inr (.inl rfl)) h2.lt)⟩ }
theorem Hp.below {w w' : World} {p bm : Nat} {A : Option Addr} {cap : Nat} {l : List (Int × Int)} (h : Hp w p bm A cap l) (hb : Below w.heap.size w w') : Hp w' p bm A cap l := h.kept fun j _ hj => hb.block j hj
set_option maxRecDepth 100000 in
theorem place_any (w : World) (p bm : Nat) (A : Option Addr) (cap : Nat) (l : List (Int × Int)) (h : Hp w p bm A cap l) (k : Int) (hk : (Lit.int .i64 k).wf = true) :
    Calls Try.prog 29 #[.pointer (some ⟨p, 0, none⟩), .int .i64 k] w fun e w' => w = w' ∧ ∃ fk : Option Nat, e = .returned (.tuple #[.int .i64 ((fk.getD 0 : Nat) : Int), .bool fk.isSome]) ∧ ∀ i, fk = some i ↔ i < l.length ∧ (g l i).1 = k := by
  obtain ⟨f, hf, hm⟩ := h.mp
  have hl := hm.look hk
  have HF : Hid (∀ i, f k = some i ↔ i < l.length ∧ (g l i).1 = k) := hf k
  obtain ⟨x0, x1, x2⟩ := bx_three h.bx
  clear h hf hm
  generalize hq : f k = q at *
  clear hq
  go_enter Try.func29, Try.ntmps29
  go_wp2
  go_ret2
  exact ⟨rfl, q, rfl, HF.out⟩
theorem less_any (a b : Int) (w : World) : Calls Try.prog 11 #[.int .i64 a, .int .i64 b] w fun e w' => e = .returned (.bool (decide (a < b))) ∧ w' = w := by
  go_enter Try.func11, Try.ntmps11
  go_wp2
  go_ret
  exact ⟨rfl, rfl⟩
theorem below_dnH {B : Nat} {w w1 : World} (h : Below B w w1) (n : Nat) : Below B w (w1.drewN n) := ⟨h.os, h.tape, h.output, h.size, h.block⟩
theorem cell_a1 {w : World} {a : Addr} {v : Value} (h : w.cell? a = some v) (o : Obj) : (w.alloc o).cell? a = some v := (World.cell?_alloc_lt _ _ _ (World.block_lt_of_cell? w a h)).trans h
theorem cell_a2 {w : World} {a : Addr} {v : Value} (h : w.cell? a = some v) (o o' : Obj) : ((w.alloc o).alloc o').cell? a = some v := cell_a1 (cell_a1 h o) o'
set_option maxRecDepth 100000 in
set_option maxHeartbeats 4000000 in
theorem ahead_any (w : World) (p bm : Nat) (A : Option Addr) (cap : Nat) (l : List (Int × Int)) (h : Hp w p bm A cap l) (i k : Nat) (hi : i < l.length) (hk : k < l.length) :
    Calls Try.prog 35 #[.pointer (some ⟨p, 0, none⟩), .int .i64 (i : Int), .int .i64 (k : Int)] w fun e w' => e = .returned (.bool (ahI (g l i) (g l k))) ∧ Below w.heap.size w w' := by
  obtain ⟨x0, x1, x2⟩ := bx_three h.bx
  obtain ⟨b, rfl, hb, hc⟩ := h.it.cells hi
  obtain ⟨c0, c1, _, _⟩ := hc i hi
  obtain ⟨d0, d1, _, _⟩ := hc k hk
  have hmx := h.mx
  clear h hc
  have e1 : (i : Int) < (l.length : Int) := by omega
  have e2 : (k : Int) < (l.length : Int) := by omega
  generalize hx : g l i = x at *
  generalize hy : g l k = y at *
  obtain ⟨x1', x2'⟩ := x
  obtain ⟨y1', y2'⟩ := y
  simp only at c0 c1 d0 d1
  clear hx hy
  generalize l.length = n at *
  have X1 := cell_a1 x1
  have X2 := cell_a2 x1
  have Y1 := cell_a1 c0
  have Y2 := cell_a2 c0
  have Y3 := cell_a1 c1
  have Y4 := cell_a2 c1
  have Z1 := cell_a1 d0
  have Z2 := cell_a2 d0
  have Z3 := cell_a1 d1
  have Z4 := cell_a2 d1
  go_enter Try.func35, Try.ntmps35
  have hres : ahI (x1', x2') (y1', y2') = decide (x2' < y2' ∨ x2' = y2' ∧ x1' < y1') := rfl
  go_wp2
  go_region
  all_goals
    clear X1 X2 Y1 Y2 Y3 Y4 Z1 Z2 Z3 Z4 c0 c1 d0 d1 e1 e2
    have x0' := cell_a2 x0
    rcases Int.lt_trichotomy x2' y2' with h | h | h
    · have e1 : decide (x2' < y2') = true := by simp; omega
      have e2 : decide (x2' < y2' ∨ x2' = y2' ∧ x1' < y1') = true := by simp; omega
      rw [e2] at hres
      clear h e2
      go_wp2_with fail
      go_quiet (fail)
      go_wp2
      go_ret
      exact ⟨by rw [hres]; rfl, below_dnH (((Below.refl _ w).alloc (Nat.le_refl _) _).alloc (by simp) _).drew _⟩
    · subst h
      have e1 : decide (x2' < x2') = false := by simp
      have e3 : (x2' == x2') = true := by simp
      have e2 : decide (x2' < x2' ∨ x2' = x2' ∧ x1' < y1') = decide (x1' < y1') := by simp
      rw [e2] at hres
      clear e2
      go_wp2_with fail
      go_quiet ((go_at_call 11; exact (less_any _ _ _).mono fun _ _ h => ⟨h.1, _, h.2⟩))
      go_wp2
      go_ret
      exact ⟨by rw [hres]; rfl, below_dnH (((Below.refl _ w).alloc (Nat.le_refl _) _).alloc (by simp) _).drew _⟩
    · have e1 : decide (x2' < y2') = false := by simp; omega
      have e3 : (x2' == y2') = false := by simp; omega
      have e2 : decide (x2' < y2' ∨ x2' = y2' ∧ x1' < y1') = false := by simp; omega
      rw [e2] at hres
      clear h e2
      go_wp2_with fail
      go_quiet (fail)
      go_wp2
      go_ret
      exact ⟨by rw [hres]; rfl, below_dnH (((Below.refl _ w).alloc (Nat.le_refl _) _).alloc (by simp) _).drew _⟩
end Go.Proofs.Ytfejmcoaljelpaa.Hp
