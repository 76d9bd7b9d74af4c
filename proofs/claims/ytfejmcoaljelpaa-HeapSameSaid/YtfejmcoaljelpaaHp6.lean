/-
  A heap: New, Len, Get, Min, Lower, Put.
-/
import Derived.Test.YtfejmcoaljelpaaHp5
import Derived.Lib.Hide
namespace Go.Proofs.Ytfejmcoaljelpaa.Hp
open Go.RowKit Go.Maps Go.Proofs.Ytfejmcoaljelpaa.Box

theorem eqlF (w : World) : (binOp .eql 26 (.func (.func 11) #[] #[]) Value.nilFunc).run Try.prog w = .ok (.bool false) w := by kernel_rfl
theorem eqlN (w : World) : (binOp .eql 26 Value.nilFunc Value.nilFunc).run Try.prog w = .ok (.bool true) w := by kernel_rfl
def Dn (w w' : World) : Prop := ∃ n, w' = w.drewN n
def MinP (l : List (Int × Int)) (e : Ending) : Prop := (0 < l.length ∧ e = .returned (.tuple #[.int .i64 (g l 0).1, .int .i64 (g l 0).2, .bool true])) ∨ (l = [] ∧ e = .returned (.tuple #[.int .i64 0, .int .i64 0, .bool false]))
theorem heap_newH (w : World) (o : Obj) (b : Nat) (hb : b = w.heap.size) : (w.alloc o).heap[b]? = some o := by subst hb; exact heap_alloc_new w o
theorem new_h (w : World) : Calls Try.prog 10 #[.func (.func 11) #[] #[]] w fun e w' =>
    ∃ p bm, e = .returned (.pointer (some ⟨p, 0, none⟩)) ∧ Hp w' p bm none 0 [] ∧ Below w.heap.size w w' ∧ w.heap.size ≤ p ∧ w.heap.size ≤ bm := by
  have hmm := @run_makeMap Try.prog
  have heq := eqlF
  go_enter Try.func10, Try.ntmps10
  go_wp2
  go_ret
  have hix : Ix [] (fun _ => none) := fun k i => ⟨fun h => (by cases h), fun h => absurd h.1 (Nat.not_lt_zero _)⟩
  have hit : Its ((w.alloc (.map #[] 0)).alloc (.cells #[.func (.func 11) #[] #[], .slice none 0 0, .map (some w.heap.size)] 61)) none 0 0 [] := ⟨rfl, Nat.le_refl _, by decide, fun _ => rfl, fun _ => rfl, fun h => absurd h (Nat.lt_irrefl _)⟩
  refine ⟨w.heap.size + 1, w.heap.size, rfl, ⟨heap_newH _ _ _ (by simp), hit, ⟨fun _ => none, hix, ?_⟩, fun x h => absurd h List.not_mem_nil, (by omega), fun a e => (by cases e), Nat.zero_le _⟩, ?_, by omega, Nat.le_refl _⟩
  · exact (MapI.made w).kept (Below.heap_alloc _ _ _ (by simp))
  · exact ((Below.refl _ w).alloc (Nat.le_refl _) _).alloc (by simp) _
theorem new_nil (w : World) : Calls Try.prog 10 #[Value.nilFunc] w fun e w' => e = .returned (.pointer none) ∧ w = w' := by
  have heq := eqlN
  go_enter Try.func10, Try.ntmps10
  go_wp2
  go_ret
  exact ⟨rfl, rfl⟩
theorem len_h (w : World) (p bm : Nat) (A : Option Addr) (cap : Nat) (l : List (Int × Int)) (h : Hp w p bm A cap l) :
    Calls Try.prog 14 #[.pointer (some ⟨p, 0, none⟩)] w fun e w' => e = .returned (.int .i64 (l.length : Int)) ∧ w = w' := by
  obtain ⟨x0, x1, x2⟩ := bx_three h.bx
  clear h
  generalize l.length = n at *
  go_enter Try.func14, Try.ntmps14
  go_wp2
  go_ret
  exact ⟨rfl, rfl⟩
set_option maxRecDepth 100000 in
theorem get_h (w : World) (p bm : Nat) (A : Option Addr) (cap : Nat) (l : List (Int × Int)) (h : Hp w p bm A cap l) (k : Int) (hk : (Lit.int .i64 k).wf = true) :
    Calls Try.prog 17 #[.pointer (some ⟨p, 0, none⟩), .int .i64 k] w fun e w' => w = w' ∧ ((∃ i, i < l.length ∧ (g l i).1 = k ∧ e = .returned (.tuple #[.int .i64 (g l i).2, .bool true])) ∨ (∀ i, i < l.length → (g l i).1 ≠ k) ∧ e = .returned (.tuple #[.int .i64 0, .bool false])) := by
  have KP := place_any w p bm A cap l h k hk
  have hbx := h.bx
  obtain ⟨x0, x1, x2⟩ := bx_three hbx
  have HH := Lib.hid h
  clear h hbx
  go_enter Try.func17, Try.ntmps17
  go_wp2_with fail
  refine KP.mono ?_
  rintro e w1 ⟨rfl, fk, rfl, hf⟩
  clear KP
  cases fk with
  | none =>
    have HF : Hid (∀ i, i < l.length → (g l i).1 ≠ k) := fun i hi e => by have := (hf i).2 ⟨hi, e⟩; cases this
    clear hf
    go_wp2_with fail
    go_ret2
    exact ⟨rfl, .inr ⟨HF.out, rfl⟩⟩
  | some i =>
    obtain ⟨hi, hk'⟩ := (hf i).1 rfl
    obtain ⟨b, rfl, _, hc⟩ := HH.out.it.cells hi
    obtain ⟨c0, c1, _, _⟩ := hc i hi
    have e1 : (i : Int) < (l.length : Int) := by omega
    have HI : Hid (∀ e, e = Ending.returned (.tuple #[.int .i64 (g l i).2, .bool true]) → ∃ i, i < l.length ∧ (g l i).1 = k ∧ e = Ending.returned (.tuple #[.int .i64 (g l i).2, .bool true])) := fun e he => ⟨i, hi, hk', he⟩
    clear hf hc hk'
    generalize (g l i).2 = y at *
    generalize (g l i).1 = x at *
    go_wp2_with fail
    go_ret2
    exact ⟨rfl, .inl (HI.out _ rfl)⟩
set_option maxRecDepth 100000 in
theorem min_h (w : World) (p bm : Nat) (A : Option Addr) (cap : Nat) (l : List (Int × Int)) (h : Hp w p bm A cap l) :
    Calls Try.prog 18 #[.pointer (some ⟨p, 0, none⟩)] w fun e w' => Dn w w' ∧ MinP l e := by
  have KL := len_h w p bm A cap l h
  obtain ⟨x0, x1, x2⟩ := bx_three h.bx
  have HH := Lib.hid h
  clear h
  go_enter Try.func18, Try.ntmps18
  go_wp2_with fail
  refine KL.mono ?_
  rintro e w1 ⟨rfl, rfl⟩
  by_cases h0 : 0 < l.length
  · obtain ⟨b, rfl, _, hc⟩ := HH.out.it.cells h0
    obtain ⟨c0, c1, _, _⟩ := hc 0 h0
    have e1 : (0 : Int) < (l.length : Int) := by omega
    have e2 : ((l.length : Int) == 0) = false := beq_eq_false_iff_ne.2 (by omega)
    have H0 : Hid (0 < l.length) := h0
    clear hc h0
    have HM : Hid (∀ e, e = Ending.returned (.tuple #[.int .i64 (g l 0).1, .int .i64 (g l 0).2, .bool true]) → MinP l e) := fun e he => .inl ⟨H0.out, he⟩
    clear H0
    generalize (g l 0).1 = x1' at *
    generalize (g l 0).2 = x2' at *
    simp only [Nat.zero_mul, Nat.zero_add] at c0 c1
    generalize l.length = n at *
    go_wp2_with fail
    go_quiet (fail)
    go_wp2
    go_ret3
    exact ⟨⟨nq, rfl⟩, HM.out _ rfl⟩
  · have hl : l = [] := List.eq_nil_of_length_eq_zero (by omega)
    have HM : Hid (∀ e, e = Ending.returned (.tuple #[.int .i64 0, .int .i64 0, .bool false]) → MinP l e) := fun e he => .inr ⟨hl, he⟩
    have e2 : ((l.length : Int) == 0) = true := by rw [hl]; rfl
    clear hl
    generalize l.length = n at *
    go_wp2_with fail
    go_ret3
    exact ⟨⟨0, rfl⟩, HM.out _ rfl⟩
end Go.Proofs.Ytfejmcoaljelpaa.Hp
