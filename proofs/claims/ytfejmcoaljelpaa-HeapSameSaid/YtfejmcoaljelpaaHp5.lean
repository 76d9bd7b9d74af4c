/-
  A heap: one item more behind its row.
-/
import Derived.Test.YtfejmcoaljelpaaHp4
import Derived.OwnWalk
import Derived.Test.YtfejmcoaljelpaaMask
namespace Go.Proofs.Ytfejmcoaljelpaa.Hp
open Go.RowKit Go.Maps Go.Proofs.Ytfejmcoaljelpaa.Box

theorem item_info : (Try.prog.info? 65).map (fun i => (i.zero, i.size, i.bytes)) = some (some (.agg #[.int .i64 0, .int .i64 0]), 2, 16) := by kernel_rfl
def flatI (l : List (Int × Int)) : List Value := l.flatMap fun x => [.int .i64 x.1, .int .i64 x.2]
theorem flatI_length (l : List (Int × Int)) : (flatI l).length = l.length * 2 := by
  induction l with
  | nil => rfl
  | cons x l ih =>
    have e : flatI (x :: l) = [.int .i64 x.1, .int .i64 x.2] ++ flatI l := by simp [flatI]
    rw [e, List.length_append, ih]
    simp
    omega
theorem flatI_get (l : List (Int × Int)) : ∀ j, j < l.length → (flatI l)[2 * j]? = some (.int .i64 (g l j).1) ∧ (flatI l)[2 * j + 1]? = some (.int .i64 (g l j).2) := by
  induction l with
  | nil => intro j hj; simp at hj
  | cons x l ih =>
    intro j hj
    have e : flatI (x :: l) = .int .i64 x.1 :: .int .i64 x.2 :: flatI l := by simp [flatI]
    rw [e]
    cases j with
    | zero => exact ⟨rfl, rfl⟩
    | succ j =>
      obtain ⟨h1, h2⟩ := ih j (by simpa using hj)
      rw [show 2 * (j + 1) = 2 * j + 1 + 1 by omega]
      simp only [List.getElem?_cons_succ]
      exact ⟨h1, h2⟩
theorem flatI_snoc (l : List (Int × Int)) (k y : Int) : flatI l ++ [.int .i64 k, .int .i64 y] = flatI (l ++ [(k, y)]) := by simp [flatI]
/-- A new row. -/
theorem its_own {w : World} {B n : Nat} {v : Value} {l : List (Int × Int)} (h : w.ownsRow B 65 2 v n (flatI l)) (hn : 0 < n) : ∃ b cap, v = .slice (some ⟨b, 0, none⟩) n cap ∧ B ≤ b ∧ Its w (some ⟨b, 0, none⟩) n cap l := by
  have hl : l.length = n := by have := h.1; rw [flatI_length] at this; omega
  rcases h.2 with ⟨_, e⟩ | ⟨b, cap, cur, e, hb, hh, hnc, hcm, hcs, ht⟩
  · omega
  · refine ⟨b, cap, e, hb, hl, hnc, by unfold maxLen at hcm; omega, fun e => by omega, fun e => (by cases e), fun _ => ⟨b, cur, rfl, hh, by omega, fun j hj => ?_⟩⟩
    obtain ⟨h1, h2⟩ := flatI_get l j (by omega)
    rw [← ht] at h1 h2
    rw [List.getElem?_take_of_lt (by omega)] at h1 h2
    exact ⟨by simpa using h1, by simpa using h2⟩
theorem its_push {w : World} {b n cap : Nat} {l : List (Int × Int)} (h : Its w (some ⟨b, 0, none⟩) n cap l) (hn : 0 < n) (hc : n + 1 ≤ cap) (k y : Int) :
    Its ((w.setCell ⟨b, n * 2, none⟩ (.int .i64 k)).setCell ⟨b, n * 2 + 1, none⟩ (.int .i64 y)) (some ⟨b, 0, none⟩) (n + 1) cap (l ++ [(k, y)]) where
  ln := by rw [List.length_append, h.ln]; rfl
  nc := hc
  cm := h.cm
  z := fun e => by omega
  no := fun e => by cases e
  bl := fun _ => by
    obtain ⟨b', cur, e, hb, hc2, hr⟩ := h.bl hn
    cases e
    have hs1 := heap_setCell_same w b (n * 2) cur 65 (.int .i64 k) hb
    have hs2 := heap_setCell_same _ b (n * 2 + 1) _ 65 (.int .i64 y) hs1
    refine ⟨b, _, rfl, hs2, by simpa using hc2, fun j hj => ?_⟩
    rw [g_append, h.ln]
    by_cases ej : j = n
    · subst ej
      rw [if_pos rfl, Nat.mul_comm j 2]
      refine ⟨?_, ?_⟩
      · rw [Array.getElem?_setIfInBounds_ne (by omega), Array.getElem?_setIfInBounds_self_of_lt (by omega)]
      · rw [Array.getElem?_setIfInBounds_self_of_lt (by simp; omega)]
    · rw [if_neg ej]
      rw [Array.getElem?_setIfInBounds_ne (by omega), Array.getElem?_setIfInBounds_ne (by omega), Array.getElem?_setIfInBounds_ne (by omega), Array.getElem?_setIfInBounds_ne (by omega)]
      exact hr j (by omega)
theorem wpList_append_its {w : World} {ops : Array Oper} {rest : List Oper} {o : Oper} {a : Act} {Q : Exit → Act → World → Prop} (hgd : o.guard = none) (s x : Operand)
    (hop : o.op = .call { callee := .builtin .append, args := #[s, x], argTypes := #[59, 59] }) (A : Option Addr) (n cap : Nat) (l : List (Int × Int)) (hs : a.eval s = .slice A n cap) (hI : Its w A n cap l)
    (B : Nat) (k y : Int) (hx : a.eval x = .slice (some ⟨B, 0, none⟩) 1 1) (hc0 : w.cell? ⟨B, 0, none⟩ = some (.int .i64 k)) (hc1 : w.cell? ⟨B, 1, none⟩ = some (.int .i64 y)) (hn : n + 1 ≤ 4294967296)
    (hK : ∀ A' cap' w', Its w' A' (n + 1) cap' (l ++ [(k, y)]) → Chg (fun j => ∃ a, A = some a ∧ a.block = j) w w' → (∀ a', A' = some a' → A' = A ∨ w.heap.size ≤ a'.block) → wpList Try.prog ops Q rest (a.put o.dst (.slice A' (n + 1) cap')) w') :
    wpList Try.prog ops Q (o :: rest) a w := by
  obtain ⟨i0, hi, hz0, hz1, hz2⟩ := info_parts item_info
  have hnews : ∀ j u, ([.int .i64 k, .int .i64 y] : List Value)[j]? = some u → w.cell? ((⟨B, 0, none⟩ : Addr).add j) = some u := fun j u hj => by
    rw [Row0.plain_add', Nat.zero_add]
    match j, hj with
    | 0, hj => cases hj; exact hc0
    | 1, hj => cases hj; exact hc1
    | j + 2, hj => simp at hj
  have h1c : ∀ u ∈ ([.int .i64 k, .int .i64 y] : List Value), u.oneCell' = true := by simp [Value.oneCell']
  have grown : ∀ v' w', w'.ownsRow w.heap.size 65 2 v' (n + 1) (flatI l ++ [.int .i64 k, .int .i64 y]) → w.grownBy w' none → wpList Try.prog ops Q rest (a.put o.dst v') w' := fun v' w' ho hg => by
    rw [flatI_snoc] at ho
    obtain ⟨b, c, rfl, hb, hI'⟩ := its_own ho (by omega)
    exact hK _ _ _ hI' (Chg.grown hg fun k e => by cases e) fun a' e => by cases e; exact .inr hb
  have hlen : (flatI l).length = n * 2 := by rw [flatI_length, hI.ln]
  have holds : ∀ b, A = some b → ∀ j u, (flatI l)[j]? = some u → w.cell? (b.add j) = some u := fun bb e j u hj => by
    have hj2 : j < n * 2 := by have := (List.getElem?_eq_some_iff.1 hj).1; omega
    obtain ⟨b, e', _, hc⟩ := hI.cells (i := 0) (by omega)
    rw [e] at e'
    cases e'
    rw [Row0.plain_add', Nat.zero_add]
    obtain ⟨q1, q2, _, _⟩ := hc (j / 2) (by omega)
    obtain ⟨f1, f2⟩ := flatI_get l (j / 2) (by rw [hI.ln]; omega)
    rcases (by omega : j = 2 * (j / 2) ∨ j = 2 * (j / 2) + 1) with e2 | e2
    · rw [← e2] at f1
      rw [f1] at hj
      rw [show j = j / 2 * 2 by omega, q1]
      exact hj
    · rw [← e2] at f2
      rw [f2] at hj
      rw [show j = j / 2 * 2 + 1 by omega, q2]
      exact hj
  by_cases hcap : n + 1 ≤ cap
  · have hn0 : 0 < n := by
      rcases Nat.eq_zero_or_pos n with e | e
      · have := hI.z e; omega
      · exact e
    obtain ⟨b, cur, rfl, hb, hc2, hr⟩ := hI.bl hn0
    refine wpList_append_arg w hgd s x 59 hop 65 i0 _ 2 16 Try.underlying59 hi hz0 hz1 hz2 rfl (by decide) b 0 n cap (flatI l) hs hlen
      (fun j u hj => by have := holds _ rfl j u hj; rwa [Row0.plain_add'] at this) ⟨B, 0, none⟩ 1 1 [.int .i64 k, .int .i64 y] hx rfl hnews h1c (fun _ j hj => ⟨?_, bx_free hb _⟩) (by unfold maxLen; omega) (by omega) (fun _ => ?_) (fun h => by omega)
    · simp only [World.cell?, hb]
      simp at hj
      rw [Array.getElem?_eq_getElem (by omega)]
      rfl
    · have hp := its_push hI hn0 hcap k y
      rw [Nat.zero_add]
      have hS : (fun j => ∃ a : Addr, some (⟨b, 0, none⟩ : Addr) = some a ∧ a.block = j) b := ⟨_, rfl, rfl⟩
      exact hK _ _ _ hp ((Chg.set (S := fun j => ∃ a : Addr, some (⟨b, 0, none⟩ : Addr) = some a ∧ a.block = j) _ _ hS).trans (Chg.set (S := fun j => ∃ a : Addr, some (⟨b, 0, none⟩ : Addr) = some a ∧ a.block = j) _ _ hS) fun j h => .inl h) fun _ _ => .inl rfl
  · exact wpList_append_grows w hgd s x 59 hop 65 i0 _ 2 16 Try.underlying59 hi hz0 hz1 hz2 rfl (by decide) A n cap (flatI l) hs
      (fun e => ⟨hI.no e, hI.z (hI.no e)⟩) hlen holds ⟨B, 0, none⟩ 1 1 [.int .i64 k, .int .i64 y] hx rfl hnews h1c (by omega) (by unfold maxLen; omega) (by omega) grown
end Go.Proofs.Ytfejmcoaljelpaa.Hp
