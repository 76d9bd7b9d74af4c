/-
  A heap in memory: its map of places, its row of items; what may change.
-/
import Derived.Test.YtfejmcoaljelpaaHeap0
import Derived.Test.YtfejmcoaljelpaaBox
import Derived.Maps.OwnSet
import Derived.ArgAppend
namespace Go.Proofs.Ytfejmcoaljelpaa.Hp
open Go.RowKit Go.Maps Go.Proofs.Ytfejmcoaljelpaa.Box

noncomputable abbrev mapEl : Value → Option (DataW Unit × List MemPlace) := plainElem Try.prog 3
theorem keyI : Keyed Try.prog 3 := int_keyed Try.underlying3
theorem zeroI (w : World) : (zeroValue 3).run Try.prog w = .ok (.int .i64 0) w := by kernel_rfl
theorem own_exact {w : World} {b n : Nat} {D : DataW Unit} (h : w.ownsMap Try.prog 3 mapEl b n D) : w.ownsMap Try.prog 3 mapEl b (Maps.size D) D := by
  obtain ⟨es, clock, hb, F, hs, rfl⟩ := h
  refine ⟨es, clock, hb, F, ?_, rfl⟩
  simp [Maps.size, length_sorted]
/-- Block b is a map of so many keys: the places of a row. -/
def MapI (w : World) (b m : Nat) (f : Int → Option Nat) : Prop :=
  ∃ D : DataW Unit, w.ownsMap Try.prog 3 mapEl b m D ∧ Maps.size D = m ∧ ∀ x, (Lit.int .i64 x).wf = true → Maps.has D (.int .i64 x) = (f x).isSome ∧ ∀ i, f x = some i → D.atKey (.int .i64 x) (.lit (.int .i64 0)) = .lit (.int .i64 (i : Int))
theorem MapI.kept {w w' : World} {b m : Nat} {f : Int → Option Nat} (h : MapI w b m f) (hk : w'.heap[b]? = w.heap[b]?) : MapI w' b m f := by
  obtain ⟨D, ⟨es, clock, hb, r⟩, h2⟩ := h
  exact ⟨D, ⟨es, clock, hk.trans hb, r⟩, h2⟩
theorem MapI.lt {w : World} {b m : Nat} {f : Int → Option Nat} (h : MapI w b m f) : b < w.heap.size := by
  obtain ⟨D, ⟨es, clock, hb, r⟩, h2⟩ := h
  exact (Array.getElem?_eq_some_iff.1 hb).1
theorem MapI.look {w : World} {b m : Nat} {f : Int → Option Nat} (h : MapI w b m f) {x : Int} (hx : (Lit.int .i64 x).wf = true) :
    (Instr.lookup 58 (.map (some b)) (.int .i64 x) true).run Try.prog w = .ok (.tuple #[.int .i64 (((f x).getD 0 : Nat) : Int), .bool (f x).isSome]) w := by
  obtain ⟨D, ho, hs, hd⟩ := h
  obtain ⟨h1, h2⟩ := hd x hx
  obtain ⟨v, ps, hrun, hv⟩ := ho.look_ok keyI Try.underlying58 (zeroI w) (plainElem_int Try.underlying3 (by decide)) (keyOf_int_mk Try.underlying3 hx)
  obtain ⟨c, rfl, hc, hwc⟩ := plainElem_int_inv Try.underlying3 hv
  rw [hrun, h1]
  have hc' : D.atKey (.int .i64 x) (.lit (.int .i64 0)) = .lit (.int .i64 c) := congrArg Prod.fst hc
  cases hf : f x with
  | some i =>
    rw [h2 i hf] at hc'
    simp only [DataW.lit.injEq, Lit.int.injEq, true_and] at hc'
    simp [← hc']
  | none =>
    rw [hf] at h1
    rw [atKey_of_not_has h1] at hc'
    simp only [DataW.lit.injEq, Lit.int.injEq, true_and] at hc'
    simp [← hc']
def updI (f : Int → Option Nat) (x : Int) (i : Nat) : Int → Option Nat := fun y => if y = x then some i else f y
def delI (f : Int → Option Nat) (x : Int) : Int → Option Nat := fun y => if y = x then none else f y
theorem MapI.store {w : World} {b m : Nat} {f : Int → Option Nat} (h : MapI w b m f) {x : Int} (hx : (Lit.int .i64 x).wf = true) (i : Nat) (hi : (Lit.int .i64 (i : Int)).wf = true) (hm : m < maxLen) :
    ∃ w', (Instr.mapUpdate 58 (.map (some b)) (.int .i64 x) (.int .i64 (i : Int))).run Try.prog w = .ok () w' ∧ MapI w' b (if (f x).isSome then m else m + 1) (updI f x i) ∧ w.mapTurned w' b := by
  obtain ⟨D, ho, hs, hd⟩ := h
  obtain ⟨w', hrun, ho', ht⟩ := ho.store keyI Try.underlying58 hm (keyOf_int_mk Try.underlying3 hx) (plainElem_int (H := Unit) Try.underlying3 hi)
  have hsz := size_put (k := .int .i64 x) (ho.tidy keyI) (.lit (.int .i64 (i : Int)))
  rw [(hd x hx).1, hs] at hsz
  refine ⟨w', hrun, ⟨_, hsz ▸ own_exact ho', hsz, fun y hy => ?_⟩, ht⟩
  unfold updI
  by_cases e : y = x
  · subst e
    rw [if_pos rfl]
    refine ⟨has_put_same (k := .int .i64 y) ho.isMap trivial _, fun j hj => ?_⟩
    cases hj
    exact atKey_put_same (k := .int .i64 y) ho.isMap trivial _ _
  · rw [if_neg e]
    have hne : (Lit.int .i64 y) ≠ (Lit.int .i64 x) := by simpa using e
    refine ⟨(has_put_other hne _).trans (hd y hy).1, fun j hj => (atKey_put_other hne _ _).trans ((hd y hy).2 j hj)⟩
theorem MapI.drop {w : World} {b m : Nat} {f : Int → Option Nat} (h : MapI w b m f) {x : Int} (hx : (Lit.int .i64 x).wf = true) (hf : (f x).isSome = true) (ty : TypeId) :
    ∃ w', (Builtin.delete_ #[58, 3] ty #[.map (some b), .int .i64 x]).run Try.prog w = .ok (.tuple #[]) w' ∧ MapI w' b (m - 1) (delI f x) ∧ w.mapTurned w' b := by
  obtain ⟨D, ho, hs, hd⟩ := h
  obtain ⟨w', hrun, ho', ht⟩ := ho.drop keyI Try.underlying58 (keyOf_int_mk Try.underlying3 hx) ty
  have hsz := size_del (k := .int .i64 x) (ho.tidy keyI)
  rw [(hd x hx).1, hs, hf, if_pos rfl] at hsz
  have hsz' : Maps.size (D.del (.int .i64 x)) = m - 1 := by omega
  refine ⟨w', hrun, ⟨_, hsz' ▸ own_exact ho', hsz', fun y hy => ?_⟩, ht⟩
  unfold delI
  by_cases e : y = x
  · subst e
    rw [if_pos rfl]
    exact ⟨has_del_same, fun j hj => by cases hj⟩
  · rw [if_neg e]
    have hne : (Lit.int .i64 y) ≠ (Lit.int .i64 x) := by simpa using e
    exact ⟨(has_del_other hne).trans (hd y hy).1, fun j hj => (atKey_del_other hne _).trans ((hd y hy).2 j hj)⟩
theorem MapI.made (w : World) : MapI (w.alloc (.map #[] 0)) w.heap.size 0 (fun _ => none) := by
  refine ⟨.map [], World.ownsMap_made _ _ _ _, rfl, fun x _ => ⟨rfl, fun i h => by cases h⟩⟩
/-- What may have changed: these blocks, and what is new. -/
structure Chg (S : Nat → Prop) (w w' : World) : Prop where
  os : w'.os = w.os
  tape : w'.tape = w.tape
  output : w'.output = w.output
  size : w.heap.size ≤ w'.heap.size
  block : ∀ j, j < w.heap.size → ¬ S j → w'.heap[j]? = w.heap[j]?
theorem Chg.refl (S : Nat → Prop) (w : World) : Chg S w w := ⟨rfl, rfl, rfl, Nat.le_refl _, fun _ _ _ => rfl⟩
theorem Chg.trans {S S' : Nat → Prop} {w w1 w2 : World} (h : Chg S w w1) (g : Chg S' w1 w2) (hs : ∀ j, S' j → S j ∨ w.heap.size ≤ j) : Chg S w w2 :=
  ⟨g.os.trans h.os, g.tape.trans h.tape, g.output.trans h.output, Nat.le_trans h.size g.size, fun j hj hn => (g.block j (Nat.lt_of_lt_of_le hj h.size) fun e => (hs j e).elim hn fun e => by omega).trans (h.block j hj hn)⟩
theorem Chg.below {S : Nat → Prop} {w w1 : World} (h : Below w.heap.size w w1) : Chg S w w1 := ⟨h.os, h.tape, h.output, h.size, fun j hj _ => h.block j hj⟩
theorem Chg.to_below {S : Nat → Prop} {w w1 : World} (h : Chg S w w1) {B : Nat} (hB : ∀ j, S j → B ≤ j) (hs : B ≤ w.heap.size) : Below B w w1 := ⟨h.os, h.tape, h.output, h.size, fun j hj => h.block j (by omega) fun e => by have := hB j e; omega⟩
theorem Chg.set {S : Nat → Prop} {w : World} (a : Addr) (v : Value) (ha : S a.block) : Chg S w (w.setCell a v) := ⟨rfl, rfl, rfl, by simp [World.setCell], fun j _ hn => Below.heap_setCell _ _ _ _ (fun e => hn (e ▸ ha))⟩
theorem Chg.grown {S : Nat → Prop} {w w1 : World} {r : Option Nat} (h : w.grownBy w1 r) (hr : ∀ k, r = some k → S k) : Chg S w w1 := ⟨h.os, h.tape, h.output, h.size, fun j hj hn => h.block j hj (fun e => hn (hr j e.symm))⟩
theorem Chg.drew {S : Nat → Prop} (w : World) : Chg S w w.drew := Chg.below (Below.refl _ _).drew
theorem Chg.alloc {S : Nat → Prop} (w : World) (o : Obj) : Chg S w (w.alloc o) := Chg.below ((Below.refl _ _).alloc (Nat.le_refl _) o)
theorem Chg.mono {S S' : Nat → Prop} {w w1 : World} (h : Chg S w w1) (hs : ∀ j, S j → S' j) : Chg S' w w1 := ⟨h.os, h.tape, h.output, h.size, fun j hj hn => h.block j hj (fun e => hn (hs j e))⟩
/-- The items' row. -/
structure Its (w : World) (A : Option Addr) (n cap : Nat) (l : List (Int × Int)) : Prop where
  ln : l.length = n
  nc : n ≤ cap
  cm : cap ≤ 9223372036854775807
  z : n = 0 → cap = 0
  no : A = none → n = 0
  bl : 0 < n → ∃ b cur, A = some ⟨b, 0, none⟩ ∧ w.heap[b]? = some (.cells cur 65 (0, 0)) ∧ cap * 2 ≤ cur.size ∧ ∀ j, j < n → cur[2 * j]? = some (.int .i64 (g l j).1) ∧ cur[2 * j + 1]? = some (.int .i64 (g l j).2)
theorem Its.kept {w w' : World} {A : Option Addr} {n cap : Nat} {l : List (Int × Int)} (h : Its w A n cap l) (hk : ∀ a, A = some a → a.block < w.heap.size → w'.heap[a.block]? = w.heap[a.block]?) : Its w' A n cap l :=
  { h with
    bl := fun hn => by
      obtain ⟨b, cur, e, hb, r⟩ := h.bl hn
      exact ⟨b, cur, e, (hk _ e (Array.getElem?_eq_some_iff.1 hb).1).trans hb, r⟩ }
theorem Its.cells {w : World} {A : Option Addr} {n cap : Nat} {l : List (Int × Int)} (h : Its w A n cap l) {i : Nat} (hi : i < n) :
    ∃ b, A = some ⟨b, 0, none⟩ ∧ b < w.heap.size ∧ ∀ j, j < n → w.cell? ⟨b, j * 2, none⟩ = some (.int .i64 (g l j).1) ∧ w.cell? ⟨b, j * 2 + 1, none⟩ = some (.int .i64 (g l j).2) ∧ w.frozen? ⟨b, j * 2, none⟩ = false ∧ w.frozen? ⟨b, j * 2 + 1, none⟩ = false := by
  obtain ⟨b, cur, e, hb, hc, hr⟩ := h.bl (by omega)
  refine ⟨b, e, (Array.getElem?_eq_some_iff.1 hb).1, fun j hj => ?_⟩
  obtain ⟨h1, h2⟩ := hr j hj
  rw [Nat.mul_comm 2 j] at h1 h2
  exact ⟨by simp only [World.cell?, hb]; exact h1, by simp only [World.cell?, hb]; exact h2, bx_free hb _, bx_free hb _⟩
theorem Its.set2 {w : World} {b n cap : Nat} {l : List (Int × Int)} (h : Its w (some ⟨b, 0, none⟩) n cap l) {i : Nat} (hi : i < n) (x y : Int) :
    Its ((w.setCell ⟨b, i * 2, none⟩ (.int .i64 x)).setCell ⟨b, i * 2 + 1, none⟩ (.int .i64 y)) (some ⟨b, 0, none⟩) n cap (l.set i (x, y)) :=
  { h with
    ln := by rw [List.length_set]; exact h.ln
    bl := fun hn => by
      obtain ⟨b', cur, e, hb, hc, hr⟩ := h.bl hn
      cases e
      have hs1 := heap_setCell_same w b (i * 2) cur 65 (.int .i64 x) hb
      have hs2 := heap_setCell_same _ b (i * 2 + 1) _ 65 (.int .i64 y) hs1
      refine ⟨b, _, rfl, hs2, by simpa using hc, fun j hj => ?_⟩
      obtain ⟨h1, h2⟩ := hr j hj
      obtain ⟨h3, h4⟩ := hr i hi
      have hl1 := (Array.getElem?_eq_some_iff.1 h3).1
      have hl2 := (Array.getElem?_eq_some_iff.1 h4).1
      rw [g_set l i j (x, y) (by rw [h.ln]; exact hi)]
      by_cases ej : j = i
      · subst ej
        rw [if_pos rfl, Nat.mul_comm j 2]
        refine ⟨?_, ?_⟩
        · rw [Array.getElem?_setIfInBounds_ne (by omega), Array.getElem?_setIfInBounds_self_of_lt hl1]
        · rw [Array.getElem?_setIfInBounds_self_of_lt (by simpa using hl2)]
      · rw [if_neg ej]
        rw [Array.getElem?_setIfInBounds_ne (by omega), Array.getElem?_setIfInBounds_ne (by omega), Array.getElem?_setIfInBounds_ne (by omega), Array.getElem?_setIfInBounds_ne (by omega)]
        exact ⟨h1, h2⟩ }
/-- A front of it. -/
theorem Its.front {w : World} {A : Option Addr} {n cap m : Nat} {l : List (Int × Int)} (h : Its w A n cap l) (hm : m < n) : Its w A m m (l.take m) where
  ln := by rw [List.length_take, h.ln]; omega
  nc := Nat.le_refl _
  cm := by have := h.cm; have := h.nc; omega
  z := fun e => e
  no := fun e => by have := h.no e; omega
  bl := fun hn => by
    obtain ⟨b, cur, e, hb, hc, hr⟩ := h.bl (by omega)
    refine ⟨b, cur, e, hb, by have := h.nc; omega, fun j hj => ?_⟩
    rw [g_take l m j hj]
    exact hr j (by omega)
/-- Which index a key has. -/
def Ix (l : List (Int × Int)) (f : Int → Option Nat) : Prop := ∀ k i, f k = some i ↔ i < l.length ∧ (g l i).1 = k
theorem Ix.sw {l : List (Int × Int)} {f : Int → Option Nat} (h : Ix l f) {i k : Nat} (hi : i < l.length) (hk : k < l.length) : Ix (sw l i k) (updI (updI f (g l k).1 i) (g l i).1 k) := by
  have uniq : ∀ a b, a < l.length → b < l.length → (g l a).1 = (g l b).1 → a = b := fun a b ha hb e => by
    have h1 := (h (g l a).1 a).2 ⟨ha, rfl⟩
    have h2 := (h (g l a).1 b).2 ⟨hb, e.symm⟩
    rw [h1] at h2
    exact Option.some.inj h2
  intro x j
  rw [sw_len, g_sw l i k j hi hk]
  unfold updI
  by_cases e1 : x = (g l i).1
  · rw [if_pos e1]
    constructor
    · rintro ⟨rfl⟩
      exact ⟨hk, by rw [if_pos rfl]; exact e1.symm⟩
    · rintro ⟨jl, hj⟩
      by_cases e : j = k
      · rw [e]
      · rw [if_neg e] at hj
        by_cases e' : j = i
        · rw [if_pos e'] at hj
          have := uniq k i hk hi (hj.trans e1)
          rw [e', this]
        · rw [if_neg e'] at hj
          exact absurd (uniq j i jl hi (hj.trans e1)) e'
  · rw [if_neg e1]
    by_cases e2 : x = (g l k).1
    · rw [if_pos e2]
      constructor
      · rintro ⟨rfl⟩
        have hne : i ≠ k := fun e => e1 (by rw [e]; exact e2)
        exact ⟨hi, by rw [if_neg hne, if_pos rfl]; exact e2.symm⟩
      · rintro ⟨jl, hj⟩
        by_cases e : j = k
        · rw [if_pos e] at hj; exact absurd hj.symm e1
        · rw [if_neg e] at hj
          by_cases e' : j = i
          · rw [e']
          · rw [if_neg e'] at hj
            exact absurd (uniq j k jl hk (hj.trans e2)) e
    · rw [if_neg e2, h x j]
      constructor
      · rintro ⟨jl, hj⟩
        refine ⟨jl, ?_⟩
        have n1 : j ≠ k := fun e => e2 (by rw [← e]; exact hj.symm)
        have n2 : j ≠ i := fun e => e1 (by rw [← e]; exact hj.symm)
        rw [if_neg n1, if_neg n2]; exact hj
      · rintro ⟨jl, hj⟩
        refine ⟨jl, ?_⟩
        by_cases e : j = k
        · rw [if_pos e] at hj; exact absurd hj.symm e1
        · rw [if_neg e] at hj
          by_cases e' : j = i
          · rw [if_pos e'] at hj; exact absurd hj.symm e2
          · rw [if_neg e'] at hj; exact hj
theorem g_append (l : List (Int × Int)) (x : Int × Int) (j : Nat) : g (l ++ [x]) j = if j = l.length then x else g l j := by
  unfold g
  rw [List.getD_eq_getElem?_getD, List.getD_eq_getElem?_getD]
  by_cases h : j < l.length
  · rw [if_neg (by omega), List.getElem?_append_left h]
  · by_cases e : j = l.length
    · subst e; simp
    · rw [if_neg e, List.getElem?_eq_none (by simp; omega), List.getElem?_eq_none (by omega)]
theorem Ix.put {l : List (Int × Int)} {f : Int → Option Nat} (h : Ix l f) {k n : Int} (hf : f k = none) : Ix (l ++ [(k, n)]) (updI f k l.length) := by
  intro x j
  rw [g_append]
  unfold updI
  by_cases e : x = k
  · rw [if_pos e]
    constructor
    · rintro ⟨rfl⟩
      rw [if_pos rfl]
      exact ⟨by simp, e.symm⟩
    · rintro ⟨jl, hj⟩
      by_cases ej : j = l.length
      · rw [ej]
      · rw [if_neg ej] at hj
        have := (h k j).2 ⟨by simp at jl; omega, hj.trans e⟩
        rw [hf] at this
        cases this
  · rw [if_neg e, h x j]
    constructor
    · rintro ⟨jl, hj⟩
      rw [if_neg (by omega)]
      exact ⟨by simp; omega, hj⟩
    · rintro ⟨jl, hj⟩
      by_cases ej : j = l.length
      · rw [if_pos ej] at hj; exact absurd hj.symm e
      · rw [if_neg ej] at hj
        exact ⟨by simp at jl; omega, hj⟩
theorem Ix.cut {l : List (Int × Int)} {f : Int → Option Nat} (h : Ix l f) (m : Nat) (hm : l.length = m + 1) : Ix (l.take m) (delI f (g l m).1) := by
  intro x j
  unfold delI
  rw [List.length_take]
  by_cases e : x = (g l m).1
  · rw [if_pos e]
    constructor
    · intro h'; cases h'
    · rintro ⟨jl, hj⟩
      rw [g_take l m j (by omega)] at hj
      have h1 := (h x j).2 ⟨by omega, hj⟩
      have h2 := (h x m).2 ⟨by omega, e.symm⟩
      rw [h1] at h2
      have := Option.some.inj h2
      omega
  · rw [if_neg e, h x j]
    constructor
    · rintro ⟨jl, hj⟩
      have : j ≠ m := fun e' => e (by rw [← e']; exact hj.symm)
      exact ⟨by omega, by rw [g_take l m j (by omega)]; exact hj⟩
    · rintro ⟨jl, hj⟩
      rw [g_take l m j (by omega)] at hj
      exact ⟨by omega, hj⟩
theorem Ix.low {l : List (Int × Int)} {f : Int → Option Nat} (h : Ix l f) {i : Nat} (hi : i < l.length) (y : Int) : Ix (l.set i ((g l i).1, y)) f := by
  intro x j
  rw [h x j, List.length_set, g_set l i j _ hi]
  by_cases e : j = i
  · subst e; rw [if_pos rfl]
  · rw [if_neg e]
end Go.Proofs.Ytfejmcoaljelpaa.Hp
