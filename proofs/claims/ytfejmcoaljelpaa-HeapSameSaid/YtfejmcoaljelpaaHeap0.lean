/-
  A heap, plainly: a row of which none stands ahead of the one that it hangs under; taking one up, taking one down.
-/
import Derived.Lib.Hide
namespace Go.Proofs.Ytfejmcoaljelpaa.Hp

/-- An order of a row's items: of two that are not the same one goes ahead or neither does. -/
structure Ord {α : Type} (ah : α → α → Bool) : Prop where
  asym : ∀ a b, ah a b = true → ah b a = false
  trans : ∀ a b c, ah a b = true → ah b c = true → ah a c = true
  neg : ∀ a b c, ah a b = false → ah b c = false → ah a c = false
theorem Ord.irr {α : Type} {ah : α → α → Bool} (o : Ord ah) (a : α) : ah a a = false := by
  cases h : ah a a with
  | false => rfl
  | true => have := o.asym a a h; rw [h] at this; cases this

section
variable {α : Type} [Inhabited α]
abbrev g (l : List α) (i : Nat) : α := l.getD i default
def par (i : Nat) : Nat := (i - 1) / 2
theorem par_lt {i : Nat} (h : 0 < i) : par i < i := by unfold par; omega
def sw (l : List α) (i k : Nat) : List α := (l.set i (g l k)).set k (g l i)
theorem sw_len (l : List α) (i k : Nat) : (sw l i k).length = l.length := by simp [sw]
theorem g_set (l : List α) (i j : Nat) (x : α) (hi : i < l.length) : g (l.set i x) j = if j = i then x else g l j := by
  unfold g
  rw [List.getD_eq_getElem?_getD, List.getD_eq_getElem?_getD]
  by_cases h : j = i
  · subst h; simp [hi]
  · rw [if_neg h, List.getElem?_set_ne (Ne.symm h)]
theorem g_sw (l : List α) (i k j : Nat) (hi : i < l.length) (hk : k < l.length) : g (sw l i k) j = if j = k then g l i else if j = i then g l k else g l j := by
  unfold sw
  rw [g_set _ _ _ _ (by simpa using hk), g_set _ _ _ _ hi]
theorem sw_perm (l : List α) (i k : Nat) (hi : i < l.length) (hk : k < l.length) : (sw l i k).Perm l := by
  have e1 : g l k = l[k] := by simp [g, List.getD_eq_getElem?_getD, hk]
  have e2 : g l i = l[i] := by simp [g, List.getD_eq_getElem?_getD, hi]
  unfold sw
  rw [e1, e2]
  exact List.set_set_perm hi hk
variable (ah : α → α → Bool)
/-- None stands ahead of the one that it hangs under. -/
def HO (l : List α) : Prop := ∀ j, 0 < j → j < l.length → ah (g l j) (g l (par j)) = false
def up (l : List α) (i : Nat) : List α := if _h : 0 < i ∧ ah (g l i) (g l (par i)) = true then up (sw l i (par i)) (par i) else l
termination_by i
decreasing_by exact par_lt _h.1
/-- The lesser one of those that hang under it. -/
def kid (l : List α) (i : Nat) : Nat := if 2 * i + 1 + 1 < l.length ∧ ah (g l (2 * i + 1 + 1)) (g l (2 * i + 1)) = true then 2 * i + 1 + 1 else 2 * i + 1
theorem kid_lt (l : List α) (i : Nat) (h : 2 * i + 1 < l.length) : i < kid ah l i ∧ kid ah l i < l.length := by
  unfold kid
  split <;> omega
theorem kid_par (l : List α) (i : Nat) : par (kid ah l i) = i ∧ 0 < kid ah l i := by
  unfold kid par
  split <;> omega
def down (l : List α) (i : Nat) : List α := if _h : 2 * i + 1 < l.length ∧ ah (g l (kid ah l i)) (g l i) = true then down (sw l i (kid ah l i)) (kid ah l i) else l
termination_by l.length - i
decreasing_by have := kid_lt ah l i _h.1; rw [sw_len]; omega
variable {ah}
theorem up_yes {l : List α} {i : Nat} (h : 0 < i ∧ ah (g l i) (g l (par i)) = true) : up ah l i = up ah (sw l i (par i)) (par i) := by rw [up, dif_pos h]
theorem up_no {l : List α} {i : Nat} (h : ¬ (0 < i ∧ ah (g l i) (g l (par i)) = true)) : up ah l i = l := by rw [up, dif_neg h]
theorem down_yes {l : List α} {i : Nat} (h : 2 * i + 1 < l.length ∧ ah (g l (kid ah l i)) (g l i) = true) : down ah l i = down ah (sw l i (kid ah l i)) (kid ah l i) := by rw [down, dif_pos h]
theorem down_no {l : List α} {i : Nat} (h : ¬ (2 * i + 1 < l.length ∧ ah (g l (kid ah l i)) (g l i) = true)) : down ah l i = l := by rw [down, dif_neg h]
theorem up_perm : ∀ (i : Nat) (l : List α), i < l.length → (up ah l i).Perm l := by
  intro i
  induction i using Nat.strongRecOn with
  | _ i ih =>
    intro l hi
    by_cases h : 0 < i ∧ ah (g l i) (g l (par i)) = true
    · have hp := par_lt h.1
      rw [up_yes h]
      exact (ih (par i) hp _ (by rw [sw_len]; omega)).trans (sw_perm l i (par i) hi (by omega))
    · rw [up_no h]
theorem down_perm : ∀ (n i : Nat) (l : List α), l.length - i ≤ n → i < l.length → (down ah l i).Perm l := by
  intro n
  induction n with
  | zero => intro i l h1 h2; omega
  | succ n ih =>
    intro i l h1 hi
    by_cases h : 2 * i + 1 < l.length ∧ ah (g l (kid ah l i)) (g l i) = true
    · have hk := kid_lt ah l i h.1
      rw [down_yes h]
      exact (ih (kid ah l i) _ (by rw [sw_len]; omega) (by rw [sw_len]; omega)).trans (sw_perm l i _ hi hk.2)
    · rw [down_no h]
/-- All is right but the one at a place, that may stand too low. -/
def UpI (ah : α → α → Bool) (l : List α) (i : Nat) : Prop := (∀ j, 0 < j → j < l.length → j ≠ i → ah (g l j) (g l (par j)) = false) ∧ (0 < i → ∀ j, 0 < j → j < l.length → par j = i → ah (g l j) (g l (par i)) = false)
/-- All is right but the one at a place, that may stand too high. -/
def DnI (ah : α → α → Bool) (l : List α) (i : Nat) : Prop := (∀ j, 0 < j → j < l.length → par j ≠ i → ah (g l j) (g l (par j)) = false) ∧ (0 < i → ∀ j, 0 < j → j < l.length → par j = i → ah (g l j) (g l (par i)) = false)
theorem up_ok (o : Ord ah) : ∀ (i : Nat) (l : List α), i < l.length → UpI ah l i → HO ah (up ah l i) := by
  intro i
  induction i using Nat.strongRecOn with
  | _ i ih =>
    intro l hi hu
    by_cases h : 0 < i ∧ ah (g l i) (g l (par i)) = true
    · obtain ⟨h0, h1⟩ := h
      have hp := par_lt h0
      rw [up_yes ⟨h0, h1⟩]
      refine ih (par i) hp _ (by rw [sw_len]; omega) ⟨fun j j0 jl jp => ?_, fun p0 j j0 jl jp => ?_⟩
      · rw [sw_len] at jl
        rw [g_sw l i (par i) j hi (by omega), g_sw l i (par i) (par j) hi (by omega), if_neg jp]
        by_cases e : j = i
        · subst e
          rw [if_pos rfl, if_pos rfl]
          exact o.asym _ _ h1
        · rw [if_neg e]
          by_cases e2 : par j = par i
          · rw [if_pos e2]
            have h2 := hu.1 j j0 jl e
            rw [e2] at h2
            cases h3 : ah (g l j) (g l i) with
            | false => rfl
            | true => rw [o.trans _ _ _ h3 h1] at h2; cases h2
          · rw [if_neg e2]
            by_cases e3 : par j = i
            · rw [if_pos e3]; exact hu.2 h0 j j0 jl e3
            · rw [if_neg e3]; exact hu.1 j j0 jl e
      · rw [sw_len] at jl
        have hpp := par_lt p0
        rw [g_sw l i (par i) j hi (by omega), g_sw l i (par i) (par (par i)) hi (by omega), if_neg (by have := par_lt j0; omega : j ≠ par i), if_neg (by omega : par (par i) ≠ par i), if_neg (by omega : par (par i) ≠ i)]
        have h2 := hu.1 (par i) p0 (by omega) (by omega)
        by_cases e : j = i
        · rw [if_pos e]; exact h2
        · rw [if_neg e]
          have h3 := hu.1 j j0 jl e
          rw [jp] at h3
          exact o.neg _ _ _ h3 h2
    · rw [up_no h]
      intro j j0 jl
      by_cases e : j = i
      · subst e
        cases h1 : ah (g l j) (g l (par j)) with
        | false => rfl
        | true => exact absurd ⟨j0, h1⟩ h
      · exact hu.1 j j0 jl e
theorem kid_min (o : Ord ah) (l : List α) (i j : Nat) (j0 : 0 < j) (jl : j < l.length) (jp : par j = i) : ah (g l j) (g l (kid ah l i)) = false := by
  have hj : j = 2 * i + 1 ∨ j = 2 * i + 1 + 1 := by unfold par at jp; omega
  unfold kid
  split
  · rename_i h
    rcases hj with rfl | rfl
    · exact o.asym _ _ h.2
    · exact o.irr _
  · rename_i h
    rcases hj with rfl | rfl
    · exact o.irr _
    · cases h1 : ah (g l (2 * i + 1 + 1)) (g l (2 * i + 1)) with
      | false => rfl
      | true => exact absurd ⟨jl, h1⟩ h
theorem down_ok (o : Ord ah) : ∀ (n i : Nat) (l : List α), l.length - i ≤ n → i < l.length → DnI ah l i → HO ah (down ah l i) := by
  intro n
  induction n with
  | zero => intro i l h1 h2; omega
  | succ n ih =>
    intro i l hn hi hu
    by_cases h : 2 * i + 1 < l.length ∧ ah (g l (kid ah l i)) (g l i) = true
    · obtain ⟨h0, h1⟩ := h
      have hk := kid_lt ah l i h0
      obtain ⟨hkp, hk0⟩ := kid_par ah l i
      rw [down_yes ⟨h0, h1⟩]
      have hmin := fun j j0 jl jp => kid_min o l i j j0 jl jp
      generalize kid ah l i = k at *
      refine ih k _ (by rw [sw_len]; omega) (by rw [sw_len]; omega) ⟨fun j j0 jl jp => ?_, fun k0 j j0 jl jp => ?_⟩
      · rw [sw_len] at jl
        rw [g_sw l i k j hi hk.2, g_sw l i k (par j) hi hk.2, if_neg jp]
        by_cases e : j = k
        · subst e
          rw [if_pos rfl, if_pos hkp]
          exact o.asym _ _ h1
        · rw [if_neg e]
          by_cases e2 : j = i
          · subst e2
            have := par_lt j0
            rw [if_pos rfl, if_neg (by omega : par j ≠ j)]
            exact hu.2 j0 k hk0 hk.2 hkp
          · rw [if_neg e2]
            by_cases e3 : par j = i
            · rw [if_pos e3]; exact hmin j j0 jl e3
            · rw [if_neg e3]; exact hu.1 j j0 jl e3
      · rw [sw_len] at jl
        have hj := par_lt j0
        rw [g_sw l i k j hi hk.2, g_sw l i k (par k) hi hk.2, hkp, if_neg (by omega : j ≠ k), if_neg (by omega : j ≠ i), if_neg (by omega : i ≠ k), if_pos rfl]
        have h3 := hu.1 j j0 jl (by omega)
        rwa [jp] at h3
    · rw [down_no h]
      intro j j0 jl
      by_cases e : par j = i
      · have h2 := kid_min o l i j j0 jl e
        have h0 : 2 * i + 1 < l.length := by unfold par at e; omega
        have h1 : ah (g l (kid ah l i)) (g l i) = false := by
          cases h1 : ah (g l (kid ah l i)) (g l i) with
          | false => rfl
          | true => exact absurd ⟨h0, h1⟩ h
        rw [e]
        exact o.neg _ _ _ h2 h1
      · exact hu.1 j j0 jl e
theorem HO.dn (o : Ord ah) {l : List α} (h : HO ah l) (i : Nat) (hi : i < l.length) : DnI ah l i := ⟨fun j j0 jl _ => h j j0 jl, fun i0 j j0 jl jp => by
  have h1 := h j j0 jl
  rw [jp] at h1
  exact o.neg _ _ _ h1 (h i i0 hi)⟩
/-- A new one behind all. -/
theorem put_ok (o : Ord ah) {l : List α} (h : HO ah l) (x : α) : HO ah (up ah (l ++ [x]) l.length) := by
  have hg : ∀ j, j < l.length → g (l ++ [x]) j = g l j := fun j hj => by
    unfold g
    rw [List.getD_eq_getElem?_getD, List.getD_eq_getElem?_getD, List.getElem?_append_left hj]
  refine up_ok o _ _ (by simp) ⟨fun j j0 jl je => ?_, fun _ j j0 jl jp => ?_⟩
  · have hl : j < l.length := by simp at jl; omega
    have := par_lt j0
    rw [hg j hl, hg (par j) (by omega)]
    exact h j j0 hl
  · have := par_lt j0
    simp at jl
    omega
/-- One that goes ahead of what stood there. -/
theorem lower_ok (o : Ord ah) {l : List α} (h : HO ah l) (i : Nat) (hi : i < l.length) (y : α) (hy : ah y (g l i) = true) : HO ah (up ah (l.set i y) i) := by
  refine up_ok o _ _ (by simpa using hi) ⟨fun j j0 jl je => ?_, fun i0 j j0 jl jp => ?_⟩
  · simp at jl
    rw [g_set l i j y hi, g_set l i (par j) y hi, if_neg je]
    by_cases e : par j = i
    · rw [if_pos e]
      have h1 := h j j0 jl
      rw [e] at h1
      cases h2 : ah (g l j) y with
      | false => rfl
      | true => rw [o.trans _ _ _ h2 hy] at h1; cases h1
    · rw [if_neg e]; exact h j j0 jl
  · simp at jl
    have := par_lt j0
    have := par_lt i0
    rw [g_set l i j y hi, g_set l i (par i) y hi, if_neg (by omega), if_neg (by omega)]
    exact ((h.dn o i hi).2 i0 j j0 jl jp)
theorem g_take (l : List α) (n j : Nat) (hj : j < n) : g (l.take n) j = g l j := by
  unfold g
  rw [List.getD_eq_getElem?_getD, List.getD_eq_getElem?_getD, List.getElem?_take_of_lt hj]
/-- What is left when the last one has come to the place of one that goes. -/
def cutAt (l : List α) (i : Nat) : List α := (sw l i (l.length - 1)).take (l.length - 1)
theorem cut_len (l : List α) (i : Nat) : (cutAt l i).length = l.length - 1 := by
  unfold cutAt
  rw [List.length_take, sw_len]
  omega
theorem cut_g (l : List α) (i j : Nat) (hi : i < l.length) (hj : j < l.length - 1) : g (cutAt l i) j = if j = i then g l (l.length - 1) else g l j := by
  unfold cutAt
  rw [g_take _ _ _ hj, g_sw l i _ j hi (by omega), if_neg (by omega)]
theorem cut_perm (l : List α) (i : Nat) (hi : i < l.length) : l.Perm (g l i :: cutAt l i) := by
  have h1 := sw_perm l i (l.length - 1) hi (by omega)
  have h2 : sw l i (l.length - 1) = cutAt l i ++ [g l i] := by
    have hl : (sw l i (l.length - 1)).length = l.length := sw_len _ _ _
    have e := (List.take_append_drop (l.length - 1) (sw l i (l.length - 1))).symm
    have hd : (sw l i (l.length - 1)).drop (l.length - 1) = [g l i] := by
      have hx : l.length - 1 < (sw l i (l.length - 1)).length := by omega
      rw [List.drop_eq_getElem_cons hx, List.drop_eq_nil_of_le (by omega)]
      congr 1
      have := g_sw l i (l.length - 1) (l.length - 1) hi (by omega)
      rw [if_pos rfl] at this
      rw [← this]
      unfold g
      rw [List.getD_eq_getElem?_getD, List.getElem?_eq_getElem hx]
      rfl
    rw [hd] at e
    exact e
  rw [h2] at h1
  exact h1.symm.trans (List.perm_append_comm.trans (List.Perm.refl _))
theorem cut_last (l : List α) (h : 0 < l.length) (ho : HO ah l) : HO ah (cutAt l (l.length - 1)) := by
  intro j j0 jl
  rw [cut_len] at jl
  have := par_lt j0
  rw [cut_g l _ j (by omega) jl, cut_g l _ (par j) (by omega) (by omega), if_neg (by omega), if_neg (by omega)]
  exact ho j j0 (by omega)
theorem drop_ok (o : Ord ah) {l : List α} (h : HO ah l) (i : Nat) (hi : i < l.length - 1) : HO ah (down ah (up ah (cutAt l i) i) i) := by
  have hl : (cutAt l i).length = l.length - 1 := cut_len l i
  have hil : i < l.length := by omega
  have hcg := fun j hj => cut_g l i j hil hj
  have f1 : ∀ j, 0 < j → j < l.length - 1 → j ≠ i → par j ≠ i → ah (g (cutAt l i) j) (g (cutAt l i) (par j)) = false := fun j j0 jl je jp => by
    have := par_lt j0
    rw [hcg j jl, hcg (par j) (by omega), if_neg je, if_neg jp]
    exact h j j0 (by omega)
  have f2 : 0 < i → ∀ j, 0 < j → j < l.length - 1 → par j = i → ah (g (cutAt l i) j) (g (cutAt l i) (par i)) = false := fun i0 j j0 jl jp => by
    have := par_lt j0
    have := par_lt i0
    rw [hcg j jl, hcg (par i) (by omega), if_neg (by omega), if_neg (by omega)]
    exact (h.dn o i hil).2 i0 j j0 (by omega) jp
  generalize cutAt l i = c at *
  by_cases hc : 0 < i ∧ ah (g c i) (g c (par i)) = true
  · have hu : HO ah (up ah c i) := by
      refine up_ok o i c (by omega) ⟨fun j j0 jl je => ?_, fun i0 j j0 jl jp => f2 i0 j j0 (by omega) jp⟩
      by_cases e : par j = i
      · rw [e]
        have h2 := f2 hc.1 j j0 (by omega) e
        cases h3 : ah (g c j) (g c i) with
        | false => rfl
        | true => rw [o.trans _ _ _ h3 hc.2] at h2; cases h2
      · exact f1 j j0 (by omega) je e
    have hlu : (up ah c i).length = c.length := (up_perm i c (by omega)).length_eq
    exact down_ok o _ i _ (Nat.le_refl _) (by omega) (hu.dn o i (by omega))
  · rw [up_no hc]
    refine down_ok o _ i c (Nat.le_refl _) (by omega) ⟨fun j j0 jl jp => ?_, fun i0 j j0 jl jp => f2 i0 j j0 (by omega) jp⟩
    by_cases e : j = i
    · subst e
      cases h1 : ah (g c j) (g c (par j)) with
      | false => rfl
      | true => exact absurd ⟨j0, h1⟩ hc
    · exact f1 j j0 (by omega) e jp
/-- The first one: none goes ahead of it. -/
theorem HO.first (o : Ord ah) {l : List α} (h : HO ah l) : ∀ j, j < l.length → ah (g l j) (g l 0) = false := by
  intro j
  induction j using Nat.strongRecOn with
  | _ j ih =>
    intro jl
    by_cases e : j = 0
    · subst e; exact o.irr _
    · have hp := par_lt (by omega : 0 < j)
      exact o.neg _ _ _ (h j (by omega) jl) (ih (par j) hp (by omega))
end
end Go.Proofs.Ytfejmcoaljelpaa.Hp
