/-
  Plain laws on sums, greatest divisors and least multiples of rows, as package arith reckons them. No program in sight.
-/
import Derived.Test.YtajkckjpfbkpmaaAri3
namespace Go.Proofs.Ytajkckjpfbkpmaa.Ari

def cs (ns : List Nat) : List Int := ns.map fun (n : Nat) => (n : Int)
def gcdN (ns : List Nat) : Nat := ns.foldr Nat.gcd 0
def lcmN (ns : List Nat) : Nat := ns.foldr Nat.lcm 1
def M64 : Nat := 18446744073709551616

theorem sum_go (ns : List Nat) : ∀ x : Nat, x < M64 → (∀ n ∈ ns, n < M64) → foldM addM (x : Int) (cs ns) = if x + ns.sum < M64 then (((x + ns.sum : Nat) : Int), true) else (0, false) := by
  induction ns with
  | nil => intro x hx _; simp [cs, foldM, hx]
  | cons n ns ih =>
    intro x hx hn
    have h1 : n < M64 := hn n (by simp)
    have ih' := fun y hy => ih y hy (fun m hm => hn m (by simp [hm]))
    have e0 : foldM addM (x : Int) (cs (n :: ns)) = if (addM x n).2 = true then foldM addM (addM x n).1 (cs ns) else ((addM x n).1, false) := rfl
    rw [e0, List.sum_cons]
    unfold M64 at *
    by_cases h : x + n < 18446744073709551616
    · have ha : addM x n = (((x + n : Nat) : Int), true) := by
        unfold addM
        rw [if_pos (by omega)]
        congr 1
        omega
      rw [ha, if_pos rfl, ih' (x + n) h, Nat.add_assoc]
    · have ha : addM x n = (0, false) := by
        unfold addM
        rw [if_neg (by omega)]
      rw [ha, if_neg (by simp), if_neg (by omega)]
theorem sumM_eq (ns : List Nat) (h : ∀ n ∈ ns, n < M64) : sumM (cs ns) = if ns.sum < M64 then ((ns.sum : Int), true) else (0, false) := by
  have := sum_go ns 0 (by decide) h
  simpa [sumM] using this

theorem gcd_go (ns : List Nat) : ∀ x : Nat, (foldM (fun a b => (gcdI a b, true)) (x : Int) (cs ns)).1 = ((Nat.gcd x (gcdN ns) : Nat) : Int) := by
  induction ns with
  | nil => intro x; simp [cs, foldM, gcdN]
  | cons n ns ih =>
    intro x
    have : foldM (fun a b => (gcdI a b, true)) (x : Int) (cs (n :: ns)) = foldM (fun a b => (gcdI a b, true)) (gcdI x n) (cs ns) := by simp [cs, foldM]
    rw [this, gcdI_nat, ih]
    show _ = ((Nat.gcd x (Nat.gcd n (gcdN ns)) : Nat) : Int)
    rw [← Nat.gcd_assoc, Nat.gcd_comm n x]
theorem gcdM_eq (ns : List Nat) : gcdM (cs ns) = (gcdN ns : Int) := by
  have := gcd_go ns 0
  simpa [gcdM] using this

theorem lcmS_eq (a b : Nat) (ha : a < M64) (hb : b < M64) (hb0 : 0 < b) : lcmS a b = if Nat.lcm a b < M64 then ((Nat.lcm a b : Int), true) else (0, false) := by
  unfold lcmS
  rw [gcdI_nat, Nat.gcd_comm b a]
  have hg : 0 < Nat.gcd a b := Nat.gcd_pos_of_pos_right a hb0
  have e1 : ((a : Int).tdiv ((Nat.gcd a b : Nat) : Int)) = ((a / Nat.gcd a b : Nat) : Int) := by
    rw [Int.tdiv_eq_ediv_of_nonneg (by omega)]; rfl
  have h1 : a / Nat.gcd a b ≤ a := Nat.div_le_self _ _
  have e3 : a / Nat.gcd a b * b = Nat.lcm a b := by
    unfold Nat.lcm
    rw [Nat.mul_comm a b, Nat.mul_div_assoc b (Nat.gcd_dvd_left a b), Nat.mul_comm]
  unfold M64 at *
  rw [e1]
  generalize a / Nat.gcd a b = q at *
  have e2 : IntKind.u64.wrap (q : Int) = (q : Int) := by rw [IntKind.wrap_u64]; omega
  rw [e2, mulM_eq _ _ (by omega) (by omega) (by omega) (by omega)]
  have e4 : (q : Int) * (b : Int) = ((Nat.lcm a b : Nat) : Int) := by rw [← e3]; simp
  rw [e4]
  by_cases h : Nat.lcm a b < 18446744073709551616
  · rw [if_pos h, if_pos (by omega)]
  · rw [if_neg h, if_neg (by omega)]

theorem lcm_pos' (a b : Nat) (ha : 0 < a) (hb : 0 < b) : 0 < Nat.lcm a b := Nat.lcm_pos ha hb
theorem lcmN_pos (ns : List Nat) (h : ∀ n ∈ ns, 0 < n) : 0 < lcmN ns := by
  induction ns with
  | nil => decide
  | cons n ns ih => exact Nat.lcm_pos (h n (by simp)) (ih fun m hm => h m (by simp [hm]))

theorem lcm_go (ns : List Nat) : ∀ x : Nat, 0 < x → x < M64 → (∀ n ∈ ns, 0 < n ∧ n < M64) →
    foldM lcmS (x : Int) (cs ns) = if Nat.lcm x (lcmN ns) < M64 then ((Nat.lcm x (lcmN ns) : Int), true) else (0, false) := by
  induction ns with
  | nil => intro x _ hx _; simp [cs, foldM, lcmN, hx]
  | cons n ns ih =>
    intro x h0 hx hn
    have h1 := hn n (by simp)
    have hr : ∀ m ∈ ns, 0 < m ∧ m < M64 := fun m hm => hn m (by simp [hm])
    have hp : 0 < lcmN ns := lcmN_pos ns fun m hm => (hr m hm).1
    have e0 : foldM lcmS (x : Int) (cs (n :: ns)) = if (lcmS x n).2 = true then foldM lcmS (lcmS x n).1 (cs ns) else ((lcmS x n).1, false) := rfl
    have e : Nat.lcm x (lcmN (n :: ns)) = Nat.lcm (Nat.lcm x n) (lcmN ns) := by
      show Nat.lcm x (Nat.lcm n (lcmN ns)) = _
      rw [Nat.lcm_assoc]
    rw [e0, e]
    have hl := lcmS_eq x n hx h1.2 h1.1
    by_cases h : Nat.lcm x n < M64
    · rw [if_pos h] at hl
      rw [hl, if_pos rfl]
      exact ih _ (Nat.lcm_pos h0 h1.1) h hr
    · rw [if_neg h] at hl
      have : Nat.lcm x n ≤ Nat.lcm (Nat.lcm x n) (lcmN ns) := Nat.le_of_dvd (Nat.lcm_pos (Nat.lcm_pos h0 h1.1) hp) (Nat.dvd_lcm_left _ _)
      rw [hl, if_neg (by simp), if_neg (by omega)]
theorem hasZ_eq (ns : List Nat) : hasZ (cs ns) = decide (0 ∈ ns) := by
  induction ns with
  | nil => rfl
  | cons n ns ih =>
    have : hasZ (cs (n :: ns)) = (((n : Int) == 0) || hasZ (cs ns)) := rfl
    rw [this, ih]
    by_cases h : n = 0
    · subst h; simp
    · have h1 : ((n : Int) == 0) = false := by simp; exact h
      have h2 : 0 ≠ n := fun e => h e.symm
      simp [h1, h2]
theorem lcmM_eq (ns : List Nat) (h : ∀ n ∈ ns, n < M64) : lcmM (cs ns) = if 0 ∈ ns then (0, false) else if lcmN ns < M64 then ((lcmN ns : Int), true) else (0, false) := by
  unfold lcmM
  rw [hasZ_eq]
  by_cases hz : 0 ∈ ns
  · simp [hz]
  · have := lcm_go ns 1 (by decide) (by decide) (fun n hn => ⟨Nat.pos_of_ne_zero fun e => hz (e ▸ hn), h n hn⟩)
    rw [Nat.lcm_one_left] at this
    rw [if_neg (by simpa using hz), if_neg hz]
    exact this
theorem gcdN_dvd (ns : List Nat) : ∀ n ∈ ns, gcdN ns ∣ n := by
  induction ns with
  | nil => intro n hn; simp at hn
  | cons m ns ih =>
    intro n hn
    rcases List.mem_cons.1 hn with rfl | hn
    · exact Nat.gcd_dvd_left _ _
    · exact Nat.dvd_trans (Nat.gcd_dvd_right _ _) (ih n hn)
theorem lcmN_dvd (ns : List Nat) : ∀ n ∈ ns, n ∣ lcmN ns := by
  induction ns with
  | nil => intro n hn; simp at hn
  | cons m ns ih =>
    intro n hn
    rcases List.mem_cons.1 hn with rfl | hn
    · exact Nat.dvd_lcm_left _ _
    · exact Nat.dvd_trans (ih n hn) (Nat.dvd_lcm_right _ _)
theorem gcdN_append (a b : List Nat) : gcdN (a ++ b) = Nat.gcd (gcdN a) (gcdN b) := by
  induction a with
  | nil => simp [gcdN]
  | cons m a ih =>
    show Nat.gcd m (gcdN (a ++ b)) = Nat.gcd (Nat.gcd m (gcdN a)) (gcdN b)
    rw [ih, Nat.gcd_assoc]
theorem lcmN_append (a b : List Nat) : lcmN (a ++ b) = Nat.lcm (lcmN a) (lcmN b) := by
  induction a with
  | nil => simp [lcmN]
  | cons m a ih =>
    show Nat.lcm m (lcmN (a ++ b)) = Nat.lcm (Nat.lcm m (lcmN a)) (lcmN b)
    rw [ih, Nat.lcm_assoc]
theorem cs_of (l : List Int) (h : Nums l) : ∃ ns, l = cs ns ∧ (∀ n ∈ ns, n < M64) ∧ ns.length = l.length := by
  have hm : ∀ x ∈ l, 0 ≤ x ∧ x < 18446744073709551616 := by
    intro x hx
    obtain ⟨j, hj, rfl⟩ := List.mem_iff_getElem.1 hx
    have := h j hj
    rwa [List.getD_eq_getElem?_getD, List.getElem?_eq_getElem hj] at this
  refine ⟨l.map Int.toNat, ?_, ?_, by simp⟩
  · unfold cs
    rw [List.map_map]
    conv => lhs; rw [← List.map_id l]
    apply List.map_congr_left
    intro x hx
    have := hm x hx
    show x = ((x.toNat : Nat) : Int)
    omega
  · intro n hn
    obtain ⟨x, hx, rfl⟩ := List.mem_map.1 hn
    have := hm x hx
    unfold M64
    omega
end Go.Proofs.Ytajkckjpfbkpmaa.Ari
