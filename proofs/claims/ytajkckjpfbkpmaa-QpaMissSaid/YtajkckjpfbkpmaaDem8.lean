/-
  Package demand: Period, Load; the statement DemandPeriods, walked.
-/
import Derived.Test.YtajkckjpfbkpmaaDem7
namespace Go.Proofs.Ytajkckjpfbkpmaa.Dem
open Go.RowKit Go.Shelf Go.Proofs.Ytajkckjpfbkpmaa.Ari

def pers_ (l : List Dm) : List Int := l.map Dm.t
theorem pers_take (l : List Dm) (i : Nat) (h : i < l.length) : (pers_ l).take (i + 1) = (pers_ l).take i ++ [(l.getD i default).t] := by
  have e : l.getD i default = l[i] := by rw [List.getD_eq_getElem?_getD, List.getElem?_eq_getElem h]; rfl
  rw [e, List.take_add_one]
  simp [pers_, List.getElem?_eq_getElem h]
/-- Demands whose common period is P, not too great. -/
structure Per (l : List Dm) (P : Int) : Prop where
  lcm : lcmM (pers_ l) = (P, true)
  pos : 1 ≤ P
  le : P ≤ 1048576
  dvd : ∀ x ∈ l, ∃ q, P = q * x.t ∧ 1 ≤ q
theorem nat_lcm_dvd (ns : List Nat) (m : Nat) (h : ∀ n ∈ ns, n ∣ m) : lcmN ns ∣ m := by
  induction ns with
  | nil => exact Nat.one_dvd m
  | cons n r ih => exact Nat.lcm_dvd (h n (List.mem_cons_self ..)) (ih fun k hk => h k (List.mem_cons_of_mem _ hk))
theorem per_of_le (l : List Dm) (m : Nat) (hm : m ≤ 1048576) (hm0 : 0 < m) (h : ∀ x ∈ l, ∃ k : Nat, x.t = (k : Int) ∧ 0 < k ∧ k ∣ m) : ∃ P, Per l P ∧ P ≤ (m : Int) := by
  obtain ⟨ns, hns⟩ : ∃ ns : List Nat, pers_ l = cs ns ∧ ∀ n ∈ ns, 0 < n ∧ n ∣ m := by
    clear hm hm0
    induction l with
    | nil => exact ⟨[], rfl, by simp⟩
    | cons x r ih =>
      obtain ⟨ns, e, hn⟩ := ih fun y hy => h y (List.mem_cons_of_mem _ hy)
      obtain ⟨k, ek, k0, k1⟩ := h x (List.mem_cons_self ..)
      refine ⟨k :: ns, ?_, fun n hn' => ?_⟩
      · show x.t :: pers_ r = (k : Int) :: cs ns
        rw [e, ek]
      · rcases List.mem_cons.1 hn' with rfl | hn'
        · exact ⟨k0, k1⟩
        · exact hn n hn'
  obtain ⟨e, hn⟩ := hns
  have hl : lcmN ns ≤ m := Nat.le_of_dvd hm0 (nat_lcm_dvd ns m fun n h => (hn n h).2)
  have hp := lcmN_pos ns fun n h => (hn n h).1
  have hM : ∀ n ∈ ns, n < M64 := fun n h => by have := Nat.le_of_dvd hm0 (hn n h).2; unfold M64; omega
  refine ⟨(lcmN ns : Int), ⟨?_, by omega, by omega, fun x hx => ?_⟩, by omega⟩
  · rw [e, lcmM_eq ns hM, if_neg (fun h0 => by have := (hn 0 h0).1; omega), if_pos (by unfold M64; omega)]
  · have hx' : x.t ∈ cs ns := by rw [← e]; exact List.mem_map.2 ⟨x, hx, rfl⟩
    obtain ⟨k, hk, ek⟩ := List.mem_map.1 hx'
    obtain ⟨q, hq⟩ := lcmN_dvd ns k hk
    refine ⟨(q : Int), ?_, ?_⟩
    · rw [hq, ← ek, Nat.mul_comm]
      push_cast
      rfl
    · rcases Nat.eq_zero_or_pos q with h0 | h0
      · rw [h0, Nat.mul_zero] at hq; omega
      · omega
theorem per_of (l : List Dm) (m : Nat) (hm : m ≤ 1048576) (hm0 : 0 < m) (h : ∀ x ∈ l, ∃ k : Nat, x.t = (k : Int) ∧ 0 < k ∧ k ∣ m) : ∃ P, Per l P := by
  obtain ⟨P, h, _⟩ := per_of_le l m hm hm0 h
  exact ⟨P, h⟩
theorem small_le {l : List Dm} (h : Smalls l) : ∃ P, Per l P ∧ P ≤ 120 := per_of_le l 120 (by decide) (by decide) fun x hx => by
  have := (h x hx).2.2.2.2
  unfold IsT at this
  rcases this with e | e | e | e | e | e | e | e
  · exact ⟨4, e, by decide, by decide⟩
  · exact ⟨5, e, by decide, by decide⟩
  · exact ⟨6, e, by decide, by decide⟩
  · exact ⟨8, e, by decide, by decide⟩
  · exact ⟨10, e, by decide, by decide⟩
  · exact ⟨12, e, by decide, by decide⟩
  · exact ⟨20, e, by decide, by decide⟩
  · exact ⟨24, e, by decide, by decide⟩
theorem small_per {l : List Dm} (h : Smalls l) : ∃ P, Per l P := by
  obtain ⟨P, h, _⟩ := small_le h
  exact ⟨P, h⟩
def loads (l : List Dm) (P : Int) : List Int := l.map fun x => x.c * (P / x.t)
def loadI (l : List Dm) (P : Int) : Int := (loads l P).sum
theorem loads_take (l : List Dm) (P : Int) (i : Nat) (h : i < l.length) : (loads l P).take (i + 1) = (loads l P).take i ++ [(l.getD i default).c * (P / (l.getD i default).t)] := by
  have e : l.getD i default = l[i] := by rw [List.getD_eq_getElem?_getD, List.getElem?_eq_getElem h]; rfl
  rw [e, List.take_add_one]
  simp [loads, List.getElem?_eq_getElem h]
theorem load_term {x : Dm} (h : x.Ok) {P : Int} (h0 : 0 ≤ P) (h1 : P ≤ 1048576) : 0 ≤ P / x.t ∧ P / x.t ≤ 1048576 ∧ 0 ≤ x.c * (P / x.t) ∧ x.c * (P / x.t) ≤ 1099511627776 := by
  have a := Int.ediv_nonneg h0 (show 0 ≤ x.t by have := h.2.2; omega)
  have b : P / x.t ≤ P := Int.ediv_le_self _ h0
  refine ⟨a, by omega, Int.mul_nonneg h.1 a, ?_⟩
  have := Int.mul_le_mul h.2.1 (show P / x.t ≤ 1048576 by omega) a (by omega)
  omega
theorem loads_nums {l : List Dm} (ho : Oks l) {P : Int} (h0 : 0 ≤ P) (h1 : P ≤ 1048576) : Nums (loads l P) := by
  intro j hj
  have hj' : j < l.length := by simpa [loads] using hj
  have e : (loads l P).getD j 0 = (l.getD j default).c * (P / (l.getD j default).t) := by
    simp [loads, List.getD_eq_getElem?_getD, List.getElem?_eq_getElem hj']
  rw [e]
  have := load_term (getD_ok ho hj') h0 h1
  omega
theorem load_bd {l : List Dm} (ho : Oks l) {P : Int} (h0 : 0 ≤ P) (h1 : P ≤ 1048576) : 0 ≤ loadI l P ∧ loadI l P ≤ 1099511627776 * l.length := by
  induction l with
  | nil => exact ⟨Int.le_refl 0, Int.le_refl 0⟩
  | cons x r ih =>
    have ⟨a, b⟩ := ih (fun y hy => ho y (List.mem_cons_of_mem _ hy))
    have ⟨_, _, c, d⟩ := load_term (ho x (List.mem_cons_self ..)) h0 h1
    have e : loadI (x :: r) P = x.c * (P / x.t) + loadI r P := by simp [loadI, loads]
    rw [e]
    simp only [List.length_cons]
    push_cast
    omega
theorem work_period {l : List Dm} (ho : Oks l) {P : Int} (hP : Per l P) {t : Int} (h0 : 0 ≤ t) : work l (t + P) = work l t + loadI l P := by
  have hd := hP.dvd
  clear hP
  induction l with
  | nil => rfl
  | cons x r ih =>
    have := ih (fun y hy => ho y (List.mem_cons_of_mem _ hy)) (fun y hy => hd y (List.mem_cons_of_mem _ hy))
    have e : loadI (x :: r) P = x.c * (P / x.t) + loadI r P := by simp [loadI, loads]
    have w : ∀ s, work (x :: r) s = x.c * jobs x s + work r s := fun s => by simp [work]
    obtain ⟨q, hq, hq1⟩ := hd x (List.mem_cons_self ..)
    have hx := ho x (List.mem_cons_self ..)
    rw [w, w, e, this, jobs_period hx h0 q hq hq1, hq, Int.mul_ediv_cancel _ (by have := hx.2.2; omega), Int.mul_add]
    omega
end Go.Proofs.Ytajkckjpfbkpmaa.Dem
