/-
  Demands by numbers: what 'made' makes; the chapter's example.
-/
import Derived.Test.YtajkckjpfbkpmaaDem3
import Derived.Test.YtajkckjpfbkpmaaArr3
namespace Go.Proofs.Ytajkckjpfbkpmaa.Dem
open Go.RowKit Go.Shelf Go.Proofs.Ytajkckjpfbkpmaa.Ari

def IsT (T : Int) : Prop := T = 4 ∨ T = 5 ∨ T = 6 ∨ T = 8 ∨ T = 10 ∨ T = 12 ∨ T = 20 ∨ T = 24
/-- A demand by numbers. -/
def Dm.Small (x : Dm) : Prop := 0 ≤ x.c ∧ x.c ≤ x.d ∧ 1 ≤ x.d ∧ x.d ≤ x.t ∧ IsT x.t
def Smalls (l : List Dm) : Prop := ∀ x ∈ l, x.Small
theorem Dm.Small.ok {x : Dm} (h : x.Small) : x.Ok := by
  obtain ⟨a, b, c, d, e⟩ := h
  unfold IsT at e
  exact ⟨a, by omega, c, d, by omega⟩
theorem Smalls.oks {l : List Dm} (h : Smalls l) : Oks l := fun x hx => (h x hx).ok
def flat3 (q : List Dm) : List Value := q.flatMap fun p => [.int .i64 p.c, .int .i64 p.d, .int .i64 p.t]
theorem flat3_snoc (q : List Dm) (p : Dm) : flat3 (q ++ [p]) = flat3 q ++ [.int .i64 p.c, .int .i64 p.d, .int .i64 p.t] := by simp [flat3]
theorem flat3_append (q r : List Dm) : flat3 (q ++ r) = flat3 q ++ flat3 r := by simp [flat3]
theorem flat3_length (q : List Dm) : (flat3 q).length = q.length * 3 := by
  induction q with
  | nil => rfl
  | cons p q ih => simp [flat3] at ih ⊢; omega
theorem flat3_get (q : List Dm) : ∀ j, j < q.length → (flat3 q)[j * 3]? = some (.int .i64 (q.getD j default).c) ∧ (flat3 q)[j * 3 + 1]? = some (.int .i64 (q.getD j default).d) ∧ (flat3 q)[j * 3 + 2]? = some (.int .i64 (q.getD j default).t) := by
  induction q with
  | nil => intro j hj; simp at hj
  | cons p q ih =>
    intro j hj
    cases j with
    | zero => simp [flat3]
    | succ j =>
      have := ih j (by simpa using hj)
      have e : flat3 (p :: q) = .int .i64 p.c :: .int .i64 p.d :: .int .i64 p.t :: flat3 q := by simp [flat3]
      rw [e, show (j + 1) * 3 = j * 3 + 1 + 1 + 1 by omega]
      simpa using this
theorem flat3_one (q : List Dm) : ∀ u ∈ flat3 q, u.oneCell' = true := by
  intro u hu
  obtain ⟨p, _, h⟩ := List.mem_flatMap.1 hu
  simp at h
  rcases h with rfl | rfl | rfl <;> rfl
theorem own_rdD {w : World} {base n : Nat} {v : Value} {q : List Dm} {t : TypeId} (h : w.ownsRow base t 3 v n (flat3 q)) (hn : n ≤ 64) :
    ∃ A c, v = .slice A n c ∧ RdD w A n q ∧ n ≤ c ∧ c ≤ 9223372036854775807 ∧ (∀ a, A = some a → base ≤ a.block) ∧ (A = none → n = 0 ∧ c = 0) := by
  have hl : q.length = n := by have := h.1; rw [flat3_length] at this; omega
  rcases h.2 with ⟨rfl, rfl⟩ | ⟨g, cap, cur, rfl, hb, hh, hnc, hm, _⟩
  · exact ⟨none, 0, rfl, ⟨hl, by decide, fun h => absurd h (by decide)⟩, Nat.le_refl _, by decide, (fun a e => by cases e), fun _ => ⟨rfl, rfl⟩⟩
  · refine ⟨_, cap, rfl, ⟨hl, hn, fun _ => ⟨g, 0, rfl, fun j hj => ?_⟩⟩, hnc, by unfold maxLen at hm; omega, (fun a e => by cases e; exact hb), fun e => by cases e⟩
    obtain ⟨h1, h2, h3⟩ := flat3_get q j (by omega)
    have c1 := h.cellAt (j * 3) (by omega)
    have c2 := h.cellAt (j * 3 + 1) (by omega)
    have c3 := h.cellAt (j * 3 + 2) (by omega)
    rw [h1] at c1
    rw [h2] at c2
    rw [h3] at c3
    rw [Nat.zero_add]
    exact ⟨c1, c2, c3⟩

theorem infoD : (Try.prog.info? 32).map (fun i => (i.zero, i.size, i.bytes)) = some (some (.agg #[.int .i64 0, .int .i64 0, .int .i64 0]), 3, 24) := by kernel_rfl
def pers : Array Value := #[.int .i64 4, .int .i64 5, .int .i64 6, .int .i64 8, .int .i64 10, .int .i64 12, .int .i64 20, .int .i64 24]
theorem pers_at {w : World} {b : Nat} {t : TypeId} (h : w.heap[b]? = some (.cells pers t (0, 0))) (k : Nat) (hk : k < 8) : ∃ T, IsT T ∧ w.cell? ⟨b, k, none⟩ = some (.int .i64 T) := by
  match k, hk with
  | 0, _ => exact ⟨4, by unfold IsT; omega, by simp [World.cell?, h, pers]⟩
  | 1, _ => exact ⟨5, by unfold IsT; omega, by simp [World.cell?, h, pers]⟩
  | 2, _ => exact ⟨6, by unfold IsT; omega, by simp [World.cell?, h, pers]⟩
  | 3, _ => exact ⟨8, by unfold IsT; omega, by simp [World.cell?, h, pers]⟩
  | 4, _ => exact ⟨10, by unfold IsT; omega, by simp [World.cell?, h, pers]⟩
  | 5, _ => exact ⟨12, by unfold IsT; omega, by simp [World.cell?, h, pers]⟩
  | 6, _ => exact ⟨20, by unfold IsT; omega, by simp [World.cell?, h, pers]⟩
  | 7, _ => exact ⟨24, by unfold IsT; omega, by simp [World.cell?, h, pers]⟩
/-- The rest of a sum, as the code reckons it. -/
theorem rest_bd (z m : Int) (hm : 1 ≤ m) : ∃ R, z.tmod m = R ∧ -m < R ∧ R < m :=
  ⟨_, rfl, Int.lt_tmod_of_pos z (by omega), Int.tmod_lt_of_pos z (by omega)⟩
theorem rest_pos (z m : Int) (hm : 1 ≤ m) (hz : 0 ≤ z) : ∃ R, z.tmod m = R ∧ 0 ≤ R ∧ R < m :=
  ⟨_, rfl, Int.tmod_nonneg _ hz, Int.tmod_lt_of_pos z (by omega)⟩

theorem own_base {w : World} {B B' : Nat} {e : TypeId} {k : Nat} {v : Value} {n : Nat} {xs : List Value} (h : w.ownsRow B e k v n xs) (hB : B' ≤ B) : w.ownsRow B' e k v n xs := by
  refine ⟨h.1, ?_⟩
  rcases h.2 with h | ⟨g, cap, cur, rfl, hb, hr⟩
  · exact .inl h
  · exact .inr ⟨g, cap, cur, rfl, Nat.le_trans hB hb, hr⟩
end Go.Proofs.Ytajkckjpfbkpmaa.Dem
