/-
  Texts of one claim, joined in build order: Sys2.
-/
import Derived.Test.YtaofldlidifdcaaMg13
import Derived.Deep.Onto
/-
  Systems by numbers: the tasks that are meant; rows of whole numbers that are read.
-/
namespace Go.Proofs.Ytaofldlidifdcaa.Sys
open Go.RowKit Go.Proofs.Ytaofldlidifdcaa.Box

/-- A task, as it is meant. -/
structure TaskV where
  id : Int
  c : Int
  d : Int
  t : Int
  prio : Int
  chunks : List Int
  use : List Int
  deriving DecidableEq, Inhabited
def periods : List Int := [4, 5, 6, 8, 10, 12, 20, 24]
/-- What holds of the task of this place, in a system of so many sets. -/
structure TOk (i : Nat) (S : Int) (x : TaskV) : Prop where
  id : x.id = (i : Int) + 1
  c1 : 1 ≤ x.c
  cd : x.c ≤ x.d
  dt : x.d ≤ x.t
  tp : x.t ∈ periods
  pr : ∃ r : Int, 1 ≤ r ∧ r ≤ 9 ∧ x.prio = 10 * r + i
  ch : ∀ k ∈ x.chunks, 1 ≤ k
  cs : x.chunks ≠ [] → x.chunks.sum = x.c
  us : ∀ k ∈ x.use, 0 ≤ k ∧ k < S
  ul : x.use.length ≤ 5
theorem period_bd {x : Int} (h : x ∈ periods) : 4 ≤ x ∧ x ≤ 24 := by
  simp [periods] at h
  omega
theorem TOk.t24 {i : Nat} {S : Int} {x : TaskV} (h : TOk i S x) : x.t ≤ 24 := (period_bd h.tp).2
theorem sum_len (l : List Int) (h : ∀ k ∈ l, 1 ≤ k) : (l.length : Int) ≤ l.sum := by
  induction l with
  | nil => simp
  | cons a r ih =>
    have h1 := h a (List.mem_cons_self ..)
    have h2 := ih fun k hk => h k (List.mem_cons_of_mem _ hk)
    simp only [List.sum_cons, List.length_cons]
    push_cast
    omega
theorem TOk.cl {i : Nat} {S : Int} {x : TaskV} (h : TOk i S x) : x.chunks.length ≤ 24 := by
  by_cases hc : x.chunks = []
  · rw [hc]; simp
  · have h1 := sum_len _ h.ch
    rw [h.cs hc] at h1
    have := h.cd
    have := h.dt
    have := h.t24
    omega

/-- A row of whole numbers that is read. -/
def RdI (w : World) (A : Option Addr) (n : Nat) (l : List Int) : Prop :=
  l.length = n ∧ (0 < n → ∃ b o, A = some ⟨b, o, none⟩ ∧ ∀ j, j < n → w.cell? ⟨b, o + j, none⟩ = some (.int .i64 (l.getD j 0)))
theorem RdI.below {w w1 : World} {A : Option Addr} {n : Nat} {l : List Int} (h : RdI w A n l) {B : Nat} (hb : Below B w w1) (hB : w.heap.size ≤ B) : RdI w1 A n l :=
  ⟨h.1, fun hn => by
    obtain ⟨b, o, e, hc⟩ := h.2 hn
    refine ⟨b, o, e, fun j hj => ?_⟩
    have hb' : Below w.heap.size w w1 := ⟨hb.os, hb.tape, hb.output, hb.size, fun k hk => hb.block k (Nat.lt_of_lt_of_le hk hB)⟩
    exact (hb'.cell (World.block_lt_of_cell? w _ (hc j hj))).trans (hc j hj)⟩
/-- A row lies in one block: where that is kept it is kept. -/
theorem RdI.kept {w w1 : World} {A : Option Addr} {n : Nat} {l : List Int} (h : RdI w A n l) (hk : ∀ a, A = some a → w1.heap[a.block]? = w.heap[a.block]?) : RdI w1 A n l :=
  ⟨h.1, fun hn => by
    obtain ⟨b, o, e, hc⟩ := h.2 hn
    have hz : w1.heap[b]? = w.heap[b]? := hk _ e
    exact ⟨b, o, e, fun j hj => (World.cell?_of_block (a := ⟨b, o + j, none⟩) hz).trans (hc j hj)⟩⟩
theorem own_rdI {w : World} {base n : Nat} {v : Value} {l : List Int} {t : TypeId} (h : w.ownsRow base t 1 v n (l.map (Value.int .i64))) :
    ∃ A c, v = .slice A n c ∧ RdI w A n l ∧ n ≤ c ∧ c ≤ 9223372036854775807 ∧ (∀ a, A = some a → base ≤ a.block ∧ a.block < w.heap.size) ∧ (A = none → n = 0 ∧ c = 0) := by
  have hl : l.length = n := by have := h.1; simpa using this
  have hlt := h.lt
  rcases h.2 with ⟨rfl, rfl⟩ | ⟨g, cap, cur, rfl, hb, hh, hnc, hm, _⟩
  · exact ⟨none, 0, rfl, ⟨hl, fun h => absurd h (by decide)⟩, Nat.le_refl _, by decide, (fun a e => by cases e), fun _ => ⟨rfl, rfl⟩⟩
  · refine ⟨_, cap, rfl, ⟨hl, fun _ => ⟨g, 0, rfl, fun j hj => ?_⟩⟩, hnc, by unfold maxLen at hm; omega, (fun a e => by cases e; exact ⟨hb, (hlt _ rfl).2⟩), fun e => by cases e⟩
    have c1 := h.cellAt j (by omega)
    rw [Nat.zero_add, c1]
    simp [List.getElem?_map, List.getD_eq_getElem?_getD, List.getElem?_eq_getElem (show j < l.length by omega)]
theorem info_parts' {P : Program} {t : TypeId} {z : Value} {s b : Nat} (h : (P.info? t).map (fun i => (i.zero, i.size, i.bytes)) = some (some z, s, b)) : ∃ i, P.info? t = some i ∧ i.zero = some z ∧ i.size = s ∧ i.bytes = b := by
  cases hi : P.info? t with
  | none => rw [hi] at h; simp at h
  | some i => rw [hi] at h; simp at h; exact ⟨i, rfl, h.1, h.2.1, h.2.2⟩
theorem info64 : (Try.prog.info? 2).map (fun i => (i.zero, i.size, i.bytes)) = some (some (.int .i64 0), 1, 8) := by kernel_rfl
theorem infoInt : (Try.prog.info? 3).map (fun i => (i.zero, i.size, i.bytes)) = some (some (.int .i64 0), 1, 8) := by kernel_rfl
theorem cell_one' (W : World) (x : Value) (T : TypeId) : ∀ j u, ([x] : List Value)[j]? = some u → (W.alloc (.cells #[x] T)).cell? ((⟨W.heap.size, 0, none⟩ : Addr).add j) = some u := by
  intro j u hj
  have h : (W.alloc (.cells #[x] T)).heap[W.heap.size]? = some (.cells #[x] T (0, 0)) := heap_alloc_new _ _
  rw [Row0.plain_add', Nat.zero_add]
  generalize W.alloc (.cells #[x] T) = V at *
  generalize W.heap.size = k at *
  match j, hj with
  | 0, hj => simp at hj; subst hj; simp [World.cell?, h]
/-- All that lies below B is as it was. -/
structure Lo (B : Nat) (w w' : World) : Prop where
  size : B ≤ w'.heap.size
  block : ∀ j, j < B → w'.heap[j]? = w.heap[j]?
theorem Lo.refl {B : Nat} {w : World} (h : B ≤ w.heap.size) : Lo B w w := ⟨h, fun _ _ => rfl⟩
theorem Lo.alloc {B : Nat} {w w' : World} (h : Lo B w w') (o : Obj) : Lo B w (w'.alloc o) := ⟨by have := h.size; simp; omega, fun j hj => (Below.heap_alloc _ _ _ (by have := h.size; omega)).trans (h.block j hj)⟩
theorem Lo.drew {B : Nat} {w w' : World} (h : Lo B w w') : Lo B w w'.drew := ⟨h.size, h.block⟩
theorem Lo.set {B b k : Nat} {v : Value} {w w' : World} (hb : B ≤ b) (h : Lo B w w') : Lo B w (w'.setCell ⟨b, k, none⟩ v) := ⟨by have := h.size; simpa [World.setCell] using this, fun j hj => (Below.heap_setCell _ _ _ _ (by simp; omega)).trans (h.block j hj)⟩
theorem Lo.cell {B : Nat} {w w' : World} (h : Lo B w w') {a : Addr} {v : Value} (ha : a.block < B) (hc : w.cell? a = some v) : w'.cell? a = some v := (World.cell?_of_block (h.block _ ha)).trans hc
theorem Lo.below {B C : Nat} {w w' w'' : World} (h : Lo B w w') (hb : Below C w' w'') (hC : B ≤ C) : Lo B w w'' := ⟨Nat.le_trans h.size hb.size, fun j hj => (hb.block j (by omega)).trans (h.block j hj)⟩
/-- A store into another block. -/
theorem own_set {w : World} {base : Nat} {e : TypeId} {size : Nat} {v : Value} {n : Nat} {xs : List Value} (h : w.ownsRow base e size v n xs) {b : Nat} (hb : b < base) (k : Nat) (x : Value) : (w.setCell ⟨b, k, none⟩ x).ownsRow base e size v n xs := by
  refine ⟨h.1, ?_⟩
  rcases h.2 with e | ⟨g, cap, cur, e1, e2, e3, e4⟩
  · exact .inl e
  · exact .inr ⟨g, cap, cur, e1, e2, (Below.heap_setCell _ _ _ _ (by simp; omega)).trans e3, e4⟩
end Go.Proofs.Ytaofldlidifdcaa.Sys
