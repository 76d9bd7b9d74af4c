/-
  Systems by numbers: rows of tasks, and of tasks by numbers, that lie in memory.
-/
import Derived.Test.YtdmfdgadhobkpaaSys3
namespace Go.Proofs.Ytdmfdgadhobkpaa.Sys
open Go.RowKit Go.Proofs.Ytdmfdgadhobkpaa.Box

/-- A slice of whole numbers that is read, with its capacity. -/
def SlI (w : World) (A : Option Addr) (n c : Nat) (l : List Int) : Prop := RdI w A n l ∧ n ≤ c ∧ c ≤ 9223372036854775807 ∧ (A = none → n = 0 ∧ c = 0)
/-- A task with its two rows' places. -/
structure RT where
  x : TaskV
  ca : Option Addr
  cl : Nat
  cc : Nat
  ua : Option Addr
  ul : Nat
  uc : Nat
  deriving Inhabited
def RT.vals (r : RT) : Array Value := taskCells r.x.id r.x.c r.x.d r.x.t r.x.prio (.slice r.ca r.cl r.cc) (.slice r.ua r.ul r.uc)
def RT.val (r : RT) : Value := .agg r.vals
def RT.Rd (w : World) (r : RT) : Prop := SlI w r.ca r.cl r.cc r.x.chunks ∧ SlI w r.ua r.ul r.uc r.x.use
theorem SlI.below {w w1 : World} {A : Option Addr} {n c : Nat} {l : List Int} (h : SlI w A n c l) {B : Nat} (hb : Below B w w1) (hB : w.heap.size ≤ B) : SlI w1 A n c l := ⟨h.1.below hb hB, h.2⟩
theorem SlI.kept {w w1 : World} {A : Option Addr} {n c : Nat} {l : List Int} (h : SlI w A n c l) (hk : ∀ a, A = some a → w1.heap[a.block]? = w.heap[a.block]?) : SlI w1 A n c l := ⟨h.1.kept hk, h.2⟩
theorem SlI.len {w : World} {A : Option Addr} {n c : Nat} {l : List Int} (h : SlI w A n c l) : l.length = n := h.1.1
theorem RT.Rd.below {w w1 : World} {r : RT} (h : r.Rd w) {B : Nat} (hb : Below B w w1) (hB : w.heap.size ≤ B) : r.Rd w1 := ⟨h.1.below hb hB, h.2.below hb hB⟩
theorem RT.Rd.kept {w w1 : World} {r : RT} (h : r.Rd w) (hk : ∀ a, r.ca = some a ∨ r.ua = some a → w1.heap[a.block]? = w.heap[a.block]?) : r.Rd w1 := ⟨h.1.kept fun a e => hk a (.inl e), h.2.kept fun a e => hk a (.inr e)⟩
/-- A task's seven cells. -/
structure Cs7 (w : World) (b o : Nat) (r : RT) : Prop where
  c0 : w.cell? ⟨b, o, none⟩ = some (.int .i64 r.x.id)
  c1 : w.cell? ⟨b, o + 1, none⟩ = some (.int .i64 r.x.c)
  c2 : w.cell? ⟨b, o + 2, none⟩ = some (.int .i64 r.x.d)
  c3 : w.cell? ⟨b, o + 3, none⟩ = some (.int .i64 r.x.t)
  c4 : w.cell? ⟨b, o + 4, none⟩ = some (.int .i64 r.x.prio)
  c5 : w.cell? ⟨b, o + 5, none⟩ = some (.slice r.ca r.cl r.cc)
  c6 : w.cell? ⟨b, o + 6, none⟩ = some (.slice r.ua r.ul r.uc)
theorem Cs7.block {w w1 : World} {b o : Nat} {r : RT} (h : Cs7 w b o r) (hk : w1.heap[b]? = w.heap[b]?) : Cs7 w1 b o r :=
  ⟨(World.cell?_of_block (a := ⟨b, o, none⟩) hk).trans h.c0, (World.cell?_of_block (a := ⟨b, o + 1, none⟩) hk).trans h.c1, (World.cell?_of_block (a := ⟨b, o + 2, none⟩) hk).trans h.c2, (World.cell?_of_block (a := ⟨b, o + 3, none⟩) hk).trans h.c3, (World.cell?_of_block (a := ⟨b, o + 4, none⟩) hk).trans h.c4, (World.cell?_of_block (a := ⟨b, o + 5, none⟩) hk).trans h.c5, (World.cell?_of_block (a := ⟨b, o + 6, none⟩) hk).trans h.c6⟩
/-- A row of tasks that is read. -/
structure RdT (w : World) (A : Option Addr) (n : Nat) (q : List RT) : Prop where
  ln : q.length = n
  ad : 0 < n → ∃ b o, A = some ⟨b, o, none⟩ ∧ ∀ j, j < n → Cs7 w b (o + j * 7) (q.getD j default)
  rd : ∀ r ∈ q, r.Rd w
theorem RdT.below {w w1 : World} {A : Option Addr} {n : Nat} {q : List RT} (h : RdT w A n q) {B : Nat} (hb : Below B w w1) (hB : w.heap.size ≤ B) : RdT w1 A n q :=
  ⟨h.ln, fun hn => by
    obtain ⟨b, o, e, hc⟩ := h.ad hn
    have hl : b < w.heap.size := World.block_lt_of_cell? w _ (hc 0 hn).c0
    exact ⟨b, o, e, fun j hj => (hc j hj).block (hb.block b (Nat.lt_of_lt_of_le hl hB))⟩, fun r hr => (h.rd r hr).below hb hB⟩
theorem RdT.getRd {w : World} {A : Option Addr} {n : Nat} {q : List RT} (h : RdT w A n q) {j : Nat} (hj : j < n) : (q.getD j default).Rd w := by
  have : j < q.length := by rw [h.ln]; exact hj
  rw [List.getD_eq_getElem?_getD, List.getElem?_eq_getElem this]
  exact h.rd _ (List.getElem_mem _)
def flat7 (q : List RT) : List Value := q.flatMap fun r => r.vals.toList
theorem flat7_snoc (q : List RT) (r : RT) : flat7 (q ++ [r]) = flat7 q ++ r.vals.toList := by simp [flat7]
theorem vals_len (r : RT) : r.vals.toList.length = 7 := rfl
theorem flat7_length (q : List RT) : (flat7 q).length = q.length * 7 := by
  induction q with
  | nil => rfl
  | cons p q ih =>
    have e : flat7 (p :: q) = p.vals.toList ++ flat7 q := by simp [flat7]
    rw [e, List.length_append, ih, vals_len, List.length_cons]
    omega
theorem flat7_get (q : List RT) : ∀ j, j < q.length → ∀ k, k < 7 → (flat7 q)[j * 7 + k]? = (q.getD j default).vals.toList[k]? := by
  induction q with
  | nil => intro j hj; simp at hj
  | cons p q ih =>
    intro j hj k hk
    have e : flat7 (p :: q) = p.vals.toList ++ flat7 q := by simp [flat7]
    rw [e]
    cases j with
    | zero =>
      rw [List.getElem?_append_left (by rw [vals_len]; omega)]
      simp
    | succ j =>
      rw [List.getElem?_append_right (by rw [vals_len]; omega), vals_len, show (j + 1) * 7 + k - 7 = j * 7 + k by omega, ih j (by simpa using hj) k hk]
      simp
theorem flat7_one (q : List RT) : ∀ u ∈ flat7 q, u.oneCell' = true := by
  intro u hu
  obtain ⟨p, _, h⟩ := List.mem_flatMap.1 hu
  simp [RT.vals, taskCells] at h
  rcases h with rfl | rfl | rfl | rfl | rfl | rfl | rfl <;> rfl
/-- A row of tasks of the call's own is read. -/
theorem own_rdT {w : World} {base n : Nat} {v : Value} {q : List RT} {t : TypeId} (h : w.ownsRow base t 7 v n (flat7 q)) (hr : ∀ r ∈ q, r.Rd w) :
    ∃ A c, v = .slice A n c ∧ RdT w A n q ∧ n ≤ c ∧ c ≤ 9223372036854775807 ∧ (∀ a, A = some a → base ≤ a.block ∧ a.block < w.heap.size) ∧ (A = none → n = 0 ∧ c = 0) := by
  have hl : q.length = n := by have := h.1; rw [flat7_length] at this; omega
  have hlt := h.lt
  rcases h.2 with ⟨rfl, rfl⟩ | ⟨g, cap, cur, rfl, hb, hh, hnc, hm, _⟩
  · exact ⟨none, 0, rfl, ⟨hl, fun h => absurd h (by decide), hr⟩, Nat.le_refl _, by decide, (fun a e => by cases e), fun _ => ⟨rfl, rfl⟩⟩
  · refine ⟨_, cap, rfl, ⟨hl, fun _ => ⟨g, 0, rfl, fun j hj => ?_⟩, hr⟩, hnc, by unfold maxLen at hm; omega, (fun a e => by cases e; exact ⟨hb, (hlt _ rfl).2⟩), fun e => by cases e⟩
    have hc : ∀ k, k < 7 → w.cell? ⟨g, 0 + j * 7 + k, none⟩ = (q.getD j default).vals.toList[k]? := fun k hk => by
      have c1 := h.cellAt (j * 7 + k) (by omega)
      rw [flat7_get q j (by omega) k hk] at c1
      rw [show 0 + j * 7 + k = j * 7 + k by omega]
      exact c1
    exact ⟨hc 0 (by decide), hc 1 (by decide), hc 2 (by decide), hc 3 (by decide), hc 4 (by decide), hc 5 (by decide), hc 6 (by decide)⟩

theorem own_belowS {B : Nat} {e : TypeId} {k : Nat} {v : Value} {n : Nat} {xs : List Value} {w w' : World} (h : w.ownsRow B e k v n xs) (hb : Below w.heap.size w w') : w'.ownsRow B e k v n xs :=
  h.kept (row := none) ⟨hb.os, hb.tape, hb.output, hb.size, fun j hj _ => hb.block j hj⟩ (by cases v.ownBlock <;> simp)
theorem below_undrew {w w1 : World} (h : Below w.drew.heap.size w.drew w1) : Below w.heap.size w w1 := ⟨h.os, h.tape, h.output, h.size, h.block⟩
theorem size_a (w : World) (o : Obj) : w.heap.size ≤ (w.alloc o).heap.size := by simp
/-- A row's blocks, apart from another one. -/
theorem RT.Rd.grown {w w1 : World} {r : RT} {row : Option Nat} (h : r.Rd w) (hg : w.grownBy w1 row) (hk : ∀ a, r.ca = some a ∨ r.ua = some a → row ≠ some a.block ∧ a.block < w.heap.size) : r.Rd w1 :=
  h.kept fun a e => hg.block _ (hk a e).2 fun e2 => (hk a e).1 e2.symm
theorem rt_getD_snoc (q : List RT) (r : RT) (i : Nat) (h : i ≤ q.length) : (q ++ [r]).getD i default = if i < q.length then q.getD i default else r := by
  rw [List.getD_eq_getElem?_getD, List.getD_eq_getElem?_getD]
  by_cases hi : i < q.length
  · rw [if_pos hi, List.getElem?_append_left hi]
  · rw [if_neg hi, List.getElem?_append_right (by omega), show i - q.length = 0 by omega]
    rfl
theorem cells_new (w : World) (vs : Array Value) (t : TypeId) : ∀ j u, vs.toList[j]? = some u → (w.alloc (.cells vs t)).drew.cell? ((⟨w.heap.size, 0, none⟩ : Addr).add j) = some u := by
  intro j u hj
  have h : (w.alloc (.cells vs t)).drew.heap[w.heap.size]? = some (.cells vs t (0, 0)) := heap_alloc_new _ _
  rw [Row0.plain_add', Nat.zero_add]
  simp only [World.cell?, h]
  simpa using hj
theorem cells_newp (w : World) (vs : Array Value) (t : TypeId) : ∀ j u, vs.toList[j]? = some u → (w.alloc (.cells vs t)).cell? ((⟨w.heap.size, 0, none⟩ : Addr).add j) = some u := cells_new w vs t
theorem vals_one (r : RT) : ∀ u ∈ r.vals.toList, u.oneCell' = true := by
  intro u h
  simp [RT.vals, taskCells] at h
  rcases h with rfl | rfl | rfl | rfl | rfl | rfl | rfl <;> rfl
/-! Tasks by numbers. -/
structure Cs6 (w : World) (b o : Nat) (v : Row0.NumV) : Prop where
  c0 : w.cell? ⟨b, o, none⟩ = some (.int .i64 v.c)
  c1 : w.cell? ⟨b, o + 1, none⟩ = some (.int .i64 v.d)
  c2 : w.cell? ⟨b, o + 2, none⟩ = some (.int .i64 v.t)
  c3 : w.cell? ⟨b, o + 3, none⟩ = some (.int .i64 v.p)
  c4 : w.cell? ⟨b, o + 4, none⟩ = some (.int .i64 v.k)
  c5 : w.cell? ⟨b, o + 5, none⟩ = some (.slice v.ua v.ul v.uc)
theorem Cs6.block {w w1 : World} {b o : Nat} {v : Row0.NumV} (h : Cs6 w b o v) (hk : w1.heap[b]? = w.heap[b]?) : Cs6 w1 b o v :=
  ⟨(World.cell?_of_block (a := ⟨b, o, none⟩) hk).trans h.c0, (World.cell?_of_block (a := ⟨b, o + 1, none⟩) hk).trans h.c1, (World.cell?_of_block (a := ⟨b, o + 2, none⟩) hk).trans h.c2, (World.cell?_of_block (a := ⟨b, o + 3, none⟩) hk).trans h.c3, (World.cell?_of_block (a := ⟨b, o + 4, none⟩) hk).trans h.c4, (World.cell?_of_block (a := ⟨b, o + 5, none⟩) hk).trans h.c5⟩
def vals6 (v : Row0.NumV) : List Value := [.int .i64 v.c, .int .i64 v.d, .int .i64 v.t, .int .i64 v.p, .int .i64 v.k, .slice v.ua v.ul v.uc]
structure RdN (w : World) (A : Option Addr) (n : Nat) (q : List Row0.NumV) : Prop where
  ln : q.length = n
  ad : 0 < n → ∃ b o, A = some ⟨b, o, none⟩ ∧ ∀ j, j < n → Cs6 w b (o + j * 6) (q.getD j default)
  rd : ∀ v ∈ q, Row0.IsRow .i64 w v.ua v.ul v.uc v.uz
theorem isRow_below {w w1 : World} {a : Option Addr} {len cap : Nat} {zs : List Int} (h : Row0.IsRow .i64 w a len cap zs) {B : Nat} (hb : Below B w w1) (hB : w.heap.size ≤ B) : Row0.IsRow .i64 w1 a len cap zs := by
  rcases h with h | ⟨x, h1, h2, h3, h4, h5, h6⟩
  · exact .inl h
  · refine .inr ⟨x, h1, h2, h3, h4, fun i hi => ?_, h6⟩
    have hc := h5 i hi
    have hl := World.block_lt_of_cell? w _ hc
    exact (World.cell?_of_block (a := x.add i) (hb.block _ (Nat.lt_of_lt_of_le hl hB))).trans hc
theorem RdN.below {w w1 : World} {A : Option Addr} {n : Nat} {q : List Row0.NumV} (h : RdN w A n q) {B : Nat} (hb : Below B w w1) (hB : w.heap.size ≤ B) : RdN w1 A n q :=
  ⟨h.ln, fun hn => by
    obtain ⟨b, o, e, hc⟩ := h.ad hn
    have hl : b < w.heap.size := World.block_lt_of_cell? w _ (hc 0 hn).c0
    exact ⟨b, o, e, fun j hj => (hc j hj).block (hb.block b (Nat.lt_of_lt_of_le hl hB))⟩, fun r hr => isRow_below (h.rd r hr) hb hB⟩
theorem nums_rdN {w : World} {a : Option Addr} {len cap : Nat} {q : List Row0.NumV} (h : Row0.IsNums w a len cap q) : RdN w a len q := by
  refine ⟨h.ln, fun hn => ?_, fun v hv => ?_⟩
  · obtain ⟨b, o, rfl⟩ := h.ad hn
    refine ⟨b, o, rfl, fun j hj => ?_⟩
    have hx := h.at_ _ rfl j hj
    rw [Row0.plain_add'] at hx
    have g1 := hx.d
    have g2 := hx.t
    have g3 := hx.p
    have g4 := hx.k
    have g5 := hx.u
    rw [Row0.plain_add'] at g1 g2 g3 g4 g5
    exact ⟨hx.c, g1, g2, g3, g4, g5⟩
  · obtain ⟨j, hj, rfl⟩ := List.getElem_of_mem hv
    obtain ⟨b, o, e⟩ := h.ad (by have := h.ln; omega)
    have hx := h.at_ _ e j (by rw [← h.ln]; exact hj)
    rw [List.getD_eq_getElem?_getD, List.getElem?_eq_getElem hj] at hx
    exact hx.row
theorem RdN.getRow {w : World} {A : Option Addr} {n : Nat} {q : List Row0.NumV} (h : RdN w A n q) {j : Nat} (hj : j < n) : Row0.IsRow .i64 w (q.getD j default).ua (q.getD j default).ul (q.getD j default).uc (q.getD j default).uz := by
  have : j < q.length := by rw [h.ln]; exact hj
  rw [List.getD_eq_getElem?_getD, List.getElem?_eq_getElem this]
  exact h.rd _ (List.getElem_mem _)
def flat6 (q : List Row0.NumV) : List Value := q.flatMap vals6
theorem flat6_snoc (q : List Row0.NumV) (r : Row0.NumV) : flat6 (q ++ [r]) = flat6 q ++ vals6 r := by simp [flat6]
theorem flat6_length (q : List Row0.NumV) : (flat6 q).length = q.length * 6 := by
  induction q with
  | nil => rfl
  | cons p q ih =>
    have e : flat6 (p :: q) = vals6 p ++ flat6 q := by simp [flat6]
    rw [e, List.length_append, ih, List.length_cons]
    show 6 + _ = _
    omega
theorem flat6_get (q : List Row0.NumV) : ∀ j, j < q.length → ∀ k, k < 6 → (flat6 q)[j * 6 + k]? = (vals6 (q.getD j default))[k]? := by
  induction q with
  | nil => intro j hj; simp at hj
  | cons p q ih =>
    intro j hj k hk
    have e : flat6 (p :: q) = vals6 p ++ flat6 q := by simp [flat6]
    have l6 : (vals6 p).length = 6 := rfl
    rw [e]
    cases j with
    | zero =>
      rw [List.getElem?_append_left (by omega)]
      simp
    | succ j =>
      rw [List.getElem?_append_right (by omega), l6, show (j + 1) * 6 + k - 6 = j * 6 + k by omega, ih j (by simpa using hj) k hk]
      simp
theorem own_rdN {w : World} {base n : Nat} {v : Value} {q : List Row0.NumV} {t : TypeId} (h : w.ownsRow base t 6 v n (flat6 q)) (hr : ∀ v ∈ q, Row0.IsRow .i64 w v.ua v.ul v.uc v.uz) :
    ∃ A c, v = .slice A n c ∧ RdN w A n q ∧ n ≤ c ∧ c ≤ 9223372036854775807 := by
  have hl : q.length = n := by have := h.1; rw [flat6_length] at this; omega
  rcases h.2 with ⟨rfl, rfl⟩ | ⟨g, cap, cur, rfl, hb, hh, hnc, hm, _⟩
  · exact ⟨none, 0, rfl, ⟨hl, fun h => absurd h (by decide), hr⟩, Nat.le_refl _, by decide⟩
  · refine ⟨_, cap, rfl, ⟨hl, fun _ => ⟨g, 0, rfl, fun j hj => ?_⟩, hr⟩, hnc, by unfold maxLen at hm; omega⟩
    have hc : ∀ k, k < 6 → w.cell? ⟨g, 0 + j * 6 + k, none⟩ = (vals6 (q.getD j default))[k]? := fun k hk => by
      have c1 := h.cellAt (j * 6 + k) (by omega)
      rw [flat6_get q j (by omega) k hk] at c1
      rw [show 0 + j * 6 + k = j * 6 + k by omega]
      exact c1
    exact ⟨hc 0 (by decide), hc 1 (by decide), hc 2 (by decide), hc 3 (by decide), hc 4 (by decide), hc 5 (by decide)⟩

/-- A system, as it is made by numbers: so many sets, a reload, its tasks. -/
structure SysOk (w : World) (B : Nat) (S : Nat) (R : Int) (A : Option Addr) (n c : Nat) (q : List RT) : Prop where
  s1 : 1 ≤ S
  s8 : S ≤ 8
  r0 : 0 ≤ R
  r3 : R ≤ 3
  n1 : 1 ≤ n
  n6 : n ≤ 6
  nc : n ≤ c
  cm : c ≤ 9223372036854775807
  rd : RdT w A n q
  ok : ∀ i, i < n → TOk i (S : Int) (q.getD i default).x
  fr : ∀ a, A = some a → B ≤ a.block ∧ a.block < w.heap.size
  fq : ∀ r ∈ q, ∀ a, r.ca = some a ∨ r.ua = some a → B ≤ a.block ∧ a.block < w.heap.size
theorem SysOk.below {w w1 : World} {B S : Nat} {R : Int} {A : Option Addr} {n c : Nat} {q : List RT} (h : SysOk w B S R A n c q) {B' : Nat} (hb : Below B' w w1) (hB : w.heap.size ≤ B') : SysOk w1 B S R A n c q :=
  { h with rd := h.rd.below hb hB, fr := fun a e => ⟨(h.fr a e).1, Nat.lt_of_lt_of_le (h.fr a e).2 hb.size⟩, fq := fun r hr a e => ⟨(h.fq r hr a e).1, Nat.lt_of_lt_of_le (h.fq r hr a e).2 hb.size⟩ }
theorem SysOk.base {w : World} {B B2 S : Nat} {R : Int} {A : Option Addr} {n c : Nat} {q : List RT} (h : SysOk w B S R A n c q) (hB : B2 ≤ B) : SysOk w B2 S R A n c q :=
  { h with fr := fun a e => ⟨Nat.le_trans hB (h.fr a e).1, (h.fr a e).2⟩, fq := fun r hr a e => ⟨Nat.le_trans hB (h.fq r hr a e).1, (h.fq r hr a e).2⟩ }
/-- It is kept where its blocks are. -/
theorem SysOk.kept {w w1 : World} {B S : Nat} {R : Int} {A : Option Addr} {n c : Nat} {q : List RT} (h : SysOk w B S R A n c q) (hs : w.heap.size ≤ w1.heap.size) (hk : ∀ j, B ≤ j → j < w.heap.size → w1.heap[j]? = w.heap[j]?) : SysOk w1 B S R A n c q :=
  { h with
    rd := ⟨h.rd.ln, fun hn => by
      obtain ⟨b, o, e, hc⟩ := h.rd.ad hn
      obtain ⟨h1, h2⟩ := h.fr _ e
      exact ⟨b, o, e, fun j hj => (hc j hj).block (hk b h1 h2)⟩, fun r hr => (h.rd.rd r hr).kept fun a ha => hk _ (h.fq r hr a ha).1 (h.fq r hr a ha).2⟩,
    fr := fun a e => ⟨(h.fr a e).1, Nat.lt_of_lt_of_le (h.fr a e).2 hs⟩, fq := fun r hr a e => ⟨(h.fq r hr a e).1, Nat.lt_of_lt_of_le (h.fq r hr a e).2 hs⟩ }
end Go.Proofs.Ytdmfdgadhobkpaa.Sys
