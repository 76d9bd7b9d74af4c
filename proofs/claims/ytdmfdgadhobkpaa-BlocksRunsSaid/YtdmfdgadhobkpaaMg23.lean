/-
  Texts of one claim, joined in build order: Step, StepF.
-/
import Derived.Test.YtdmfdgadhobkpaaMg22
import Derived.Deep.DeepCutAuto
/-
  Package cache: Step.
-/
namespace Go.Proofs.Ytdmfdgadhobkpaa.Cache
open Go.RowKit Go.Shelf Go.Proofs.Ytdmfdgadhobkpaa.Bits Go.Proofs.Ytdmfdgadhobkpaa.Sys Go.Proofs.Ytdmfdgadhobkpaa.Box

/-- Is what a tick would use gone? -/
def goneB (L : List Int) (u : List Int) (id rl a : Int) (X : Nat → Nat) : Bool := accB u a && hasI X (accI u a) && (ownerI L (accI u a) != id) && decide (0 < rl)
def putW (w : World) (b : Nat) (v0 v1 v2 v3 v4 v5 v6 v7 : Value) : World :=
  (((((((w.setCell ⟨b, 0, none⟩ v0).setCell ⟨b, 1, none⟩ v1).setCell ⟨b, 2, none⟩ v2).setCell ⟨b, 3, none⟩ v3).setCell ⟨b, 4, none⟩ v4).setCell ⟨b, 5, none⟩ v5).setCell ⟨b, 6, none⟩ v6).setCell ⟨b, 7, none⟩ v7
theorem putW_same {w : World} {b : Nat} {t : TypeId} {u0 u1 u2 u3 u4 u5 u6 u7 : Value} (h : w.heap[b]? = some (.cells #[u0, u1, u2, u3, u4, u5, u6, u7] t (0, 0))) (v0 v1 v2 v3 v4 v5 v6 v7 : Value) :
    (putW w b v0 v1 v2 v3 v4 v5 v6 v7).heap[b]? = some (.cells #[v0, v1, v2, v3, v4, v5, v6, v7] t (0, 0)) := by
  have h1 := Lib.heap_setCell_same (i := 0) h v0
  have h2 := Lib.heap_setCell_same (i := 1) h1 v1
  have h3 := Lib.heap_setCell_same (i := 2) h2 v2
  have h4 := Lib.heap_setCell_same (i := 3) h3 v3
  have h5 := Lib.heap_setCell_same (i := 4) h4 v4
  have h6 := Lib.heap_setCell_same (i := 5) h5 v5
  have h7 := Lib.heap_setCell_same (i := 6) h6 v6
  have h8 := Lib.heap_setCell_same (i := 7) h7 v7
  unfold putW
  rw [h8]
  simp
theorem putW_other (w : World) (b j : Nat) (hj : j ≠ b) (v0 v1 v2 v3 v4 v5 v6 v7 : Value) : (putW w b v0 v1 v2 v3 v4 v5 v6 v7).heap[j]? = w.heap[j]? := by
  unfold putW
  iterate 8 rw [Below.heap_setCell _ _ _ _ (by simpa using hj)]
theorem putW_size (w : World) (b : Nat) (v0 v1 v2 v3 v4 v5 v6 v7 : Value) : (putW w b v0 v1 v2 v3 v4 v5 v6 v7).heap.size = w.heap.size := by simp [putW, World.setCell]
/-- Stores into a block of the call's own. -/
structure Own1 (B : Nat) (w w' : World) : Prop where
  os : w'.os = w.os
  tape : w'.tape = w.tape
  output : w'.output = w.output
  size : w'.heap.size = w.heap.size
  block : ∀ k, k < B → w'.heap[k]? = w.heap[k]?
theorem Own1.put (B : Nat) (w : World) {b : Nat} (hb : B ≤ b) (k : Nat) (v : Value) : Own1 B w (w.setCell ⟨b, k, none⟩ v) := ⟨rfl, rfl, rfl, by simp [World.setCell], fun j hj => Below.heap_setCell _ _ _ _ (by simp; omega)⟩
theorem Own1.trans {B : Nat} {a b c : World} (h : Own1 B a b) (k : Own1 B b c) : Own1 B a c := ⟨k.os.trans h.os, k.tape.trans h.tape, k.output.trans h.output, k.size.trans h.size, fun j hj => (k.block j hj).trans (h.block j hj)⟩
theorem Own1.putW (B : Nat) (w : World) {b : Nat} (hb : B ≤ b) (v0 v1 v2 v3 v4 v5 v6 v7 : Value) : Own1 B w (putW w b v0 v1 v2 v3 v4 v5 v6 v7) := by
  unfold Cache.putW
  exact (((((((Own1.put B w hb _ _).trans (Own1.put B _ hb _ _)).trans (Own1.put B _ hb _ _)).trans (Own1.put B _ hb _ _)).trans (Own1.put B _ hb _ _)).trans (Own1.put B _ hb _ _)).trans (Own1.put B _ hb _ _)).trans (Own1.put B _ hb _ _)
theorem IsC.own1 {w w' : World} {p g B : Nat} {L : List Int} (h : IsC w p g L) (hp : p < B) (hg : g < B) (ho : Own1 B w w') : IsC w' p g L := h.kept (ho.block _ hp) (ho.block _ hg)
theorem Only.own1 {g B : Nat} {w w1 w2 : World} (h : Only g w w1) (hB : w.heap.size ≤ B) (ho : Own1 B w1 w2) : Only g w w2 :=
  ⟨ho.os.trans h.os, ho.tape.trans h.tape, ho.output.trans h.output, by rw [ho.size]; exact h.size, fun k hk hn => (ho.block k (by omega)).trans (h.block k hk hn)⟩
theorem set0v {w : World} {p : Nat} {x0 x1 x2 x3 x4 x5 x6 x7 : Value} {T : TypeId} (h : w.heap[p]? = some (.cells #[x0, x1, x2, x3, x4, x5, x6, x7] T (0, 0))) (v : Value) : (w.setCell ⟨p, 0, none⟩ v).heap[p]? = some (.cells #[v, x1, x2, x3, x4, x5, x6, x7] T (0, 0)) := by
  have h1 := Lib.heap_setCell_same (i := 0) h v
  rw [h1]
  simp
theorem c8v {w : World} {p : Nat} {a b c e : Int} {X : Nat → Nat} {T : TypeId} (h : w.heap[p]? = some (.cells #[.int .i64 a, .int .i64 b, .int .i64 c, .int .i64 e, .int .u64 (X 0 : Int), .int .u64 (X 1 : Int), .int .u64 (X 2 : Int), .int .u64 (X 3 : Int)] T (0, 0))) : w.cell? ⟨p, 0, none⟩ = some (.int .i64 a) ∧ w.cell? ⟨p, 1, none⟩ = some (.int .i64 b) ∧ w.cell? ⟨p, 2, none⟩ = some (.int .i64 c) ∧ w.cell? ⟨p, 3, none⟩ = some (.int .i64 e) ∧ w.cell? ⟨p, 4, none⟩ = some (.int .u64 (X 0 : Int)) ∧ w.cell? ⟨p, 5, none⟩ = some (.int .u64 (X 1 : Int)) ∧ w.cell? ⟨p, 6, none⟩ = some (.int .u64 (X 2 : Int)) ∧ w.cell? ⟨p, 7, none⟩ = some (.int .u64 (X 3 : Int)) := by
  refine ⟨?_, ?_, ?_, ?_, ?_, ?_, ?_, ?_⟩ <;> simp [World.cell?, h]
theorem fr8v {w : World} {p : Nat} {vs : Array Value} {T : TypeId} (h : w.heap[p]? = some (.cells vs T (0, 0))) : w.frozen? ⟨p, 0, none⟩ = false ∧ w.frozen? ⟨p, 1, none⟩ = false ∧ w.frozen? ⟨p, 2, none⟩ = false ∧ w.frozen? ⟨p, 3, none⟩ = false ∧ w.frozen? ⟨p, 4, none⟩ = false ∧ w.frozen? ⟨p, 5, none⟩ = false ∧ w.frozen? ⟨p, 6, none⟩ = false ∧ w.frozen? ⟨p, 7, none⟩ = false := by
  refine ⟨?_, ?_, ?_, ?_, ?_, ?_, ?_, ?_⟩ <;> simp [World.frozen?, h]

set_option maxHeartbeats 8000000 in
set_option maxRecDepth 100000 in
/-- What may not be: nothing happens. -/
theorem step_not (p g : Nat) (L : List Int) (r : RT) (rl a b c e : Int) (X : Nat → Nat) (w : World) (hC : IsC w p g L) (hid : ownB r.x.id = true) (hn : ¬ (0 ≤ a ∧ a < b ∧ 0 ≤ c ∧ 0 ≤ rl ∧ rl ≤ 1000)) :
    Calls Try.prog 20 #[.pointer (some ⟨p, 0, none⟩), .agg #[.int .i64 r.x.id, .int .i64 r.x.c, .int .i64 r.x.d, .int .i64 r.x.t, .int .i64 r.x.prio, .slice r.ca r.cl r.cc, .slice r.ua r.ul r.uc], .int .i64 rl, .agg #[.int .i64 a, .int .i64 b, .int .i64 c, .int .i64 e, .int .u64 (X 0 : Int), .int .u64 (X 1 : Int), .int .u64 (X 2 : Int), .int .u64 (X 3 : Int)]] w fun z w' => z = .returned (.tuple #[.agg #[.int .i64 a, .int .i64 b, .int .i64 c, .int .i64 e, .int .u64 (X 0 : Int), .int .u64 (X 1 : Int), .int .u64 (X 2 : Int), .int .u64 (X 3 : Int)], .bool false]) ∧ IsC w' p g L ∧ Only g w w' := by
  have HC := Lib.hid hC
  clear hC
  have hq : a < 0 ∨ (0 ≤ a ∧ b ≤ a) ∨ (0 ≤ a ∧ a < b ∧ c < 0) ∨ (0 ≤ a ∧ a < b ∧ 0 ≤ c ∧ rl < 0) ∨ (0 ≤ a ∧ a < b ∧ 0 ≤ c ∧ 0 ≤ rl ∧ 1000 < rl) := by omega
  have hh := heap_new ((w.alloc (.cells #[.int .i64 r.x.id, .int .i64 r.x.c, .int .i64 r.x.d, .int .i64 r.x.t, .int .i64 r.x.prio, .slice r.ca r.cl r.cc, .slice r.ua r.ul r.uc] 36)).alloc (.cells #[.int .i64 a, .int .i64 b, .int .i64 c, .int .i64 e, .int .u64 (X 0 : Int), .int .u64 (X 1 : Int), .int .u64 (X 2 : Int), .int .u64 (X 3 : Int)] 53)) (.cells #[.int .i64 a, .int .i64 b, .int .i64 c, .int .i64 e, .int .u64 (X 0 : Int), .int .u64 (X 1 : Int), .int .u64 (X 2 : Int), .int .u64 (X 3 : Int)] 53) (w.heap.size + 1 + 1) (by simp)
  have HB : Hid (Below w.heap.size w (((w.alloc (.cells #[.int .i64 r.x.id, .int .i64 r.x.c, .int .i64 r.x.d, .int .i64 r.x.t, .int .i64 r.x.prio, .slice r.ca r.cl r.cc, .slice r.ua r.ul r.uc] 36)).alloc (.cells #[.int .i64 a, .int .i64 b, .int .i64 c, .int .i64 e, .int .u64 (X 0 : Int), .int .u64 (X 1 : Int), .int .u64 (X 2 : Int), .int .u64 (X 3 : Int)] 53)).alloc (.cells #[.int .i64 a, .int .i64 b, .int .i64 c, .int .i64 e, .int .u64 (X 0 : Int), .int .u64 (X 1 : Int), .int .u64 (X 2 : Int), .int .u64 (X 3 : Int)] 53))) := (((Below.refl _ w).alloc (Nat.le_refl _) _).alloc (by simp) _).alloc (by simp; omega) _
  have HQ := Lib.hid (c8v hh)
  have HF : Hid (IsC (((w.alloc (.cells #[.int .i64 r.x.id, .int .i64 r.x.c, .int .i64 r.x.d, .int .i64 r.x.t, .int .i64 r.x.prio, .slice r.ca r.cl r.cc, .slice r.ua r.ul r.uc] 36)).alloc (.cells #[.int .i64 a, .int .i64 b, .int .i64 c, .int .i64 e, .int .u64 (X 0 : Int), .int .u64 (X 1 : Int), .int .u64 (X 2 : Int), .int .u64 (X 3 : Int)] 53)).alloc (.cells #[.int .i64 a, .int .i64 b, .int .i64 c, .int .i64 e, .int .u64 (X 0 : Int), .int .u64 (X 1 : Int), .int .u64 (X 2 : Int), .int .u64 (X 3 : Int)] 53)) p g L ∧ Only g w (((w.alloc (.cells #[.int .i64 r.x.id, .int .i64 r.x.c, .int .i64 r.x.d, .int .i64 r.x.t, .int .i64 r.x.prio, .slice r.ca r.cl r.cc, .slice r.ua r.ul r.uc] 36)).alloc (.cells #[.int .i64 a, .int .i64 b, .int .i64 c, .int .i64 e, .int .u64 (X 0 : Int), .int .u64 (X 1 : Int), .int .u64 (X 2 : Int), .int .u64 (X 3 : Int)] 53)).alloc (.cells #[.int .i64 a, .int .i64 b, .int .i64 c, .int .i64 e, .int .u64 (X 0 : Int), .int .u64 (X 1 : Int), .int .u64 (X 2 : Int), .int .u64 (X 3 : Int)] 53))) := ⟨HC.out.below HB.out (Nat.le_refl _), Only.of HB.out⟩
  clear hh hn HB HC
  rcases hq with h | ⟨h1, h2⟩ | ⟨h1, h2, h3⟩ | ⟨h1, h2, h3, h4⟩ | ⟨h1, h2, h3, h4, h5⟩
  all_goals
    go_enter Try.func20, Try.ntmps20
    go_wp2_with (go_at_call 35; refine (owns_any r.x.id _).mono ?_; rintro e w' ⟨rfl, rfl⟩)
    obtain ⟨q0, q1, q2, q3, q4, q5, q6, q7⟩ := HQ.out
    refine bodyPost_ret (v := .tuple #[.agg #[.int .i64 a, .int .i64 b, .int .i64 c, .int .i64 e, .int .u64 (X 0 : Int), .int .u64 (X 1 : Int), .int .u64 (X 2 : Int), .int .u64 (X 3 : Int)], .bool false]) ?_ rfl ⟨rfl, HF.out⟩
    simp [results, Try.results20, go_sem, q0, q1, q2, q3, q4, q5, q6, q7]

set_option maxHeartbeats 16000000 in
set_option maxRecDepth 100000 in
/-- A tick: what comes of it, said by whoever asks. -/
theorem step_yes (p g : Nat) (L : List Int) (r : RT) (rl a b c e : Int) (X : Nat → Nat) (w : World) (hC : IsC w p g L) (hr : r.Rd w) (hX : Ws X) (hid : ownB r.x.id = true) (hm : accB r.x.use a = true → mayB L (accI r.x.use a) = true)
    (h0 : 0 ≤ a) (h1 : a < b) (h2 : 0 ≤ c) (h3 : 0 ≤ rl) (h4 : rl ≤ 1000) (hb : b ≤ 9223372036854775807) (hc : c ≤ 9223372036854775807) (e1 : Int) (he : IntKind.i64.wrap (e + 1) = e1) (Q : Ending → World → Prop)
    (k1 : 0 < c → ∀ w', IsC w' p g L → Only g w w' → Q (.returned (.tuple #[.agg #[.int .i64 a, .int .i64 b, .int .i64 (c - 1), .int .i64 e1, .int .u64 (X 0 : Int), .int .u64 (X 1 : Int), .int .u64 (X 2 : Int), .int .u64 (X 3 : Int)], .bool true])) w')
    (k2 : c = 0 → goneB L r.x.use r.x.id rl a X = true → ∀ w', IsC w' p g (useL L (accI r.x.use a) r.x.id) → Only g w w' → Q (.returned (.tuple #[.agg #[.int .i64 a, .int .i64 b, .int .i64 (rl - 1), .int .i64 e1, .int .u64 (X 0 : Int), .int .u64 (X 1 : Int), .int .u64 (X 2 : Int), .int .u64 (X 3 : Int)], .bool true])) w')
    (k3 : c = 0 → goneB L r.x.use r.x.id rl a X = false → accB r.x.use a = true → ∀ w', IsC w' p g (useL L (accI r.x.use a) r.x.id) → Only g w w' → Q (.returned (.tuple #[.agg #[.int .i64 (a + 1), .int .i64 b, .int .i64 0, .int .i64 e, .int .u64 (withW X (accI r.x.use a) 0 : Int), .int .u64 (withW X (accI r.x.use a) 1 : Int), .int .u64 (withW X (accI r.x.use a) 2 : Int), .int .u64 (withW X (accI r.x.use a) 3 : Int)], .bool false])) w')
    (k4 : c = 0 → accB r.x.use a = false → ∀ w', IsC w' p g L → Only g w w' → Q (.returned (.tuple #[.agg #[.int .i64 (a + 1), .int .i64 b, .int .i64 0, .int .i64 e, .int .u64 (X 0 : Int), .int .u64 (X 1 : Int), .int .u64 (X 2 : Int), .int .u64 (X 3 : Int)], .bool false])) w') :
    Calls Try.prog 20 #[.pointer (some ⟨p, 0, none⟩), .agg #[.int .i64 r.x.id, .int .i64 r.x.c, .int .i64 r.x.d, .int .i64 r.x.t, .int .i64 r.x.prio, .slice r.ca r.cl r.cc, .slice r.ua r.ul r.uc], .int .i64 rl, .agg #[.int .i64 a, .int .i64 b, .int .i64 c, .int .i64 e, .int .u64 (X 0 : Int), .int .u64 (X 1 : Int), .int .u64 (X 2 : Int), .int .u64 (X 3 : Int)]] w Q := by
  have HC := Lib.hid hC
  clear hC
  have HM := Lib.hid hm
  have K1 := Lib.hid k1
  have K2 := Lib.hid k2
  have K3 := Lib.hid k3
  have K4 := Lib.hid k4
  have HID := Lib.hid hid
  clear hm k1 k2 k3 k4

  go_enter Try.func20, Try.ntmps20
  go_wp2_with (go_at_call 35; refine (owns_any r.x.id _).mono ?_; rintro e w' ⟨rfl, rfl⟩)
  obtain ⟨W3, hW3⟩ : ∃ W3, ((w.alloc (.cells #[.int .i64 r.x.id, .int .i64 r.x.c, .int .i64 r.x.d, .int .i64 r.x.t, .int .i64 r.x.prio, .slice r.ca r.cl r.cc, .slice r.ua r.ul r.uc] 36)).alloc (.cells #[.int .i64 a, .int .i64 b, .int .i64 c, .int .i64 e, .int .u64 (X 0 : Int), .int .u64 (X 1 : Int), .int .u64 (X 2 : Int), .int .u64 (X 3 : Int)] 53)).alloc (.cells #[.int .i64 0, .int .i64 0, .int .i64 0, .int .i64 0, .int .u64 0, .int .u64 0, .int .u64 0, .int .u64 0] 53) = W3 := ⟨_, rfl⟩
  rw [hW3]
  have HT3 : Hid (W3.heap[w.heap.size]? = some (.cells #[.int .i64 r.x.id, .int .i64 r.x.c, .int .i64 r.x.d, .int .i64 r.x.t, .int .i64 r.x.prio, .slice r.ca r.cl r.cc, .slice r.ua r.ul r.uc] 36 (0, 0))) := by rw [← hW3]; exact (Below.heap_alloc _ _ _ (by simp; omega)).trans ((Below.heap_alloc _ _ _ (by simp)).trans (heap_new _ _ _ rfl))
  have HK3 : Hid (W3.heap[w.heap.size + 1]? = some (.cells #[.int .i64 a, .int .i64 b, .int .i64 c, .int .i64 e, .int .u64 (X 0 : Int), .int .u64 (X 1 : Int), .int .u64 (X 2 : Int), .int .u64 (X 3 : Int)] 53 (0, 0))) := by rw [← hW3]; exact (Below.heap_alloc _ _ _ (by simp)).trans (heap_new _ _ _ (by simp))
  have HZ3 : Hid (W3.heap[w.heap.size + 1 + 1]? = some (.cells #[.int .i64 0, .int .i64 0, .int .i64 0, .int .i64 0, .int .u64 0, .int .u64 0, .int .u64 0, .int .u64 0] 53 (0, 0))) := by rw [← hW3]; exact heap_new _ _ _ (by simp)
  have HB3 : Hid (Below w.heap.size w W3) := by rw [← hW3]; exact (((Below.refl _ w).alloc (Nat.le_refl _) _).alloc (by simp) _).alloc (by simp; omega) _
  have hs3 : W3.heap.size = w.heap.size + 3 := by rw [← hW3]; simp
  clear hW3
  refine (access_any r a W3 (hr.below HB3.out (Nat.le_refl _))).mono ?_
  rintro z W5 ⟨rfl, hb5⟩
  have hs5 : w.heap.size + 3 ≤ W5.heap.size := by have := hb5.size; omega
  have HT : Hid (W5.heap[w.heap.size]? = some (.cells #[.int .i64 r.x.id, .int .i64 r.x.c, .int .i64 r.x.d, .int .i64 r.x.t, .int .i64 r.x.prio, .slice r.ca r.cl r.cc, .slice r.ua r.ul r.uc] 36 (0, 0))) := (hb5.block _ (by omega)).trans HT3.out
  have HK : Hid (W5.heap[w.heap.size + 1]? = some (.cells #[.int .i64 a, .int .i64 b, .int .i64 c, .int .i64 e, .int .u64 (X 0 : Int), .int .u64 (X 1 : Int), .int .u64 (X 2 : Int), .int .u64 (X 3 : Int)] 53 (0, 0))) := (hb5.block _ (by omega)).trans HK3.out
  have HZ : Hid (W5.heap[w.heap.size + 1 + 1]? = some (.cells #[.int .i64 0, .int .i64 0, .int .i64 0, .int .i64 0, .int .u64 0, .int .u64 0, .int .u64 0, .int .u64 0] 53 (0, 0))) := (hb5.block _ (by omega)).trans HZ3.out
  have HB : Hid (Below w.heap.size w W5) := HB3.out.trans (hb5.mono (by omega))
  have HC5 : Hid (IsC W5 p g L) := HC.out.below HB.out (Nat.le_refl _)
  clear hb5 HT3 HK3 HZ3 HB3 hs3 hr
  obtain ⟨set, hset⟩ : ∃ set, accI r.x.use a = set := ⟨_, rfl⟩
  rw [hset]
  have HS := Lib.hid hset
  have HOL : Hid (∀ w', Only g W5 w' → Only g w w') := fun w' h => (Only.of HB.out).trans h
  clear hset
  cases hU : accB r.x.use a
  · go_upto_region 5 with fail
    go_wp2_with fail
    refine Calm.wp_region_calm (B := W5.heap.size) (W := W5) (by kernel_rfl) (by kernel_rfl) (by kernel_rfl) (Nat.le_refl _) (Below.refl _ _).drew ?_
    apply Exists.intro
    repeat (first
      | (apply Calm.calm_skip
         · rfl
         intro N hN
         go_simp
         apply hN.out
         clear hN N)
      | (apply Calm.calm_val
         · rfl
         · intro w hB hF K hK
           unfold Calm.opAt
           have hBw := hB
           obtain ⟨g0, g1, g2, g3, g4, g5, g6⟩ := bx_seven ((hBw.block _ (by omega)).trans HT.out)
           obtain ⟨m0, m1, m2, m3, m4, m5, m6, m7⟩ := c8v ((hBw.block _ (by omega)).trans HK.out)
           go_simp
           first
             | (simp only [Calm.upon_value]
                exact hK.out _ _ rfl (Below.refl _ _))
         intro N hN
         go_simp
         apply hN.out
         clear hN N))
    apply Calm.calm_nil
    intro w9 hB9 _
    have HTx : Hid (w9.heap[w.heap.size]? = some (.cells #[.int .i64 r.x.id, .int .i64 r.x.c, .int .i64 r.x.d, .int .i64 r.x.t, .int .i64 r.x.prio, .slice r.ca r.cl r.cc, .slice r.ua r.ul r.uc] 36 (0, 0))) := (hB9.block _ (by omega)).trans HT.out
    have HKx : Hid (w9.heap[w.heap.size + 1]? = some (.cells #[.int .i64 a, .int .i64 b, .int .i64 c, .int .i64 e, .int .u64 (X 0 : Int), .int .u64 (X 1 : Int), .int .u64 (X 2 : Int), .int .u64 (X 3 : Int)] 53 (0, 0))) := (hB9.block _ (by omega)).trans HK.out
    have HZx : Hid (w9.heap[w.heap.size + 1 + 1]? = some (.cells #[.int .i64 0, .int .i64 0, .int .i64 0, .int .i64 0, .int .u64 0, .int .u64 0, .int .u64 0, .int .u64 0] 53 (0, 0))) := (hB9.block _ (by omega)).trans HZ.out
    have HCx : Hid (IsC w9 p g L) := HC5.out.below hB9 (Nat.le_refl _)
    have HOx : Hid (Only g w w9) := HOL.out _ (Only.of hB9)
    have hsx : w.heap.size + 3 ≤ w9.heap.size := Nat.le_trans hs5 hB9.size
    clear HT HK HZ HC5 HB
    generalize w9 = Wx at *
    by_cases hd : 0 < c
    · skip
      have HQ := Lib.hid (c8v (putW_same (w := ((Wx.setCell ⟨w.heap.size + 1, 2, none⟩ (.int .i64 (c - 1))).setCell ⟨w.heap.size + 1, 3, none⟩ (.int .i64 e1))) (b := w.heap.size + 1 + 1) (t := 53) ((bx_other _ _ _ _ (by omega) _).trans ((bx_other _ _ _ _ (by omega) _).trans HZx.out)) (.int .i64 a) (.int .i64 b) (.int .i64 (c - 1)) (.int .i64 e1) (.int .u64 (X 0 : Int)) (.int .u64 (X 1 : Int)) (.int .u64 (X 2 : Int)) (.int .u64 (X 3 : Int))))
      have HF : Hid (IsC (putW ((Wx.setCell ⟨w.heap.size + 1, 2, none⟩ (.int .i64 (c - 1))).setCell ⟨w.heap.size + 1, 3, none⟩ (.int .i64 e1)) (w.heap.size + 1 + 1) (.int .i64 a) (.int .i64 b) (.int .i64 (c - 1)) (.int .i64 e1) (.int .u64 (X 0 : Int)) (.int .u64 (X 1 : Int)) (.int .u64 (X 2 : Int)) (.int .u64 (X 3 : Int))) p g L ∧ Only g w (putW ((Wx.setCell ⟨w.heap.size + 1, 2, none⟩ (.int .i64 (c - 1))).setCell ⟨w.heap.size + 1, 3, none⟩ (.int .i64 e1)) (w.heap.size + 1 + 1) (.int .i64 a) (.int .i64 b) (.int .i64 (c - 1)) (.int .i64 e1) (.int .u64 (X 0 : Int)) (.int .u64 (X 1 : Int)) (.int .u64 (X 2 : Int)) (.int .u64 (X 3 : Int)))) := by
        have ho : Own1 w.heap.size Wx (putW ((Wx.setCell ⟨w.heap.size + 1, 2, none⟩ (.int .i64 (c - 1))).setCell ⟨w.heap.size + 1, 3, none⟩ (.int .i64 e1)) (w.heap.size + 1 + 1) (.int .i64 a) (.int .i64 b) (.int .i64 (c - 1)) (.int .i64 e1) (.int .u64 (X 0 : Int)) (.int .u64 (X 1 : Int)) (.int .u64 (X 2 : Int)) (.int .u64 (X 3 : Int))) := ((Own1.put _ _ (by omega) _ _).trans (Own1.put _ _ (by omega) _ _)).trans (Own1.putW _ _ (by omega) _ _ _ _ _ _ _ _)
        exact ⟨HCx.out.own1 HC.out.lt.1 HC.out.lt.2 ho, HOx.out.own1 (Nat.le_refl _) ho⟩
      obtain ⟨m0, m1, m2, m3, m4, m5, m6, m7⟩ := c8v HKx.out
      obtain ⟨i0, i1, i2, i3, i4, i5, i6, i7⟩ := fr8v HKx.out
      obtain ⟨n0, n1, n2, n3, n4, n5, n6, n7⟩ := c8v (X := fun _ => 0) HZx.out
      obtain ⟨j0, j1, j2, j3, j4, j5, j6, j7⟩ := fr8v HZx.out
      go_wp2
      obtain ⟨q0, q1, q2, q3, q4, q5, q6, q7⟩ := HQ.out
      refine bodyPost_ret (v := .tuple #[.agg #[.int .i64 a, .int .i64 b, .int .i64 (c - 1), .int .i64 e1, .int .u64 (X 0 : Int), .int .u64 (X 1 : Int), .int .u64 (X 2 : Int), .int .u64 (X 3 : Int)], .bool true]) ?_ rfl (K1.out hd _ HF.out.1 HF.out.2)
      unfold putW at q0 q1 q2 q3 q4 q5 q6 q7
      simp [results, Try.results20, go_sem, q0, q1, q2, q3, q4, q5, q6, q7]
    · obtain rfl : c = 0 := by omega
      have HQ := Lib.hid (c8v (putW_same (w := (Wx.setCell ⟨w.heap.size + 1, 0, none⟩ (.int .i64 (a + 1)))) (b := w.heap.size + 1 + 1) (t := 53) ((bx_other _ _ _ _ (by omega) _).trans HZx.out) (.int .i64 (a + 1)) (.int .i64 b) (.int .i64 0) (.int .i64 e) (.int .u64 (X 0 : Int)) (.int .u64 (X 1 : Int)) (.int .u64 (X 2 : Int)) (.int .u64 (X 3 : Int))))
      have HF : Hid (IsC (putW (Wx.setCell ⟨w.heap.size + 1, 0, none⟩ (.int .i64 (a + 1))) (w.heap.size + 1 + 1) (.int .i64 (a + 1)) (.int .i64 b) (.int .i64 0) (.int .i64 e) (.int .u64 (X 0 : Int)) (.int .u64 (X 1 : Int)) (.int .u64 (X 2 : Int)) (.int .u64 (X 3 : Int))) p g L ∧ Only g w (putW (Wx.setCell ⟨w.heap.size + 1, 0, none⟩ (.int .i64 (a + 1))) (w.heap.size + 1 + 1) (.int .i64 (a + 1)) (.int .i64 b) (.int .i64 0) (.int .i64 e) (.int .u64 (X 0 : Int)) (.int .u64 (X 1 : Int)) (.int .u64 (X 2 : Int)) (.int .u64 (X 3 : Int)))) := by
        have ho : Own1 w.heap.size Wx (putW (Wx.setCell ⟨w.heap.size + 1, 0, none⟩ (.int .i64 (a + 1))) (w.heap.size + 1 + 1) (.int .i64 (a + 1)) (.int .i64 b) (.int .i64 0) (.int .i64 e) (.int .u64 (X 0 : Int)) (.int .u64 (X 1 : Int)) (.int .u64 (X 2 : Int)) (.int .u64 (X 3 : Int))) := (Own1.put _ _ (by omega) _ _).trans (Own1.putW _ _ (by omega) _ _ _ _ _ _ _ _)
        exact ⟨HCx.out.own1 HC.out.lt.1 HC.out.lt.2 ho, HOx.out.own1 (Nat.le_refl _) ho⟩
      obtain ⟨m0, m1, m2, m3, m4, m5, m6, m7⟩ := c8v HKx.out
      obtain ⟨i0, i1, i2, i3, i4, i5, i6, i7⟩ := fr8v HKx.out
      obtain ⟨n0, n1, n2, n3, n4, n5, n6, n7⟩ := c8v (X := fun _ => 0) HZx.out
      obtain ⟨j0, j1, j2, j3, j4, j5, j6, j7⟩ := fr8v HZx.out
      go_wp2
      obtain ⟨q0, q1, q2, q3, q4, q5, q6, q7⟩ := HQ.out
      refine bodyPost_ret (v := .tuple #[.agg #[.int .i64 (a + 1), .int .i64 b, .int .i64 0, .int .i64 e, .int .u64 (X 0 : Int), .int .u64 (X 1 : Int), .int .u64 (X 2 : Int), .int .u64 (X 3 : Int)], .bool false]) ?_ rfl (K4.out (by trivial) hU _ HF.out.1 HF.out.2)
      unfold putW at q0 q1 q2 q3 q4 q5 q6 q7
      simp [results, Try.results20, go_sem, q0, q1, q2, q3, q4, q5, q6, q7]
  · have hmt := HM.out hU
    rw [HS.out] at hmt
    go_upto_region 5 with (go_at_call 37; refine ((may_any p g L _ _ HC5.out).mono fun e w' h => (⟨h.1, h.2.symm⟩ : _ ∧ _ = w')).mono ?_; rintro e w' ⟨rfl, rfl⟩)
    go_cut [12] (fun v wx => v = .bool (hasI X set && (ownerI L set != r.x.id) && decide (0 < rl)) ∧ Below W5.heap.size W5 wx)
    case first =>
      have hHas := fun w => has_n hX set w
      simp only [bvl] at hHas
      have hOwn := fun w (h : Below W5.heap.size W5 w) => owner_any p g L set w (HC5.out.below h (Nat.le_refl _))
      cases hH : hasI X set
      · rw [hH] at hHas
        go_wp2_with fail
        refine Calm.wp_region_calm (B := W5.heap.size) (W := W5) (by kernel_rfl) (by kernel_rfl) (by kernel_rfl) (Nat.le_refl _) (Below.refl _ _).drew ?_
        apply Exists.intro
        repeat (first
          | (apply Calm.calm_skip
             · rfl
             intro N hN
             go_simp
             apply hN.out
             clear hN N)
          | (apply Calm.calm_val
             · rfl
             · intro w hB hF K hK
               unfold Calm.opAt
               have hBw := hB
               obtain ⟨g0, g1, g2, g3, g4, g5, g6⟩ := bx_seven ((hBw.block _ (by omega)).trans HT.out)
               obtain ⟨m0, m1, m2, m3, m4, m5, m6, m7⟩ := c8v ((hBw.block _ (by omega)).trans HK.out)
               go_simp
               first
                 | (simp only [Calm.upon_value]
                    exact hK.out _ _ rfl (Below.refl _ _))
                 | (simp only [Calm.upon_enter]
                    with_reducible refine (hHas _).mono ?_
                    rintro e w' ⟨rfl, hb⟩
                    exact ⟨_, rfl, hK.out _ _ rfl hb⟩)
                 | (simp only [Calm.upon_enter]
                    with_reducible refine (hOwn _ (by assumption)).mono ?_
                    rintro e w' ⟨rfl, rfl⟩
                    exact ⟨_, rfl, hK.out _ _ rfl (Below.refl _ _)⟩)
             intro N hN
             go_simp
             apply hN.out
             clear hN N))
        apply Calm.calm_nil
        intro w9 hB9 _
        go_wp2
        go_meet
        exact ⟨by simp [hH], hB9⟩
      · rw [hH] at hHas
        cases hO : (ownerI L set != r.x.id)
        · skip
          go_wp2_with fail
          refine Calm.wp_region_calm (B := W5.heap.size) (W := W5) (by kernel_rfl) (by kernel_rfl) (by kernel_rfl) (Nat.le_refl _) (Below.refl _ _).drew ?_
          apply Exists.intro
          repeat (first
            | (apply Calm.calm_skip
               · rfl
               intro N hN
               go_simp
               apply hN.out
               clear hN N)
            | (apply Calm.calm_val
               · rfl
               · intro w hB hF K hK
                 unfold Calm.opAt
                 have hBw := hB
                 obtain ⟨g0, g1, g2, g3, g4, g5, g6⟩ := bx_seven ((hBw.block _ (by omega)).trans HT.out)
                 obtain ⟨m0, m1, m2, m3, m4, m5, m6, m7⟩ := c8v ((hBw.block _ (by omega)).trans HK.out)
                 go_simp
                 first
                   | (simp only [Calm.upon_value]
                      exact hK.out _ _ rfl (Below.refl _ _))
                   | (simp only [Calm.upon_enter]
                      with_reducible refine (hHas _).mono ?_
                      rintro e w' ⟨rfl, hb⟩
                      exact ⟨_, rfl, hK.out _ _ rfl hb⟩)
                   | (simp only [Calm.upon_enter]
                      with_reducible refine (hOwn _ (by assumption)).mono ?_
                      rintro e w' ⟨rfl, rfl⟩
                      exact ⟨_, rfl, hK.out _ _ rfl (Below.refl _ _)⟩)
               intro N hN
               go_simp
               apply hN.out
               clear hN N))
          apply Calm.calm_nil
          intro w9 hB9 _
          go_wp2
          go_meet
          exact ⟨by simp [hH, hO], hB9⟩
        · skip
          go_wp2_with fail
          refine Calm.wp_region_calm (B := W5.heap.size) (W := W5) (by kernel_rfl) (by kernel_rfl) (by kernel_rfl) (Nat.le_refl _) (Below.refl _ _).drew ?_
          apply Exists.intro
          repeat (first
            | (apply Calm.calm_skip
               · rfl
               intro N hN
               go_simp
               apply hN.out
               clear hN N)
            | (apply Calm.calm_val
               · rfl
               · intro w hB hF K hK
                 unfold Calm.opAt
                 have hBw := hB
                 obtain ⟨g0, g1, g2, g3, g4, g5, g6⟩ := bx_seven ((hBw.block _ (by omega)).trans HT.out)
                 obtain ⟨m0, m1, m2, m3, m4, m5, m6, m7⟩ := c8v ((hBw.block _ (by omega)).trans HK.out)
                 go_simp
                 first
                   | (simp only [Calm.upon_value]
                      exact hK.out _ _ rfl (Below.refl _ _))
                   | (simp only [Calm.upon_enter]
                      with_reducible refine (hHas _).mono ?_
                      rintro e w' ⟨rfl, hb⟩
                      exact ⟨_, rfl, hK.out _ _ rfl hb⟩)
                   | (simp only [Calm.upon_enter]
                      with_reducible refine (hOwn _ (by assumption)).mono ?_
                      rintro e w' ⟨rfl, rfl⟩
                      exact ⟨_, rfl, hK.out _ _ rfl (Below.refl _ _)⟩)
               intro N hN
               go_simp
               apply hN.out
               clear hN N))
          apply Calm.calm_nil
          intro w9 hB9 _
          go_wp2
          go_meet
          exact ⟨by simp [hH, hO], hB9⟩
    case rest =>
      obtain ⟨rfl, hB9⟩ := hcut
      have HTx : Hid (wc.heap[w.heap.size]? = some (.cells #[.int .i64 r.x.id, .int .i64 r.x.c, .int .i64 r.x.d, .int .i64 r.x.t, .int .i64 r.x.prio, .slice r.ca r.cl r.cc, .slice r.ua r.ul r.uc] 36 (0, 0))) := (hB9.block _ (by omega)).trans HT.out
      have HKx : Hid (wc.heap[w.heap.size + 1]? = some (.cells #[.int .i64 a, .int .i64 b, .int .i64 c, .int .i64 e, .int .u64 (X 0 : Int), .int .u64 (X 1 : Int), .int .u64 (X 2 : Int), .int .u64 (X 3 : Int)] 53 (0, 0))) := (hB9.block _ (by omega)).trans HK.out
      have HZx : Hid (wc.heap[w.heap.size + 1 + 1]? = some (.cells #[.int .i64 0, .int .i64 0, .int .i64 0, .int .i64 0, .int .u64 0, .int .u64 0, .int .u64 0, .int .u64 0] 53 (0, 0))) := (hB9.block _ (by omega)).trans HZ.out
      have HCx : Hid (IsC wc p g L) := HC5.out.below hB9 (Nat.le_refl _)
      have HOx : Hid (Only g w wc) := HOL.out _ (Only.of hB9)
      have hsx : w.heap.size + 3 ≤ wc.heap.size := Nat.le_trans hs5 hB9.size
      clear HT HK HZ HC5 HB
      generalize wc = Wx at *
      by_cases hd : 0 < c
      · skip
        have HQ := Lib.hid (c8v (putW_same (w := ((Wx.setCell ⟨w.heap.size + 1, 2, none⟩ (.int .i64 (c - 1))).setCell ⟨w.heap.size + 1, 3, none⟩ (.int .i64 e1))) (b := w.heap.size + 1 + 1) (t := 53) ((bx_other _ _ _ _ (by omega) _).trans ((bx_other _ _ _ _ (by omega) _).trans HZx.out)) (.int .i64 a) (.int .i64 b) (.int .i64 (c - 1)) (.int .i64 e1) (.int .u64 (X 0 : Int)) (.int .u64 (X 1 : Int)) (.int .u64 (X 2 : Int)) (.int .u64 (X 3 : Int))))
        have HF : Hid (IsC (putW ((Wx.setCell ⟨w.heap.size + 1, 2, none⟩ (.int .i64 (c - 1))).setCell ⟨w.heap.size + 1, 3, none⟩ (.int .i64 e1)) (w.heap.size + 1 + 1) (.int .i64 a) (.int .i64 b) (.int .i64 (c - 1)) (.int .i64 e1) (.int .u64 (X 0 : Int)) (.int .u64 (X 1 : Int)) (.int .u64 (X 2 : Int)) (.int .u64 (X 3 : Int))) p g L ∧ Only g w (putW ((Wx.setCell ⟨w.heap.size + 1, 2, none⟩ (.int .i64 (c - 1))).setCell ⟨w.heap.size + 1, 3, none⟩ (.int .i64 e1)) (w.heap.size + 1 + 1) (.int .i64 a) (.int .i64 b) (.int .i64 (c - 1)) (.int .i64 e1) (.int .u64 (X 0 : Int)) (.int .u64 (X 1 : Int)) (.int .u64 (X 2 : Int)) (.int .u64 (X 3 : Int)))) := by
          have ho : Own1 w.heap.size Wx (putW ((Wx.setCell ⟨w.heap.size + 1, 2, none⟩ (.int .i64 (c - 1))).setCell ⟨w.heap.size + 1, 3, none⟩ (.int .i64 e1)) (w.heap.size + 1 + 1) (.int .i64 a) (.int .i64 b) (.int .i64 (c - 1)) (.int .i64 e1) (.int .u64 (X 0 : Int)) (.int .u64 (X 1 : Int)) (.int .u64 (X 2 : Int)) (.int .u64 (X 3 : Int))) := ((Own1.put _ _ (by omega) _ _).trans (Own1.put _ _ (by omega) _ _)).trans (Own1.putW _ _ (by omega) _ _ _ _ _ _ _ _)
          exact ⟨HCx.out.own1 HC.out.lt.1 HC.out.lt.2 ho, HOx.out.own1 (Nat.le_refl _) ho⟩
        obtain ⟨m0, m1, m2, m3, m4, m5, m6, m7⟩ := c8v HKx.out
        obtain ⟨i0, i1, i2, i3, i4, i5, i6, i7⟩ := fr8v HKx.out
        obtain ⟨n0, n1, n2, n3, n4, n5, n6, n7⟩ := c8v (X := fun _ => 0) HZx.out
        obtain ⟨j0, j1, j2, j3, j4, j5, j6, j7⟩ := fr8v HZx.out
        go_wp2
        obtain ⟨q0, q1, q2, q3, q4, q5, q6, q7⟩ := HQ.out
        refine bodyPost_ret (v := .tuple #[.agg #[.int .i64 a, .int .i64 b, .int .i64 (c - 1), .int .i64 e1, .int .u64 (X 0 : Int), .int .u64 (X 1 : Int), .int .u64 (X 2 : Int), .int .u64 (X 3 : Int)], .bool true]) ?_ rfl (K1.out hd _ HF.out.1 HF.out.2)
        unfold putW at q0 q1 q2 q3 q4 q5 q6 q7
        simp [results, Try.results20, go_sem, q0, q1, q2, q3, q4, q5, q6, q7]
      · obtain rfl : c = 0 := by omega
        have hgl := HC.out.lt.2
        cases hG : (hasI X set && (ownerI L set != r.x.id) && decide (0 < rl))
        · skip
          have HC0 : Hid (IsC (Wx.setCell ⟨w.heap.size + 1, 0, none⟩ (.int .i64 (a + 1))) p g L) := HCx.out.own1 HC.out.lt.1 HC.out.lt.2 (Own1.put _ _ (show w.heap.size ≤ _ by omega) _ _)
          have HO0 : Hid (Only g w (Wx.setCell ⟨w.heap.size + 1, 0, none⟩ (.int .i64 (a + 1)))) := HOx.out.own1 (Nat.le_refl _) (Own1.put _ _ (show w.heap.size ≤ _ by omega) _ _)
          have HK0 : Hid ((Wx.setCell ⟨w.heap.size + 1, 0, none⟩ (.int .i64 (a + 1))).heap[w.heap.size + 1]? = some (.cells #[.int .i64 (a + 1), .int .i64 b, .int .i64 0, .int .i64 e, .int .u64 (X 0 : Int), .int .u64 (X 1 : Int), .int .u64 (X 2 : Int), .int .u64 (X 3 : Int)] 53 (0, 0))) := set0v HKx.out _
          have HZ0 : Hid ((Wx.setCell ⟨w.heap.size + 1, 0, none⟩ (.int .i64 (a + 1))).heap[w.heap.size + 1 + 1]? = some (.cells #[.int .i64 0, .int .i64 0, .int .i64 0, .int .i64 0, .int .u64 0, .int .u64 0, .int .u64 0, .int .u64 0] 53 (0, 0))) := (bx_other _ _ _ _ (by omega) _).trans HZx.out
          have hs0 : (Wx.setCell ⟨w.heap.size + 1, 0, none⟩ (.int .i64 (a + 1))).heap.size = Wx.heap.size := by simp [World.setCell]
          have HS0 := Lib.hid hs0
          clear hs0
          obtain ⟨g0, g1, g2, g3, g4, g5, g6⟩ := bx_seven HTx.out
          obtain ⟨m0, m1, m2, m3, m4, m5, m6, m7⟩ := c8v HKx.out
          obtain ⟨i0, i1, i2, i3, i4, i5, i6, i7⟩ := fr8v HKx.out
          obtain ⟨n0, n1, n2, n3, n4, n5, n6, n7⟩ := c8v (X := fun _ => 0) HZx.out
          obtain ⟨j0, j1, j2, j3, j4, j5, j6, j7⟩ := fr8v HZx.out
          go_wp2_with fail
          refine (use_any p g L set r.x.id _ HC0.out).mono ?_
          rintro e6 w6 ⟨rfl, hC6, hO6⟩
          clear m0 m1 m2 m3 m4 m5 m6 m7 i0 i1 i2 i3 i4 i5 i6 i7 n0 n1 n2 n3 n4 n5 n6 n7 j0 j1 j2 j3 j4 j5 j6 j7 g0 g1 g2 g3 g4 g5 g6
          have HC6 := Lib.hid hC6
          have HK6 : Hid (w6.heap[w.heap.size + 1]? = some (.cells #[.int .i64 (a + 1), .int .i64 b, .int .i64 0, .int .i64 e, .int .u64 (X 0 : Int), .int .u64 (X 1 : Int), .int .u64 (X 2 : Int), .int .u64 (X 3 : Int)] 53 (0, 0))) := (hO6.block _ (by have := HS0.out; omega) (by omega)).trans HK0.out
          have HZ6 : Hid (w6.heap[w.heap.size + 1 + 1]? = some (.cells #[.int .i64 0, .int .i64 0, .int .i64 0, .int .i64 0, .int .u64 0, .int .u64 0, .int .u64 0, .int .u64 0] 53 (0, 0))) := (hO6.block _ (by have := HS0.out; omega) (by omega)).trans HZ0.out
          have HO6 : Hid (Only g w w6) := HO0.out.trans hO6
          have hs6 : w.heap.size + 3 ≤ w6.heap.size := by have h1 := hO6.size; have h2 := HS0.out; omega
          clear hC6 hO6 HCx HKx HZx HTx HOx HC0 HK0 HZ0 HO0 HS0
          obtain ⟨m0, m1, m2, m3, m4, m5, m6, m7⟩ := c8v HK6.out
          obtain ⟨i0, i1, i2, i3, i4, i5, i6, i7⟩ := fr8v HK6.out
          obtain ⟨n0, n1, n2, n3, n4, n5, n6, n7⟩ := c8v (X := fun _ => 0) HZ6.out
          obtain ⟨j0, j1, j2, j3, j4, j5, j6, j7⟩ := fr8v HZ6.out
          have hW := with_n hX set w6
          simp only [bvl] at hW
          obtain ⟨Y, hY⟩ : ∃ Y, withW X set = Y := ⟨_, rfl⟩
          rw [hY] at hW
          have HY := Lib.hid hY
          clear hY
          go_wp2_with fail
          refine hW.mono ?_
          rintro e7 w7 ⟨rfl, hb7⟩
          clear m0 m1 m2 m3 m4 m5 m6 m7 i0 i1 i2 i3 i4 i5 i6 i7 n0 n1 n2 n3 n4 n5 n6 n7 j0 j1 j2 j3 j4 j5 j6 j7 hW
          have HC7 : Hid (IsC w7 p g (useL L set r.x.id)) := HC6.out.below hb7 (Nat.le_refl _)
          have HK7 : Hid (w7.heap[w.heap.size + 1]? = some (.cells #[.int .i64 (a + 1), .int .i64 b, .int .i64 0, .int .i64 e, .int .u64 (X 0 : Int), .int .u64 (X 1 : Int), .int .u64 (X 2 : Int), .int .u64 (X 3 : Int)] 53 (0, 0))) := (hb7.block _ (by omega)).trans HK6.out
          have HZ7 : Hid (w7.heap[w.heap.size + 1 + 1]? = some (.cells #[.int .i64 0, .int .i64 0, .int .i64 0, .int .i64 0, .int .u64 0, .int .u64 0, .int .u64 0, .int .u64 0] 53 (0, 0))) := (hb7.block _ (by omega)).trans HZ6.out
          have HO7 : Hid (Only g w w7) := HO6.out.trans (Only.of hb7)
          clear hb7 HC6 HK6 HZ6 HO6
          have HQ := Lib.hid (c8v (putW_same (w := ((((w7.setCell ⟨w.heap.size + 1, 4, none⟩ (.int .u64 (Y 0 : Int))).setCell ⟨w.heap.size + 1, 5, none⟩ (.int .u64 (Y 1 : Int))).setCell ⟨w.heap.size + 1, 6, none⟩ (.int .u64 (Y 2 : Int))).setCell ⟨w.heap.size + 1, 7, none⟩ (.int .u64 (Y 3 : Int)))) (b := w.heap.size + 1 + 1) (t := 53) ((bx_other _ _ _ _ (by omega) _).trans ((bx_other _ _ _ _ (by omega) _).trans ((bx_other _ _ _ _ (by omega) _).trans ((bx_other _ _ _ _ (by omega) _).trans HZ7.out)))) (.int .i64 (a + 1)) (.int .i64 b) (.int .i64 0) (.int .i64 e) (.int .u64 (Y 0 : Int)) (.int .u64 (Y 1 : Int)) (.int .u64 (Y 2 : Int)) (.int .u64 (Y 3 : Int))))
          have HF : Hid (IsC (putW ((((w7.setCell ⟨w.heap.size + 1, 4, none⟩ (.int .u64 (Y 0 : Int))).setCell ⟨w.heap.size + 1, 5, none⟩ (.int .u64 (Y 1 : Int))).setCell ⟨w.heap.size + 1, 6, none⟩ (.int .u64 (Y 2 : Int))).setCell ⟨w.heap.size + 1, 7, none⟩ (.int .u64 (Y 3 : Int))) (w.heap.size + 1 + 1) (.int .i64 (a + 1)) (.int .i64 b) (.int .i64 0) (.int .i64 e) (.int .u64 (Y 0 : Int)) (.int .u64 (Y 1 : Int)) (.int .u64 (Y 2 : Int)) (.int .u64 (Y 3 : Int))) p g (useL L set r.x.id) ∧ Only g w (putW ((((w7.setCell ⟨w.heap.size + 1, 4, none⟩ (.int .u64 (Y 0 : Int))).setCell ⟨w.heap.size + 1, 5, none⟩ (.int .u64 (Y 1 : Int))).setCell ⟨w.heap.size + 1, 6, none⟩ (.int .u64 (Y 2 : Int))).setCell ⟨w.heap.size + 1, 7, none⟩ (.int .u64 (Y 3 : Int))) (w.heap.size + 1 + 1) (.int .i64 (a + 1)) (.int .i64 b) (.int .i64 0) (.int .i64 e) (.int .u64 (Y 0 : Int)) (.int .u64 (Y 1 : Int)) (.int .u64 (Y 2 : Int)) (.int .u64 (Y 3 : Int)))) := by
            have ho : Own1 w.heap.size w7 (putW ((((w7.setCell ⟨w.heap.size + 1, 4, none⟩ (.int .u64 (Y 0 : Int))).setCell ⟨w.heap.size + 1, 5, none⟩ (.int .u64 (Y 1 : Int))).setCell ⟨w.heap.size + 1, 6, none⟩ (.int .u64 (Y 2 : Int))).setCell ⟨w.heap.size + 1, 7, none⟩ (.int .u64 (Y 3 : Int))) (w.heap.size + 1 + 1) (.int .i64 (a + 1)) (.int .i64 b) (.int .i64 0) (.int .i64 e) (.int .u64 (Y 0 : Int)) (.int .u64 (Y 1 : Int)) (.int .u64 (Y 2 : Int)) (.int .u64 (Y 3 : Int))) := ((((Own1.put _ _ (by omega) _ _).trans (Own1.put _ _ (by omega) _ _)).trans (Own1.put _ _ (by omega) _ _)).trans (Own1.put _ _ (by omega) _ _)).trans (Own1.putW _ _ (by omega) _ _ _ _ _ _ _ _)
            exact ⟨HC7.out.own1 HC.out.lt.1 HC.out.lt.2 ho, HO7.out.own1 (Nat.le_refl _) ho⟩
          obtain ⟨m0, m1, m2, m3, m4, m5, m6, m7⟩ := c8v HK7.out
          obtain ⟨i0, i1, i2, i3, i4, i5, i6, i7⟩ := fr8v HK7.out
          obtain ⟨n0, n1, n2, n3, n4, n5, n6, n7⟩ := c8v (X := fun _ => 0) HZ7.out
          obtain ⟨j0, j1, j2, j3, j4, j5, j6, j7⟩ := fr8v HZ7.out
          go_wp2
          obtain ⟨q0, q1, q2, q3, q4, q5, q6, q7⟩ := HQ.out
          refine bodyPost_ret (v := .tuple #[.agg #[.int .i64 (a + 1), .int .i64 b, .int .i64 0, .int .i64 e, .int .u64 (Y 0 : Int), .int .u64 (Y 1 : Int), .int .u64 (Y 2 : Int), .int .u64 (Y 3 : Int)], .bool false]) ?_ rfl (by have k := K3.out (by trivial) (by rw [← HS.out] at hG; simp only [goneB, hU, Bool.true_and]; exact hG) hU; rw [HS.out, HY.out] at k; exact k _ HF.out.1 HF.out.2)
          unfold putW at q0 q1 q2 q3 q4 q5 q6 q7
          simp [results, Try.results20, go_sem, q0, q1, q2, q3, q4, q5, q6, q7]
        · skip
          obtain ⟨g0, g1, g2, g3, g4, g5, g6⟩ := bx_seven HTx.out
          obtain ⟨m0, m1, m2, m3, m4, m5, m6, m7⟩ := c8v HKx.out
          obtain ⟨i0, i1, i2, i3, i4, i5, i6, i7⟩ := fr8v HKx.out
          obtain ⟨n0, n1, n2, n3, n4, n5, n6, n7⟩ := c8v (X := fun _ => 0) HZx.out
          obtain ⟨j0, j1, j2, j3, j4, j5, j6, j7⟩ := fr8v HZx.out
          have hrl : 0 < rl := by simp at hG; omega
          go_wp2_with fail
          refine (use_any p g L set r.x.id _ HCx.out).mono ?_
          rintro e6 w6 ⟨rfl, hC6, hO6⟩
          clear m0 m1 m2 m3 m4 m5 m6 m7 i0 i1 i2 i3 i4 i5 i6 i7 n0 n1 n2 n3 n4 n5 n6 n7 j0 j1 j2 j3 j4 j5 j6 j7 g0 g1 g2 g3 g4 g5 g6
          have HC6 := Lib.hid hC6
          have HK6 : Hid (w6.heap[w.heap.size + 1]? = some (.cells #[.int .i64 a, .int .i64 b, .int .i64 0, .int .i64 e, .int .u64 (X 0 : Int), .int .u64 (X 1 : Int), .int .u64 (X 2 : Int), .int .u64 (X 3 : Int)] 53 (0, 0))) := (hO6.block _ (by omega) (by omega)).trans HKx.out
          have HZ6 : Hid (w6.heap[w.heap.size + 1 + 1]? = some (.cells #[.int .i64 0, .int .i64 0, .int .i64 0, .int .i64 0, .int .u64 0, .int .u64 0, .int .u64 0, .int .u64 0] 53 (0, 0))) := (hO6.block _ (by omega) (by omega)).trans HZx.out
          have HO6 : Hid (Only g w w6) := HOx.out.trans hO6
          clear hC6 hO6 HCx HKx HZx HTx HOx
          have HQ := Lib.hid (c8v (putW_same (w := ((w6.setCell ⟨w.heap.size + 1, 2, none⟩ (.int .i64 (rl - 1))).setCell ⟨w.heap.size + 1, 3, none⟩ (.int .i64 e1))) (b := w.heap.size + 1 + 1) (t := 53) ((bx_other _ _ _ _ (by omega) _).trans ((bx_other _ _ _ _ (by omega) _).trans HZ6.out)) (.int .i64 a) (.int .i64 b) (.int .i64 (rl - 1)) (.int .i64 e1) (.int .u64 (X 0 : Int)) (.int .u64 (X 1 : Int)) (.int .u64 (X 2 : Int)) (.int .u64 (X 3 : Int))))
          have HF : Hid (IsC (putW ((w6.setCell ⟨w.heap.size + 1, 2, none⟩ (.int .i64 (rl - 1))).setCell ⟨w.heap.size + 1, 3, none⟩ (.int .i64 e1)) (w.heap.size + 1 + 1) (.int .i64 a) (.int .i64 b) (.int .i64 (rl - 1)) (.int .i64 e1) (.int .u64 (X 0 : Int)) (.int .u64 (X 1 : Int)) (.int .u64 (X 2 : Int)) (.int .u64 (X 3 : Int))) p g (useL L set r.x.id) ∧ Only g w (putW ((w6.setCell ⟨w.heap.size + 1, 2, none⟩ (.int .i64 (rl - 1))).setCell ⟨w.heap.size + 1, 3, none⟩ (.int .i64 e1)) (w.heap.size + 1 + 1) (.int .i64 a) (.int .i64 b) (.int .i64 (rl - 1)) (.int .i64 e1) (.int .u64 (X 0 : Int)) (.int .u64 (X 1 : Int)) (.int .u64 (X 2 : Int)) (.int .u64 (X 3 : Int)))) := by
            have ho : Own1 w.heap.size w6 (putW ((w6.setCell ⟨w.heap.size + 1, 2, none⟩ (.int .i64 (rl - 1))).setCell ⟨w.heap.size + 1, 3, none⟩ (.int .i64 e1)) (w.heap.size + 1 + 1) (.int .i64 a) (.int .i64 b) (.int .i64 (rl - 1)) (.int .i64 e1) (.int .u64 (X 0 : Int)) (.int .u64 (X 1 : Int)) (.int .u64 (X 2 : Int)) (.int .u64 (X 3 : Int))) := ((Own1.put _ _ (by omega) _ _).trans (Own1.put _ _ (by omega) _ _)).trans (Own1.putW _ _ (by omega) _ _ _ _ _ _ _ _)
            exact ⟨HC6.out.own1 HC.out.lt.1 HC.out.lt.2 ho, HO6.out.own1 (Nat.le_refl _) ho⟩
          obtain ⟨m0, m1, m2, m3, m4, m5, m6, m7⟩ := c8v HK6.out
          obtain ⟨i0, i1, i2, i3, i4, i5, i6, i7⟩ := fr8v HK6.out
          obtain ⟨n0, n1, n2, n3, n4, n5, n6, n7⟩ := c8v (X := fun _ => 0) HZ6.out
          obtain ⟨j0, j1, j2, j3, j4, j5, j6, j7⟩ := fr8v HZ6.out
          go_wp2
          obtain ⟨q0, q1, q2, q3, q4, q5, q6, q7⟩ := HQ.out
          refine bodyPost_ret (v := .tuple #[.agg #[.int .i64 a, .int .i64 b, .int .i64 (rl - 1), .int .i64 e1, .int .u64 (X 0 : Int), .int .u64 (X 1 : Int), .int .u64 (X 2 : Int), .int .u64 (X 3 : Int)], .bool true]) ?_ rfl (K2.out (by trivial) (by rw [← HS.out] at hG; simp only [goneB, hU, Bool.true_and]; exact hG) _ (by rw [HS.out]; exact HF.out.1) HF.out.2)
          unfold putW at q0 q1 q2 q3 q4 q5 q6 q7
          simp [results, Try.results20, go_sem, q0, q1, q2, q3, q4, q5, q6, q7]

end Go.Proofs.Ytdmfdgadhobkpaa.Cache

/-
  Package cache: Step as a function; what holds of a tick.
-/
namespace Go.Proofs.Ytdmfdgadhobkpaa.Cache
open Go.RowKit Go.Shelf Go.Proofs.Ytdmfdgadhobkpaa.Bits Go.Proofs.Ytdmfdgadhobkpaa.Sys Go.Proofs.Ytdmfdgadhobkpaa.Box

structure WkV where
  done : Int
  dem : Int
  debt : Int
  rel : Int
  seen : Nat → Nat
def WkV.cells (k : WkV) : Array Value := #[.int .i64 k.done, .int .i64 k.dem, .int .i64 k.debt, .int .i64 k.rel, .int .u64 (k.seen 0 : Int), .int .u64 (k.seen 1 : Int), .int .u64 (k.seen 2 : Int), .int .u64 (k.seen 3 : Int)]
def stepOk (rl : Int) (k : WkV) : Prop := 0 ≤ k.done ∧ k.done < k.dem ∧ 0 ≤ k.debt ∧ 0 ≤ rl ∧ rl ≤ 1000
instance (rl : Int) (k : WkV) : Decidable (stepOk rl k) := by unfold stepOk; infer_instance
/-- A tick: the sets' owners, the work, and whether it was a reload. -/
def stepF (L u : List Int) (id rl : Int) (k : WkV) : List Int × WkV × Bool :=
  if stepOk rl k then
    if 0 < k.debt then (L, ⟨k.done, k.dem, k.debt - 1, IntKind.i64.wrap (k.rel + 1), k.seen⟩, true)
    else if goneB L u id rl k.done k.seen then (useL L (accI u k.done) id, ⟨k.done, k.dem, rl - 1, IntKind.i64.wrap (k.rel + 1), k.seen⟩, true)
    else if accB u k.done then (useL L (accI u k.done) id, ⟨k.done + 1, k.dem, 0, k.rel, withW k.seen (accI u k.done)⟩, false)
    else (L, ⟨k.done + 1, k.dem, 0, k.rel, k.seen⟩, false)
  else (L, k, false)
theorem step_f (p g : Nat) (L : List Int) (r : RT) (rl : Int) (k : WkV) (w : World) (hC : IsC w p g L) (hr : r.Rd w) (hX : Ws k.seen) (hid : ownB r.x.id = true) (hm : accB r.x.use k.done = true → mayB L (accI r.x.use k.done) = true)
    (hb : k.dem ≤ 9223372036854775807) (hc : k.debt ≤ 9223372036854775807) :
    Calls Try.prog 20 #[.pointer (some ⟨p, 0, none⟩), .agg r.vals, .int .i64 rl, .agg k.cells] w fun z w' =>
      z = .returned (.tuple #[.agg (stepF L r.x.use r.x.id rl k).2.1.cells, .bool (stepF L r.x.use r.x.id rl k).2.2]) ∧ IsC w' p g (stepF L r.x.use r.x.id rl k).1 ∧ Only g w w' := by
  unfold RT.vals taskCells WkV.cells
  by_cases ho : stepOk rl k
  · obtain ⟨h0, h1, h2, h3, h4⟩ := ho
    refine step_yes p g L r rl k.done k.dem k.debt k.rel k.seen w hC hr hX hid hm h0 h1 h2 h3 h4 hb hc _ rfl _ ?_ ?_ ?_ ?_
    · intro hd w' h5 h6
      have e : stepF L r.x.use r.x.id rl k = (L, ⟨k.done, k.dem, k.debt - 1, IntKind.i64.wrap (k.rel + 1), k.seen⟩, true) := by
        unfold stepF; rw [if_pos ⟨h0, h1, h2, h3, h4⟩, if_pos hd]
      rw [e]; exact ⟨rfl, h5, h6⟩
    · intro hd hg w' h5 h6
      have e : stepF L r.x.use r.x.id rl k = (useL L (accI r.x.use k.done) r.x.id, ⟨k.done, k.dem, rl - 1, IntKind.i64.wrap (k.rel + 1), k.seen⟩, true) := by
        unfold stepF; rw [if_pos ⟨h0, h1, h2, h3, h4⟩, if_neg (by omega), if_pos hg]
      rw [e]; exact ⟨rfl, h5, h6⟩
    · intro hd hg hu w' h5 h6
      have e : stepF L r.x.use r.x.id rl k = (useL L (accI r.x.use k.done) r.x.id, ⟨k.done + 1, k.dem, 0, k.rel, withW k.seen (accI r.x.use k.done)⟩, false) := by
        unfold stepF; rw [if_pos ⟨h0, h1, h2, h3, h4⟩, if_neg (by omega), if_neg (by rw [hg]; decide), if_pos hu]
      rw [e]; exact ⟨rfl, h5, h6⟩
    · intro hd hu w' h5 h6
      have e : stepF L r.x.use r.x.id rl k = (L, ⟨k.done + 1, k.dem, 0, k.rel, k.seen⟩, false) := by
        have hg : goneB L r.x.use r.x.id rl k.done k.seen = false := by simp [goneB, hu]
        unfold stepF; rw [if_pos ⟨h0, h1, h2, h3, h4⟩, if_neg (by omega), if_neg (by rw [hg]; decide), if_neg (by rw [hu]; decide)]
      rw [e]; exact ⟨rfl, h5, h6⟩
  · have e : stepF L r.x.use r.x.id rl k = (L, k, false) := by unfold stepF; rw [if_neg ho]
    rw [e]
    exact step_not p g L r rl k.done k.dem k.debt k.rel k.seen w hC hid ho
theorem stepF_len (L u : List Int) (id rl : Int) (k : WkV) : (stepF L u id rl k).1.length = L.length := by
  unfold stepF
  repeat' split
  all_goals first | rfl | exact useL_len _ _ _
theorem stepF_ws {L u : List Int} {id rl : Int} {k : WkV} (h : Ws k.seen) : Ws (stepF L u id rl k).2.1.seen := by
  unfold stepF
  repeat' split
  all_goals first | exact h | exact h.or (Ws.one _)
/-- A job's work, as the laws have it. -/
structure WOk (R : Int) (m : Int) (k : WkV) : Prop where
  d0 : 0 ≤ k.done
  dm : k.done ≤ k.dem
  m24 : k.dem ≤ 24
  b0 : 0 ≤ k.debt
  bR : k.debt ≤ R
  r0 : 0 ≤ k.rel
  rm : k.rel ≤ m
  ws : Ws k.seen
/-- A tick is a reload, or a piece of work. -/
theorem tick_parts {L u : List Int} {id R m : Int} {k : WkV} (h : WOk R m k) (hlt : k.done < k.dem) (hR0 : 0 ≤ R) (hR3 : R ≤ 3) (hm : m ≤ 1000) :
    ∃ L' x fl, stepF L u id R k = (L', x, fl) ∧ L'.length = L.length ∧ WOk R (m + 1) x ∧ x.dem = k.dem ∧
      ((fl = false ∧ x.done = k.done + 1 ∧ x.rel = k.rel ∧ x.debt = 0) ∨ (fl = true ∧ x.done = k.done ∧ x.rel = k.rel + 1 ∧ 0 < R ∧ ((0 < k.debt ∧ x.debt = k.debt - 1) ∨ k.debt = 0))) := by
  obtain ⟨d0, dm, m24, b0, bR, r0, rm, ws⟩ := h
  have hw : IntKind.i64.wrap (k.rel + 1) = k.rel + 1 := by rw [IntKind.wrap_i64]; omega
  have hl := stepF_len L u id R k
  have hs := stepF_ws (L := L) (u := u) (id := id) (rl := R) ws
  have hok : stepOk R k := ⟨d0, hlt, b0, hR0, by omega⟩
  unfold stepF at *
  rw [if_pos hok] at *
  by_cases hd : 0 < k.debt
  · rw [if_pos hd] at *
    refine ⟨_, _, _, rfl, hl, ⟨d0, by show k.done ≤ k.dem; omega, m24, by show 0 ≤ k.debt - 1; omega, by show k.debt - 1 ≤ R; omega, by show 0 ≤ IntKind.i64.wrap _; omega, by show IntKind.i64.wrap _ ≤ _; omega, hs⟩, rfl, .inr ⟨rfl, rfl, hw, by omega, .inl ⟨hd, rfl⟩⟩⟩
  · rw [if_neg hd] at *
    by_cases hg : goneB L u id R k.done k.seen = true
    · rw [if_pos hg] at *
      have hRp : 0 < R := by
        unfold goneB at hg
        simp at hg
        omega
      refine ⟨_, _, _, rfl, hl, ⟨d0, by show k.done ≤ k.dem; omega, m24, by show 0 ≤ R - 1; omega, by show R - 1 ≤ R; omega, by show 0 ≤ IntKind.i64.wrap _; omega, by show IntKind.i64.wrap _ ≤ _; omega, hs⟩, rfl, .inr ⟨rfl, rfl, hw, hRp, .inr (by omega)⟩⟩
    · rw [if_neg hg] at *
      by_cases hu : accB u k.done = true
      · rw [if_pos hu] at *
        exact ⟨_, _, _, rfl, hl, ⟨by show 0 ≤ k.done + 1; omega, by show k.done + 1 ≤ k.dem; omega, m24, Int.le_refl _, hR0, r0, by show k.rel ≤ _; omega, hs⟩, rfl, .inl ⟨rfl, rfl, rfl, rfl⟩⟩
      · rw [if_neg hu] at *
        exact ⟨_, _, _, rfl, hl, ⟨by show 0 ≤ k.done + 1; omega, by show k.done + 1 ≤ k.dem; omega, m24, Int.le_refl _, hR0, r0, by show k.rel ≤ _; omega, hs⟩, rfl, .inl ⟨rfl, rfl, rfl, rfl⟩⟩
end Go.Proofs.Ytdmfdgadhobkpaa.Cache
