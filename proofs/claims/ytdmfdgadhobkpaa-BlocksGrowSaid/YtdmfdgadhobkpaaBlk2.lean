/-
  Package blocks: may, what a round of put does, the iterator made.
-/
import Derived.Test.YtdmfdgadhobkpaaBlk1
import Derived.Test.YtdmfdgadhobkpaaBits15
import Derived.Test.YtdmfdgadhobkpaaRef5
namespace Go.Proofs.Ytdmfdgadhobkpaa.Blk
open Go.RowKit Go.Shelf Go.Proofs.Ytdmfdgadhobkpaa.Sys Go.Proofs.Ytdmfdgadhobkpaa.Box Go.Proofs.Ytdmfdgadhobkpaa.RangeW Go.Proofs.Ytdmfdgadhobkpaa.Bits
attribute [local go_sem] Oper.semAt_some

/-- All other blocks but b. -/
structure But (b : Nat) (w w' : World) : Prop where
  os : w'.os = w.os
  tape : w'.tape = w.tape
  output : w'.output = w.output
  size : w.heap.size ≤ w'.heap.size
  block : ∀ k, k < w.heap.size → k ≠ b → w'.heap[k]? = w.heap[k]?
theorem But.keeps {b B : Nat} {w w' : World} (h : But b w w') {vs : Array Value} {t : TypeId} (hb : w.heap[b]? = some (.cells vs t (0, 0))) : KeepsFrom B w w' :=
  ⟨h.size, fun k o _ hk ho => (h.block k (Array.getElem?_eq_some_iff.1 hk).1 (fun e => by subst e; rw [hb] at hk; cases hk; cases ho)).trans hk⟩
theorem But.below {b B : Nat} {w w' : World} (h : But b w w') (hB : B ≤ b) (hs : B ≤ w.heap.size) : Below B w w' := ⟨h.os, h.tape, h.output, h.size, fun k hk => h.block k (by omega) (by omega)⟩
theorem But.kpb {b n₀ Bt Bf Bk : Nat} {w w' : World} (h : But b w w') (hn : n₀ ≤ b) (hs : n₀ ≤ w.heap.size) (ht : Bt < w.heap.size) (hf : Bf < w.heap.size) (hk : Bk < w.heap.size) (h1 : Bt ≠ b) (h2 : Bf ≠ b) (h3 : Bk ≠ b) : KpB n₀ Bt Bf Bk w w' :=
  ⟨h.below hn hs, h.block _ ht h1, h.block _ hf h2, h.block _ hk h3⟩
set_option maxHeartbeats 4000000 in
set_option maxRecDepth 100000 in
theorem put1_any (x : Int) (b : Nat) (X : Nat → Nat) (hX : Ws X) (w : World) (hb : w.heap[b]? = some (.cells (rowc (iw X)) 32 (0, 0))) :
    Calls Try.prog 45 #[.int .i64 x, .pointer (some ⟨b, 0, none⟩)] w fun e w' => (∃ v, e = .returned v) ∧ w'.heap[b]? = some (.cells (rowc (iw (withW X x))) 32 (0, 0)) ∧ But b w w' := by
  obtain ⟨a0, a1, a2, a3⟩ := c4 hb
  have hW := with_n hX x w
  obtain ⟨Y, hY⟩ : ∃ Y, withW X x = Y := ⟨_, rfl⟩
  rw [hY] at hW ⊢
  simp only [bvl] at hW
  have HBK := Lib.hid hb
  clear hb hY
  go_enter Try.func45, Try.ntmps45
  go_wp2_with fail
  refine hW.mono ?_
  rintro e w2 ⟨rfl, hb2⟩
  have n2 := old4 HBK.out hb2 (lt4 HBK.out)
  have hlt := lt4 HBK.out
  have k0 := frozen_row n2 0
  have k1 := frozen_row n2 1
  have k2 := frozen_row n2 2
  have k3 := frozen_row n2 3
  obtain ⟨e0, e1, e2, e3⟩ := c4 n2
  have hw := set4 n2 (iw Y)
  simp only [iw] at hw
  have HQ : Hid (But b w ((((w2.setCell ⟨b, 0, none⟩ (.int .u64 (Y 0 : Int))).setCell ⟨b, 1, none⟩ (.int .u64 (Y 1 : Int))).setCell ⟨b, 2, none⟩ (.int .u64 (Y 2 : Int))).setCell ⟨b, 3, none⟩ (.int .u64 (Y 3 : Int)))) :=
    ⟨hb2.os, hb2.tape, hb2.output, by have := hb2.size; simpa [World.setCell] using this, fun k hk hn => (set4_other w2 b k hn _ _ _ _).trans (hb2.block k hk)⟩
  have HW := Lib.hid hw
  clear hb2 n2 hw hW a0 a1 a2 a3
  go_wp2
  go_end0
  exact ⟨⟨_, rfl⟩, HW.out, HQ.out⟩
/-- Is a task asked for? -/
def mayT (x : TaskV) : Bool := decide (1 ≤ x.c ∧ x.c ≤ 1073741824 ∧ 1 ≤ x.use.length ∧ x.use.length ≤ 64)
set_option maxHeartbeats 4000000 in
set_option maxRecDepth 100000 in
theorem mayT_any (r : RT) (w : World) (h : r.Rd w) :
    Calls Try.prog 30 #[.agg #[.int .i64 r.x.id, .int .i64 r.x.c, .int .i64 r.x.d, .int .i64 r.x.t, .int .i64 r.x.prio, .slice r.ca r.cl r.cc, .slice r.ua r.ul r.uc]] w fun e w' => e = .returned (.bool (mayT r.x)) ∧ Below w.heap.size w w' := by
  have hl := h.2.len
  unfold mayT
  rw [hl]
  have HB : ∀ o, Hid (Below w.heap.size w (w.alloc o)) := fun o => (Below.refl _ w).alloc (Nat.le_refl _) o
  clear h hl
  obtain ⟨x, ca, cl, cc, ua, ul, uc⟩ := r
  obtain ⟨id, c, d, t, p, ch, us⟩ := x
  simp only
  by_cases h1 : 1 ≤ c
  · by_cases h2 : c ≤ 1073741824
    · by_cases h3 : 1 ≤ ul
      · by_cases h4 : ul ≤ 64
        · rw [decide_eq_true (show 1 ≤ c ∧ c ≤ 1073741824 ∧ 1 ≤ ul ∧ ul ≤ 64 from ⟨h1, h2, h3, h4⟩)]
          have g1 : decide (1 ≤ c) = true := decide_eq_true h1
          have g2 : decide (c ≤ 1073741824) = true := decide_eq_true h2
          have g3 : decide ((1 : Int) ≤ (ul : Int)) = true := by simp; omega
          have g4 : decide ((ul : Int) ≤ 64) = true := by simp; omega
          clear h1 h2 h3 h4
          go_enter Try.func30, Try.ntmps30
          go_wp2
          go_ret
          exact ⟨by simp_all, (HB _).out⟩
        · rw [decide_eq_false (show ¬ (1 ≤ c ∧ c ≤ 1073741824 ∧ 1 ≤ ul ∧ ul ≤ 64) from fun h => h4 h.2.2.2)]
          have g1 : decide (1 ≤ c) = true := decide_eq_true h1
          have g2 : decide (c ≤ 1073741824) = true := decide_eq_true h2
          have g3 : decide ((1 : Int) ≤ (ul : Int)) = true := by simp; omega
          have g4 : decide ((ul : Int) ≤ 64) = false := by simp; omega
          have HH := Lib.hid h4
          clear h1 h2 h3 h4
          go_enter Try.func30, Try.ntmps30
          go_wp2
          go_ret
          exact ⟨by have := HH.out; simp_all, (HB _).out⟩
      · rw [decide_eq_false (show ¬ (1 ≤ c ∧ c ≤ 1073741824 ∧ 1 ≤ ul ∧ ul ≤ 64) from fun h => h3 h.2.2.1)]
        have g1 : decide (1 ≤ c) = true := decide_eq_true h1
        have g2 : decide (c ≤ 1073741824) = true := decide_eq_true h2
        obtain rfl : ul = 0 := by omega
        clear h1 h2 h3
        go_enter Try.func30, Try.ntmps30
        go_wp2
        go_ret
        exact ⟨by first | rfl | simp_all, (HB _).out⟩
    · rw [decide_eq_false (show ¬ (1 ≤ c ∧ c ≤ 1073741824 ∧ 1 ≤ ul ∧ ul ≤ 64) from fun h => h2 h.2.1)]
      have g1 : decide (1 ≤ c) = true := decide_eq_true h1
      have g2 : decide (c ≤ 1073741824) = false := decide_eq_false h2
      clear h1 h2
      go_enter Try.func30, Try.ntmps30
      go_wp2
      go_ret
      exact ⟨by first | rfl | simp_all, (HB _).out⟩
  · rw [decide_eq_false (show ¬ (1 ≤ c ∧ c ≤ 1073741824 ∧ 1 ≤ ul ∧ ul ≤ 64) from fun h => h1 h.1)]
    have g1 : decide (1 ≤ c) = false := decide_eq_false h1
    clear h1
    go_enter Try.func30, Try.ntmps30
    go_wp2
    go_ret
    exact ⟨by first | rfl | simp_all, (HB _).out⟩
set_option maxHeartbeats 1000000 in
theorem ticksOf_in (N : Nat) (vs : Array Value) (f t : Int) (x0 x1 x2 x3 x4 x5 x6 : Value) (hvs : vs = #[x0, x1, x2, x3, x4, x5, x6]) (w : World) :
    CallsIn Fence.wide N Try.prog 46 #[.agg vs, .int .i64 f, .int .i64 t] w fun e w' => e = .returned (.func (.func 51) #[] #[.pointer (some ⟨w.heap.size + 1 + 1, 0, none⟩), .pointer (some ⟨w.heap.size + 1, 0, none⟩), .pointer (some ⟨w.heap.size, 0, none⟩)]) ∧
      w' = ((w.alloc (.cells vs 36)).alloc (.cells #[.int .i64 f] 2)).alloc (.cells #[.int .i64 t] 2) := by
  subst hvs
  refine callsIn_of_wp Try.func46 rfl trivial ?_ rfl
  simp only [Try.ntmps46, List.size_toArray, List.length_cons, List.length_nil, Nat.reduceAdd, Nat.reduceSub, Array.replicate_succ, Array.replicate_zero, List.push_toArray, List.append_toArray, List.nil_append, List.cons_append]
  gi_wp2
  go_ret
  exact ⟨rfl, rfl⟩
end Go.Proofs.Ytdmfdgadhobkpaa.Blk
