/-
  A cache and jobs' work beside it.
-/
import Derived.Test.YtjilplfcmkipfaaStepF
import Derived.Test.YtjilplfcmkipfaaMade
import Derived.Test.YtjilplfcmkipfaaAggs
import Derived.Deep.MidRow
namespace Go.Proofs.Ytjilplfcmkipfaa.Cache
open Go.RowKit Go.Shelf Go.Proofs.Ytjilplfcmkipfaa.Bits Go.Proofs.Ytjilplfcmkipfaa.Sys Go.Proofs.Ytjilplfcmkipfaa.Box

theorem own_small {r : RT} {i : Nat} {S : Int} (h : TOk i S r.x) (hi : i < 6) : ownB r.x.id = true := by
  have := h.id
  unfold ownB
  exact decide_eq_true (by omega)
theorem may_of {x : TaskV} {i S : Nat} {L : List Int} (h : TOk i (S : Int) x) (hL : L.length = S) (a : Int) (ha : accB x.use a = true) : mayB L (accI x.use a) = true := by
  have h2 := of_decide_eq_true ha
  have hl : 0 < x.use.length := List.length_pos_iff.2 h2.1
  have m0 := Int.emod_nonneg a (show (x.use.length : Int) ≠ 0 by omega)
  have m1 := Int.emod_lt_of_pos a (show (0 : Int) < (x.use.length : Int) by omega)
  have hlt : (a % (x.use.length : Int)).toNat < x.use.length := by omega
  unfold accI
  rw [if_pos ha]
  have hm := h.us (x.use.getD (a % (x.use.length : Int)).toNat 0) (by rw [List.getD_eq_getElem?_getD, List.getElem?_eq_getElem hlt]; exact List.getElem_mem _)
  unfold mayB
  exact decide_eq_true (by omega)
def zeroW : WkV := ⟨0, 0, 0, 0, noneW⟩
theorem zeroW_ok (R m : Int) (hR : 0 ≤ R) (hm : 0 ≤ m) : WOk R m zeroW := ⟨Int.le_refl _, Int.le_refl _, by decide, Int.le_refl _, hR, Int.le_refl _, hm, Ws.none⟩
theorem putK_own (B : Nat) (w : World) {b : Nat} (hb : B ≤ b) (o : Nat) (v0 v1 v2 v3 v4 v5 v6 v7 : Value) : Own1 B w (w.setCells b o [v0, v1, v2, v3, v4, v5, v6, v7]) :=
  (((((((Own1.put B w hb _ _).trans (Own1.put B _ hb _ _)).trans (Own1.put B _ hb _ _)).trans (Own1.put B _ hb _ _)).trans (Own1.put B _ hb _ _)).trans (Own1.put B _ hb _ _)).trans (Own1.put B _ hb _ _)).trans (Own1.put B _ hb _ _)
/-- So many jobs' work in memory. -/
structure Jobs (w : World) (b N : Nat) (u : Nat → WkV) : Prop where
  at_ : ∀ k, k < N → w.rangeAt b (k * 8) (u k).cells.toList
  th : ∀ k, k < N → w.there b (k * 8) 8
theorem cells_len (x : WkV) : x.cells.toList.length = 8 := rfl
theorem Jobs.cell {w : World} {b N : Nat} {u : Nat → WkV} (h : Jobs w b N u) (k : Nat) (hk : k < N) :
    w.cell? ⟨b, k * 8, none⟩ = some (.int .i64 (u k).done) ∧ w.cell? ⟨b, k * 8 + 1, none⟩ = some (.int .i64 (u k).dem) ∧ w.cell? ⟨b, k * 8 + 2, none⟩ = some (.int .i64 (u k).debt) ∧ w.cell? ⟨b, k * 8 + 3, none⟩ = some (.int .i64 (u k).rel) ∧
    w.cell? ⟨b, k * 8 + 4, none⟩ = some (.int .u64 ((u k).seen 0 : Int)) ∧ w.cell? ⟨b, k * 8 + 5, none⟩ = some (.int .u64 ((u k).seen 1 : Int)) ∧ w.cell? ⟨b, k * 8 + 6, none⟩ = some (.int .u64 ((u k).seen 2 : Int)) ∧ w.cell? ⟨b, k * 8 + 7, none⟩ = some (.int .u64 ((u k).seen 3 : Int)) := by
  have ha := h.at_ k hk
  exact ⟨ha 0 _ rfl, ha 1 _ rfl, ha 2 _ rfl, ha 3 _ rfl, ha 4 _ rfl, ha 5 _ rfl, ha 6 _ rfl, ha 7 _ rfl⟩
theorem Jobs.free {w : World} {b N : Nat} {u : Nat → WkV} (h : Jobs w b N u) (k : Nat) (hk : k < N) :
    w.frozen? ⟨b, k * 8, none⟩ = false ∧ w.frozen? ⟨b, k * 8 + 1, none⟩ = false ∧ w.frozen? ⟨b, k * 8 + 2, none⟩ = false ∧ w.frozen? ⟨b, k * 8 + 3, none⟩ = false ∧ w.frozen? ⟨b, k * 8 + 4, none⟩ = false ∧ w.frozen? ⟨b, k * 8 + 5, none⟩ = false ∧ w.frozen? ⟨b, k * 8 + 6, none⟩ = false ∧ w.frozen? ⟨b, k * 8 + 7, none⟩ = false := by
  have ha := h.th k hk
  exact ⟨(ha 0 (by decide)).2, (ha 1 (by decide)).2, (ha 2 (by decide)).2, (ha 3 (by decide)).2, (ha 4 (by decide)).2, (ha 5 (by decide)).2, (ha 6 (by decide)).2, (ha 7 (by decide)).2⟩
def setJ (u : Nat → WkV) (k : Nat) (x : WkV) : Nat → WkV := fun j => if j = k then x else u j
theorem Jobs.set {w : World} {b N : Nat} {u : Nat → WkV} (h : Jobs w b N u) (k : Nat) (hk : k < N) (x : WkV) : Jobs (w.setCells b (k * 8) x.cells.toList) b N (setJ u k x) := by
  refine ⟨fun j hj => ?_, fun j hj => World.there_setCells (h.th j hj) b (k * 8) _⟩
  unfold setJ
  by_cases e : j = k
  · rw [if_pos e, e]
    exact World.rangeAt_setCells_same w b (k * 8) _ (h.th k hk)
  · rw [if_neg e]
    refine World.rangeAt_setCells_apart (h.at_ j hj) b (k * 8) _ (.inr ?_)
    rw [cells_len, cells_len]
    omega
theorem Jobs.kept {w w' : World} {b N : Nat} {u : Nat → WkV} (h : Jobs w b N u) (hb : w'.heap[b]? = w.heap[b]?) : Jobs w' b N u :=
  ⟨fun k hk j v hv => (World.cell?_of_block (a := ⟨b, k * 8 + j, none⟩) hb).trans (h.at_ k hk j v hv), fun k hk j hj => by
    have h1 := h.th k hk j hj
    rw [World.cell?_of_block (a := ⟨b, k * 8 + j, none⟩) hb, World.frozen?_of_block (a := ⟨b, k * 8 + j, none⟩) hb]
    exact h1⟩
theorem jobs2 {w : World} {b : Nat} {T : TypeId} (h : w.heap[b]? = some (.cells #[.int .i64 0, .int .i64 0, .int .i64 0, .int .i64 0, .int .u64 0, .int .u64 0, .int .u64 0, .int .u64 0, .int .i64 0, .int .i64 0, .int .i64 0, .int .i64 0, .int .u64 0, .int .u64 0, .int .u64 0, .int .u64 0] T (0, 0))) : Jobs w b 2 fun _ => zeroW := by
  have hf : ∀ j, w.frozen? ⟨b, j, none⟩ = false := fun j => by simp [World.frozen?, h]
  have hc : ∀ k, k < 2 → ∀ j v, (zeroW.cells.toList)[j]? = some v → w.cell? ⟨b, k * 8 + j, none⟩ = some v := fun k hk j v hv => by
    have hj : j < 8 := (List.getElem?_eq_some_iff.1 hv).1
    match k, hk, j, hj with
    | 0, _, 0, _ | 0, _, 1, _ | 0, _, 2, _ | 0, _, 3, _ | 0, _, 4, _ | 0, _, 5, _ | 0, _, 6, _ | 0, _, 7, _ => simpa [World.cell?, h, WkV.cells, zeroW, noneW] using hv
    | 1, _, 0, _ | 1, _, 1, _ | 1, _, 2, _ | 1, _, 3, _ | 1, _, 4, _ | 1, _, 5, _ | 1, _, 6, _ | 1, _, 7, _ => simpa [World.cell?, h, WkV.cells, zeroW, noneW] using hv
  refine ⟨fun k hk j v hv => hc k hk j v hv, fun k hk j hj => ⟨?_, hf _⟩⟩
  rw [hc k hk j (zeroW.cells.toList[j]'(by rw [cells_len]; exact hj)) (List.getElem?_eq_getElem _)]
  rfl
/-- A cache and jobs' work, made behind W3. -/
structure Tk (W3 : World) (p g b N : Nat) (w : World) (L : List Int) (u : Nat → WkV) : Prop where
  ic : IsC w p g L
  jb : Jobs w b N u
  bl : b < w.heap.size
  bw : Below W3.heap.size W3 w
  pb : p ≠ b
  gb : g ≠ b
  pl : W3.heap.size ≤ p
  gl : W3.heap.size ≤ g
  bl3 : W3.heap.size ≤ b
theorem Tk.below {W3 : World} {p g b N : Nat} {w w1 : World} {L : List Int} {u : Nat → WkV} (h : Tk W3 p g b N w L u) (hb : Below w.heap.size w w1) : Tk W3 p g b N w1 L u :=
  { h with ic := h.ic.below hb (Nat.le_refl _), jb := h.jb.kept (hb.block _ h.bl), bl := Nat.lt_of_lt_of_le h.bl hb.size, bw := h.bw.trans (hb.mono h.bw.size) }
theorem Tk.drewN {W3 : World} {p g b N : Nat} {w : World} {L : List Int} {u : Nat → WkV} (h : Tk W3 p g b N w L u) (n : Nat) : Tk W3 p g b N (w.drewN n) L u := h.below (below_dnS (Below.refl _ w) n)
theorem Tk.drew {W3 : World} {p g b N : Nat} {w : World} {L : List Int} {u : Nat → WkV} (h : Tk W3 p g b N w L u) : Tk W3 p g b N w.drew L u := h.below (Below.refl _ w).drew
theorem Tk.step {W3 : World} {p g b N : Nat} {w w1 : World} {L L' : List Int} {u : Nat → WkV} (h : Tk W3 p g b N w L u) (hc : IsC w1 p g L') (ho : Only g w w1) : Tk W3 p g b N w1 L' u :=
  { h with ic := hc, jb := h.jb.kept (ho.block _ h.bl (Ne.symm h.gb)), bl := Nat.lt_of_lt_of_le h.bl ho.size, bw := h.bw.trans (ho.below h.gl h.bw.size) }
theorem Tk.set {W3 : World} {p g b N : Nat} {w : World} {L : List Int} {u : Nat → WkV} (h : Tk W3 p g b N w L u) (k : Nat) (hk : k < N) (x : WkV) : Tk W3 p g b N (w.setCells b (k * 8) x.cells.toList) L (setJ u k x) := by
  have ho : Own1 b w (w.setCells b (k * 8) x.cells.toList) := putK_own b w (Nat.le_refl _) (k * 8) _ _ _ _ _ _ _ _
  have hx : ∀ j, j ≠ b → (w.setCells b (k * 8) x.cells.toList).heap[j]? = w.heap[j]? := fun j hj => by
    show (((((((((w.setCell _ _).setCell _ _).setCell _ _).setCell _ _).setCell _ _).setCell _ _).setCell _ _).setCell _ _)).heap[j]? = _
    iterate 8 rw [Below.heap_setCell _ _ _ _ (by simpa using hj)]
  exact { h with ic := h.ic.kept (hx _ h.pb) (hx _ h.gb), jb := h.jb.set k hk x, bl := by rw [ho.size]; exact h.bl, bw := ⟨ho.os.trans h.bw.os, ho.tape.trans h.bw.tape, ho.output.trans h.bw.output, by rw [ho.size]; exact h.bw.size, fun j hj => (hx j (by have := h.bl3; omega)).trans (h.bw.block j hj)⟩ }
theorem Tk.own {W3 : World} {p g b N : Nat} {w : World} {L : List Int} {u : Nat → WkV} (h : Tk W3 p g b N w L u) {xb : Nat} (hx : W3.heap.size ≤ xb) (hp : xb ≠ p) (hg : xb ≠ g) (hb : xb ≠ b) (v0 v1 v2 v3 v4 v5 v6 v7 : Value) : Tk W3 p g b N (putW w xb v0 v1 v2 v3 v4 v5 v6 v7) L u := by
  have ho : Own1 xb w (putW w xb v0 v1 v2 v3 v4 v5 v6 v7) := Own1.putW xb w (Nat.le_refl _) _ _ _ _ _ _ _ _
  have hk : ∀ j, j ≠ xb → (putW w xb v0 v1 v2 v3 v4 v5 v6 v7).heap[j]? = w.heap[j]? := fun j hj => putW_other w xb j hj _ _ _ _ _ _ _ _
  exact { h with ic := h.ic.kept (hk _ (Ne.symm hp)) (hk _ (Ne.symm hg)), jb := h.jb.kept (hk _ (Ne.symm hb)), bl := by rw [ho.size]; exact h.bl, bw := ⟨ho.os.trans h.bw.os, ho.tape.trans h.bw.tape, ho.output.trans h.bw.output, by rw [ho.size]; exact h.bw.size, fun j hj => (hk j (by omega)).trans (h.bw.block j hj)⟩ }
theorem calm_app {P : Program} {ops : Array Oper} {B : Nat} {W : World} {Q : Act → World → Prop} {l : List Oper} {k : Nat} {Ks : List Calm.Kind} {F : List (Nat × (World → Prop))} {a : Act} (h : Calm.Calm P ops B W Q l k Ks F a) : Calm.Calm P ops B W Q (List.append [] l) k Ks F a := h
theorem wf_u64 {a : Int} (h : (Lit.int .u64 a).wf = true) : 0 ≤ a ∧ a < 18446744073709551616 := by
  have := h
  simp [Lit.wf, IntKind.min, IntKind.max, IntKind.signed, IntKind.bits] at this
  omega
theorem bit_01 {a : Int} (h : (Lit.int .u64 a).wf = true) (i : Nat) : ∃ kb : Nat, Go.bits .and .u64 (a / 2 ^ i) 1 = (kb : Int) ∧ kb < 2 := by
  have hr := wf_u64 h
  obtain ⟨m, rfl⟩ : ∃ m : Nat, a = (m : Int) := ⟨a.toNat, by omega⟩
  have e : (m : Int) / 2 ^ i = ((m / 2 ^ i : Nat) : Int) := by push_cast; rfl
  have hlt : m / 2 ^ i < 18446744073709551616 := Nat.lt_of_le_of_lt (Nat.div_le_self _ _) (by omega)
  have := and_u64 (m / 2 ^ i) 1 hlt (by decide)
  refine ⟨(m / 2 ^ i) &&& 1, ?_, by rw [Nat.and_one_is_mod]; omega⟩
  rw [e]
  exact this
theorem WOk.mono {R m m' : Int} {k : WkV} (h : WOk R m k) (hm : m ≤ m') : WOk R m' k := { h with rm := Int.le_trans h.rm hm }
end Go.Proofs.Ytjilplfcmkipfaa.Cache
