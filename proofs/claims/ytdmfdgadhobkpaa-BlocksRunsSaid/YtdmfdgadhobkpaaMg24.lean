/-
  Texts of one claim, joined in build order: Tk, Alone, Alone2, RunsP, Runs9.
-/
import Derived.Test.YtdmfdgadhobkpaaMg23
import Derived.Deep.MidRow
/-
  A cache and jobs' work beside it.
-/
namespace Go.Proofs.Ytdmfdgadhobkpaa.Cache
open Go.RowKit Go.Shelf Go.Proofs.Ytdmfdgadhobkpaa.Bits Go.Proofs.Ytdmfdgadhobkpaa.Sys Go.Proofs.Ytdmfdgadhobkpaa.Box

theorem own_small {r : RT} {i : Nat} {S : Int} (h : TOk i S r.x) (hi : i < 6) : ownB r.x.id = true := by
  have := h.id
  unfold ownB
  exact decide_eq_true (by omega)
theorem may_of {x : TaskV} {i S : Nat} {L : List Int} (h : TOk i (S : Int) x) (hL : L.length = S) (a : Int) (ha : accB x.use a = true) : mayB L (accI x.use a) = true := by
  have h2 := of_decide_eq_true ha
  have hl : 0 < x.use.length := List.length_pos_iff.2 h2.1
  have m0 := Int.emod_nonneg a (show (x.use.length : Int) ≠ 0 by omega)
  have m1 := Int.emod_lt_of_pos a (show (0 : Int) < (x.use.length : Int) by omega)
  have hlt : (a % (x.use.length : Int)).toNat < x.use.length := by omega
  unfold accI
  rw [if_pos ha]
  have hm := h.us (x.use.getD (a % (x.use.length : Int)).toNat 0) (by rw [List.getD_eq_getElem?_getD, List.getElem?_eq_getElem hlt]; exact List.getElem_mem _)
  unfold mayB
  exact decide_eq_true (by omega)
def zeroW : WkV := ⟨0, 0, 0, 0, noneW⟩
theorem zeroW_ok (R m : Int) (hR : 0 ≤ R) (hm : 0 ≤ m) : WOk R m zeroW := ⟨Int.le_refl _, Int.le_refl _, by decide, Int.le_refl _, hR, Int.le_refl _, hm, Ws.none⟩
theorem putK_own (B : Nat) (w : World) {b : Nat} (hb : B ≤ b) (o : Nat) (v0 v1 v2 v3 v4 v5 v6 v7 : Value) : Own1 B w (w.setCells b o [v0, v1, v2, v3, v4, v5, v6, v7]) :=
  (((((((Own1.put B w hb _ _).trans (Own1.put B _ hb _ _)).trans (Own1.put B _ hb _ _)).trans (Own1.put B _ hb _ _)).trans (Own1.put B _ hb _ _)).trans (Own1.put B _ hb _ _)).trans (Own1.put B _ hb _ _)).trans (Own1.put B _ hb _ _)
/-- So many jobs' work in memory. -/
structure Jobs (w : World) (b N : Nat) (u : Nat → WkV) : Prop where
  at_ : ∀ k, k < N → w.rangeAt b (k * 8) (u k).cells.toList
  th : ∀ k, k < N → w.there b (k * 8) 8
theorem cells_len (x : WkV) : x.cells.toList.length = 8 := rfl
theorem Jobs.cell {w : World} {b N : Nat} {u : Nat → WkV} (h : Jobs w b N u) (k : Nat) (hk : k < N) :
    w.cell? ⟨b, k * 8, none⟩ = some (.int .i64 (u k).done) ∧ w.cell? ⟨b, k * 8 + 1, none⟩ = some (.int .i64 (u k).dem) ∧ w.cell? ⟨b, k * 8 + 2, none⟩ = some (.int .i64 (u k).debt) ∧ w.cell? ⟨b, k * 8 + 3, none⟩ = some (.int .i64 (u k).rel) ∧
    w.cell? ⟨b, k * 8 + 4, none⟩ = some (.int .u64 ((u k).seen 0 : Int)) ∧ w.cell? ⟨b, k * 8 + 5, none⟩ = some (.int .u64 ((u k).seen 1 : Int)) ∧ w.cell? ⟨b, k * 8 + 6, none⟩ = some (.int .u64 ((u k).seen 2 : Int)) ∧ w.cell? ⟨b, k * 8 + 7, none⟩ = some (.int .u64 ((u k).seen 3 : Int)) := by
  have ha := h.at_ k hk
  exact ⟨ha 0 _ rfl, ha 1 _ rfl, ha 2 _ rfl, ha 3 _ rfl, ha 4 _ rfl, ha 5 _ rfl, ha 6 _ rfl, ha 7 _ rfl⟩
theorem Jobs.free {w : World} {b N : Nat} {u : Nat → WkV} (h : Jobs w b N u) (k : Nat) (hk : k < N) :
    w.frozen? ⟨b, k * 8, none⟩ = false ∧ w.frozen? ⟨b, k * 8 + 1, none⟩ = false ∧ w.frozen? ⟨b, k * 8 + 2, none⟩ = false ∧ w.frozen? ⟨b, k * 8 + 3, none⟩ = false ∧ w.frozen? ⟨b, k * 8 + 4, none⟩ = false ∧ w.frozen? ⟨b, k * 8 + 5, none⟩ = false ∧ w.frozen? ⟨b, k * 8 + 6, none⟩ = false ∧ w.frozen? ⟨b, k * 8 + 7, none⟩ = false := by
  have ha := h.th k hk
  exact ⟨(ha 0 (by decide)).2, (ha 1 (by decide)).2, (ha 2 (by decide)).2, (ha 3 (by decide)).2, (ha 4 (by decide)).2, (ha 5 (by decide)).2, (ha 6 (by decide)).2, (ha 7 (by decide)).2⟩
def setJ (u : Nat → WkV) (k : Nat) (x : WkV) : Nat → WkV := fun j => if j = k then x else u j
theorem Jobs.set {w : World} {b N : Nat} {u : Nat → WkV} (h : Jobs w b N u) (k : Nat) (hk : k < N) (x : WkV) : Jobs (w.setCells b (k * 8) x.cells.toList) b N (setJ u k x) := by
  refine ⟨fun j hj => ?_, fun j hj => World.there_setCells (h.th j hj) b (k * 8) _⟩
  unfold setJ
  by_cases e : j = k
  · rw [if_pos e, e]
    exact World.rangeAt_setCells_same w b (k * 8) _ (h.th k hk)
  · rw [if_neg e]
    refine World.rangeAt_setCells_apart (h.at_ j hj) b (k * 8) _ (.inr ?_)
    rw [cells_len, cells_len]
    omega
theorem Jobs.kept {w w' : World} {b N : Nat} {u : Nat → WkV} (h : Jobs w b N u) (hb : w'.heap[b]? = w.heap[b]?) : Jobs w' b N u :=
  ⟨fun k hk j v hv => (World.cell?_of_block (a := ⟨b, k * 8 + j, none⟩) hb).trans (h.at_ k hk j v hv), fun k hk j hj => by
    have h1 := h.th k hk j hj
    rw [World.cell?_of_block (a := ⟨b, k * 8 + j, none⟩) hb, World.frozen?_of_block (a := ⟨b, k * 8 + j, none⟩) hb]
    exact h1⟩
theorem jobs2 {w : World} {b : Nat} {T : TypeId} (h : w.heap[b]? = some (.cells #[.int .i64 0, .int .i64 0, .int .i64 0, .int .i64 0, .int .u64 0, .int .u64 0, .int .u64 0, .int .u64 0, .int .i64 0, .int .i64 0, .int .i64 0, .int .i64 0, .int .u64 0, .int .u64 0, .int .u64 0, .int .u64 0] T (0, 0))) : Jobs w b 2 fun _ => zeroW := by
  have hf : ∀ j, w.frozen? ⟨b, j, none⟩ = false := fun j => by simp [World.frozen?, h]
  have hc : ∀ k, k < 2 → ∀ j v, (zeroW.cells.toList)[j]? = some v → w.cell? ⟨b, k * 8 + j, none⟩ = some v := fun k hk j v hv => by
    have hj : j < 8 := (List.getElem?_eq_some_iff.1 hv).1
    match k, hk, j, hj with
    | 0, _, 0, _ | 0, _, 1, _ | 0, _, 2, _ | 0, _, 3, _ | 0, _, 4, _ | 0, _, 5, _ | 0, _, 6, _ | 0, _, 7, _ => simpa [World.cell?, h, WkV.cells, zeroW, noneW] using hv
    | 1, _, 0, _ | 1, _, 1, _ | 1, _, 2, _ | 1, _, 3, _ | 1, _, 4, _ | 1, _, 5, _ | 1, _, 6, _ | 1, _, 7, _ => simpa [World.cell?, h, WkV.cells, zeroW, noneW] using hv
  refine ⟨fun k hk j v hv => hc k hk j v hv, fun k hk j hj => ⟨?_, hf _⟩⟩
  rw [hc k hk j (zeroW.cells.toList[j]'(by rw [cells_len]; exact hj)) (List.getElem?_eq_getElem _)]
  rfl
/-- A cache and jobs' work, made behind W3. -/
structure Tk (W3 : World) (p g b N : Nat) (w : World) (L : List Int) (u : Nat → WkV) : Prop where
  ic : IsC w p g L
  jb : Jobs w b N u
  bl : b < w.heap.size
  bw : Below W3.heap.size W3 w
  pb : p ≠ b
  gb : g ≠ b
  pl : W3.heap.size ≤ p
  gl : W3.heap.size ≤ g
  bl3 : W3.heap.size ≤ b
theorem Tk.below {W3 : World} {p g b N : Nat} {w w1 : World} {L : List Int} {u : Nat → WkV} (h : Tk W3 p g b N w L u) (hb : Below w.heap.size w w1) : Tk W3 p g b N w1 L u :=
  { h with ic := h.ic.below hb (Nat.le_refl _), jb := h.jb.kept (hb.block _ h.bl), bl := Nat.lt_of_lt_of_le h.bl hb.size, bw := h.bw.trans (hb.mono h.bw.size) }
theorem Tk.drewN {W3 : World} {p g b N : Nat} {w : World} {L : List Int} {u : Nat → WkV} (h : Tk W3 p g b N w L u) (n : Nat) : Tk W3 p g b N (w.drewN n) L u := h.below (below_dnS (Below.refl _ w) n)
theorem Tk.drew {W3 : World} {p g b N : Nat} {w : World} {L : List Int} {u : Nat → WkV} (h : Tk W3 p g b N w L u) : Tk W3 p g b N w.drew L u := h.below (Below.refl _ w).drew
theorem Tk.step {W3 : World} {p g b N : Nat} {w w1 : World} {L L' : List Int} {u : Nat → WkV} (h : Tk W3 p g b N w L u) (hc : IsC w1 p g L') (ho : Only g w w1) : Tk W3 p g b N w1 L' u :=
  { h with ic := hc, jb := h.jb.kept (ho.block _ h.bl (Ne.symm h.gb)), bl := Nat.lt_of_lt_of_le h.bl ho.size, bw := h.bw.trans (ho.below h.gl h.bw.size) }
theorem Tk.set {W3 : World} {p g b N : Nat} {w : World} {L : List Int} {u : Nat → WkV} (h : Tk W3 p g b N w L u) (k : Nat) (hk : k < N) (x : WkV) : Tk W3 p g b N (w.setCells b (k * 8) x.cells.toList) L (setJ u k x) := by
  have ho : Own1 b w (w.setCells b (k * 8) x.cells.toList) := putK_own b w (Nat.le_refl _) (k * 8) _ _ _ _ _ _ _ _
  have hx : ∀ j, j ≠ b → (w.setCells b (k * 8) x.cells.toList).heap[j]? = w.heap[j]? := fun j hj => by
    show (((((((((w.setCell _ _).setCell _ _).setCell _ _).setCell _ _).setCell _ _).setCell _ _).setCell _ _).setCell _ _)).heap[j]? = _
    iterate 8 rw [Below.heap_setCell _ _ _ _ (by simpa using hj)]
  exact { h with ic := h.ic.kept (hx _ h.pb) (hx _ h.gb), jb := h.jb.set k hk x, bl := by rw [ho.size]; exact h.bl, bw := ⟨ho.os.trans h.bw.os, ho.tape.trans h.bw.tape, ho.output.trans h.bw.output, by rw [ho.size]; exact h.bw.size, fun j hj => (hx j (by have := h.bl3; omega)).trans (h.bw.block j hj)⟩ }
theorem Tk.own {W3 : World} {p g b N : Nat} {w : World} {L : List Int} {u : Nat → WkV} (h : Tk W3 p g b N w L u) {xb : Nat} (hx : W3.heap.size ≤ xb) (hp : xb ≠ p) (hg : xb ≠ g) (hb : xb ≠ b) (v0 v1 v2 v3 v4 v5 v6 v7 : Value) : Tk W3 p g b N (putW w xb v0 v1 v2 v3 v4 v5 v6 v7) L u := by
  have ho : Own1 xb w (putW w xb v0 v1 v2 v3 v4 v5 v6 v7) := Own1.putW xb w (Nat.le_refl _) _ _ _ _ _ _ _ _
  have hk : ∀ j, j ≠ xb → (putW w xb v0 v1 v2 v3 v4 v5 v6 v7).heap[j]? = w.heap[j]? := fun j hj => putW_other w xb j hj _ _ _ _ _ _ _ _
  exact { h with ic := h.ic.kept (hk _ (Ne.symm hp)) (hk _ (Ne.symm hg)), jb := h.jb.kept (hk _ (Ne.symm hb)), bl := by rw [ho.size]; exact h.bl, bw := ⟨ho.os.trans h.bw.os, ho.tape.trans h.bw.tape, ho.output.trans h.bw.output, by rw [ho.size]; exact h.bw.size, fun j hj => (hk j (by omega)).trans (h.bw.block j hj)⟩ }
theorem calm_app {P : Program} {ops : Array Oper} {B : Nat} {W : World} {Q : Act → World → Prop} {l : List Oper} {k : Nat} {Ks : List Calm.Kind} {F : List (Nat × (World → Prop))} {a : Act} (h : Calm.Calm P ops B W Q l k Ks F a) : Calm.Calm P ops B W Q (List.append [] l) k Ks F a := h
theorem wf_u64 {a : Int} (h : (Lit.int .u64 a).wf = true) : 0 ≤ a ∧ a < 18446744073709551616 := by
  have := h
  simp [Lit.wf, IntKind.min, IntKind.max, IntKind.signed, IntKind.bits] at this
  omega
theorem bit_01 {a : Int} (h : (Lit.int .u64 a).wf = true) (i : Nat) : ∃ kb : Nat, Go.bits .and .u64 (a / 2 ^ i) 1 = (kb : Int) ∧ kb < 2 := by
  have hr := wf_u64 h
  obtain ⟨m, rfl⟩ : ∃ m : Nat, a = (m : Int) := ⟨a.toNat, by omega⟩
  have e : (m : Int) / 2 ^ i = ((m / 2 ^ i : Nat) : Int) := by push_cast; rfl
  have hlt : m / 2 ^ i < 18446744073709551616 := Nat.lt_of_le_of_lt (Nat.div_le_self _ _) (by omega)
  have := and_u64 (m / 2 ^ i) 1 hlt (by decide)
  refine ⟨(m / 2 ^ i) &&& 1, ?_, by rw [Nat.and_one_is_mod]; omega⟩
  rw [e]
  exact this
theorem WOk.mono {R m m' : Int} {k : WkV} (h : WOk R m k) (hm : m ≤ m') : WOk R m' k := { h with rm := Int.le_trans h.rm hm }
end Go.Proofs.Ytdmfdgadhobkpaa.Cache

/-
  The statement CacheAlone: plain.
-/
namespace Go.Proofs.Ytdmfdgadhobkpaa.Cache
open Go.RowKit Go.Shelf Go.Proofs.Ytdmfdgadhobkpaa.Bits Go.Proofs.Ytdmfdgadhobkpaa.Sys Go.Proofs.Ytdmfdgadhobkpaa.Box

/-- Whatever a job has used is its own. -/
structure Alone (L : List Int) (id : Int) (X : Nat → Nat) : Prop where
  ws : Ws X
  own : ∀ i, i < 256 → hasN X i = true → i < L.length ∧ L.getD i 0 = id
theorem Alone.none (L : List Int) (id : Int) : Alone L id noneW := ⟨Ws.none, fun i _ h => by rw [has_none] at h; cases h⟩
theorem Alone.gone {L u : List Int} {id rl a : Int} {X : Nat → Nat} (h : Alone L id X) : goneB L u id rl a X = false := by
  unfold goneB
  cases hh : hasI X (accI u a) with
  | false => simp
  | true =>
    have h0 : 0 ≤ accI u a ∧ accI u a < 256 := by
      unfold hasI at hh
      split at hh
      · assumption
      · cases hh
    unfold hasI at hh
    rw [if_pos h0] at hh
    obtain ⟨h1, h2⟩ := h.own _ (by omega) hh
    have hm : mayB L (accI u a) = true := decide_eq_true (by omega)
    have : ownerI L (accI u a) = id := by unfold ownerI; rw [if_pos hm]; exact h2
    rw [this]
    simp
theorem Alone.use {L : List Int} {id : Int} {X : Nat → Nat} (h : Alone L id X) (set : Int) (hm : mayB L set = true) (ho : ownB id = true) : Alone (useL L set id) id (withW X set) := by
  have hs := of_decide_eq_true hm
  have e : useL L set id = L.set set.toNat id := by unfold useL; rw [hm, ho]; rfl
  refine ⟨h.ws.or (Ws.one _), fun i hi hh => ?_⟩
  rw [has_with _ _ _ hi, Bool.or_eq_true, decide_eq_true_iff] at hh
  rw [e, List.length_set]
  by_cases es : set.toNat = i
  · subst es
    have hl : set.toNat < L.length := by omega
    exact ⟨hl, by simp [List.getD_eq_getElem?_getD, hl]⟩
  · rcases hh with hh | hh
    · obtain ⟨h1, h2⟩ := h.own i hi hh
      exact ⟨h1, by simpa [List.getD_eq_getElem?_getD, List.getElem?_set_ne es] using h2⟩
    · omega
/-- A tick of a job that runs alone. -/
theorem alone_tick {L u : List Int} {id R dn dm : Int} {X : Nat → Nat} (h : Alone L id X) (hm : accB u dn = true → mayB L (accI u dn) = true) (ho : ownB id = true) (h0 : 0 ≤ dn) (h1 : dn < dm) (hR0 : 0 ≤ R) (hR3 : R ≤ 3) :
    ∃ L' X', stepF L u id R ⟨dn, dm, 0, 0, X⟩ = (L', ⟨dn + 1, dm, 0, 0, X'⟩, false) ∧ Alone L' id X' ∧ L'.length = L.length := by
  have hok : stepOk R ⟨dn, dm, 0, 0, X⟩ := ⟨h0, h1, Int.le_refl _, hR0, by omega⟩
  unfold stepF
  rw [if_pos hok, if_neg (show ¬ (0 : Int) < 0 by decide), if_neg (by show ¬ goneB L u id R dn X = true; rw [h.gone]; decide)]
  by_cases hu : accB u dn = true
  · rw [if_pos hu]
    exact ⟨_, _, rfl, h.use _ (hm hu) ho, useL_len _ _ _⟩
  · rw [if_neg hu]
    exact ⟨_, _, rfl, h, rfl⟩
theorem alone_end (L u : List Int) (id R dm : Int) (X : Nat → Nat) : stepF L u id R ⟨dm, dm, 0, 0, X⟩ = (L, ⟨dm, dm, 0, 0, X⟩, false) := by
  unfold stepF
  rw [if_neg (fun h => by have := h.2.1; simp at this)]
theorem alone_and {L : List Int} {id : Int} {X : Nat → Nat} (h : Alone L id X) (h1 : 1 ≤ id) (h2 : id ≤ 99) : eqN (andW X (ofN (ofL L id))) X = true := eqN_ext h.ws.and h.ws fun m hm => by
  rw [has_and, has_of L id h1 h2 m hm]
  cases hh : hasN X m with
  | false => rfl
  | true =>
    obtain ⟨h3, h4⟩ := h.own m hm hh
    rw [h4]
    simp [h3]
end Go.Proofs.Ytdmfdgadhobkpaa.Cache

/-
  The statement CacheAlone, walked.
-/
namespace Go.Proofs.Ytdmfdgadhobkpaa.Cache
open Go.RowKit Go.Shelf Go.Proofs.Ytdmfdgadhobkpaa.Bits Go.Proofs.Ytdmfdgadhobkpaa.Sys Go.Proofs.Ytdmfdgadhobkpaa.Box

theorem tmod_pos (a : Int) (n : Nat) (hn : 0 < n) : ∃ (t : Int) (k : Nat), a.tmod (n : Int) = t ∧ -(n : Int) < t ∧ t < (n : Int) ∧ (t + (n : Int)).tmod (n : Int) = (k : Int) ∧ k < n := by
  have h1 := Int.tmod_lt_of_pos a (show (0 : Int) < (n : Int) by omega)
  have h2 := Int.lt_tmod_of_pos a (show (0 : Int) < (n : Int) by omega)
  have h3 := Int.emod_nonneg (a.tmod (n : Int) + (n : Int)) (show (n : Int) ≠ 0 by omega)
  have h4 := Int.emod_lt_of_pos (a.tmod (n : Int) + (n : Int)) (show (0 : Int) < (n : Int) by omega)
  refine ⟨_, ((a.tmod (n : Int) + (n : Int)) % (n : Int)).toNat, rfl, by omega, h1, ?_, by omega⟩
  rw [Int.tmod_eq_emod_of_nonneg (by omega)]
  omega
/-- All that is read behind the boxes. -/
structure Al (W3 : World) (p g : Nat) (w : World) (L : List Int) : Prop where
  ic : IsC w p g L
  bw : Below W3.heap.size W3 w
  pl : W3.heap.size ≤ p
  gl : W3.heap.size ≤ g
theorem Al.below {W3 : World} {p g : Nat} {w w1 : World} {L : List Int} (h : Al W3 p g w L) (hb : Below w.heap.size w w1) : Al W3 p g w1 L :=
  { h with ic := h.ic.below hb (Nat.le_refl _), bw := h.bw.trans (hb.mono h.bw.size) }
theorem Al.step {W3 : World} {p g : Nat} {w w1 : World} {L L' : List Int} (h : Al W3 p g w L) (hc : IsC w1 p g L') (ho : Only g w w1) : Al W3 p g w1 L' :=
  { h with ic := hc, bw := h.bw.trans (ho.below h.gl h.bw.size) }
theorem Al.own {W3 : World} {p g : Nat} {w : World} {L : List Int} (h : Al W3 p g w L) {xb : Nat} (hx : W3.heap.size ≤ xb) (hp : xb ≠ p) (hg : xb ≠ g) (v0 v1 v2 v3 v4 v5 v6 v7 : Value) : Al W3 p g (putW w xb v0 v1 v2 v3 v4 v5 v6 v7) L := by
  have ho : Own1 xb w (putW w xb v0 v1 v2 v3 v4 v5 v6 v7) := Own1.putW xb w (Nat.le_refl _) _ _ _ _ _ _ _ _
  have hk : ∀ j, j ≠ xb → (putW w xb v0 v1 v2 v3 v4 v5 v6 v7).heap[j]? = w.heap[j]? := fun j hj => putW_other w xb j hj _ _ _ _ _ _ _ _
  exact { h with ic := h.ic.kept (hk _ (Ne.symm hp)) (hk _ (Ne.symm hg)), bw := ⟨ho.os.trans h.bw.os, ho.tape.trans h.bw.tape, ho.output.trans h.bw.output, by rw [ho.size]; exact h.bw.size, fun j hj => (hk j (by omega)).trans (h.bw.block j hj)⟩ }
end Go.Proofs.Ytdmfdgadhobkpaa.Cache

/-
  What a job that runs alone has in the cache. Plain.
-/
namespace Go.Proofs.Ytdmfdgadhobkpaa.Cache
open Go.RowKit Go.Shelf Go.Proofs.Ytdmfdgadhobkpaa.Bits Go.Proofs.Ytdmfdgadhobkpaa.Sys Go.Proofs.Ytdmfdgadhobkpaa.Box

/-- Uses a tick from this one on, below another one, this set? -/
def Us (u : List Int) (f t : Int) (i : Nat) : Prop := ∃ k : Int, 0 ≤ k ∧ f ≤ k ∧ k < t ∧ accB u k = true ∧ accI u k = (i : Int)
/-- The job's own sets are those that it has used. -/
structure Ran (L : List Int) (id : Int) (X : Nat → Nat) (u : List Int) (f t : Int) : Prop where
  al : Alone L id X
  on : ∀ i, i < 256 → i < L.length → L.getD i 0 = id → hasN X i = true
  us : ∀ i, i < 256 → (hasN X i = true ↔ Us u f t i)
theorem Ran.none {id : Int} (h : 1 ≤ id) (S : Nat) (u : List Int) (f : Int) : Ran (List.replicate S 0) id noneW u f f where
  al := Alone.none _ _
  on := fun i _ hl e => by
    rw [List.length_replicate] at hl
    rw [List.getD_eq_getElem?_getD, List.getElem?_replicate, if_pos hl] at e
    simp at e
    omega
  us := fun i _ => ⟨fun h => (by rw [has_none] at h; cases h), fun ⟨k, _, h1, h2, _⟩ => by omega⟩
theorem Ran.tick {L u : List Int} {id R f dn dm : Int} {X : Nat → Nat} (h : Ran L id X u f dn) (hf : f ≤ dn) (hm : accB u dn = true → mayB L (accI u dn) = true) (ho : ownB id = true) (hl : L.length ≤ 256) (h0 : 0 ≤ dn) (h1 : dn < dm) (hR0 : 0 ≤ R) (hR3 : R ≤ 3) :
    ∃ L' X', stepF L u id R ⟨dn, dm, 0, 0, X⟩ = (L', ⟨dn + 1, dm, 0, 0, X'⟩, false) ∧ Ran L' id X' u f (dn + 1) ∧ L'.length = L.length := by
  have hok : stepOk R ⟨dn, dm, 0, 0, X⟩ := ⟨h0, h1, Int.le_refl _, hR0, by omega⟩
  unfold stepF
  rw [if_pos hok, if_neg (show ¬ (0 : Int) < 0 by decide), if_neg (by show ¬ goneB L u id R dn X = true; rw [h.al.gone]; decide)]
  by_cases hu : accB u dn = true
  · rw [if_pos hu]
    have hmm := hm hu
    have hs := of_decide_eq_true hmm
    have e : useL L (accI u dn) id = L.set (accI u dn).toNat id := by unfold useL; rw [hmm, ho]; rfl
    refine ⟨_, _, rfl, ⟨h.al.use _ hmm ho, fun i hi hil hie => ?_, fun i hi => ?_⟩, useL_len _ _ _⟩
    · rw [e, List.length_set] at hil
      rw [e] at hie
      rw [has_with _ _ _ hi, Bool.or_eq_true, decide_eq_true_iff]
      by_cases es : (accI u dn).toNat = i
      · exact .inr (show accI u dn = (i : Int) by omega)
      · refine .inl (h.on i hi hil ?_)
        simpa [List.getD_eq_getElem?_getD, List.getElem?_set_ne es] using hie
    · rw [has_with _ _ _ hi, Bool.or_eq_true, decide_eq_true_iff, h.us i hi]
      constructor
      · rintro (⟨k, a, b, c, d⟩ | e2)
        · exact ⟨k, a, b, by omega, d⟩
        · exact ⟨dn, h0, hf, by omega, hu, e2⟩
      · rintro ⟨k, a, b, c, d, e2⟩
        by_cases ek : k = dn
        · subst ek; exact .inr e2
        · exact .inl ⟨k, a, b, by omega, d, e2⟩
  · rw [if_neg hu]
    refine ⟨_, _, rfl, ⟨h.al, h.on, fun i hi => ?_⟩, rfl⟩
    show hasN X i = true ↔ _
    rw [h.us i hi]
    constructor
    · rintro ⟨k, a, b, c, d⟩
      exact ⟨k, a, b, by omega, d⟩
    · rintro ⟨k, a, b, c, d, e2⟩
      by_cases ek : k = dn
      · subst ek; exact absurd d hu
      · exact ⟨k, a, b, by omega, d, e2⟩
theorem put_us {x : TaskV} (hc : 1 ≤ x.c) (hc2 : x.c ≤ 24) (hu : x.use.length ≤ 5) (f t : Int) (ht : t ≤ x.c) (i : Nat) (hi : i < 256) : hasN (ofN (Blk.putL x f t)) i = true ↔ Us x.use f t i := by
  cases hm : Blk.mayT x with
  | true =>
    rw [Blk.put_has hm f t i hi]
    have hmt := of_decide_eq_true hm
    constructor
    · rintro ⟨k, a, b, c, d, e⟩
      exact ⟨k, a, b, c, decide_eq_true ⟨fun e2 => by rw [e2] at hmt; simp at hmt, a⟩, e⟩
    · rintro ⟨k, a, b, c, d, e⟩
      exact ⟨k, a, b, c, by omega, e⟩
  | false =>
    have h0 : x.use = [] := by
      refine List.eq_nil_of_length_eq_zero ?_
      have hmt : ¬ _ := of_decide_eq_false hm
      omega
    have e : Blk.putL x f t = [] := by unfold Blk.putL; rw [if_neg (by rw [hm]; decide)]
    rw [e, show ofN [] = noneW from rfl, has_none]
    constructor
    · intro h; cases h
    · rintro ⟨k, a, b, c, d, e2⟩
      have := of_decide_eq_true d
      exact absurd h0 this.1
/-- What the cache has of it, and what it has seen, are what it used. -/
theorem Ran.eqs {L : List Int} {id : Int} {X : Nat → Nat} {x : TaskV} {f t : Int} (h : Ran L id X x.use f t) (h1 : 1 ≤ id) (h2 : id ≤ 99) (_hl : L.length ≤ 256) (hc : 1 ≤ x.c) (hc2 : x.c ≤ 24) (hu : x.use.length ≤ 5) (ht : t ≤ x.c) :
    eqN (ofN (ofL L id)) (ofN (Blk.putL x f t)) = true ∧ eqN X (ofN (Blk.putL x f t)) = true := by
  refine ⟨eqN_ext (Ws.ofN _) (Ws.ofN _) fun i hi => ?_, eqN_ext h.al.ws (Ws.ofN _) fun i hi => ?_⟩
  · rw [Bool.eq_iff_iff, put_us hc hc2 hu f t ht i hi, ← h.us i hi, has_of L id h1 h2 i hi]
    simp only [Bool.and_eq_true, decide_eq_true_eq, beq_iff_eq]
    exact ⟨fun ⟨a, b⟩ => h.on i hi a b, fun a => h.al.own i hi a⟩
  · rw [Bool.eq_iff_iff, put_us hc hc2 hu f t ht i hi]
    exact h.us i hi
end Go.Proofs.Ytdmfdgadhobkpaa.Cache

/-
  The statement BlocksRuns, walked.
-/
namespace Go.Proofs.Ytdmfdgadhobkpaa.Cache
open Go.RowKit Go.Shelf Go.Proofs.Ytdmfdgadhobkpaa.Bits Go.Proofs.Ytdmfdgadhobkpaa.Sys Go.Proofs.Ytdmfdgadhobkpaa.Box

set_option maxHeartbeats 16000000 in
set_option maxRecDepth 100000 in
theorem BlocksRuns_walk (a0 b0 : Int) (x0 : Option Addr) (len0 cap0 : Nat) (q0 : List Row0.NumV) (a1 a2 : Int) (W : World) (w0 : Row0.IsNums W x0 len0 cap0 q0) (_w1 : (Lit.int .i64 a1).wf = true) (_w2 : (Lit.int .i64 a2).wf = true) :
    Calls Try.prog 7 #[.agg #[.int .i64 a0, .int .i64 b0, .slice x0 len0 cap0], .int .i64 a1, .int .i64 a2] W fun e w' => e = .returned (.bool true) ∧ Below W.heap.size W w' := by
  have ey := Row0.and_i64 a2 5 (by decide) 31 rfl
  obtain ⟨ph, hph, ph0, ph1⟩ : ∃ p, a2 % 32 = p ∧ 0 ≤ p ∧ p ≤ 31 := ⟨_, rfl, by omega, by omega⟩
  have ep : Go.bits .and .i64 a2 31 = ph := ey.trans hph
  clear ey hph _w1 _w2
  have HN := Lib.hid (nums_rdN w0)
  have hlc := w0.le
  have hcm := w0.mx
  clear w0
  go_enter Try.func7, Try.ntmps7
  go_wp2_with fail
  refine (Blk.awake9_any _).mono ?_
  rintro e W1 ⟨rfl, hb1⟩
  have HB1 : Hid (Below W.heap.size W W1) := ((Below.refl _ W).alloc (Nat.le_refl _) _).trans (hb1.mono (by simp))
  have hcell : W1.heap[W.heap.size]? = some (.cells #[.int .i64 a0, .int .i64 b0, .slice x0 len0 cap0] 24 (0, 0)) := (hb1.block _ (by simp)).trans (heap_new _ _ _ rfl)
  obtain ⟨s0, s1, s2⟩ := bx_three hcell
  have hs1 : W.heap.size < W1.heap.size := bx_lt hcell
  clear hb1
  go_wp2_with fail
  refine (made_sys a0 b0 x0 len0 cap0 q0 W1 (HN.out.below HB1.out (Nat.le_refl _)) hlc hcm).mono ?_
  rintro e W2 ⟨S, R, A, n, c, q, rfl, hok, hb2⟩
  have HOK := Lib.hid hok
  have HB2 : Hid (Below W.heap.size W W2) := HB1.out.trans (hb2.mono HB1.out.size)
  have hs2 : W1.heap.size ≤ W2.heap.size := hb2.size
  clear hok hb2 hcell s0 s1 s2 HB1 HN
  obtain ⟨W3, hW3⟩ : ∃ W3, W2.alloc (.cells #[.int .i64 (S : Int), .int .i64 R, .slice A n c] 28) = W3 := ⟨_, rfl⟩
  have HX3 : Hid (W3.heap[W2.heap.size]? = some (.cells #[.int .i64 (S : Int), .int .i64 R, .slice A n c] 28 (0, 0))) := by rw [← hW3]; exact heap_new _ _ _ rfl
  have HO3 : Hid (SysOk W3 W1.heap.size S R A n c q) := by rw [← hW3]; exact HOK.out.below ((Below.refl _ W2).alloc (Nat.le_refl _) _) (Nat.le_refl _)
  have HB3 : Hid (Below W.heap.size W W3) := by rw [← hW3]; exact HB2.out.alloc HB2.out.size _
  have hs3 : W3.heap.size = W2.heap.size + 1 := by rw [← hW3]; simp
  clear HOK HB2
  have o1 := HO3.out.s1
  have o2 := HO3.out.s8
  have o3 := HO3.out.r0
  have o4 := HO3.out.r3
  have o5 := HO3.out.n1
  have o6 := HO3.out.n6
  have o7 := HO3.out.nc
  have o8 := HO3.out.cm
  obtain ⟨t, kk, ht, t1, t2, hkk, hkn⟩ := tmod_pos a1 n (by omega)
  have hz : ((n : Int) == 0) = false := by simp; omega
  have hz' : ¬ (n : Int) = 0 := by omega
  have ew : IntKind.i64.wrap (t + (n : Int)) = t + (n : Int) := by rw [IntKind.wrap_i64]; omega
  have ek : IntKind.i64.wrap (kk : Int) = (kk : Int) := by rw [IntKind.wrap_i64]; omega
  obtain ⟨s0, s1, s2⟩ := bx_three HX3.out
  go_wp2_with fail
  try rw [hW3]
  clear hW3
  go_quiet (fail)
  have hB4 : Hid (Below W3.heap.size W3 (W3.drewN nq)) := below_dnS (Below.refl _ W3) nq
  clear s0 s1 s2
  generalize W3.drewN nq = W4 at *
  have hro := HO3.out.below hB4.out (Nat.le_refl _)
  obtain ⟨b, o, rfl, hcs⟩ := hro.rd.ad (by omega)
  obtain ⟨y0, y1, y2, y3, y4, y5, y6⟩ := hcs kk hkn
  have hrr := Lib.hid (HO3.out.rd.getRd hkn)
  have htk := hro.ok kk hkn
  have HTK := Lib.hid htk
  have ht24 := htk.t24
  have htc := htk.c1
  have htd := htk.cd
  have htt := htk.dt
  have hul := htk.ul
  have hid := htk.id
  obtain ⟨s0, s1, s2⟩ := bx_three (bx_old HX3.out hB4.out (bx_lt HX3.out))
  obtain ⟨r, hr⟩ : ∃ r, q.getD kk default = r := ⟨_, rfl⟩
  rw [hr] at y0 y1 y2 y3 y4 y5 y6 hrr HTK ht24 htc htd htt hul hid
  have HID : Hid (1 ≤ r.x.id ∧ r.x.id ≤ 99) := ⟨by omega, by omega⟩
  have k0 : (0 : Int) ≤ (kk : Int) := by omega
  have k1 : (kk : Int) < (n : Int) := by omega
  clear hcs hro htk hr hid
  obtain ⟨w5, hw5⟩ : ∃ w5, W4.alloc (.cells #[.int .i64 r.x.id, .int .i64 r.x.c, .int .i64 r.x.d, .int .i64 r.x.t, .int .i64 r.x.prio, .slice r.ca r.cl r.cc, .slice r.ua r.ul r.uc] 36) = w5 := ⟨_, rfl⟩
  have hT5 : Hid (w5.heap[W4.heap.size]? = some (.cells (taskCells r.x.id r.x.c r.x.d r.x.t r.x.prio (.slice r.ca r.cl r.cc) (.slice r.ua r.ul r.uc)) 36 (0, 0))) := by rw [← hw5]; exact heap_new _ _ _ rfl
  have hB5 : Hid (Below W3.heap.size W3 w5) := by rw [← hw5]; exact hB4.out.alloc hB4.out.size _
  have hs4 := hB4.out.size
  obtain ⟨z0, z1, z2⟩ := bx_three (bx_old HX3.out hB5.out (bx_lt HX3.out))
  go_wp2_with fail
  try rw [hw5]
  clear y0 y1 y2 y3 y4 y5 y6 s0 s1 s2 z0 z1 z2 hw5
  refine (new_any S (by omega) w5).mono ?_
  rintro e w6 ⟨p, g, rfl, hC6, hb6, hp, hg⟩
  have hs5 : W4.heap.size < w5.heap.size := bx_lt hT5.out
  have hA6 : Hid (Al W3 p g w6 (List.replicate S 0)) := ⟨hC6, hB5.out.trans (hb6.mono hB5.out.size), by omega, by omega⟩
  have hT6 : Hid (w6.heap[W4.heap.size]? = some (.cells (taskCells r.x.id r.x.c r.x.d r.x.t r.x.prio (.slice r.ca r.cl r.cc) (.slice r.ua r.ul r.uc)) 36 (0, 0))) := (hb6.block _ hs5).trans hT5.out
  have hs6 : w5.heap.size ≤ w6.heap.size := hb6.size
  have hpg6 := hC6.lt
  clear hC6 hb6 hT5
  obtain ⟨pp, hpp⟩ : ∃ pp, min ph r.x.c = pp := ⟨_, rfl⟩
  have hp0 : 0 ≤ pp := by omega
  have hp1 : pp ≤ r.x.c := by omega
  obtain ⟨y0, y1, y2, y3, y4, y5, y6⟩ := bx_seven hT6.out
  go_wp2_with fail
  obtain ⟨w7, hw7⟩ : ∃ w7, w6.alloc (.cells #[.int .i64 0, .int .i64 r.x.c, .int .i64 0, .int .i64 0, .int .u64 0, .int .u64 0, .int .u64 0, .int .u64 0] 53) = w7 := ⟨_, rfl⟩
  rw [hw7]
  have hT7 : Hid (w7.heap[W4.heap.size]? = some (.cells #[.int .i64 r.x.id, .int .i64 r.x.c, .int .i64 r.x.d, .int .i64 r.x.t, .int .i64 r.x.prio, .slice r.ca r.cl r.cc, .slice r.ua r.ul r.uc] 36 (0, 0))) := by rw [← hw7]; exact (Below.heap_alloc _ _ _ (by omega)).trans hT6.out
  have hW7 : Hid (w7.heap[w6.heap.size]? = some (.cells #[.int .i64 0, .int .i64 r.x.c, .int .i64 0, .int .i64 0, .int .u64 (noneW 0 : Int), .int .u64 (noneW 1 : Int), .int .u64 (noneW 2 : Int), .int .u64 (noneW 3 : Int)] 53 (0, 0))) := by rw [← hw7]; exact heap_new _ _ _ (by simp)
  have hA7 : Hid (Al W3 p g w7 (List.replicate S 0)) := by rw [← hw7]; exact hA6.out.below ((Below.refl _ w6).alloc (Nat.le_refl _) _)
  clear hw7 hA6 hT6 y0 y1 y2 y3 y4 y5 y6
  have hgt : W4.heap.size ≠ w6.heap.size := by omega
  have hgg : W4.heap.size ≠ g := by omega
  have hxg : w6.heap.size ≠ g := by omega
  have hxp : w6.heap.size ≠ p := by omega
  have hWx : W3.heap.size ≤ w6.heap.size := by omega
  generalize W4.heap.size = tb at *
  generalize w6.heap.size = xb at *
  go_loopg [14] (pp - 0).toNat (fun gg iv wr => ∃ (i : Int) (L : List Int) (X : Nat → Nat), 0 ≤ i ∧ i ≤ pp ∧ (pp - i).toNat ≤ gg ∧ iv = .int .i64 i ∧ Aside (L.length = S) ∧ Aside (Ran L r.x.id X r.x.use 0 i) ∧ Aside (Al W3 p g wr L) ∧
    Aside (wr.heap[tb]? = some (.cells #[.int .i64 r.x.id, .int .i64 r.x.c, .int .i64 r.x.d, .int .i64 r.x.t, .int .i64 r.x.prio, .slice r.ca r.cl r.cc, .slice r.ua r.ul r.uc] 36 (0, 0))) ∧ Aside (wr.heap[xb]? = some (.cells #[.int .i64 i, .int .i64 r.x.c, .int .i64 0, .int .i64 0, .int .u64 (X 0 : Int), .int .u64 (X 1 : Int), .int .u64 (X 2 : Int), .int .u64 (X 3 : Int)] 53 (0, 0))))
  case atStart => exact ⟨0, (List.replicate S 0), noneW, Int.le_refl _, by omega, by omega, rfl, List.length_replicate, Ran.none HID.out.1 _ _ _, hA7.out, hT7.out, hW7.out⟩
  case round =>
    obtain ⟨i2, L2, X, hi0, hi2, hgk2, rfl, hL2, hAl, hA, hT, hWk⟩ := hrel
    clear hA7 hT7 hW7
    have hmay := may_of HTK.out hL2.out i2
    have hown := own_small HTK.out (by omega)
    have hbt := bx_lt hT.out
    have hbk := bx_lt hWk.out
    have hT' : wr.heap[tb]? = some (.cells (taskCells r.x.id r.x.c r.x.d r.x.t r.x.prio (.slice r.ca r.cl r.cc) (.slice r.ua r.ul r.uc)) 36 (0, 0)) := hT.out
    obtain ⟨y0, y1, y2, y3, y4, y5, y6⟩ := bx_seven hT'
    obtain ⟨m0, m1, m2, m3, m4, m5, m6, m7⟩ := c8v hWk.out
    obtain ⟨s0, s1, s2⟩ := bx_three (bx_old HX3.out hA.out.bw (bx_lt HX3.out))
    clear hT'
    by_cases hlt : i2 < pp
    · obtain ⟨L', X', hF, hAl', hll⟩ := hAl.out.tick (R := R) (dm := r.x.c) (by omega) hmay hown (by have := hL2.out; omega) (show (0 : Int) ≤ i2 by omega) (by omega) o3 o4
      have hst := step_f p g L2 r R ⟨i2, r.x.c, 0, 0, X⟩ wr hA.out.ic (hrr.out.below hA.out.bw (Nat.le_refl _)) hAl.out.al.ws hown hmay (by show r.x.c ≤ _; omega) (by show (0 : Int) ≤ _; decide)
      rw [hF] at hst
      unfold RT.vals taskCells WkV.cells at hst
      simp only at hst
      have HAL := Lib.hid hAl'
      have HLL : Hid (L'.length = S) := hll.trans hL2.out
      clear hF hAl' hll hmay hown
      go_wp2_with fail
      refine hst.mono ?_
      rintro z w1 ⟨rfl, hC1, hO1⟩
      clear hst y0 y1 y2 y3 y4 y5 y6 m0 m1 m2 m3 m4 m5 m6 m7 s0 s1 s2
      have hA1 : Hid (Al W3 p g w1 L') := hA.out.step hC1 hO1
      have hT1 : Hid (w1.heap[tb]? = some (.cells #[.int .i64 r.x.id, .int .i64 r.x.c, .int .i64 r.x.d, .int .i64 r.x.t, .int .i64 r.x.prio, .slice r.ca r.cl r.cc, .slice r.ua r.ul r.uc] 36 (0, 0))) := (hO1.block _ hbt (by omega)).trans hT.out
      have hW1 : Hid (w1.heap[xb]? = some (.cells #[.int .i64 i2, .int .i64 r.x.c, .int .i64 0, .int .i64 0, .int .u64 (X 0 : Int), .int .u64 (X 1 : Int), .int .u64 (X 2 : Int), .int .u64 (X 3 : Int)] 53 (0, 0))) := (hO1.block _ hbk (by omega)).trans hWk.out
      clear hC1 hO1 hA hT hWk
      obtain ⟨m0, m1, m2, m3, m4, m5, m6, m7⟩ := c8v hW1.out
      obtain ⟨f0, f1, f2, f3, f4, f5, f6, f7⟩ := fr8v hW1.out
      go_wp2
      go_roundg (pp - (i2 + 1)).toNat
      case measure => omega
      case rel => exact ⟨i2 + 1, L', X', by omega, by omega, by omega, rfl, HLL.out, HAL.out, hA1.out.own hWx hxp hxg _ _ _ _ _ _ _ _, (putW_other _ _ _ (by omega) _ _ _ _ _ _ _ _).trans hT1.out, putW_same hW1.out _ _ _ _ _ _ _ _⟩
    · have hie : i2 = pp := by omega
      subst hie
      clear hmay hown hlt hgk2 hi0 hi2
      obtain ⟨f1, f2⟩ := hAl.out.eqs HID.out.1 HID.out.2 (by have := hL2.out; omega) htc (by omega) hul hp1
      have hRr : Hid (r.Rd wr) := hrr.out.below hA.out.bw (Nat.le_refl _)
      have hBf := fun w (h : Below wr.heap.size wr w) => Blk.before_any r i2 w (hRr.out.below h (Nat.le_refl _))
      have hOf := fun w (h : Below wr.heap.size wr w) => ofc_any p g L2 r.x.id w ((hA.out.below h).ic)
      have hbe : Blk.beforeN r.x i2 = ofN (Blk.putL r.x 0 i2) := rfl
      rw [← hbe] at f1 f2
      obtain ⟨Y, hY⟩ : ∃ Y, Blk.beforeN r.x i2 = Y := ⟨_, rfl⟩
      obtain ⟨Z, hZ⟩ : ∃ Z, ofN (ofL L2 r.x.id) = Z := ⟨_, rfl⟩
      simp only [hY] at hBf f1 f2
      simp only [hZ] at hOf f1
      simp only [bvl] at hBf hOf
      have HBf := Lib.hid hBf
      have HOf := Lib.hid hOf
      have F1 := Lib.hid f1
      have F2 := Lib.hid f2
      have HAL := Lib.hid hAl.out
      clear hBf hOf hbe hY hZ f1 f2 y0 y1 y2 y3 y4 y5 y6 m0 m1 m2 m3 m4 m5 m6 m7 s0 s1 s2
      go_wp2_with fail
      refine Calm.wp_region_calm (B := wr.heap.size) (W := wr) (by kernel_rfl) (by kernel_rfl) (by kernel_rfl) (Nat.le_refl _) (Below.refl _ _).drew ?_
      apply Exists.intro
      repeat (first
        | (apply Calm.calm_skip
           · rfl
           intro N hN
           go_simp
           apply hN.out
           clear hN N)
        | (apply Calm.calm_val
           · rfl
           · intro w hB hF K hK
             first
               | exact opAt_net F1.out (by rfl) (by rfl) (by rfl) (hK.out _ _ rfl (Below.refl _ _))
               | exact opAt_net F2.out (by rfl) (by rfl) (by rfl) (hK.out _ _ rfl (Below.refl _ _))
               | (unfold Calm.opAt
                  obtain ⟨m0, m1, m2, m3, m4, m5, m6, m7⟩ := c8v ((hB.block _ hbk).trans hWk.out)
                  obtain ⟨y0, y1, y2, y3, y4, y5, y6⟩ := bx_seven ((hB.block _ hbt).trans (show wr.heap[tb]? = some (.cells (taskCells r.x.id r.x.c r.x.d r.x.t r.x.prio (.slice r.ca r.cl r.cc) (.slice r.ua r.ul r.uc)) 36 (0, 0)) from hT.out))
                  go_simp
                  first
                    | (simp only [Calm.upon_value]
                       exact hK.out _ _ rfl (Below.refl _ _))
                    | (simp only [Calm.upon_enter]
                       with_reducible refine (HOf.out _ (by assumption)).mono ?_
                       rintro e w' ⟨rfl, hb⟩
                       exact ⟨_, rfl, hK.out _ _ rfl hb⟩)
                    | (simp only [Calm.upon_enter]
                       with_reducible refine (HBf.out _ (by assumption)).mono ?_
                       rintro e w' ⟨rfl, hb⟩
                       exact ⟨_, rfl, hK.out _ _ rfl hb⟩))
           intro N hN
           go_simp
           apply hN.out
           clear hN N))
      apply Calm.calm_nil
      intro w9 hB9 _
      have hA9 : Hid (Al W3 p g w9 L2) := hA.out.below hB9
      have hT9 : Hid (w9.heap[tb]? = some (.cells #[.int .i64 r.x.id, .int .i64 r.x.c, .int .i64 r.x.d, .int .i64 r.x.t, .int .i64 r.x.prio, .slice r.ca r.cl r.cc, .slice r.ua r.ul r.uc] 36 (0, 0))) := (hB9.block _ hbt).trans hT.out
      have hW9 : Hid (w9.heap[xb]? = some (.cells #[.int .i64 i2, .int .i64 r.x.c, .int .i64 0, .int .i64 0, .int .u64 (X 0 : Int), .int .u64 (X 1 : Int), .int .u64 (X 2 : Int), .int .u64 (X 3 : Int)] 53 (0, 0))) := (hB9.block _ hbk).trans hWk.out
      have KF := flush_any p g L2 w9 hA9.out.ic
      rw [hL2.out] at KF
      clear hB9 hA hT hWk HBf HOf F1 F2 hRr HAL hAl
      go_wp2_with fail
      refine KF.mono ?_
      rintro z w1 ⟨rfl, hC1, hO1⟩
      have hA1 : Hid (Al W3 p g w1 (List.replicate S 0)) := hA9.out.step hC1 hO1
      have hT1 : Hid (w1.heap[tb]? = some (.cells #[.int .i64 r.x.id, .int .i64 r.x.c, .int .i64 r.x.d, .int .i64 r.x.t, .int .i64 r.x.prio, .slice r.ca r.cl r.cc, .slice r.ua r.ul r.uc] 36 (0, 0))) := (hO1.block _ (bx_lt hT9.out) (by omega)).trans hT9.out
      have hW1 : Hid (w1.heap[xb]? = some (.cells #[.int .i64 i2, .int .i64 r.x.c, .int .i64 0, .int .i64 0, .int .u64 (X 0 : Int), .int .u64 (X 1 : Int), .int .u64 (X 2 : Int), .int .u64 (X 3 : Int)] 53 (0, 0))) := (hO1.block _ (bx_lt hW9.out) (by omega)).trans hW9.out
      clear hC1 hO1 hA9 hT9 hW9 KF
      obtain ⟨m0, m1, m2, m3, m4, m5, m6, m7⟩ := c8v hW1.out
      obtain ⟨f0, f1, f2, f3, f4, f5, f6, f7⟩ := fr8v hW1.out
      obtain ⟨w2, hw2⟩ : ∃ w2, (((w1.setCell ⟨xb, 4, none⟩ (.int .u64 0)).setCell ⟨xb, 5, none⟩ (.int .u64 0)).setCell ⟨xb, 6, none⟩ (.int .u64 0)).setCell ⟨xb, 7, none⟩ (.int .u64 0) = w2 := ⟨_, rfl⟩
      have hkeep : ∀ j, j ≠ xb → w2.heap[j]? = w1.heap[j]? := fun j hj => by rw [← hw2]; iterate 4 rw [Below.heap_setCell _ _ _ _ (by simpa using hj)]
      have hsz2 : w2.heap.size = w1.heap.size := by rw [← hw2]; simp [World.setCell]
      have hos2 : w2.os = w1.os ∧ w2.tape = w1.tape ∧ w2.output = w1.output := by rw [← hw2]; exact ⟨rfl, rfl, rfl⟩
      have hW2 : Hid (w2.heap[xb]? = some (.cells #[.int .i64 i2, .int .i64 r.x.c, .int .i64 0, .int .i64 0, .int .u64 (noneW 0 : Int), .int .u64 (noneW 1 : Int), .int .u64 (noneW 2 : Int), .int .u64 (noneW 3 : Int)] 53 (0, 0))) := by
        rw [← hw2]
        have h1 := Lib.heap_setCell_same (i := 4) hW1.out (.int .u64 0)
        have h2 := Lib.heap_setCell_same (i := 5) h1 (.int .u64 0)
        have h3 := Lib.heap_setCell_same (i := 6) h2 (.int .u64 0)
        exact Lib.heap_setCell_same (i := 7) h3 (.int .u64 0)
      have hA2 : Hid (Al W3 p g w2 (List.replicate S 0)) := ⟨hA1.out.ic.kept (hkeep _ (Ne.symm hxp)) (hkeep _ (Ne.symm hxg)), ⟨hos2.1.trans hA1.out.bw.os, hos2.2.1.trans hA1.out.bw.tape, hos2.2.2.trans hA1.out.bw.output, by rw [hsz2]; exact hA1.out.bw.size, fun j hj => (hkeep j (by omega)).trans (hA1.out.bw.block j hj)⟩, hA1.out.pl, hA1.out.gl⟩
      have hT2 : Hid (w2.heap[tb]? = some (.cells #[.int .i64 r.x.id, .int .i64 r.x.c, .int .i64 r.x.d, .int .i64 r.x.t, .int .i64 r.x.prio, .slice r.ca r.cl r.cc, .slice r.ua r.ul r.uc] 36 (0, 0))) := (hkeep _ (by omega)).trans hT1.out
      clear hkeep hsz2 hos2
      go_wp2_with fail
      try rw [hw2]
      clear hw2 hA1 hT1 hW1 m0 m1 m2 m3 m4 m5 m6 m7 f0 f1 f2 f3 f4 f5 f6 f7 hL2 hbt hbk
      generalize wr.heap.size = junk at *
      go_loopg [15] (r.x.c - i2).toNat (fun gg iv wr => ∃ (i : Int) (L : List Int) (X : Nat → Nat), i2 ≤ i ∧ i ≤ r.x.c ∧ (r.x.c - i).toNat ≤ gg ∧ iv = .int .i64 i ∧ Aside (L.length = S) ∧ Aside (Ran L r.x.id X r.x.use i2 i) ∧ Aside (Al W3 p g wr L) ∧
        Aside (wr.heap[tb]? = some (.cells #[.int .i64 r.x.id, .int .i64 r.x.c, .int .i64 r.x.d, .int .i64 r.x.t, .int .i64 r.x.prio, .slice r.ca r.cl r.cc, .slice r.ua r.ul r.uc] 36 (0, 0))) ∧ Aside (wr.heap[xb]? = some (.cells #[.int .i64 i, .int .i64 r.x.c, .int .i64 0, .int .i64 0, .int .u64 (X 0 : Int), .int .u64 (X 1 : Int), .int .u64 (X 2 : Int), .int .u64 (X 3 : Int)] 53 (0, 0))))
      case atStart => exact ⟨i2, (List.replicate S 0), noneW, Int.le_refl _, by omega, by omega, rfl, List.length_replicate, Ran.none HID.out.1 _ _ _, hA2.out, hT2.out, hW2.out⟩
      case round =>
        obtain ⟨i3, L2, X, hi0, hi3, hgk2, rfl, hL2, hAl, hA, hT, hWk⟩ := hrel
        clear hA2 hT2 hW2
        have hmay := may_of HTK.out hL2.out i3
        have hown := own_small HTK.out (by omega)
        have hbt := bx_lt hT.out
        have hbk := bx_lt hWk.out
        have hT' : wr.heap[tb]? = some (.cells (taskCells r.x.id r.x.c r.x.d r.x.t r.x.prio (.slice r.ca r.cl r.cc) (.slice r.ua r.ul r.uc)) 36 (0, 0)) := hT.out
        obtain ⟨y0, y1, y2, y3, y4, y5, y6⟩ := bx_seven hT'
        obtain ⟨m0, m1, m2, m3, m4, m5, m6, m7⟩ := c8v hWk.out
        obtain ⟨s0, s1, s2⟩ := bx_three (bx_old HX3.out hA.out.bw (bx_lt HX3.out))
        clear hT'
        by_cases hlt : i3 < r.x.c
        · obtain ⟨L', X', hF, hAl', hll⟩ := hAl.out.tick (R := R) (dm := r.x.c) (by omega) hmay hown (by have := hL2.out; omega) (show (0 : Int) ≤ i3 by omega) (by omega) o3 o4
          have hst := step_f p g L2 r R ⟨i3, r.x.c, 0, 0, X⟩ wr hA.out.ic (hrr.out.below hA.out.bw (Nat.le_refl _)) hAl.out.al.ws hown hmay (by show r.x.c ≤ _; omega) (by show (0 : Int) ≤ _; decide)
          rw [hF] at hst
          unfold RT.vals taskCells WkV.cells at hst
          simp only at hst
          have HAL := Lib.hid hAl'
          have HLL : Hid (L'.length = S) := hll.trans hL2.out
          clear hF hAl' hll hmay hown
          go_wp2_with fail
          refine hst.mono ?_
          rintro z w1 ⟨rfl, hC1, hO1⟩
          clear hst y0 y1 y2 y3 y4 y5 y6 m0 m1 m2 m3 m4 m5 m6 m7 s0 s1 s2
          have hA1 : Hid (Al W3 p g w1 L') := hA.out.step hC1 hO1
          have hT1 : Hid (w1.heap[tb]? = some (.cells #[.int .i64 r.x.id, .int .i64 r.x.c, .int .i64 r.x.d, .int .i64 r.x.t, .int .i64 r.x.prio, .slice r.ca r.cl r.cc, .slice r.ua r.ul r.uc] 36 (0, 0))) := (hO1.block _ hbt (by omega)).trans hT.out
          have hW1 : Hid (w1.heap[xb]? = some (.cells #[.int .i64 i3, .int .i64 r.x.c, .int .i64 0, .int .i64 0, .int .u64 (X 0 : Int), .int .u64 (X 1 : Int), .int .u64 (X 2 : Int), .int .u64 (X 3 : Int)] 53 (0, 0))) := (hO1.block _ hbk (by omega)).trans hWk.out
          clear hC1 hO1 hA hT hWk
          obtain ⟨m0, m1, m2, m3, m4, m5, m6, m7⟩ := c8v hW1.out
          obtain ⟨f0, f1, f2, f3, f4, f5, f6, f7⟩ := fr8v hW1.out
          go_wp2
          go_roundg (r.x.c - (i3 + 1)).toNat
          case measure => omega
          case rel => exact ⟨i3 + 1, L', X', by omega, by omega, by omega, rfl, HLL.out, HAL.out, hA1.out.own hWx hxp hxg _ _ _ _ _ _ _ _, (putW_other _ _ _ (by omega) _ _ _ _ _ _ _ _).trans hT1.out, putW_same hW1.out _ _ _ _ _ _ _ _⟩
        · have hie : i3 = r.x.c := by omega
          have hAl4 := hAl.out
          have hWk4 := hWk.out
          rw [hie] at hAl4 hWk4
          clear hAl hWk hmay hown hlt hgk2 hi0 hi3
          have hWk := Lib.hid hWk4
          clear hWk4 m0 m1 m2 m3 m4 m5 m6 m7
          obtain ⟨f1, _⟩ := hAl4.eqs HID.out.1 HID.out.2 (by have := hL2.out; omega) htc (by omega) hul (Int.le_refl _)
          have hRr : Hid (r.Rd wr) := hrr.out.below hA.out.bw (Nat.le_refl _)
          have hBf := fun w (h : Below wr.heap.size wr w) => Blk.behind_any r i2 (by omega) w (hRr.out.below h (Nat.le_refl _))
          have hOf := fun w (h : Below wr.heap.size wr w) => ofc_any p g L2 r.x.id w ((hA.out.below h).ic)
          have hbe : Blk.behindN r.x i2 = ofN (Blk.putL r.x i2 r.x.c) := rfl
          rw [← hbe] at f1
          obtain ⟨Y, hY⟩ : ∃ Y, Blk.behindN r.x i2 = Y := ⟨_, rfl⟩
          obtain ⟨Z, hZ⟩ : ∃ Z, ofN (ofL L2 r.x.id) = Z := ⟨_, rfl⟩
          simp only [hY] at hBf f1
          simp only [hZ] at hOf f1
          simp only [bvl] at hBf hOf
          have HBf := Lib.hid hBf
          have HOf := Lib.hid hOf
          have F1 := Lib.hid f1
          have hnl : ¬ i3 < r.x.c := by omega
          have HIE := Lib.hid hie
          clear hBf hOf hbe hY hZ f1 s0 s1 s2 hAl4
          go_wp2_with fail
          clear y0 y1 y2 y3 y4 y5 y6
          refine Calm.wp_region_calm (B := wr.heap.size) (W := wr) (by kernel_rfl) (by kernel_rfl) (by kernel_rfl) (Nat.le_refl _) (Below.refl _ _).drew ?_
          apply Exists.intro
          repeat (first
            | (apply Calm.calm_skip
               · rfl
               intro N hN
               go_simp
               apply hN.out
               clear hN N)
            | (apply Calm.calm_val
               · rfl
               · intro w hB hF K hK
                 first
                   | exact opAt_eqt F1.out (by rfl) (by rfl) (by rfl) (hK.out _ _ rfl (Below.refl _ _))
                   | (unfold Calm.opAt
                      obtain ⟨m0, m1, m2, m3, m4, m5, m6, m7⟩ := c8v ((hB.block _ hbk).trans hWk.out)
                      obtain ⟨y0, y1, y2, y3, y4, y5, y6⟩ := bx_seven ((hB.block _ hbt).trans (show wr.heap[tb]? = some (.cells (taskCells r.x.id r.x.c r.x.d r.x.t r.x.prio (.slice r.ca r.cl r.cc) (.slice r.ua r.ul r.uc)) 36 (0, 0)) from hT.out))
                      go_simp
                      first
                        | (simp only [Calm.upon_value]
                           exact hK.out _ _ rfl (Below.refl _ _))
                        | (simp only [Calm.upon_enter]
                           with_reducible refine (HOf.out _ (by assumption)).mono ?_
                           rintro e w' ⟨rfl, hb⟩
                           exact ⟨_, rfl, hK.out _ _ rfl hb⟩)
                        | (simp only [Calm.upon_enter]
                           with_reducible refine (HBf.out _ (by assumption)).mono ?_
                           rintro e w' ⟨rfl, hb⟩
                           exact ⟨_, rfl, hK.out _ _ rfl hb⟩))
               intro N hN
               go_simp
               apply hN.out
               clear hN N))
          apply Calm.calm_nil
          intro w9 hB9 _
          go_wp2
          go_ret
          exact ⟨rfl, (HB3.out.trans (hA.out.bw.mono (by omega))).trans (hB9.mono (by have := hA.out.bw.size; omega))⟩
end Go.Proofs.Ytdmfdgadhobkpaa.Cache
