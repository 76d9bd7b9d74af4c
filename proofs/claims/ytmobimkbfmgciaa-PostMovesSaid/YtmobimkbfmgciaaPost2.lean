/-
  Package post: what a box holds, and what each of its functions does to it.
-/
import Derived.Test.YtmobimkbfmgciaaPost1
import Derived.Lib.Hide
import Derived.Conc.LoneSelectN
import Derived.Shelf.Abstract
import Derived.Deep.LoopGhost
import Derived.Deep.QuietTactic
import Derived.BigQuiet
namespace Go.Proofs.Ytmobimkbfmgciaa.Post
open Go.Conc Go.RowKit

def asks (q : List (Int × Int)) : List Value := q.map fun p => askV p.1 p.2

/-- Block bp is a box over the channel ch, of so much room, with these requests; it may be shut. -/
structure IsBox (w : World) (bp ch cap : Nat) (q : List (Int × Int)) (shut : Bool) : Prop where
  c0 : w.cell? ⟨bp, 0, none⟩ = some (.chan (some ch))
  c1 : w.cell? ⟨bp, 1, none⟩ = some (.bool shut)
  fz : w.frozen? ⟨bp, 1, none⟩ = false
  hc : ∃ s r, w.heap[ch]? = some (.chan cap (asks q).toArray false s r false)
  le : q.length ≤ cap

theorem IsBox.lt {w : World} {bp ch cap : Nat} {q : List (Int × Int)} {shut : Bool} (h : IsBox w bp ch cap q shut) : bp < w.heap.size ∧ ch < w.heap.size ∧ bp ≠ ch := by
  have h1 := World.block_lt_of_cell? w _ h.c0
  obtain ⟨s, r, h2⟩ := h.hc
  refine ⟨h1, (Array.getElem?_eq_some_iff.1 h2).1, fun e => ?_⟩
  subst e
  have := h.c0
  simp [World.cell?, h2] at this
/-- What leaves both blocks alone leaves the box. -/
theorem IsBox.kept {w w' : World} {bp ch cap : Nat} {q : List (Int × Int)} {shut : Bool} (h : IsBox w bp ch cap q shut) (h1 : w'.heap[bp]? = w.heap[bp]?) (h2 : w'.heap[ch]? = w.heap[ch]?) : IsBox w' bp ch cap q shut :=
  ⟨(World.cell?_of_block (a := ⟨bp, 0, none⟩) h1).trans h.c0, (World.cell?_of_block (a := ⟨bp, 1, none⟩) h1).trans h.c1, (World.frozen?_of_block (a := ⟨bp, 1, none⟩) h1).trans h.fz, by obtain ⟨s, r, e⟩ := h.hc; exact ⟨s, r, h2.trans e⟩, h.le⟩
theorem IsBox.grown {w w' : World} {bp ch cap : Nat} {q : List (Int × Int)} {shut : Bool} {row : Option Nat} (h : IsBox w bp ch cap q shut) (hg : w.grownBy w' row) (h1 : some bp ≠ row) (h2 : some ch ≠ row) : IsBox w' bp ch cap q shut :=
  h.kept (hg.block bp h.lt.1 h1) (hg.block ch h.lt.2.1 h2)

theorem gb_refl (w : World) (row : Option Nat) : w.grownBy w row := ⟨rfl, rfl, rfl, Nat.le_refl _, fun _ _ _ => rfl⟩
theorem gb_trans {a b c : World} {row : Option Nat} (h : a.grownBy b row) (k : b.grownBy c row) : a.grownBy c row :=
  ⟨k.os.trans h.os, k.tape.trans h.tape, k.output.trans h.output, Nat.le_trans h.size k.size, fun i hi hr => (k.block i (Nat.lt_of_lt_of_le hi h.size) hr).trans (h.block i hi hr)⟩
theorem gb_alloc {a b : World} {row : Option Nat} (h : a.grownBy b row) (o : Obj) : a.grownBy (b.alloc o) row :=
  gb_trans h ⟨rfl, rfl, rfl, by simp, fun k hk _ => Below.heap_alloc _ _ _ hk⟩
theorem gb_chan {a b : World} {c : Nat} (h : a.grownBy b (some c)) (cap : Nat) (buf : Array Value) (cl : Bool) (s r : Nat) (tm : Bool) : a.grownBy (b.setChan c cap buf cl s r tm) (some c) :=
  gb_trans h ⟨rfl, rfl, rfl, by rw [size_setChan]; exact Nat.le_refl _, fun k _ hr => heap_setChan_ne _ _ _ _ _ _ _ _ _ (fun e => hr (by rw [e]))⟩
theorem gb_cell {a b : World} {row : Option Nat} (h : a.grownBy b row) (p : Addr) (v : Value) (hp : a.heap.size ≤ p.block) : a.grownBy (b.setCell p v) row :=
  ⟨h.os, h.tape, h.output, by simpa [World.setCell] using h.size, fun k hk hr => (Below.heap_setCell _ _ _ _ (by omega)).trans (h.block k hk hr)⟩
theorem gb_drewN {a b : World} {row : Option Nat} (h : a.grownBy b row) (n : Nat) : a.grownBy (b.drewN n) row := ⟨h.os, h.tape, h.output, h.size, h.block⟩
theorem gb_none {a b : World} (h : a.grownBy b none) (row : Option Nat) : a.grownBy b row := ⟨h.os, h.tape, h.output, h.size, fun k hk _ => h.block k hk (by simp)⟩
theorem gb_below {a b : World} (h : Below a.heap.size a b) : a.grownBy b none := ⟨h.os, h.tape, h.output, h.size, fun k hk _ => h.block k hk⟩

/-- The queue behind a Put. -/
def putQ (cap : Nat) (q : List (Int × Int)) (shut : Bool) (x : Int × Int) : List (Int × Int) := if shut = false ∧ q.length < cap then q ++ [x] else q
def putOk (cap : Nat) (q : List (Int × Int)) (shut : Bool) : Bool := decide (shut = false ∧ q.length < cap)

theorem open_any (bp ch cap : Nat) (q : List (Int × Int)) (shut : Bool) (w : World) (h : IsBox w bp ch cap q shut) :
    Calls Try.prog 19 #[.pointer (some ⟨bp, 0, none⟩)] w fun e w' => e = .returned (.bool (!shut)) ∧ w = w' := by
  have h1 := h.c1
  go_enter Try.func19, Try.ntmps19
  go_wp2
  go_ret
  exact ⟨rfl, rfl⟩
theorem open_nil (w : World) : Calls Try.prog 19 #[.pointer none] w fun e w' => e = .returned (.bool false) ∧ w = w' := by
  go_enter Try.func19, Try.ntmps19
  go_wp2
  go_ret
  exact ⟨rfl, rfl⟩

set_option maxHeartbeats 1000000 in
theorem put_any (bp ch cap : Nat) (q : List (Int × Int)) (shut : Bool) (t d : Int) (w : World) (h : IsBox w bp ch cap q shut) :
    Calls Try.prog 11 #[.pointer (some ⟨bp, 0, none⟩), askV t d] w fun e w' => e = .returned (.bool (putOk cap q shut)) ∧
      IsBox w' bp ch cap (putQ cap q shut (t, d)) shut ∧ w.grownBy w' (some ch) := by
  obtain ⟨b1, b2, b3⟩ := h.lt
  obtain ⟨s, r, hc⟩ := h.hc
  cases shut
  · by_cases hr : q.length < cap
    · refine (put_room bp ch cap _ s r t d w h.c0 h.c1 hc (by simpa [asks] using hr)).mono ?_
      rintro e w' ⟨rfl, rfl⟩
      refine ⟨by simp [putOk, hr], ?_, gb_chan (gb_alloc (gb_refl w _) _) _ _ _ _ _ _⟩
      have e1 : putQ cap q false (t, d) = q ++ [(t, d)] := by simp [putQ, hr]
      rw [e1]
      have k1 : ∀ o : Obj, (w.alloc o).heap[bp]? = w.heap[bp]? := fun o => Below.heap_alloc _ _ _ b1
      refine ⟨?_, ?_, ?_, ⟨s + 1, r, ?_⟩, by simp; omega⟩
      · rw [cell_setChan_ne _ _ _ _ _ _ _ _ _ (Ne.symm b3)]; exact (World.cell?_of_block (a := ⟨bp, 0, none⟩) (k1 _)).trans h.c0
      · rw [cell_setChan_ne _ _ _ _ _ _ _ _ _ (Ne.symm b3)]; exact (World.cell?_of_block (a := ⟨bp, 1, none⟩) (k1 _)).trans h.c1
      · rw [frozen_setChan_ne _ _ _ _ _ _ _ _ _ (Ne.symm b3)]; exact (World.frozen?_of_block (a := ⟨bp, 1, none⟩) (k1 _)).trans h.fz
      · rw [heap_setChan _ _ _ _ _ _ _ _ (by simp; omega)]
        simp [asks]
    · refine (put_full bp ch cap _ s r t d w h.c0 h.c1 hc (by simp [asks]; omega)).mono ?_
      rintro e w' ⟨rfl, rfl⟩
      have e1 : putQ cap q false (t, d) = q := by simp [putQ, hr]
      rw [e1]
      exact ⟨by simp [putOk, hr], h.kept (Below.heap_alloc _ _ _ b1) (Below.heap_alloc _ _ _ b2), gb_alloc (gb_refl w _) _⟩
  · have HO := fun W hW => Lib.hid (open_any bp ch cap q true W hW)
    have hW := Lib.hid (h.kept (w' := w.alloc (.cells #[.int .i64 t, .int .i64 d] 28)) (Below.heap_alloc _ _ _ b1) (Below.heap_alloc _ _ _ b2))
    have e1 : putQ cap q true (t, d) = q := by simp [putQ]
    have e2 : putOk cap q true = false := by simp [putOk]
    rw [e1, e2]
    clear e1 e2 hc h
    unfold askV
    go_enter Try.func11, Try.ntmps11
    go_wp2_with (go_at_call 19; refine (HO _ hW.out).out.mono ?_; rintro e w' ⟨rfl, rfl⟩)
    go_ret
    exact ⟨rfl, hW.out, gb_alloc (gb_refl w _) _⟩

theorem take_any0 (bp ch cap : Nat) (shut : Bool) (w : World) (h : IsBox w bp ch cap [] shut) :
    Calls Try.prog 14 #[.pointer (some ⟨bp, 0, none⟩)] w fun e w' => e = .returned (.tuple #[askV 0 0, .bool false]) ∧ IsBox w' bp ch cap [] shut ∧ w.grownBy w' (some ch) := by
  obtain ⟨b1, b2, b3⟩ := h.lt
  obtain ⟨s, r, hc⟩ := h.hc
  refine (take_none bp ch cap s r w h.c0 hc).mono ?_
  rintro e w' ⟨rfl, rfl⟩
  exact ⟨rfl, h.kept (Below.heap_alloc _ _ _ b1) (Below.heap_alloc _ _ _ b2), gb_alloc (gb_refl w _) _⟩

theorem take_any1 (bp ch cap : Nat) (t d : Int) (q : List (Int × Int)) (shut : Bool) (w : World) (h : IsBox w bp ch cap ((t, d) :: q) shut) :
    Calls Try.prog 14 #[.pointer (some ⟨bp, 0, none⟩)] w fun e w' => e = .returned (.tuple #[askV t d, .bool true]) ∧ IsBox w' bp ch cap q shut ∧ w.grownBy w' (some ch) := by
  obtain ⟨b1, b2, b3⟩ := h.lt
  obtain ⟨s, r, hc⟩ := h.hc
  refine (take_some bp ch cap _ s r w h.c0 hc t d (by simp [asks]) (by simp [asks])).mono ?_
  rintro e w' ⟨rfl, rfl⟩
  have g0 := gb_chan (c := ch) (gb_alloc (gb_refl w _) (.cells #[.int .i64 0, .int .i64 0] 28)) cap ((asks ((t, d) :: q)).toArray.extract 1 (asks ((t, d) :: q)).toArray.size) false s (r + 1) false
  have g1 := gb_cell (gb_cell (gb_alloc g0 (.cells #[.int .i64 t, .int .i64 d] 28)) ⟨w.heap.size, 0, none⟩ (.int .i64 t) (Nat.le_refl _)) ⟨w.heap.size, 1, none⟩ (.int .i64 d) (Nat.le_refl _)
  refine ⟨rfl, ⟨(World.cell?_of_block (a := ⟨bp, 0, none⟩) (g1.block bp b1 (by simpa using b3))).trans h.c0, (World.cell?_of_block (a := ⟨bp, 1, none⟩) (g1.block bp b1 (by simpa using b3))).trans h.c1, (World.frozen?_of_block (a := ⟨bp, 1, none⟩) (g1.block bp b1 (by simpa using b3))).trans h.fz, ⟨s, r + 1, ?_⟩, by have := h.le; simp at this; omega⟩, g1⟩
  rw [Below.heap_setCell _ _ _ _ (by show ch ≠ w.heap.size; omega), Below.heap_setCell _ _ _ _ (by show ch ≠ w.heap.size; omega), Below.heap_alloc _ _ _ (by rw [size_setChan]; simp; omega), heap_setChan _ _ _ _ _ _ _ _ (by simp; omega)]
  have e : (asks ((t, d) :: q)).toArray.extract 1 (asks ((t, d) :: q)).toArray.size = (asks q).toArray := by
    simp [asks, List.take_of_length_le]
  rw [e]

theorem len_any (bp ch cap : Nat) (q : List (Int × Int)) (shut : Bool) (w : World) (h : IsBox w bp ch cap q shut) :
    Calls Try.prog 12 #[.pointer (some ⟨bp, 0, none⟩)] w fun e w' => e = .returned (.int .i64 q.length) ∧ w = w' := by
  have h0 := h.c0
  obtain ⟨s, r, hc⟩ := h.hc
  have hlen := fun ty => run_len_chan (P := Try.prog) 48 ty Try.underlying48 hc
  clear hc h
  go_enter Try.func12, Try.ntmps12
  go_wp2
  go_ret
  exact ⟨by simp [asks], rfl⟩
theorem len_nil (w : World) : Calls Try.prog 12 #[.pointer none] w fun e w' => e = .returned (.int .i64 0) ∧ w = w' := by
  go_enter Try.func12, Try.ntmps12
  go_wp2
  go_ret
  exact ⟨rfl, rfl⟩
theorem put_nil (t d : Int) (w : World) : Calls Try.prog 11 #[.pointer none, askV t d] w fun e w' => e = .returned (.bool false) ∧ w.grownBy w' none := by
  have HO := fun W => Lib.hid (open_nil W)
  unfold askV
  go_enter Try.func11, Try.ntmps11
  go_wp2_with (go_at_call 19; refine (HO _).out.mono ?_; rintro e w' ⟨rfl, rfl⟩)
  go_ret
  exact ⟨rfl, gb_alloc (gb_refl w _) _⟩
theorem take_nil (w : World) : Calls Try.prog 14 #[.pointer none] w fun e w' => e = .returned (.tuple #[askV 0 0, .bool false]) ∧ w.grownBy w' none := by
  unfold askV
  go_enter Try.func14, Try.ntmps14
  go_wp2
  refine bodyPost_ret (v := .tuple #[.agg #[.int .i64 0, .int .i64 0], .bool false]) (by simp [results, Try.results14, go_sem]) rfl ⟨rfl, ?_⟩
  exact gb_alloc (gb_refl w _) _

/-- How many more. -/
def roomN (cap : Nat) (q : List (Int × Int)) (shut : Bool) : Nat := if shut = true then 0 else cap - q.length
set_option maxHeartbeats 1000000 in
theorem room_any (bp ch cap : Nat) (q : List (Int × Int)) (shut : Bool) (w : World) (h : IsBox w bp ch cap q shut) (hcap : cap ≤ 1000) :
    Calls Try.prog 13 #[.pointer (some ⟨bp, 0, none⟩)] w fun e w' => e = .returned (.int .i64 (roomN cap q shut : Nat)) ∧ ∃ n, w' = w.drewN n := by
  have HO := Lib.hid (open_any bp ch cap q shut w h)
  have h0 := h.c0
  have hle := h.le
  obtain ⟨s, r, hc⟩ := h.hc
  cases shut
  · have hlen := fun ty nq => run_len_chan (P := Try.prog) (w := w.drewN nq) 48 ty Try.underlying48 hc
    have hcp := fun ty nq => run_cap_chan (P := Try.prog) (w := w.drewN nq) 48 ty Try.underlying48 hc
    have e1 : ((asks q).toArray.size : Int) = (q.length : Int) := by simp [asks]
    rw [e1] at hlen
    have e2 : ((roomN cap q false : Nat) : Int) = (cap : Int) - (q.length : Int) := by simp [roomN]; omega
    rw [e2]
    clear hc h e1 e2
    go_enter Try.func13, Try.ntmps13
    go_wp2_with (go_at_call 19; refine HO.out.mono ?_; rintro e w' ⟨rfl, rfl⟩)
    go_quiet (fail)
    go_wp2
    go_ret
    exact ⟨rfl, _, rfl⟩
  · have e2 : ((roomN cap q true : Nat) : Int) = 0 := by simp [roomN]
    rw [e2]
    clear hc h e2
    go_enter Try.func13, Try.ntmps13
    go_wp2_with (go_at_call 19; refine HO.out.mono ?_; rintro e w' ⟨rfl, rfl⟩)
    go_ret
    exact ⟨rfl, 0, rfl⟩
theorem room_nil (w : World) : Calls Try.prog 13 #[.pointer none] w fun e w' => e = .returned (.int .i64 0) ∧ ∃ n, w' = w.drewN n := by
  have HO := Lib.hid (open_nil w)
  go_enter Try.func13, Try.ntmps13
  go_wp2_with (go_at_call 19; refine HO.out.mono ?_; rintro e w' ⟨rfl, rfl⟩)
  go_ret
  exact ⟨rfl, 0, rfl⟩

theorem shut_any (bp ch cap : Nat) (q : List (Int × Int)) (shut : Bool) (w : World) (h : IsBox w bp ch cap q shut) :
    Calls Try.prog 18 #[.pointer (some ⟨bp, 0, none⟩)] w fun e w' => e = .returned (.bool (!shut)) ∧ IsBox w' bp ch cap q true ∧ w.grownBy w' (some bp) := by
  have HO := Lib.hid (open_any bp ch cap q shut w h)
  have h1 := h.c1
  have h2 := h.fz
  have H := Lib.hid h
  obtain ⟨b1, b2, b3⟩ := h.lt
  clear h
  cases shut
  · go_enter Try.func18, Try.ntmps18
    go_wp2_with (go_at_call 19; refine HO.out.mono ?_; rintro e w' ⟨rfl, rfl⟩)
    go_ret
    obtain ⟨s, r, hc⟩ := H.out.hc
    refine ⟨rfl, ⟨?_, ?_, ?_, ⟨s, r, ?_⟩, H.out.le⟩, ⟨rfl, rfl, rfl, by simp [World.setCell], fun k _ hr => Below.heap_setCell _ _ _ _ (fun e => hr (by rw [e]))⟩⟩
    · rw [World.cell?_setCell_other _ _ _ _ (by simp)]; exact H.out.c0
    · exact World.cell?_setCell_same _ _ _ h1
    · rw [World.frozen?_setCell]; exact h2
    · rw [Below.heap_setCell _ _ _ _ (Ne.symm b3)]; exact hc
  · go_enter Try.func18, Try.ntmps18
    go_wp2_with (go_at_call 19; refine HO.out.mono ?_; rintro e w' ⟨rfl, rfl⟩)
    go_ret
    exact ⟨rfl, H.out, gb_refl _ _⟩
theorem shut_nil (w : World) : Calls Try.prog 18 #[.pointer none] w fun e w' => e = .returned (.bool false) ∧ w = w' := by
  have HO := Lib.hid (open_nil w)
  go_enter Try.func18, Try.ntmps18
  go_wp2_with (go_at_call 19; refine HO.out.mono ?_; rintro e w' ⟨rfl, rfl⟩)
  go_ret
  exact ⟨rfl, rfl⟩

theorem bytesAsk : ∃ i, Try.prog.info? 28 = some i ∧ i.bytes = 16 := by
  have h : (Try.prog.info? 28).map (·.bytes) = some 16 := by kernel_rfl
  obtain ⟨i, hi, hb⟩ := Option.map_eq_some_iff.1 h
  exact ⟨i, hi, hb⟩
set_option maxHeartbeats 1000000 in
theorem new_any (x : Int) (n : Nat) (hx : x = (n : Int)) (h0 : 1 ≤ n) (h1 : n ≤ 1000) (w : World) :
    Calls Try.prog 10 #[.int .i64 x] w fun e w' => ∃ bp ch, e = .returned (.pointer (some ⟨bp, 0, none⟩)) ∧ IsBox w' bp ch n [] false ∧ w.grownBy w' none ∧ w.heap.size ≤ bp ∧ w.heap.size ≤ ch := by
  subst hx
  obtain ⟨i, hi, hb⟩ := bytesAsk
  have hmk := fun W => run_makeChan (P := Try.prog) (w := W) Try.underlying48 hi .i64 n (by omega) (by rw [hb]; omega)
  have g1 : decide ((n : Int) < 1) = false := by simp; omega
  have g2 : decide ((1000 : Int) < (n : Int)) = false := by simp; omega
  go_enter Try.func10, Try.ntmps10
  go_wp2
  go_ret
  refine ⟨w.heap.size + 1, w.heap.size, rfl, ⟨?_, ?_, ?_, ⟨0, 0, ?_⟩, Nat.zero_le _⟩, gb_alloc (gb_alloc (gb_refl w _) _) _, by omega, Nat.le_refl _⟩
  · rw [World.cell?_alloc_at _ _ _ _ (by simp)]; rfl
  · rw [World.cell?_alloc_at _ _ _ _ (by simp)]; rfl
  · rw [World.frozen?_alloc_at _ _ _ _ (by simp)]
  · rw [Below.heap_alloc _ _ _ (by simp)]
    exact heap_alloc_new w _
theorem new_no (n : Int) (h : n < 1 ∨ 1000 < n) (w : World) :
    Calls Try.prog 10 #[.int .i64 n] w fun e w' => e = .returned (.pointer none) ∧ w = w' := by
  by_cases h1 : n < 1
  · have g1 : decide (n < 1) = true := decide_eq_true h1
    go_enter Try.func10, Try.ntmps10
    go_wp2
    go_ret
    exact ⟨rfl, rfl⟩
  · have g1 : decide (n < 1) = false := decide_eq_false h1
    have g2 : decide (1000 < n) = true := decide_eq_true (by omega)
    go_enter Try.func10, Try.ntmps10
    go_wp2
    go_ret
    exact ⟨rfl, rfl⟩
end Go.Proofs.Ytmobimkbfmgciaa.Post
