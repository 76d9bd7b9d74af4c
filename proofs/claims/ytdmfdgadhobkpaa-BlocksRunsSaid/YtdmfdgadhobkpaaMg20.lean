/-
  Texts of one claim, joined in build order: Cache1.
-/
import Derived.Test.YtdmfdgadhobkpaaMg19
import Derived.Lib.SliceRun
import Derived.Deep.OwnRows
/-
  Package cache: New, Sets, may, owns, Use, Owner, Flush.
-/
namespace Go.Proofs.Ytdmfdgadhobkpaa.Cache
open Go.RowKit Go.Shelf Go.Proofs.Ytdmfdgadhobkpaa.Bits

/-- A cache: whose each set is. -/
def IsC (w : World) (p g : Nat) (L : List Int) : Prop :=
  w.heap[p]? = some (.cells #[.slice (some ⟨g, 0, none⟩) L.length L.length] 73 (0, 0)) ∧ w.heap[g]? = some (.cells (L.map (Value.int .i64)).toArray 3 (0, 0)) ∧ p ≠ g ∧ L.length ≤ 256
theorem IsC.ptr {w : World} {p g : Nat} {L : List Int} (h : IsC w p g L) : w.cell? ⟨p, 0, none⟩ = some (.slice (some ⟨g, 0, none⟩) L.length L.length) := by
  simp [World.cell?, h.1]
theorem IsC.at {w : World} {p g : Nat} {L : List Int} (h : IsC w p g L) (i : Nat) (hi : i < L.length) : w.cell? ⟨g, i, none⟩ = some (.int .i64 (L.getD i 0)) := by
  simp [World.cell?, h.2.1, List.getD_eq_getElem?_getD, List.getElem?_eq_getElem hi]
theorem IsC.free {w : World} {p g : Nat} {L : List Int} (h : IsC w p g L) (i : Nat) : w.frozen? ⟨g, i, none⟩ = false := by
  simp [World.frozen?, h.2.1]
theorem IsC.lt {w : World} {p g : Nat} {L : List Int} (h : IsC w p g L) : p < w.heap.size ∧ g < w.heap.size := ⟨(Array.getElem?_eq_some_iff.1 h.1).1, (Array.getElem?_eq_some_iff.1 h.2.1).1⟩
theorem IsC.kept {w w' : World} {p g : Nat} {L : List Int} (h : IsC w p g L) (h1 : w'.heap[p]? = w.heap[p]?) (h2 : w'.heap[g]? = w.heap[g]?) : IsC w' p g L := ⟨h1.trans h.1, h2.trans h.2.1, h.2.2⟩
theorem IsC.below {w w' : World} {p g : Nat} {L : List Int} (h : IsC w p g L) {B : Nat} (hb : Below B w w') (hB : w.heap.size ≤ B) : IsC w' p g L := h.kept (hb.block _ (Nat.lt_of_lt_of_le h.lt.1 hB)) (hb.block _ (Nat.lt_of_lt_of_le h.lt.2 hB))
theorem IsC.put {w : World} {p g : Nat} {L : List Int} (h : IsC w p g L) (i : Nat) (x : Int) : IsC (w.setCell ⟨g, i, none⟩ (.int .i64 x)) p g (L.set i x) := by
  refine ⟨?_, ?_, h.2.2.1, by simpa using h.2.2.2⟩
  · rw [Below.heap_setCell _ _ _ _ (by simpa using h.2.2.1), h.1]; simp
  · have := Lib.heap_setCell_same (i := i) h.2.1 (.int .i64 x)
    rw [this]
    simp [List.map_set, List.setIfInBounds_toArray]
/-- Below B, and all other blocks but g. -/
structure Only (g : Nat) (w w' : World) : Prop where
  os : w'.os = w.os
  tape : w'.tape = w.tape
  output : w'.output = w.output
  size : w.heap.size ≤ w'.heap.size
  block : ∀ k, k < w.heap.size → k ≠ g → w'.heap[k]? = w.heap[k]?
theorem Only.refl (g : Nat) (w : World) : Only g w w := ⟨rfl, rfl, rfl, Nat.le_refl _, fun _ _ _ => rfl⟩
theorem Only.put {w : World} (g i : Nat) (x : Value) : Only g w (w.setCell ⟨g, i, none⟩ x) := ⟨rfl, rfl, rfl, by simp [World.setCell], fun k _ hk => Below.heap_setCell _ _ _ _ hk⟩
theorem Only.below {g B : Nat} {w w' : World} (h : Only g w w') (hB : B ≤ g) (hs : B ≤ w.heap.size) : Below B w w' := ⟨h.os, h.tape, h.output, h.size, fun k hk => h.block k (by omega) (by omega)⟩
theorem Only.trans {g : Nat} {a b c : World} (h : Only g a b) (k : Only g b c) : Only g a c :=
  ⟨k.os.trans h.os, k.tape.trans h.tape, k.output.trans h.output, Nat.le_trans h.size k.size, fun i hi hn => (k.block i (Nat.lt_of_lt_of_le hi h.size) hn).trans (h.block i hi hn)⟩
theorem Only.of {g : Nat} {w w' : World} (h : Below w.heap.size w w') : Only g w w' := ⟨h.os, h.tape, h.output, h.size, fun k hk _ => h.block k hk⟩

/-- May this number be a set, an owner? -/
def mayB (L : List Int) (set : Int) : Bool := decide (0 ≤ set ∧ set < L.length)
def ownB (owner : Int) : Bool := decide (1 ≤ owner ∧ owner ≤ 99)
def useB (L : List Int) (set owner : Int) : Bool := mayB L set && ownB owner && (L.getD set.toNat 0 == owner)
def useL (L : List Int) (set owner : Int) : List Int := if mayB L set && ownB owner then L.set set.toNat owner else L
def ownerI (L : List Int) (set : Int) : Int := if mayB L set then L.getD set.toNat 0 else 0
theorem useL_len (L : List Int) (set owner : Int) : (useL L set owner).length = L.length := by unfold useL; split <;> simp

theorem infoI : (Try.prog.info? 3).map (fun i => (i.zero, i.size, i.bytes)) = some (some (.int .i64 0), 1, 8) := by kernel_rfl
set_option maxHeartbeats 4000000 in
set_option maxRecDepth 100000 in
theorem new_any (n : Nat) (hn : n ≤ 256) (w : World) : Calls Try.prog 19 #[.int .i64 (n : Int)] w fun e w' => ∃ p g, e = .returned (.pointer (some ⟨p, 0, none⟩)) ∧ IsC w' p g (List.replicate n 0) ∧ Below w.heap.size w w' ∧ w.heap.size ≤ p ∧ w.heap.size ≤ g := by
  have hmk := fun w => run_make_row' (P := Try.prog) 34 3 (.int .i64 0) 8 Try.underlying34 infoI rfl .i64 .i64 n (by omega) (by omega) w
  have h1 : ¬ (n : Int) < 0 := by omega
  have h2 : (n : Int) ≤ 256 := by omega
  have hz : madeCells #[.int .i64 0] n = ((List.replicate n (0 : Int)).map (Value.int .i64)).toArray := by
    apply Array.ext'
    rw [toList_madeCells_one]
    simp
  rw [hz] at hmk
  go_enter Try.func19, Try.ntmps19
  go_wp2
  go_ret
  refine ⟨w.heap.size + 1, rfl, w.heap.size, ⟨?_, ?_, by omega, by simpa using hn⟩, ?_, by omega, Nat.le_refl _⟩
  · rw [List.length_replicate]
    exact heap_new _ _ _ (by simp)
  · rw [Below.heap_alloc _ _ _ (by simp), show ((List.replicate n (0 : Int)).map (Value.int .i64)).toArray = Array.replicate n (.int .i64 0) by simp]
    exact heap_new _ _ _ rfl
  · exact ((Below.refl _ w).alloc (Nat.le_refl _) _).alloc (by simp) _
set_option maxHeartbeats 4000000 in
set_option maxRecDepth 100000 in
theorem new_none (i : Int) (h : ¬ (0 ≤ i ∧ i ≤ 256)) (w : World) : Calls Try.prog 19 #[.int .i64 i] w fun e w' => e = .returned (.pointer none) ∧ w' = w := by
  by_cases h0 : i < 0
  · clear h
    go_enter Try.func19, Try.ntmps19
    go_wp2
    go_ret
    exact ⟨rfl, rfl⟩
  · have h1 : 256 < i := by omega
    clear h
    go_enter Try.func19, Try.ntmps19
    go_wp2
    go_ret
    exact ⟨rfl, rfl⟩
set_option maxHeartbeats 4000000 in
set_option maxRecDepth 100000 in
theorem sets_any (p g : Nat) (L : List Int) (w : World) (h : IsC w p g L) : Calls Try.prog 48 #[.pointer (some ⟨p, 0, none⟩)] w fun e w' => e = .returned (.int .i64 (L.length : Int)) ∧ w' = w := by
  have hp := h.ptr
  go_enter Try.func48, Try.ntmps48
  go_wp2
  go_ret
  exact ⟨rfl, rfl⟩
set_option maxHeartbeats 4000000 in
set_option maxRecDepth 100000 in
theorem sets_nil (w : World) : Calls Try.prog 48 #[.pointer none] w fun e w' => e = .returned (.int .i64 0) ∧ w' = w := by
  go_enter Try.func48, Try.ntmps48
  go_wp2
  go_ret
  exact ⟨rfl, rfl⟩
set_option maxHeartbeats 4000000 in
set_option maxRecDepth 100000 in
theorem may_any (p g : Nat) (L : List Int) (set : Int) (w : World) (h : IsC w p g L) : Calls Try.prog 37 #[.pointer (some ⟨p, 0, none⟩), .int .i64 set] w fun e w' => e = .returned (.bool (mayB L set)) ∧ w' = w := by
  by_cases h0 : 0 ≤ set
  · go_enter Try.func37, Try.ntmps37
    go_wp2_with (go_at_call 48; refine (sets_any p g L _ h).mono ?_; rintro e w' ⟨rfl, rfl⟩)
    go_ret
    exact ⟨by first | (simp [mayB, h0]; done) | (simp [mayB]; omega), rfl⟩
  · go_enter Try.func37, Try.ntmps37
    go_wp2
    go_ret
    exact ⟨by simp [mayB]; omega, rfl⟩
set_option maxHeartbeats 4000000 in
set_option maxRecDepth 100000 in
theorem may_nil (set : Int) (w : World) : Calls Try.prog 37 #[.pointer none, .int .i64 set] w fun e w' => e = .returned (.bool false) ∧ w' = w := by
  by_cases h0 : 0 ≤ set
  · have h1 : decide (set < 0) = false := decide_eq_false (by omega)
    go_enter Try.func37, Try.ntmps37
    go_wp2_with (go_at_call 48; refine (sets_nil _).mono ?_; rintro e w' ⟨rfl, rfl⟩)
    go_ret
    exact ⟨rfl, rfl⟩
  · go_enter Try.func37, Try.ntmps37
    go_wp2
    go_ret
    exact ⟨rfl, rfl⟩
set_option maxHeartbeats 4000000 in
set_option maxRecDepth 100000 in
theorem owns_any (owner : Int) (w : World) : Calls Try.prog 35 #[.int .i64 owner] w fun e w' => e = .returned (.bool (ownB owner)) ∧ w' = w := by
  by_cases h0 : 1 ≤ owner
  · go_enter Try.func35, Try.ntmps35
    go_wp2
    go_ret
    exact ⟨by first | (simp [ownB, h0]; done) | (simp [ownB]; omega), rfl⟩
  · go_enter Try.func35, Try.ntmps35
    go_wp2
    go_ret
    exact ⟨by simp [ownB]; omega, rfl⟩
set_option maxHeartbeats 4000000 in
set_option maxRecDepth 100000 in
theorem use_any (p g : Nat) (L : List Int) (set owner : Int) (w : World) (h : IsC w p g L) : Calls Try.prog 40 #[.pointer (some ⟨p, 0, none⟩), .int .i64 set, .int .i64 owner] w fun e w' => e = .returned (.bool (useB L set owner)) ∧ IsC w' p g (useL L set owner) ∧ Only g w w' := by
  cases hm : mayB L set with
  | false =>
    go_enter Try.func40, Try.ntmps40
    go_wp2_with (first | (go_at_call 37; refine (may_any p g L set _ h).mono ?_; rintro e w' ⟨rfl, rfl⟩) | (go_at_call 35; refine (owns_any owner _).mono ?_; rintro e w' ⟨rfl, rfl⟩))
    go_ret
    exact ⟨by simp [useB, hm], by simpa [useL, hm] using h, Only.refl _ _⟩
  | true =>
    cases ho : ownB owner with
    | false =>
      go_enter Try.func40, Try.ntmps40
      go_wp2_with (first | (go_at_call 37; refine (may_any p g L set _ h).mono ?_; rintro e w' ⟨rfl, rfl⟩) | (go_at_call 35; refine (owns_any owner _).mono ?_; rintro e w' ⟨rfl, rfl⟩))
      go_ret
      exact ⟨by simp [useB, ho], by simpa [useL, ho] using h, Only.refl _ _⟩
    | true =>
      have hm' := of_decide_eq_true hm
      obtain ⟨k, rfl⟩ : ∃ k : Nat, set = (k : Int) := ⟨set.toNat, by omega⟩
      have hk : k < L.length := by omega
      have hp := h.ptr
      have c1 := h.at k hk
      have f1 := h.free k
      have hB : useB L (k : Int) owner = (L.getD k 0 == owner) := by simp [useB, hm, ho]
      have hL : useL L (k : Int) owner = L.set k owner := by simp [useL, hm, ho]
      have q1 : (0 : Int) ≤ (k : Int) := by omega
      have q2 : (k : Int) < (L.length : Int) := by omega
      rw [hB, hL]
      have HP := Lib.hid (h.put k owner)
      clear hB hL hm'
      generalize L.getD k 0 = z at *
      go_enter Try.func40, Try.ntmps40
      go_wp2_with (first | (go_at_call 37; refine (may_any p g L _ _ h).mono ?_; rintro e w' ⟨rfl, rfl⟩) | (go_at_call 35; refine (owns_any owner _).mono ?_; rintro e w' ⟨rfl, rfl⟩))
      go_ret
      exact ⟨rfl, HP.out, Only.put _ _ _⟩
set_option maxHeartbeats 4000000 in
set_option maxRecDepth 100000 in
theorem owner_any (p g : Nat) (L : List Int) (set : Int) (w : World) (h : IsC w p g L) : Calls Try.prog 39 #[.pointer (some ⟨p, 0, none⟩), .int .i64 set] w fun e w' => e = .returned (.int .i64 (ownerI L set)) ∧ w' = w := by
  cases hm : mayB L set with
  | false =>
    go_enter Try.func39, Try.ntmps39
    go_wp2_with (first | (go_at_call 37; refine (may_any p g L set _ h).mono ?_; rintro e w' ⟨rfl, rfl⟩) | (go_at_call 35; refine (owns_any owner _).mono ?_; rintro e w' ⟨rfl, rfl⟩))
    go_ret
    exact ⟨by simp [ownerI, hm], rfl⟩
  | true =>
    have hm' := of_decide_eq_true hm
    obtain ⟨k, rfl⟩ : ∃ k : Nat, set = (k : Int) := ⟨set.toNat, by omega⟩
    have hk : k < L.length := by omega
    have hp := h.ptr
    have c1 := h.at k hk
    have hO : ownerI L (k : Int) = L.getD k 0 := by simp [ownerI, hm]
    have q1 : (0 : Int) ≤ (k : Int) := by omega
    have q2 : (k : Int) < (L.length : Int) := by omega
    rw [hO]
    clear hO hm'
    generalize L.getD k 0 = z at *
    go_enter Try.func39, Try.ntmps39
    go_wp2_with (first | (go_at_call 37; refine (may_any p g L _ _ h).mono ?_; rintro e w' ⟨rfl, rfl⟩) | (go_at_call 35; refine (owns_any owner _).mono ?_; rintro e w' ⟨rfl, rfl⟩))
    go_ret
    exact ⟨rfl, rfl⟩
set_option maxHeartbeats 4000000 in
set_option maxRecDepth 100000 in
theorem use_nil (set owner : Int) (w : World) : Calls Try.prog 40 #[.pointer none, .int .i64 set, .int .i64 owner] w fun e w' => e = .returned (.bool false) ∧ w' = w := by
  go_enter Try.func40, Try.ntmps40
  go_wp2_with (first | (go_at_call 37; refine (may_nil set _).mono ?_; rintro e w' ⟨rfl, rfl⟩))
  go_ret
  exact ⟨rfl, rfl⟩
set_option maxHeartbeats 4000000 in
set_option maxRecDepth 100000 in
theorem owner_nil (set : Int) (w : World) : Calls Try.prog 39 #[.pointer none, .int .i64 set] w fun e w' => e = .returned (.int .i64 0) ∧ w' = w := by
  go_enter Try.func39, Try.ntmps39
  go_wp2_with (first | (go_at_call 37; refine (may_nil set _).mono ?_; rintro e w' ⟨rfl, rfl⟩))
  go_ret
  exact ⟨rfl, rfl⟩
set_option maxHeartbeats 4000000 in
set_option maxRecDepth 100000 in
theorem flush_nil (w : World) : Calls Try.prog 22 #[.pointer none] w fun e w' => e = .returned (.tuple #[]) ∧ w' = w := by
  go_enter Try.func22, Try.ntmps22
  go_wp2
  go_end0
  exact ⟨rfl, rfl⟩
theorem flush_from : ∀ (m o : Nat) {w : World} {p g : Nat} {L : List Int}, IsC w p g L → o + m ≤ L.length → ∃ L', IsC (w.setCells g o (List.replicate m (.int .i64 0))) p g L' ∧ L'.length = L.length ∧ (∀ j, j < L.length → L'.getD j 0 = if o ≤ j ∧ j < o + m then 0 else L.getD j 0) ∧ Only g w (w.setCells g o (List.replicate m (.int .i64 0)))
  | 0, o, w, p, g, L, h, _ => ⟨L, h, rfl, fun j hj => by rw [if_neg (by omega)], Only.refl _ _⟩
  | m + 1, o, w, p, g, L, h, hl => by
    obtain ⟨L', h1, h2, h3, h4⟩ := flush_from m (o + 1) (h.put o 0) (by rw [List.length_set]; omega)
    rw [List.length_set] at h2
    refine ⟨L', h1, h2, fun j hj => ?_, (Only.put g o _).trans h4⟩
    rw [h3 j (by rw [List.length_set]; exact hj)]
    by_cases e : o = j
    · subst e
      rw [if_neg (by omega), if_pos (by omega)]
      simp [List.getD_eq_getElem?_getD, hj]
    · have : (L.set o 0).getD j 0 = L.getD j 0 := by simp [List.getD_eq_getElem?_getD, List.getElem?_set_ne e]
      rw [this]
      by_cases hh : o + 1 ≤ j ∧ j < o + 1 + m
      · rw [if_pos hh, if_pos (by omega)]
      · rw [if_neg hh, if_neg (by omega)]
/-- All the cells of the row are set to nought, one after the other. -/
theorem IsC.flush {w : World} {p g : Nat} {L : List Int} (h : IsC w p g L) : IsC (w.setCells g 0 (List.replicate L.length (.int .i64 0))) p g (List.replicate L.length 0) ∧ Only g w (w.setCells g 0 (List.replicate L.length (.int .i64 0))) := by
  obtain ⟨L', h1, h2, h3, h4⟩ := flush_from L.length 0 h (by omega)
  have e : L' = List.replicate L.length 0 := by
    apply List.ext_getElem
    · simpa using h2
    · intro j hj _
      have := h3 j (by omega)
      rw [if_pos (by omega), List.getD_eq_getElem?_getD, List.getElem?_eq_getElem hj] at this
      simpa using this
  rw [← e]
  exact ⟨h1, h4⟩
set_option maxHeartbeats 4000000 in
set_option maxRecDepth 100000 in
theorem flush_any (p g : Nat) (L : List Int) (w : World) (h : IsC w p g L) : Calls Try.prog 22 #[.pointer (some ⟨p, 0, none⟩)] w fun e w' => e = .returned (.tuple #[]) ∧ IsC w' p g (List.replicate L.length 0) ∧ Only g w w' := by
  have hp := h.ptr
  have HF := Lib.hid h.flush
  have HH := Lib.hid h
  by_cases h0 : 0 < L.length
  · have hcl := Lib.run_clear_slice (P := Try.prog) w 34 3 0 (.int .i64 0) Try.underlying34 (fun w => by go_simp) rfl rfl g 0 L.length L.length h0 (fun j hj => by rw [Nat.zero_add, h.at j hj]; rfl) (fun j hj => by rw [Nat.zero_add]; exact h.free j)
    clear h
    go_enter Try.func22, Try.ntmps22
    go_wp2
    go_end0
    exact ⟨rfl, HF.out.1, HF.out.2⟩
  · obtain rfl : L = [] := List.eq_nil_of_length_eq_zero (by omega)
    have hcl : (Builtin.clear_ #[34] 0 #[.slice (some ⟨g, 0, none⟩) 0 0]).run Try.prog w = .ok (.tuple #[]) w := by
      have hv : (zeroValue 3).run Try.prog w = .ok (.int .i64 0) w := by go_simp
      simp [Builtin.clear_, run_underlying Try.underlying34, hv, storeCells, Builtin.zeroCells]
    clear h0 h HF
    go_enter Try.func22, Try.ntmps22
    go_wp2
    go_end0
    exact ⟨rfl, HH.out, Only.refl _ _⟩
end Go.Proofs.Ytdmfdgadhobkpaa.Cache
