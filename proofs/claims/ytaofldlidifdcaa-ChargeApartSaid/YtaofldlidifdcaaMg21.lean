/-
  Texts of one claim, joined in build order: Bits19, Ref4, Ref5.
-/
import Derived.Test.YtaofldlidifdcaaMg20
import Derived.Deep.RegionHeld3
import Derived.Deep.DeepMust
import Derived.Deep.Onto
import Derived.StillTailTactics
/-
  The statement BitsSame, walked.
-/
namespace Go.Proofs.Ytaofldlidifdcaa.Bits
open Go.RowKit Go.Shelf

/-- A slice of numbers that came in, cut to at most 20. -/
theorem few_row {w : World} {a : Option Addr} {len cap : Nat} {zs : List Int} (h : Row0.IsRow .i64 w a len cap zs) :
    len ≤ cap ∧ cap ≤ 9223372036854775807 ∧ (0 < len → ∃ ad, a = some ad) ∧ ∃ q : List Int, q.length = min len 20 ∧ (∀ ad, a = some ad → ∀ j, j < min len 20 → w.cell? (ad.add j) = some (.int .i64 (q.getD j 0))) := by
  rcases h with ⟨rfl, rfl, rfl, rfl⟩ | ⟨x, rfl, h1, h2, h3, h4, h5⟩
  · exact ⟨Nat.le_refl _, by decide, fun h => absurd h (by decide), [], rfl, fun ad e => by cases e⟩
  · unfold maxLen at h2
    refine ⟨h1, h2, fun _ => ⟨x, rfl⟩, zs.take (min len 20), by rw [List.length_take]; omega, fun ad e j hj => ?_⟩
    cases e
    rw [h4 j (by omega)]
    simp [List.getD_eq_getElem?_getD, hj]
def m16 (l : List Int) : List Int := l.map fun z => z % 16
theorem m16_snoc (l : List Int) (i : Nat) (h : i < l.length) : m16 (l.take (i + 1)) = m16 (l.take i) ++ [l.getD i 0 % 16] := by
  rw [take_int l i h]; simp [m16]
theorem rdI_news {w : World} {b o n : Nat} {l : List Int} (h : RdI w (some ⟨b, o, none⟩) n l) (k m : Nat) (hk : k + m ≤ n) : ∀ j u, (((l.drop k).take m).map (Value.int .i64))[j]? = some u → w.cell? ((⟨b, o + k, none⟩ : Addr).add j) = some u := by
  intro j u hu
  have hj : j < m := by
    have := (List.getElem?_eq_some_iff.1 hu).1
    simp at this
    omega
  rw [Row0.plain_add', Nat.add_assoc, h.atI (k + j) (by omega)]
  rw [← hu]
  have hl := h.1
  simp [List.getElem?_map, List.getElem?_take, hj, List.getElem?_drop, List.getD_eq_getElem?_getD, List.getElem?_eq_getElem (show k + j < l.length by omega)]
theorem one_i64 (l : List Int) : ∀ u ∈ l.map (Value.int .i64), u.oneCell' = true := by
  intro u hu
  obtain ⟨x, _, rfl⟩ := List.mem_map.1 hu
  rfl
/-- What the statement says of a row and how it is turned. -/
theorem same_turn (l : List Int) (k : Nat) : bv (iw (ofN (l.drop k ++ l.take k))) = bv (iw (ofN l)) := bv_ext (Ws.ofN _) (Ws.ofN _) fun i hi => by
  rw [has_ofN _ _ hi, has_ofN _ _ hi, List.any_append, Bool.or_comm, ← List.any_append, List.take_append_drop]
theorem same_more (l : List Int) (k : Nat) (m : Int) (h : l.any (fun i => i == m) = true) : bv (iw (ofN (l.drop k ++ l.take k ++ [m]))) = bv (iw (ofN l)) := bv_ext (Ws.ofN _) (Ws.ofN _) fun i hi => by
  rw [has_ofN _ _ hi, has_ofN _ _ hi, List.any_append, List.any_append, Bool.or_comm (List.any (List.drop k l) _), ← List.any_append, List.take_append_drop]
  simp only [List.any_cons, List.any_nil, Bool.or_false]
  cases hd : decide (m = (i : Int)) with
  | false => simp
  | true =>
    have e := of_decide_eq_true hd
    subst e
    rw [Bool.or_true]
    obtain ⟨x, hx, he⟩ := List.any_eq_true.1 h
    exact (List.any_eq_true.2 ⟨x, hx, by simpa using he⟩).symm
theorem same_not (l : List Int) (k : Nat) (m : Int) (h0 : 0 ≤ m) (h1 : m < 256) (h : l.any (fun i => i == m) = false) : eqN (ofN (l.drop k ++ l.take k ++ [m])) (ofN l) = false := by
  cases he : eqN (ofN (l.drop k ++ l.take k ++ [m])) (ofN l) with
  | false => rfl
  | true =>
    have := hasN_of_bv (of_eqN he) m.toNat (by omega)
    rw [has_ofN _ _ (by omega), has_ofN _ _ (by omega), List.any_append] at this
    have e : decide (m = (m.toNat : Int)) = true := decide_eq_true (by omega)
    simp only [List.any_cons, List.any_nil, e, Bool.or_true, Bool.true_or, Bool.or_false] at this
    rw [Eq.comm, List.any_eq_true] at this
    obtain ⟨x, hx, hxm⟩ := this
    have hx2 := of_decide_eq_true hxm
    have h3 := List.any_eq_false.1 h x hx
    exact absurd (beq_iff_eq.2 (by omega)) h3
theorem any_snoc (l : List Int) (i : Nat) (m : Int) (h : i < l.length) : (l.take (i + 1)).any (fun x => x == m) = ((l.take i).any (fun x => x == m) || (l.getD i 0 == m)) := by
  rw [take_int l i h, List.any_append]
  simp

theorem rdI_ad {w : World} {ad : Addr} {n : Nat} {l : List Int} (h : RdI w (some ad) n l) : ∀ j, j < n → w.cell? (ad.add j) = some (.int .i64 (l.getD j 0)) := fun j hj => by
  obtain ⟨b, o, e, hc⟩ := h.2.2 (by omega)
  cases e
  rw [Row0.plain_add']
  exact hc j hj
theorem drop_news {w : World} {ad : Addr} {n : Nat} {l : List Int} (h : RdI w (some ad) n l) (k : Nat) : ∀ a, some (ad.add k) = some a → ∀ j u, ((l.drop k).map (Value.int .i64))[j]? = some u → w.cell? (a.add j) = some u := by
  intro a e j u hu
  cases e
  have hj : j < l.length - k := by
    have := (List.getElem?_eq_some_iff.1 hu).1
    simpa using this
  have hl := h.1
  rw [show (ad.add k).add j = ad.add (k + j) by simp [Addr.add_add], rdI_ad h (k + j) (by omega), ← hu]
  simp [List.getElem?_map, List.getElem?_drop, List.getD_eq_getElem?_getD, List.getElem?_eq_getElem (show k + j < l.length by omega)]
theorem take_news {w : World} {ad : Addr} {n : Nat} {l : List Int} (h : RdI w (some ad) n l) (k : Nat) : ∀ a, some ad = some a → ∀ j u, ((l.take k).map (Value.int .i64))[j]? = some u → w.cell? (a.add j) = some u := by
  intro a e j u hu
  cases e
  have hj : j < k ∧ j < l.length := by
    have := (List.getElem?_eq_some_iff.1 hu).1
    simp at this
    omega
  have hl := h.1
  rw [rdI_ad h j (by omega), ← hu]
  simp [List.getElem?_map, List.getElem?_take, hj.1, List.getD_eq_getElem?_getD, List.getElem?_eq_getElem hj.2]
theorem own_below {B : Nat} {e : TypeId} {k : Nat} {v : Value} {n : Nat} {xs : List Value} {w w' : World} (h : w.ownsRow B e k v n xs) (hb : Below w.heap.size w w') : w'.ownsRow B e k v n xs :=
  h.kept (row := none) ⟨hb.os, hb.tape, hb.output, hb.size, fun j hj _ => hb.block j hj⟩ (by cases v.ownBlock <;> simp)
@[go_sem] theorem run_guardN (A B : Nat → Nat) (x y : Operand) (w : World) : Sem.run Try.prog (eqGuard .eql 50 x y (bv (iw A)) (bv (iw B))) w = .ok () w := by
  simp only [bvl]
  go_simp
@[go_sem] theorem run_binN (A B : Nat → Nat) (w : World) : Sem.run Try.prog (binOp .eql 50 (bv (iw A)) (bv (iw B))) w = .ok (.bool (eqN A B)) w := by
  simp only [bvl]
  go_simp
  rfl
theorem rdI0 (w : World) : RdI w none 0 [] := ⟨rfl, by decide, fun h => absurd h (by decide)⟩
theorem cell_old {B : Nat} {w w' : World} {a : Addr} {v : Value} (h : w.cell? a = some v) (hb : Below B w w') (hB : w.heap.size ≤ B) : w'.cell? a = some v :=
  (World.cell?_of_block (hb.block _ (Nat.lt_of_lt_of_le (World.block_lt_of_cell? _ _ h) hB))).trans h

end Go.Proofs.Ytaofldlidifdcaa.Bits

/-
  The reference of the sets: List, Len, Same.
-/
namespace Go.Proofs.Ytaofldlidifdcaa.Bits
open Go.RowKit Go.Shelf

def preN (A : Nat → Nat) (i : Nat) : List Nat := (List.range i).filter (hasN A)
theorem preN_le (A : Nat → Nat) (i : Nat) : (preN A i).length ≤ i := by
  have := List.length_filter_le (hasN A) (List.range i)
  simpa [preN] using this
theorem preN_yes (A : Nat → Nat) (i : Nat) (h : hasN A i = true) : preN A (i + 1) = preN A i ++ [i] := by
  simp [preN, List.range_succ, List.filter_append, h]
theorem preN_no (A : Nat → Nat) (i : Nat) (h : hasN A i = false) : preN A (i + 1) = preN A i := by
  simp [preN, List.range_succ, List.filter_append, h]
set_option maxHeartbeats 4000000 in
set_option maxRecDepth 100000 in
theorem listr_n {A : Nat → Nat} (hA : Ws A) (w : World) : Calls Try.prog 74 #[bv (iw A)] w fun e w' => ∃ v, e = .returned v ∧ w'.ownsRow w.heap.size 3 1 v (listN A).length ((cast (listN A)).map (.int .i64)) ∧ Below w.heap.size w w' := by
  obtain ⟨W0, hW0⟩ : ∃ W0, w.alloc (.cells #[.int .u64 (A 0 : Int), .int .u64 (A 1 : Int), .int .u64 (A 2 : Int), .int .u64 (A 3 : Int)] 50) = W0 := ⟨_, rfl⟩
  have nA : W0.heap[w.heap.size]? = some (.cells (rowc (iw A)) 50 (0, 0)) := by rw [← hW0]; exact heap_new _ _ _ rfl
  have hb0 : Below w.heap.size w W0 := by rw [← hW0]; exact (Below.refl _ w).alloc (Nat.le_refl _) _
  have hsz : W0.heap.size = w.heap.size + 1 := by rw [← hW0]; simp
  have HA := Lib.hid nA
  have HL := Lib.hid hb0
  have HZ : Hid (w.heap.size + 1 ≤ W0.heap.size) := Nat.le_of_eq hsz.symm
  clear nA hb0 hsz
  obtain ⟨i0, hi0, hz0, hz1, hz2⟩ := info_parts infoI64
  rw [bvl A]
  go_enter Try.func74, Try.ntmps74
  go_wp2
  clear hW0
  go_loopg [3, 4] 256 (fun g v iv wr => ∃ (i : Nat), i ≤ 256 ∧ iv = .int .i64 (i : Int) ∧ Aside (256 - i = g) ∧ Aside (wr.ownsRow (w.heap.size + 1) 3 1 v (preN A i).length ((cast (preN A i)).map (.int .i64))) ∧ Aside (wr.heap[w.heap.size]? = some (.cells (rowc (iw A)) 50 (0, 0))) ∧ Aside (Below w.heap.size w wr) ∧ Aside (w.heap.size + 1 ≤ wr.heap.size))
  case atStart => exact ⟨0, by decide, rfl, rfl, World.ownsRow_nil _ _ _ _, HA.out, HL.out, HZ.out⟩
  case round =>
    obtain ⟨i, hi, rfl, hk, hown, nX, hbel, hsz⟩ := hrel
    clear HA HL HZ
    by_cases hlt : i < 256
    · obtain ⟨b0, b1, b2, b3⟩ := c4 nX.out
      go_wp2_with fail
      refine (hasr_n hA (i : Int) _).mono ?_
      rintro e W1 ⟨rfl, hb1⟩
      have hI : hasI A (i : Int) = hasN A i := by unfold hasI; rw [if_pos (by omega), Int.toNat_natCast]
      have nX1 := Lib.hid (old4 nX.out hb1 (lt4 nX.out))
      have hbel1 := Lib.hid (hbel.out.trans (hb1.mono hbel.out.size))
      have hO1 := Lib.hid (own_below hown.out hb1)
      have hsz1 : Hid (w.heap.size + 1 ≤ W1.heap.size) := Nat.le_trans hsz.out hb1.size
      clear hb1 b0 b1 b2 b3 nX hbel hown hsz
      have hple := preN_le A i
      cases hh : hasN A i with
      | false =>
        have hI2 := hI.trans hh
        have hp := Lib.hid (preN_no A i hh)
        go_wp2
        go_roundg (256 - (i + 1))
        case measure => have := hk.out; omega
        case rel => exact ⟨i + 1, by omega, by go_num, rfl, by rw [hp.out]; exact hO1.out, nX1.out, hbel1.out, hsz1.out⟩
      | true =>
        have hI2 := hI.trans hh
        have hp : Hid ((cast (preN A (i + 1))).map (Value.int .i64) = (cast (preN A i)).map (Value.int .i64) ++ [.int .i64 (i : Int)] ∧ (preN A (i + 1)).length = (preN A i).length + 1) := by
          rw [RowKit.Hid, preN_yes A i hh]
          constructor
          · simp [cast]
          · simp
        go_wp2_with (at_builtin; go_must (refine wpList_append_own _ rfl _ _ 31 rfl (w.heap.size + 1) 3 i0 (.int .i64 0) 1 8 Try.underlying31 hi0 hz0 hz1 hz2 rfl (by decide) _ _ _ rfl (hO1.out.alloc _) ⟨W1.heap.size, 0, none⟩ 1 1 [.int .i64 (i : Int)] rfl rfl (cell_one_new _ _ _) (by simp [Value.oneCell']) (by unfold maxLen; omega) (by omega) (by have := hsz1.out; simp; omega) ?_; intro v' w1 hown' hgrow _))
        have hO2 : Hid (w1.ownsRow (w.heap.size + 1) 3 1 v' (preN A (i + 1)).length ((cast (preN A (i + 1))).map (.int .i64))) := by
          rw [hp.out.1, hp.out.2]; exact hown'
        have hk2 := fun j (e : _ = some j) => (hO1.out.lt j e).1
        have hB2 : Hid (Below (w.heap.size + 1) W1 w1) := ((Below.refl _ W1).alloc hsz1.out _).grown hgrow (by have := hsz1.out; simp; omega) (fun j e => hk2 j e)
        have nX2 := Lib.hid (old4 nX1.out hB2.out (Nat.lt_succ_self _))
        have hL2 := Lib.hid (hbel1.out.trans (hB2.out.mono (Nat.le_succ _)))
        have hs2 : Hid (w.heap.size + 1 ≤ w1.heap.size) := Nat.le_trans hsz1.out hB2.out.size
        clear hown' hgrow hk2
        go_wp2
        go_roundg (256 - (i + 1))
        case measure => have := hk.out; omega
        case rel => exact ⟨i + 1, by omega, by go_num, rfl, hO2.out, nX2.out, hL2.out, hs2.out⟩
    · obtain rfl : i = 256 := by omega
      rw [show ((256 : Nat) : Int) = 256 from rfl]
      go_wp2
      go_ret
      exact ⟨_, rfl, World.ownsRow.mono hown.out (Nat.le_succ _), hbel.out⟩
set_option maxHeartbeats 4000000 in
set_option maxRecDepth 100000 in
theorem lenr_n {A : Nat → Nat} (hA : Ws A) (w : World) : Calls Try.prog 53 #[bv (iw A)] w fun e w' => e = .returned (.int .i64 ((listN A).length : Int)) ∧ Below w.heap.size w w' := by
  obtain ⟨W0, hW0⟩ : ∃ W0, w.alloc (.cells #[.int .u64 (A 0 : Int), .int .u64 (A 1 : Int), .int .u64 (A 2 : Int), .int .u64 (A 3 : Int)] 50) = W0 := ⟨_, rfl⟩
  have nA : W0.heap[w.heap.size]? = some (.cells (rowc (iw A)) 50 (0, 0)) := by rw [← hW0]; exact heap_new _ _ _ rfl
  have hb0 : Below w.heap.size w W0 := by rw [← hW0]; exact (Below.refl _ w).alloc (Nat.le_refl _) _
  have HL := Lib.hid hb0
  obtain ⟨a0, a1, a2, a3⟩ := c4 nA
  clear nA hb0
  have hle := len_le A
  rw [bvl A]
  go_enter Try.func53, Try.ntmps53
  go_wp2_with fail
  clear hW0 a0 a1 a2 a3
  refine (listr_n hA _).mono ?_
  rintro e W1 ⟨v, rfl, ho, hb1⟩
  obtain ⟨A1, c1, rfl, _⟩ := own_rdI ho (by omega)
  have HB1 := Lib.hid hb1
  clear ho hb1
  go_wp2
  go_ret
  exact ⟨rfl, HL.out.trans (HB1.out.mono HL.out.size)⟩
end Go.Proofs.Ytaofldlidifdcaa.Bits

/-
  The reference of the sets: Of, Or.
-/
namespace Go.Proofs.Ytaofldlidifdcaa.Bits
open Go.RowKit Go.Shelf

theorem ofN_snoc (l : List Int) (x : Int) : ofN (l ++ [x]) = withW (ofN l) x := by simp [ofN, List.foldl_append]
theorem has_orL_take (L : List (Nat → Nat)) (k m : Nat) (h : k < L.length) : hasN (orL (L.take (k + 1))) m = (hasN (orL (L.take k)) m || hasN (L.getD k noneW) m) := by
  rw [has_orL, has_orL, ← List.take_append_getElem h, List.any_append]
  simp [List.getD_eq_getElem?_getD, List.getElem?_eq_getElem h]
set_option maxHeartbeats 4000000 in
set_option maxRecDepth 100000 in
theorem orr_n (A : Option Addr) (n c : Nat) (L : List (Nat → Nat)) (hL : ∀ B ∈ L, Ws B) (w : World) (h : RdB w A n (L.map iw)) :
    Calls Try.prog 68 #[.slice A n c] w fun e w' => e = .returned (bv (iw (orL L))) ∧ Below w.heap.size w w' := by
  have H := Lib.hid h
  have hm := h.2.1
  have HZ : Hid (L.length = n) := by have := h.1; simpa [RowKit.Hid] using this
  have HWs := Lib.hid hL
  clear h hL
  go_enter Try.func68, Try.ntmps68
  go_wp2
  go_loopg [4] n (fun g kv wr => ∃ (k : Nat) (X : Nat → Nat), k ≤ n ∧ kv = .int .i64 (k : Int) ∧ Aside (n - k = g) ∧ Aside (Ws X) ∧ Aside (∀ m, m < 256 → hasN X m = hasN (orL (L.take k)) m) ∧ Aside (wr.heap[w.heap.size + 1]? = some (.cells (rowc (iw X)) 50 (0, 0))) ∧ Aside (wr.heap[w.heap.size]? = some (.cells (rowc (iw noneW)) 50 (0, 0))) ∧ Aside (Below w.heap.size w wr))
  case atStart =>
    refine ⟨0, noneW, Nat.zero_le _, rfl, rfl, Ws.none, fun m _ => by simp [orL], ?_, ?_, ?_⟩
    · exact heap_new _ _ _ (by simp)
    · rw [Below.heap_alloc _ _ _ (by simp)]
      exact heap_new _ _ _ rfl
    · exact ((Below.refl _ w).alloc (Nat.le_refl _) _).alloc (by simp) _
  case round =>
    obtain ⟨k, X0, hkn, rfl, hk, hX0, hin0, nX0, nR0, hbel0⟩ := hrel
    by_cases hltk : k < n
    · have hR1 := H.out.below hbel0.out (Nat.le_refl _)
      obtain ⟨b, o, rfl, hcc⟩ := hR1.2.2 (by omega)
      have hbo : Hid (b < w.heap.size) := by
        obtain ⟨b', o', e, hc'⟩ := H.out.2.2 (by omega)
        cases e
        exact World.block_lt_of_cell? _ _ (hc' k hltk 0 (by decide))
      have HB : Hid (Ws (L.getD k noneW)) := by
        rw [RowKit.Hid, List.getD_eq_getElem?_getD, List.getElem?_eq_getElem (by rw [HZ.out]; exact hltk)]
        exact HWs.out _ (List.getElem_mem _)
      have HC : Hid (∀ w2, Below wr.heap.size wr w2 → ∀ j, j < 4 → w2.cell? ⟨b, o + k * 4 + j, none⟩ = some (.int .u64 (((L.getD k noneW) j : Nat) : Int))) := by
        intro w2 hb j hj
        have h1 := hR1.below hb (Nat.le_refl _)
        obtain ⟨b', o', e, hc'⟩ := h1.2.2 (by omega)
        cases e
        rw [hc' k hltk j hj]
        rw [List.getD_eq_getElem?_getD, List.getD_eq_getElem?_getD, List.getElem?_map, List.getElem?_eq_getElem (by rw [HZ.out]; exact hltk)]
        rfl
      have hsn : Hid (∀ m, hasN (orL (L.take (k + 1))) m = (hasN (orL (L.take k)) m || hasN (L.getD k noneW) m)) := fun m => has_orL_take L k m (by rw [HZ.out]; exact hltk)
      clear hcc hR1
      generalize L.getD k noneW = B at *
      have q4 : (0 : Int) ≤ (k : Int) := by omega
      have q5 : (k : Int) < (n : Int) := by omega
      go_wp2
      go_loopg [5] 256 (fun g iv wr2 => ∃ (i : Nat) (X : Nat → Nat), i ≤ 256 ∧ iv = .int .i64 (i : Int) ∧ Aside (256 - i = g) ∧ Aside (Ws X) ∧ Aside (∀ m, m < 256 → hasN X m = (hasN (orL (L.take k)) m || (decide (m < i) && hasN B m))) ∧ Aside (wr2.heap[w.heap.size + 1]? = some (.cells (rowc (iw X)) 50 (0, 0))) ∧ Aside (wr2.heap[w.heap.size]? = some (.cells (rowc (iw noneW)) 50 (0, 0))) ∧ Aside (Below w.heap.size w wr2) ∧ Aside (∀ j, j < 4 → wr2.cell? ⟨b, o + k * 4 + j, none⟩ = some (.int .u64 ((B j : Nat) : Int))))
      case atStart => exact ⟨0, X0, by decide, rfl, rfl, hX0.out, fun m hm => by rw [hin0.out m hm]; simp, nX0.out, nR0.out, hbel0.out, HC.out _ (Below.refl _ _)⟩
      case round =>
        obtain ⟨i, X, hi, rfl, hki, hX, hin, nX, nR, hbel, hcB⟩ := hrel
        clear hX0 hin0 nX0 nR0 hbel0 HC
        by_cases hlt : i < 256
        · have g0 : _ = _ := hcB.out 0 (by decide)
          have g1 := hcB.out 1 (by decide)
          have g2 := hcB.out 2 (by decide)
          have g3 := hcB.out 3 (by decide)
          rw [Nat.add_zero] at g0
          go_wp2_with fail
          refine (hasr_n HB.out (i : Int) _).mono ?_
          rintro e W1 ⟨rfl, hb1⟩
          have hI : hasI B (i : Int) = hasN B i := by unfold hasI; rw [if_pos (by omega), Int.toNat_natCast]
          have hcB1 : Hid (∀ j, j < 4 → W1.cell? ⟨b, o + k * 4 + j, none⟩ = some (.int .u64 ((B j : Nat) : Int))) := fun j hj => cell_old (hcB.out j hj) hb1 (Nat.le_refl _)
          have nX1 := Lib.hid (old4 nX.out hb1 (lt4 nX.out))
          have nR1 := Lib.hid (old4 nR.out hb1 (lt4 nR.out))
          have hbel1 := Lib.hid (hbel.out.trans (hb1.mono hbel.out.size))
          clear hb1 g0 g1 g2 g3 hcB nX nR hbel
          cases hh : hasN B i with
          | false =>
            have hI2 := hI.trans hh
            go_wp2
            go_roundg (256 - (i + 1))
            case measure => have := hki.out; omega
            case rel =>
              refine ⟨i + 1, X, by omega, by go_num, rfl, hX.out, fun m hm => ?_, nX1.out, nR1.out, hbel1.out, hcB1.out⟩
              rw [hin.out m hm]
              by_cases he : m = i
              · subst he; simp [hh]
              · rw [show decide (m < i + 1) = decide (m < i) from decide_eq_decide.2 (by omega)]
          | true =>
            have hI2 := hI.trans hh
            obtain ⟨a0, a1, a2, a3⟩ := c4 nX1.out
            go_wp2_with fail
            clear a0 a1 a2 a3
            refine (withr_n hX.out (i : Int) _).mono ?_
            rintro e W2 ⟨rfl, hb2⟩
            have nX2 := Lib.hid (old4 nX1.out hb2 (lt4 nX1.out))
            have nR2 := Lib.hid (old4 nR1.out hb2 (lt4 nR1.out))
            have hbel2 := Lib.hid (hbel1.out.trans (hb2.mono hbel1.out.size))
            have hY : Hid (Ws (withW X (i : Int))) := hX.out.or (Ws.one _)
            have hinY : Hid (∀ m, m < 256 → hasN (withW X (i : Int)) m = (hasN X m || decide ((i : Int) = (m : Int)))) := fun m hm => has_with X i m hm
            have hcB2 : Hid (∀ j, j < 4 → W2.cell? ⟨b, o + k * 4 + j, none⟩ = some (.int .u64 ((B j : Nat) : Int))) := fun j hj => cell_old (hcB1.out j hj) hb2 (Nat.le_refl _)
            clear hb2 nX1 nR1 hbel1 hcB1
            generalize withW X (i : Int) = Y at *
            simp only [bvl]
            have k0 := frozen_row (nX2.out) 0
            have k1 := frozen_row (nX2.out) 1
            have k2 := frozen_row (nX2.out) 2
            have k3 := frozen_row (nX2.out) 3
            obtain ⟨e0, e1, e2, e3⟩ := c4 (nX2.out)
            have hw := set4 (nX2.out) (iw Y)
            simp only [iw] at hw
            have hbw := (below_set (below_set (below_set (below_set hbel2.out (w.heap.size + 1) (by omega) 0 (.int .u64 (Y 0 : Int))) (w.heap.size + 1) (by omega) 1 (.int .u64 (Y 1 : Int))) (w.heap.size + 1) (by omega) 2 (.int .u64 (Y 2 : Int))) (w.heap.size + 1) (by omega) 3 (.int .u64 (Y 3 : Int)))
            have nR30 := (set4_other W2 (w.heap.size + 1) (w.heap.size) (by omega) (.int .u64 (Y 0 : Int)) (.int .u64 (Y 1 : Int)) (.int .u64 (Y 2 : Int)) (.int .u64 (Y 3 : Int))).trans (nR2.out)
            have hcB30 : ∀ j, j < 4 → (((((W2.setCell ⟨w.heap.size + 1, 0, none⟩ (.int .u64 (Y 0 : Int))).setCell ⟨w.heap.size + 1, 1, none⟩ (.int .u64 (Y 1 : Int))).setCell ⟨w.heap.size + 1, 2, none⟩ (.int .u64 (Y 2 : Int))).setCell ⟨w.heap.size + 1, 3, none⟩ (.int .u64 (Y 3 : Int)))).cell? ⟨b, o + k * 4 + j, none⟩ = some (.int .u64 ((B j : Nat) : Int)) := fun j hj => set4_cell (by have := hbo.out; omega) _ _ _ _ (hcB2.out j hj)
            generalize hW9 : ((((W2.setCell ⟨w.heap.size + 1, 0, none⟩ (.int .u64 (Y 0 : Int))).setCell ⟨w.heap.size + 1, 1, none⟩ (.int .u64 (Y 1 : Int))).setCell ⟨w.heap.size + 1, 2, none⟩ (.int .u64 (Y 2 : Int))).setCell ⟨w.heap.size + 1, 3, none⟩ (.int .u64 (Y 3 : Int))) = W3 at *
            have hcB3 := Lib.hid hcB30
            clear hcB30
            have HBW := Lib.hid hbw
            have HS : Hid (W3.heap[w.heap.size + 1]? = some (.cells (rowc (iw Y)) 50 (0, 0))) := hw
            have nR3 : Hid (W3.heap[w.heap.size]? = some (.cells (rowc (iw noneW)) 50 (0, 0))) := nR30
            clear hw hbw nR30
            clear nX2 nR2 hbel2 hcB2
            go_wp2
            go_roundg (256 - (i + 1))
            case measure => have := hki.out; omega
            case rel =>
              refine ⟨i + 1, Y, by omega, by go_num, rfl, hY.out, fun m hm => ?_, HS.out, nR3.out, HBW.out, hcB3.out⟩
              rw [hinY.out m hm, hin.out m hm]
              by_cases he : m = i
              · subst he; simp [hh]
              · rw [show decide (m < i + 1) = decide (m < i) from decide_eq_decide.2 (by omega)]
                simp [show ¬ (i : Int) = (m : Int) by omega]
        · obtain rfl : i = 256 := by omega
          rw [show ((256 : Nat) : Int) = 256 from rfl]
          go_wp2
          go_roundg (n - (k + 1))
          case measure => have := hk.out; omega
          case rel =>
            refine ⟨k + 1, X, by omega, by go_num, rfl, hX.out, fun m hm => ?_, nX.out, nR.out, hbel.out⟩
            rw [hin.out m hm, hsn.out m, decide_eq_true hm, Bool.true_and]
    · obtain rfl : k = n := by omega
      have es : Hid (bv (iw X0) = bv (iw (orL L))) := bv_ext hX0.out (Ws.orL HWs.out) fun m hm => by
        rw [hin0.out m hm, List.take_of_length_le (by rw [HZ.out]; exact Nat.le_refl _)]
      obtain ⟨a0, a1, a2, a3⟩ := c4 (nX0.out)
      have k0 := frozen_row (nR0.out) 0
      have k1 := frozen_row (nR0.out) 1
      have k2 := frozen_row (nR0.out) 2
      have k3 := frozen_row (nR0.out) 3
      obtain ⟨e0, e1, e2, e3⟩ := c4 (nR0.out)
      have hw := set4 (nR0.out) (iw X0)
      have hbw := (below_set (below_set (below_set (below_set hbel0.out (w.heap.size) (by omega) 0 (.int .u64 (X0 0 : Int))) (w.heap.size) (by omega) 1 (.int .u64 (X0 1 : Int))) (w.heap.size) (by omega) 2 (.int .u64 (X0 2 : Int))) (w.heap.size) (by omega) 3 (.int .u64 (X0 3 : Int)))
      simp only [iw] at hw
      generalize hW9 : ((((wr.setCell ⟨w.heap.size, 0, none⟩ (.int .u64 (X0 0 : Int))).setCell ⟨w.heap.size, 1, none⟩ (.int .u64 (X0 1 : Int))).setCell ⟨w.heap.size, 2, none⟩ (.int .u64 (X0 2 : Int))).setCell ⟨w.heap.size, 3, none⟩ (.int .u64 (X0 3 : Int))) = W9 at *
      have HBW := Lib.hid hbw
      have HW : Hid (W9.heap[w.heap.size]? = some (.cells (rowc (iw X0)) 50 (0, 0))) := hw
      clear hw hbw
      clear nX0 nR0
      go_wp2
      obtain ⟨q0, q1, q2, q3⟩ := c4 HW.out
      refine bodyPost_ret (v := bv (iw (X0))) ?_ rfl ⟨by rw [es.out], HBW.out⟩
      simp [bv, rowc, iw, results, Try.results68, go_sem, q0, q1, q2, q3]
end Go.Proofs.Ytaofldlidifdcaa.Bits
