/-
  Texts of one claim, joined in build order: Bits12, Bits13, Bits14, Bits15, Bits16, Bits18, Ref1, Ref2, Ref3.
-/
import Derived.Test.YtaofldlidifdcaaMg19
import Derived.RangeFuncBox
import Derived.RangeFuncNested
import Derived.RangeFuncBound
import Derived.RangeFuncCalls
import Derived.RangeFuncLeaves
import Derived.Shelf.Abstract
import Derived.Shelf.RegionOpen
import Derived.OwnWalkIn
import Derived.TacticsInMore
import Derived.LoopNIn
import Derived.LoopIn
import Derived.Maps.AppendAt
/-
  Package bits: the iterator over a set's numbers.
-/
namespace Go.Proofs.Ytaofldlidifdcaa.Bits
open Go.RowKit Go.Shelf
attribute [local go_sem] Oper.semAt_some

def cast (l : List Nat) : List Int := l.map fun (i : Nat) => (i : Int)
theorem cast_append (a b : List Nat) : cast (a ++ b) = cast a ++ cast b := by simp [cast]
theorem cast_cons (a : Nat) (b : List Nat) : cast (a :: b) = (a : Int) :: cast b := rfl
theorem clear_u64 (x : Nat) (hx : x < 18446744073709551616) (h0 : x ≠ 0) : Go.bits .and .u64 (x : Int) ((x : Int) - 1) = ((x &&& (x - 1) : Nat) : Int) := by
  have := and_u64 x (x - 1) hx (by omega)
  rwa [show ((x - 1 : Nat) : Int) = (x : Int) - 1 by omega] at this

end Go.Proofs.Ytaofldlidifdcaa.Bits

/-
  Package bits: List.
-/
namespace Go.Proofs.Ytaofldlidifdcaa.Bits
open Go.RowKit Go.Shelf
attribute [local go_sem] Oper.semAt_some

theorem infoI64 : (Try.prog.info? 3).map (fun i => (i.zero, i.size, i.bytes)) = some (some (.int .i64 0), 1, 8) := by kernel_rfl
end Go.Proofs.Ytaofldlidifdcaa.Bits

/-
  The chapter's example.
-/
namespace Go.Proofs.Ytaofldlidifdcaa.Bits
open Go.RowKit Go.Shelf

/-- A row that the call made, as it is read. -/
theorem own_rdI {w : World} {base n : Nat} {v : Value} {l : List Int} {t : TypeId} (h : w.ownsRow base t 1 v n (l.map (Value.int .i64))) (hn : n ≤ 9223372036854775807) :
    ∃ A c, v = .slice A n c ∧ RdI w A n l ∧ n ≤ c ∧ (A = none → n = 0 ∧ c = 0) := by
  have hl : l.length = n := by have := h.1; simpa using this
  rcases h.2 with ⟨rfl, rfl⟩ | ⟨g, cap, cur, rfl, hb, hh, hnc, hcm, hcs, htk⟩
  · exact ⟨none, 0, rfl, ⟨hl, hn, fun h => absurd h (by decide)⟩, Nat.le_refl _, fun _ => ⟨rfl, rfl⟩⟩
  · refine ⟨_, _, rfl, ⟨hl, hn, fun _ => ⟨_, _, rfl, fun j hj => ?_⟩⟩, hnc, fun e => by cases e⟩
    rw [Nat.zero_add, h.cellAt j (by omega)]
    simp [List.getElem?_map, List.getD_eq_getElem?_getD, List.getElem?_eq_getElem (show j < l.length by omega)]
/-- A row that was just laid. -/
theorem rdI_blk {w : World} {b : Nat} {l : List Int} {t : TypeId} (h : w.heap[b]? = some (.cells (l.map (Value.int .i64)).toArray t (0, 0))) (hn : l.length ≤ 9223372036854775807) : RdI w (some ⟨b, 0, none⟩) l.length l := by
  refine ⟨rfl, hn, fun _ => ⟨b, 0, rfl, fun j hj => ?_⟩⟩
  simp [World.cell?, h, List.getD_eq_getElem?_getD, List.getElem?_eq_getElem hj]
theorem rdI_new (w : World) (b : Nat) (l : List Int) (vs : Array Value) (t : TypeId) (n : Nat) (he : b = w.heap.size) (h : vs = (l.map (Value.int .i64)).toArray) (hn : l.length = n) (hb : n ≤ 9223372036854775807) : RdI (w.alloc (.cells vs t)) (some ⟨b, 0, none⟩) n l := by
  subst he h hn
  exact rdI_blk (heap_alloc_new _ _) hb
theorem RdI.drewN {w : World} {A : Option Addr} {n : Nat} {zs : List Int} (h : RdI w A n zs) (m : Nat) : RdI (w.drewN m) A n zs := h
theorem below_dn {B : Nat} {w w1 : World} (h : Below B w w1) (n : Nat) : Below B w (w1.drewN n) := ⟨h.os, h.tape, h.output, h.size, h.block⟩
theorem ex_list : cast (listN (ofN [5, 3, 300, 3])) = [3, 5] := by decide +kernel
theorem ex_has : hasI (ofN [3]) 3 = true := by decide +kernel

end Go.Proofs.Ytaofldlidifdcaa.Bits

/-
  The statement BitsOne, walked.
-/
namespace Go.Proofs.Ytaofldlidifdcaa.Bits
open Go.RowKit Go.Shelf

def eqN (A B : Nat → Nat) : Bool := (A 0 : Int) == B 0 && (A 1 : Int) == B 1 && (A 2 : Int) == B 2 && (A 3 : Int) == B 3
theorem eqN_of {A B : Nat → Nat} (h : ∀ j, j < 4 → A j = B j) : eqN A B = true := by
  simp [eqN, h 0 (by decide), h 1 (by decide), h 2 (by decide), h 3 (by decide)]
theorem of_eqN {A B : Nat → Nat} (h : eqN A B = true) : ∀ j, j < 4 → A j = B j := by
  simp only [eqN, Bool.and_eq_true, beq_iff_eq] at h
  obtain ⟨⟨⟨h0, h1⟩, h2⟩, h3⟩ := h
  intro j hj
  match j, hj with
  | 0, _ => omega
  | 1, _ => omega
  | 2, _ => omega
  | 3, _ => omega
theorem eqN_ext {A B : Nat → Nat} (hA : Ws A) (hB : Ws B) (h : ∀ i, i < 256 → hasN A i = hasN B i) : eqN A B = true := eqN_of (ext_has hA hB h)
@[go_sem] theorem run_eqN (A B : Nat → Nat) (w : World) : (Op.equalIn 10000 50 (bv (iw A)) (bv (iw B))).run Try.prog w = .ok (eqN A B) w := by
  unfold bv rowc iw
  rw [eqB]
  rfl
theorem bvl (A : Nat → Nat) : bv (iw A) = .agg #[.int .u64 (A 0 : Int), .int .u64 (A 1 : Int), .int .u64 (A 2 : Int), .int .u64 (A 3 : Int)] := rfl
/-- A set is read out of its block. -/
theorem opAt_load {o : Oper} {a : Act} {K : Value → World → Prop} {w : World} {x : Operand} (ho : o.op = .load 50 x) {b : Nat} (hx : a.eval x = .pointer (some ⟨b, 0, none⟩)) {A : Nat → Nat}
    (hh : w.heap[b]? = some (.cells (rowc (iw A)) 50 (0, 0))) (hK : K (bv (iw A)) w) : Calm.opAt Try.prog o a K w := by
  have c0 := cell_row hh 0 (by decide)
  have c1 := cell_row hh 1 (by decide)
  have c2 := cell_row hh 2 (by decide)
  have c3 := cell_row hh 3 (by decide)
  obtain ⟨d, op, ty, pos, aft, g⟩ := o
  simp only at ho
  subst ho
  unfold Calm.opAt execOp
  simp only [hx]
  unfold bv rowc at hK
  go_simp
  simpa only [Calm.upon_value] using hK
theorem opAt_eqt {A B : Nat → Nat} (h : eqN A B = true) {o : Oper} {a : Act} {K : Value → World → Prop} {w : World} {x y : Operand} {T' : TypeId} (ho : o.op = .binOp .eql 50 x y T') (hx : a.eval x = bv (iw A)) (hy : a.eval y = bv (iw B))
    (hK : K (.bool true) w) : Calm.opAt Try.prog o a K w := by
  obtain ⟨d, op, ty, pos, aft, g⟩ := o
  simp only at ho
  subst ho
  have e := eqB (A 0) (A 1) (A 2) (A 3) (B 0) (B 1) (B 2) (B 3) w
  have h' : ((A 0 : Int) == B 0 && (A 1 : Int) == B 1 && (A 2 : Int) == B 2 && (A 3 : Int) == B 3) = true := h
  rw [h'] at e
  unfold Calm.opAt execOp
  simp only [hx, hy, bvl]
  go_simp
  simpa only [Calm.upon_value] using hK
theorem opAt_net {A B : Nat → Nat} (h : eqN A B = true) {o : Oper} {a : Act} {K : Value → World → Prop} {w : World} {x y : Operand} {T' : TypeId} (ho : o.op = .binOp .neq 50 x y T') (hx : a.eval x = bv (iw A)) (hy : a.eval y = bv (iw B))
    (hK : K (.bool false) w) : Calm.opAt Try.prog o a K w := by
  obtain ⟨d, op, ty, pos, aft, g⟩ := o
  simp only at ho
  subst ho
  have e := eqB (A 0) (A 1) (A 2) (A 3) (B 0) (B 1) (B 2) (B 3) w
  have h' : ((A 0 : Int) == B 0 && (A 1 : Int) == B 1 && (A 2 : Int) == B 2 && (A 3 : Int) == B 3) = true := h
  rw [h'] at e
  unfold Calm.opAt execOp
  simp only [hx, hy, bvl]
  go_simp
  simpa only [Calm.upon_value] using hK
theorem box_in {W : World} {b : Nat} {A : Nat → Nat} (h : W.heap[b]? = some (.cells (rowc (iw A)) 50 (0, 0))) : ∀ w, Below W.heap.size W w → w.heap[b]? = some (.cells (rowc (iw A)) 50 (0, 0)) :=
  fun _ hB => (hB.block b (Array.getElem?_eq_some_iff.1 h).1).trans h

theorem c4 {w : World} {b : Nat} {A : Nat → Nat} (h : w.heap[b]? = some (.cells (rowc (iw A)) 50 (0, 0))) :
    w.cell? ⟨b, 0, none⟩ = some (.int .u64 (A 0 : Int)) ∧ w.cell? ⟨b, 1, none⟩ = some (.int .u64 (A 1 : Int)) ∧ w.cell? ⟨b, 2, none⟩ = some (.int .u64 (A 2 : Int)) ∧ w.cell? ⟨b, 3, none⟩ = some (.int .u64 (A 3 : Int)) :=
  ⟨cell_row h 0 (by decide), cell_row h 1 (by decide), cell_row h 2 (by decide), cell_row h 3 (by decide)⟩
theorem new4 (w : World) (X : Nat → Nat) : (w.alloc (.cells #[.int .u64 (X 0 : Int), .int .u64 (X 1 : Int), .int .u64 (X 2 : Int), .int .u64 (X 3 : Int)] 50)).heap[w.heap.size]? = some (.cells (rowc (iw X)) 50 (0, 0)) := heap_alloc_new _ _
theorem old4 {w w' : World} {b B : Nat} {A : Nat → Nat} (h : w.heap[b]? = some (.cells (rowc (iw A)) 50 (0, 0))) (hb : Below B w w') (hB : b < B) : w'.heap[b]? = some (.cells (rowc (iw A)) 50 (0, 0)) := (hb.block b hB).trans h
theorem lt4 {w : World} {b : Nat} {A : Nat → Nat} (h : w.heap[b]? = some (.cells (rowc (iw A)) 50 (0, 0))) : b < w.heap.size := (Array.getElem?_eq_some_iff.1 h).1
/-- What the statement says of the two sets. -/
theorem one_facts {A : Nat → Nat} (hA : Ws A) (i : Int) : ∃ X Y : Nat → Nat, Ws X ∧ Ws Y ∧ bv (iw (withW A i)) = bv (iw X) ∧ bv (iw (withoutW A i)) = bv (iw Y) ∧ hasI X i = decide (0 ≤ i ∧ i ≤ 255) ∧ hasI Y i = false ∧
    (¬ (0 ≤ i ∧ i ≤ 255) → X = A ∧ Y = A) ∧ (∀ k, k ≠ i → hasI X k = hasI A k ∧ hasI Y k = hasI A k) ∧ eqN (withoutW X i) Y = true ∧ eqN (withW Y i) X = true := by
  have hX : Ws (withW A i) := hA.or (Ws.one i)
  have hY : Ws (withoutW A i) := hA.min
  by_cases hi : 0 ≤ i ∧ i ≤ 255
  · obtain ⟨m, rfl⟩ : ∃ m : Nat, i = (m : Int) := ⟨i.toNat, by omega⟩
    have hm : m < 256 := by omega
    have hm' : (0 : Int) ≤ (m : Int) ∧ (m : Int) < 256 := by omega
    refine ⟨withW A m, withoutW A m, hX, hY, rfl, rfl, ?_, ?_, fun h => absurd hi h, fun k hk => ?_, ?_, ?_⟩
    · unfold hasI
      rw [if_pos hm', Int.toNat_natCast, has_with _ _ _ hm]
      simp
      omega
    · unfold hasI
      rw [if_pos hm', Int.toNat_natCast, has_without _ _ _ hm]
      simp
    · unfold hasI
      by_cases hk2 : 0 ≤ k ∧ k < 256
      · rw [if_pos hk2, if_pos hk2, if_pos hk2, has_with _ _ _ (by omega), has_without _ _ _ (by omega)]
        have : decide ((m : Int) = (k.toNat : Int)) = false := decide_eq_false (by omega)
        rw [this]
        simp
      · rw [if_neg hk2, if_neg hk2, if_neg hk2]
        exact ⟨rfl, rfl⟩
    · refine eqN_ext hX.min hY fun k hk => ?_
      rw [has_without _ _ _ hk, has_with _ _ _ hk, has_without _ _ _ hk]
      cases hasN A k <;> cases decide ((m : Int) = (k : Int)) <;> rfl
    · refine eqN_ext (hY.or (Ws.one _)) hX fun k hk => ?_
      rw [has_with _ _ _ hk, has_with _ _ _ hk, has_without _ _ _ hk]
      cases hasN A k <;> cases decide ((m : Int) = (k : Int)) <;> rfl
  · have no : ∀ k : Nat, k < 256 → decide (i = (k : Int)) = false := fun k hk => by simp; omega
    have eX : eqN (withW A i) A = true := eqN_ext hX hA fun k hk => by rw [has_with _ _ _ hk, no k hk, Bool.or_false]
    have eY : eqN (withoutW A i) A = true := eqN_ext hY hA fun k hk => by rw [has_without _ _ _ hk, no k hk]; simp
    have h0 : hasI A i = false := by unfold hasI; rw [if_neg (by omega)]
    refine ⟨A, A, hA, hA, bv_congr fun j hj => by unfold iw; rw [of_eqN eX j hj], bv_congr fun j hj => by unfold iw; rw [of_eqN eY j hj], by rw [h0]; simp; omega, h0, fun _ => ⟨rfl, rfl⟩, fun k _ => ⟨rfl, rfl⟩, eY, eX⟩

end Go.Proofs.Ytaofldlidifdcaa.Bits

/-
  The statement BitsParts, walked.
-/
namespace Go.Proofs.Ytaofldlidifdcaa.Bits
open Go.RowKit Go.Shelf

def row8 (X Y : Nat → Nat) : Array Value := #[.int .u64 (X 0 : Int), .int .u64 (X 1 : Int), .int .u64 (X 2 : Int), .int .u64 (X 3 : Int), .int .u64 (Y 0 : Int), .int .u64 (Y 1 : Int), .int .u64 (Y 2 : Int), .int .u64 (Y 3 : Int)]
theorem rdB_blk {w : World} {b : Nat} {X Y : Nat → Nat} (h : w.heap[b]? = some (.cells (row8 X Y) 50 (0, 0))) : RdB w (some ⟨b, 0, none⟩) 2 ([X, Y].map iw) := by
  refine ⟨rfl, by decide, fun _ => ⟨_, _, rfl, fun j hj i hi => ?_⟩⟩
  simp only [World.cell?, h]
  match j, hj, i, hi with
  | 0, _, 0, _ => rfl
  | 0, _, 1, _ => rfl
  | 0, _, 2, _ => rfl
  | 0, _, 3, _ => rfl
  | 1, _, 0, _ => rfl
  | 1, _, 1, _ => rfl
  | 1, _, 2, _ => rfl
  | 1, _, 3, _ => rfl
theorem ws2 {X Y : Nat → Nat} (hX : Ws X) (hY : Ws Y) : ∀ B ∈ [X, Y], Ws B := by
  intro B hB
  simp at hB
  rcases hB with rfl | rfl <;> assumption
theorem ws0 : ∀ B ∈ ([] : List (Nat → Nat)), Ws B := fun B hB => by cases hB
theorem count_or {α : Type} (p q : α → Bool) (l : List α) : (l.filter fun x => p x || q x).length + (l.filter fun x => p x && q x).length = (l.filter p).length + (l.filter q).length := by
  induction l with
  | nil => rfl
  | cons x l ih =>
    simp only [List.filter_cons]
    cases p x <;> cases q x <;> simp <;> omega
theorem listN_congr {A B : Nat → Nat} (h : ∀ i, i < 256 → hasN A i = hasN B i) : listN A = listN B := by
  unfold listN
  apply List.filter_congr
  intro i hi
  exact h i (List.mem_range.1 hi)
/-- What the statement says of two sets. -/
theorem parts_facts {A B : Nat → Nat} (hA : Ws A) (hB : Ws B) :
    eqN (orL [andW A B, minW A B]) A = true ∧ eqN (andW (andW A B) (minW A B)) noneW = true ∧ (((listN (orL [A, B])).length : Int) == (listN A).length + (listN B).length - (listN (andW A B)).length) = true ∧
    eqN (andW A B) (andW B A) = true ∧ eqN (minW (orL [A, B]) B) (minW A B) = true ∧ eqN (orL []) noneW = true := by
  refine ⟨eqN_ext (Ws.orL (ws2 hA.and hA.min)) hA fun i hi => ?_, eqN_ext (Ws.and (Ws.and hA)) Ws.none fun i hi => ?_, ?_, eqN_ext hA.and hB.and fun i hi => ?_, eqN_ext (Ws.min (Ws.orL (ws2 hA hB))) hA.min fun i hi => ?_, eqN_ext (Ws.orL ws0) Ws.none fun i hi => ?_⟩
  · rw [has_orL]
    simp only [List.any_cons, List.any_nil, has_and, has_min]
    cases hasN A i <;> cases hasN B i <;> rfl
  · rw [has_and, has_and, has_min, has_none]
    cases hasN A i <;> cases hasN B i <;> rfl
  · have h1 := count_or (hasN A) (hasN B) (List.range 256)
    have e1 : (listN (orL [A, B])).length = ((List.range 256).filter fun x => hasN A x || hasN B x).length := by
      unfold listN
      congr 1
      apply List.filter_congr
      intro i _
      rw [has_orL]
      simp
    have e2 : (listN (andW A B)).length = ((List.range 256).filter fun x => hasN A x && hasN B x).length := by
      unfold listN
      congr 1
      apply List.filter_congr
      intro i _
      rw [has_and]
    rw [beq_iff_eq, e1, e2]
    unfold listN
    omega
  · rw [has_and, has_and]
    cases hasN A i <;> cases hasN B i <;> rfl
  · rw [has_min, has_min, has_orL]
    simp only [List.any_cons, List.any_nil]
    cases hasN A i <;> cases hasN B i <;> rfl
  · rw [has_orL, has_none]
    rfl

end Go.Proofs.Ytaofldlidifdcaa.Bits

/-
  The statement BitsBack, walked.
-/
namespace Go.Proofs.Ytaofldlidifdcaa.Bits
open Go.RowKit Go.Shelf

theorem cast_getD (l : List Nat) (i : Nat) (h : i < l.length) : (cast l).getD i 0 = ((l[i] : Nat) : Int) := by
  simp [cast, List.getD_eq_getElem?_getD, List.getElem?_eq_getElem h]
/-- What the statement says of a set's numbers. -/
theorem back_at {A : Nat → Nat} (i : Nat) (h : i < (listN A).length) : 0 ≤ (cast (listN A)).getD i 0 ∧ (cast (listN A)).getD i 0 ≤ 255 ∧ hasI A ((cast (listN A)).getD i 0) = true := by
  rw [cast_getD _ _ h]
  have hm := (mem_list A ((listN A)[i])).1 (List.getElem_mem h)
  refine ⟨by omega, by omega, ?_⟩
  unfold hasI
  rw [if_pos (by omega), Int.toNat_natCast]
  exact hm.2
theorem back_lt {A : Nat → Nat} (i : Nat) (h : i + 1 < (listN A).length) : (cast (listN A)).getD i 0 < (cast (listN A)).getD (i + 1) 0 := by
  rw [cast_getD _ _ h, cast_getD _ _ (by omega)]
  have hp : (listN A).Pairwise (· < ·) := List.Pairwise.filter _ List.pairwise_lt_range
  have := List.pairwise_iff_getElem.1 hp i (i + 1) (by omega) h (by omega)
  omega
theorem back_of {A : Nat → Nat} (hA : Ws A) : eqN (ofN (cast (listN A))) A = true := by
  refine eqN_ext (Ws.ofN _) hA fun k hk => ?_
  rw [has_ofN _ _ hk, Bool.eq_iff_iff, List.any_eq_true]
  constructor
  · rintro ⟨x, hx, he⟩
    obtain ⟨m, hm, rfl⟩ := List.mem_map.1 hx
    have : m = k := by have := of_decide_eq_true he; omega
    subst this
    exact ((mem_list A m).1 hm).2
  · intro h
    exact ⟨(k : Int), List.mem_map.2 ⟨k, (mem_list A k).2 ⟨hk, h⟩, rfl⟩, by simp⟩
theorem RdI.atI {w : World} {b o n : Nat} {zs : List Int} (h : RdI w (some ⟨b, o, none⟩) n zs) (i : Nat) (hi : i < n) : w.cell? ⟨b, o + i, none⟩ = some (.int .i64 (zs.getD i 0)) := by
  obtain ⟨b', o', e, hc⟩ := h.2.2 (by omega)
  cases e
  exact hc i hi

end Go.Proofs.Ytaofldlidifdcaa.Bits

/-
  The reference of the sets: Has, With, Without.
-/
namespace Go.Proofs.Ytaofldlidifdcaa.Bits
open Go.RowKit Go.Shelf

theorem bit_is (z k : Nat) (hz : z < 18446744073709551616) : (Go.bits .and .u64 ((z : Int) / 2 ^ k) 1 == 1) = z.testBit k := by
  have e : (z : Int) / 2 ^ k = ((z / 2 ^ k : Nat) : Int) := by simp
  have l : z / 2 ^ k < 18446744073709551616 := Nat.lt_of_le_of_lt (Nat.div_le_self _ _) hz
  have h : Go.bits .and .u64 ((z / 2 ^ k : Nat) : Int) 1 = ((z / 2 ^ k &&& 1 : Nat) : Int) := and_u64 (z / 2 ^ k) 1 l (by decide)
  rw [e, h, Nat.and_one_is_mod, Nat.testBit_eq_decide_div_mod_eq]
  rcases Nat.mod_two_eq_zero_or_one (z / 2 ^ k) with h | h <;> rw [h] <;> rfl
theorem bit_add (z k : Nat) (hz : z < 18446744073709551616) (hk : k < 64) (h : z.testBit k = false) : z + 2 ^ k = z ||| 2 ^ k := by
  have e : z &&& 2 ^ k = 0 := by
    apply Nat.eq_of_testBit_eq
    intro i
    rw [Nat.testBit_and, Nat.testBit_two_pow, Nat.zero_testBit]
    by_cases hi : k = i
    · subst hi; simp [h]
    · simp [hi]
  have hp : 2 ^ k < 18446744073709551616 := (Nat.pow_lt_pow_right (a := 2) (m := k) (n := 64) (by omega) hk : 2 ^ k < 2 ^ 64)
  have b := BitVec.add_eq_or_of_and_eq_zero (BitVec.ofNat 65 z) (BitVec.ofNat 65 (2 ^ k)) (by
    apply BitVec.eq_of_toNat_eq
    rw [BitVec.toNat_and, BitVec.toNat_ofNat, BitVec.toNat_ofNat, Nat.mod_eq_of_lt (by omega), Nat.mod_eq_of_lt (by omega), e]
    rfl)
  have c := congrArg BitVec.toNat b
  rw [BitVec.toNat_add, BitVec.toNat_or, BitVec.toNat_ofNat, BitVec.toNat_ofNat, Nat.mod_eq_of_lt (show z < 2 ^ 65 by omega), Nat.mod_eq_of_lt (show 2 ^ k < 2 ^ 65 by omega), Nat.mod_eq_of_lt (by omega)] at c
  exact c
theorem bit_sub (z k : Nat) (hz : z < 18446744073709551616) (hk : k < 64) (h : z.testBit k = true) : 2 ^ k ≤ z ∧ z - 2 ^ k = z ^^^ (z &&& 2 ^ k) := by
  have e : z &&& 2 ^ k = 2 ^ k := by
    apply Nat.eq_of_testBit_eq
    intro i
    rw [Nat.testBit_and, Nat.testBit_two_pow]
    by_cases hi : k = i
    · subst hi; simp [h]
    · simp [hi]
  have hle : 2 ^ k ≤ z := Nat.ge_two_pow_of_testBit h
  refine ⟨hle, ?_⟩
  rw [e]
  have h1 : (z ^^^ 2 ^ k).testBit k = false := by rw [Nat.testBit_xor, Nat.testBit_two_pow_self, h]; rfl
  have hp : 2 ^ k < 18446744073709551616 := (Nat.pow_lt_pow_right (a := 2) (m := k) (n := 64) (by omega) hk : 2 ^ k < 2 ^ 64)
  have h2 := bit_add _ _ (by rw [w64]; exact Nat.xor_lt_two_pow (by rw [← w64]; exact hz) (by rw [← w64]; exact hp)) hk h1
  have h3 : (z ^^^ 2 ^ k) ||| 2 ^ k = z := by
    apply Nat.eq_of_testBit_eq
    intro i
    rw [Nat.testBit_or, Nat.testBit_xor, Nat.testBit_two_pow]
    by_cases hi : k = i
    · subst hi; simp [h]
    · simp [hi]
  omega

set_option maxHeartbeats 4000000 in
set_option maxRecDepth 100000 in
theorem hasr_n {A : Nat → Nat} (hA : Ws A) (i : Int) (w : World) : Calls Try.prog 70 #[bv (iw A), .int .i64 i] w fun e w' => e = .returned (.bool (hasI A i)) ∧ Below w.heap.size w w' := by
  have hb0 : Below w.heap.size w (w.alloc (.cells #[.int .u64 (A 0 : Int), .int .u64 (A 1 : Int), .int .u64 (A 2 : Int), .int .u64 (A 3 : Int)] 50)) := (Below.refl _ w).alloc (Nat.le_refl _) _
  have nA := new4 w A
  generalize hW0 : w.alloc (.cells #[.int .u64 (A 0 : Int), .int .u64 (A 1 : Int), .int .u64 (A 2 : Int), .int .u64 (A 3 : Int)] 50) = W0 at *
  have HB := Lib.hid hb0
  rw [bvl]
  by_cases h01 : 0 ≤ i ∧ i < 256
  · obtain ⟨n, rfl⟩ : ∃ n : Nat, i = (n : Int) := ⟨i.toNat, by omega⟩
    have hn : n < 256 := by omega
    have hn' : (n : Int) ≤ 255 := by omega
    clear h01 hb0
    have hx : hasI A (n : Int) = (A (n / 64)).testBit (n % 64) := by unfold hasI hasN; rw [if_pos (by omega), Int.toNat_natCast]
    rw [hx]
    have ki : n / 64 < 4 := by omega
    have kj : n % 64 < 64 := by omega
    have c1 : W0.cell? ⟨w.heap.size, n / 64, none⟩ = some (.int .u64 (A (n / 64) : Int)) := cell_row nA (n / 64) ki
    have hz := hA (n / 64) ki
    generalize A (n / 64) = z at *
    clear nA hx
    have eb := bit_is z (n % 64) hz
    go_enter Try.func70, Try.ntmps70
    go_wp2
    go_ret
    exact ⟨rfl, HB.out⟩
  · have hx : hasI A i = false := by unfold hasI; rw [if_neg h01]
    rw [hx]
    clear hx nA hb0
    by_cases h0 : 0 ≤ i
    · have h1 : ¬ i ≤ 255 := by omega
      clear h01
      go_enter Try.func70, Try.ntmps70
      go_wp2
      go_ret
      exact ⟨rfl, HB.out⟩
    · clear h01
      go_enter Try.func70, Try.ntmps70
      go_wp2
      go_ret
      exact ⟨rfl, HB.out⟩
theorem rowc_with {A : Nat → Nat} (n : Nat) (hn : n < 256) (h : (A (n / 64)).testBit (n % 64) = false) (hz : A (n / 64) < 18446744073709551616) :
    (rowc (iw A)).setIfInBounds (n / 64) (.int .u64 ((A (n / 64) : Int) + 2 ^ (n % 64))) = rowc (iw (withW A n)) := by
  have e : (A (n / 64) : Int) + 2 ^ (n % 64) = ((A (n / 64) ||| 2 ^ (n % 64) : Nat) : Int) := by
    rw [← bit_add _ _ hz (by omega) h]; simp
  rw [e]
  have h1 : ((n : Int) / 64).toNat = n / 64 := by omega
  have h2 : ((n : Int) % 64).toNat = n % 64 := by omega
  have h3 : (n : Int) < 256 := by omega
  have h0 : (0 : Int) ≤ (n : Int) := by omega
  have hq : n / 64 < 4 := by omega
  unfold rowc iw withW orW oneN
  simp only [h1, h2, h3, h0, true_and]
  clear e h hz
  generalize n / 64 = q at *
  match q, hq with
  | 0, _ => simp
  | 1, _ => simp
  | 2, _ => simp
  | 3, _ => simp
theorem rowc_without {A : Nat → Nat} (n : Nat) (hn : n < 256) (h : (A (n / 64)).testBit (n % 64) = true) (hz : A (n / 64) < 18446744073709551616) :
    (rowc (iw A)).setIfInBounds (n / 64) (.int .u64 ((A (n / 64) : Int) - 2 ^ (n % 64))) = rowc (iw (withoutW A n)) := by
  obtain ⟨hle, hs⟩ := bit_sub _ _ hz (by omega) h
  have e : (A (n / 64) : Int) - 2 ^ (n % 64) = ((A (n / 64) ^^^ (A (n / 64) &&& 2 ^ (n % 64)) : Nat) : Int) := by
    rw [← hs]
    have : ((2 ^ (n % 64) : Nat) : Int) = 2 ^ (n % 64) := by simp
    rw [← this]
    omega
  rw [e]
  have h1 : ((n : Int) / 64).toNat = n / 64 := by omega
  have h2 : ((n : Int) % 64).toNat = n % 64 := by omega
  have h3 : (n : Int) < 256 := by omega
  have h0 : (0 : Int) ≤ (n : Int) := by omega
  have hq : n / 64 < 4 := by omega
  unfold rowc iw withoutW minW oneN
  simp only [h1, h2, h3, h0, true_and]
  clear e h hz hle hs
  generalize n / 64 = q at *
  match q, hq with
  | 0, _ => simp
  | 1, _ => simp
  | 2, _ => simp
  | 3, _ => simp
/-- A number that is there already, one that is out of range. -/
theorem with_same {A : Nat → Nat} (hA : Ws A) (i : Int) (h : ¬ (0 ≤ i ∧ i < 256) ∨ hasI A i = true) : bv (iw (withW A i)) = bv (iw A) := bv_ext (hA.or (Ws.one i)) hA fun k hk => by
  rw [has_with _ _ _ hk]
  by_cases he : i = (k : Int)
  · subst he
    rcases h with h | h
    · omega
    · unfold hasI at h
      rw [if_pos (by omega), Int.toNat_natCast] at h
      simp [h]
  · simp [he]
theorem without_same {A : Nat → Nat} (hA : Ws A) (i : Int) (h : hasI A i = false) : bv (iw (withoutW A i)) = bv (iw A) := bv_ext hA.min hA fun k hk => by
  rw [has_without _ _ _ hk]
  by_cases he : i = (k : Int)
  · subst he
    unfold hasI at h
    rw [if_pos (by omega), Int.toNat_natCast] at h
    simp [h]
  · simp [he]
end Go.Proofs.Ytaofldlidifdcaa.Bits

/-
  The reference of the sets: With, Without.
-/
namespace Go.Proofs.Ytaofldlidifdcaa.Bits
open Go.RowKit Go.Shelf

set_option maxHeartbeats 4000000 in
set_option maxRecDepth 100000 in
theorem withr_n {A : Nat → Nat} (hA : Ws A) (i : Int) (w : World) : Calls Try.prog 51 #[bv (iw A), .int .i64 i] w fun e w' => e = .returned (bv (iw (withW A i))) ∧ Below w.heap.size w w' := by
  obtain ⟨W0, hW0⟩ : ∃ W0, (w.alloc (.cells #[.int .u64 (A 0 : Int), .int .u64 (A 1 : Int), .int .u64 (A 2 : Int), .int .u64 (A 3 : Int)] 50)).alloc (.cells #[.int .u64 0, .int .u64 0, .int .u64 0, .int .u64 0] 50) = W0 := ⟨_, rfl⟩
  have nA : W0.heap[w.heap.size]? = some (.cells (rowc (iw A)) 50 (0, 0)) := by rw [← hW0, Below.heap_alloc _ _ _ (by simp)]; exact heap_new _ _ _ rfl
  have nR : W0.heap[w.heap.size + 1]? = some (.cells (rowc (iw noneW)) 50 (0, 0)) := by rw [← hW0]; exact heap_new _ _ _ (by simp)
  have hb0 : Below w.heap.size w W0 := by rw [← hW0]; exact ((Below.refl _ w).alloc (Nat.le_refl _) _).alloc (by simp) _
  have hsz : W0.heap.size = w.heap.size + 2 := by rw [← hW0]; simp
  obtain ⟨a0, a1, a2, a3⟩ := c4 nA
  have KA : ∀ w', Hid (Below W0.heap.size W0 w' → w'.heap[w.heap.size]? = some (.cells (rowc (iw A)) 50 (0, 0))) := fun w' h => old4 nA h (by omega)
  have KR : ∀ w', Hid (Below W0.heap.size W0 w' → w'.heap[w.heap.size + 1]? = some (.cells (rowc (iw noneW)) 50 (0, 0))) := fun w' h => old4 nR h (by omega)
  have KB : ∀ w', Hid (Below W0.heap.size W0 w' → Below w.heap.size w w') := fun w' h => hb0.trans (h.mono (by omega))
  clear nA nR hb0 hsz
  rw [bvl]
  go_enter Try.func51, Try.ntmps51
  go_wp2_with fail
  refine (hasr_n hA i _).mono ?_
  rintro e W1 ⟨rfl, hb1⟩
  have nA := (KA W1).out hb1
  have nR := (KR W1).out hb1
  have hb := (KB W1).out hb1
  clear a0 a1 a2 a3 KA KR KB hb1 hW0
  cases hh : hasI A i with
  | true =>
    have es := with_same hA i (.inr hh)
    have h01 : 0 ≤ i ∧ i < 256 := by
      unfold hasI at hh
      split at hh
      · assumption
      · cases hh
    obtain ⟨h0, h1⟩ := h01
    have h2 : i ≤ 255 := by omega
    clear h1 hh
    have HA1 := Lib.hid nA
    have HR1 := Lib.hid nR
    have HB1 := Lib.hid hb
    clear nA nR hb
    obtain ⟨a0, a1, a2, a3⟩ := c4 (HA1.out)
    have k0 := frozen_row (HR1.out) 0
    have k1 := frozen_row (HR1.out) 1
    have k2 := frozen_row (HR1.out) 2
    have k3 := frozen_row (HR1.out) 3
    obtain ⟨e0, e1, e2, e3⟩ := c4 (HR1.out)
    have hw := set4 (HR1.out) (iw A)
    have hbw := (below_set (below_set (below_set (below_set HB1.out (w.heap.size + 1) (by omega) 0 (.int .u64 (A 0 : Int))) (w.heap.size + 1) (by omega) 1 (.int .u64 (A 1 : Int))) (w.heap.size + 1) (by omega) 2 (.int .u64 (A 2 : Int))) (w.heap.size + 1) (by omega) 3 (.int .u64 (A 3 : Int)))
    simp only [iw] at hw
    generalize hW9 : ((((W1.setCell ⟨w.heap.size + 1, 0, none⟩ (.int .u64 (A 0 : Int))).setCell ⟨w.heap.size + 1, 1, none⟩ (.int .u64 (A 1 : Int))).setCell ⟨w.heap.size + 1, 2, none⟩ (.int .u64 (A 2 : Int))).setCell ⟨w.heap.size + 1, 3, none⟩ (.int .u64 (A 3 : Int))) = W9 at *
    have HBW := Lib.hid hbw
    have HW : Hid (W9.heap[w.heap.size + 1]? = some (.cells (rowc (iw A)) 50 (0, 0))) := hw
    clear hw hbw
    go_wp2
    obtain ⟨q0, q1, q2, q3⟩ := c4 HW.out
    refine bodyPost_ret (v := bv (iw (A))) ?_ rfl ⟨by first | rw [es] | rfl, HBW.out⟩
    simp [bv, rowc, iw, results, Try.results51, go_sem, q0, q1, q2, q3]
  | false =>
    by_cases h01 : 0 ≤ i ∧ i < 256
    · obtain ⟨n, rfl⟩ : ∃ n : Nat, i = (n : Int) := ⟨i.toNat, by omega⟩
      have hn : n < 256 := by omega
      have hn' : (n : Int) ≤ 255 := by omega
      clear h01
      have ki : n / 64 < 4 := by omega
      have kj : n % 64 < 64 := by omega
      have hz := hA (n / 64) ki
      have hbit : (A (n / 64)).testBit (n % 64) = false := by
        unfold hasI hasN at hh
        rw [if_pos (by omega), Int.toNat_natCast] at hh
        exact hh
      have hpow : IntKind.u64.wrap (2 ^ (n % 64)) = 2 ^ (n % 64) := by
        have e : (2 : Int) ^ (n % 64) = ((2 ^ (n % 64) : Nat) : Int) := by simp
        have l : 2 ^ (n % 64) < 18446744073709551616 := (Nat.pow_lt_pow_right (a := 2) (m := n % 64) (n := 64) (by omega) kj : 2 ^ (n % 64) < 2 ^ 64)
        rw [IntKind.wrap_u64, e]
        generalize 2 ^ (n % 64) = m at *
        omega
      have hwrap : IntKind.u64.wrap ((A (n / 64) : Int) + 2 ^ (n % 64)) = ((A (n / 64) : Int) + 2 ^ (n % 64)) := by
        have e : (2 : Int) ^ (n % 64) = ((2 ^ (n % 64) : Nat) : Int) := by simp
        have l : A (n / 64) + 2 ^ (n % 64) < 18446744073709551616 := by
          rw [bit_add _ _ hz kj hbit, w64]
          exact Nat.or_lt_two_pow (by rw [← w64]; exact hz) (Nat.pow_lt_pow_right (by omega) kj)
        rw [IntKind.wrap_u64, e]
        generalize 2 ^ (n % 64) = m at *
        omega
      have hset := rowc_with (A := A) n hn hbit hz
      have c1 := cell_row nA (n / 64) ki
      have f1 := frozen_row nA (n / 64)
      have nA2 : (W1.setCell ⟨w.heap.size, n / 64, none⟩ (.int .u64 ((A (n / 64) : Int) + 2 ^ (n % 64)))).heap[w.heap.size]? = some (.cells (rowc (iw (withW A n))) 50 (0, 0)) := by
        rw [← hset]
        exact Lib.heap_setCell_same (i := n / 64) nA (.int .u64 ((A (n / 64) : Int) + 2 ^ (n % 64)))
      have nR2 : (W1.setCell ⟨w.heap.size, n / 64, none⟩ (.int .u64 ((A (n / 64) : Int) + 2 ^ (n % 64)))).heap[w.heap.size + 1]? = some (.cells (rowc (iw noneW)) 50 (0, 0)) := (Below.heap_setCell _ _ _ _ (by simp)).trans nR
      have hb2 : Below w.heap.size w (W1.setCell ⟨w.heap.size, n / 64, none⟩ (.int .u64 ((A (n / 64) : Int) + 2 ^ (n % 64)))) := below_set hb w.heap.size (Nat.le_refl _) _ _
      simp only [iw] at c1
      clear hset nA nR hb hbit
      generalize hW2 : W1.setCell ⟨w.heap.size, n / 64, none⟩ (.int .u64 ((A (n / 64) : Int) + 2 ^ (n % 64))) = W2 at *
      have HA2 := Lib.hid nA2
      have HR2 := Lib.hid nR2
      have HB2 := Lib.hid hb2
      clear nA2 nR2 hb2
      generalize hX : withW A n = X at *
      have HX := Lib.hid hX
      clear hX
      obtain ⟨a0, a1, a2, a3⟩ := c4 (HA2.out)
      have k0 := frozen_row (HR2.out) 0
      have k1 := frozen_row (HR2.out) 1
      have k2 := frozen_row (HR2.out) 2
      have k3 := frozen_row (HR2.out) 3
      obtain ⟨e0, e1, e2, e3⟩ := c4 (HR2.out)
      have hw := set4 (HR2.out) (iw X)
      have hbw := (below_set (below_set (below_set (below_set HB2.out (w.heap.size + 1) (by omega) 0 (.int .u64 (X 0 : Int))) (w.heap.size + 1) (by omega) 1 (.int .u64 (X 1 : Int))) (w.heap.size + 1) (by omega) 2 (.int .u64 (X 2 : Int))) (w.heap.size + 1) (by omega) 3 (.int .u64 (X 3 : Int)))
      simp only [iw] at hw
      generalize hW9 : ((((W2.setCell ⟨w.heap.size + 1, 0, none⟩ (.int .u64 (X 0 : Int))).setCell ⟨w.heap.size + 1, 1, none⟩ (.int .u64 (X 1 : Int))).setCell ⟨w.heap.size + 1, 2, none⟩ (.int .u64 (X 2 : Int))).setCell ⟨w.heap.size + 1, 3, none⟩ (.int .u64 (X 3 : Int))) = W9 at *
      have HBW := Lib.hid hbw
      have HW : Hid (W9.heap[w.heap.size + 1]? = some (.cells (rowc (iw X)) 50 (0, 0))) := hw
      clear hw hbw
      go_wp2
      obtain ⟨q0, q1, q2, q3⟩ := c4 HW.out
      refine bodyPost_ret (v := bv (iw (X))) ?_ rfl ⟨by rw [HX.out], HBW.out⟩
      simp [bv, rowc, iw, results, Try.results51, go_sem, q0, q1, q2, q3]
    · have es := with_same hA i (.inl h01)
      by_cases h0 : 0 ≤ i
      · have h2 : ¬ i ≤ 255 := by omega
        clear h01 hh
        have HA1 := Lib.hid nA
        have HR1 := Lib.hid nR
        have HB1 := Lib.hid hb
        clear nA nR hb
        obtain ⟨a0, a1, a2, a3⟩ := c4 (HA1.out)
        have k0 := frozen_row (HR1.out) 0
        have k1 := frozen_row (HR1.out) 1
        have k2 := frozen_row (HR1.out) 2
        have k3 := frozen_row (HR1.out) 3
        obtain ⟨e0, e1, e2, e3⟩ := c4 (HR1.out)
        have hw := set4 (HR1.out) (iw A)
        have hbw := (below_set (below_set (below_set (below_set HB1.out (w.heap.size + 1) (by omega) 0 (.int .u64 (A 0 : Int))) (w.heap.size + 1) (by omega) 1 (.int .u64 (A 1 : Int))) (w.heap.size + 1) (by omega) 2 (.int .u64 (A 2 : Int))) (w.heap.size + 1) (by omega) 3 (.int .u64 (A 3 : Int)))
        simp only [iw] at hw
        generalize hW9 : ((((W1.setCell ⟨w.heap.size + 1, 0, none⟩ (.int .u64 (A 0 : Int))).setCell ⟨w.heap.size + 1, 1, none⟩ (.int .u64 (A 1 : Int))).setCell ⟨w.heap.size + 1, 2, none⟩ (.int .u64 (A 2 : Int))).setCell ⟨w.heap.size + 1, 3, none⟩ (.int .u64 (A 3 : Int))) = W9 at *
        have HBW := Lib.hid hbw
        have HW : Hid (W9.heap[w.heap.size + 1]? = some (.cells (rowc (iw A)) 50 (0, 0))) := hw
        clear hw hbw
        go_wp2
        obtain ⟨q0, q1, q2, q3⟩ := c4 HW.out
        refine bodyPost_ret (v := bv (iw (A))) ?_ rfl ⟨by first | rw [es] | rfl, HBW.out⟩
        simp [bv, rowc, iw, results, Try.results51, go_sem, q0, q1, q2, q3]
      · clear h01 hh
        have HA1 := Lib.hid nA
        have HR1 := Lib.hid nR
        have HB1 := Lib.hid hb
        clear nA nR hb
        obtain ⟨a0, a1, a2, a3⟩ := c4 (HA1.out)
        have k0 := frozen_row (HR1.out) 0
        have k1 := frozen_row (HR1.out) 1
        have k2 := frozen_row (HR1.out) 2
        have k3 := frozen_row (HR1.out) 3
        obtain ⟨e0, e1, e2, e3⟩ := c4 (HR1.out)
        have hw := set4 (HR1.out) (iw A)
        have hbw := (below_set (below_set (below_set (below_set HB1.out (w.heap.size + 1) (by omega) 0 (.int .u64 (A 0 : Int))) (w.heap.size + 1) (by omega) 1 (.int .u64 (A 1 : Int))) (w.heap.size + 1) (by omega) 2 (.int .u64 (A 2 : Int))) (w.heap.size + 1) (by omega) 3 (.int .u64 (A 3 : Int)))
        simp only [iw] at hw
        generalize hW9 : ((((W1.setCell ⟨w.heap.size + 1, 0, none⟩ (.int .u64 (A 0 : Int))).setCell ⟨w.heap.size + 1, 1, none⟩ (.int .u64 (A 1 : Int))).setCell ⟨w.heap.size + 1, 2, none⟩ (.int .u64 (A 2 : Int))).setCell ⟨w.heap.size + 1, 3, none⟩ (.int .u64 (A 3 : Int))) = W9 at *
        have HBW := Lib.hid hbw
        have HW : Hid (W9.heap[w.heap.size + 1]? = some (.cells (rowc (iw A)) 50 (0, 0))) := hw
        clear hw hbw
        go_wp2
        obtain ⟨q0, q1, q2, q3⟩ := c4 HW.out
        refine bodyPost_ret (v := bv (iw (A))) ?_ rfl ⟨by first | rw [es] | rfl, HBW.out⟩
        simp [bv, rowc, iw, results, Try.results51, go_sem, q0, q1, q2, q3]
set_option maxHeartbeats 4000000 in
set_option maxRecDepth 100000 in
theorem withoutr_n {A : Nat → Nat} (hA : Ws A) (i : Int) (w : World) : Calls Try.prog 84 #[bv (iw A), .int .i64 i] w fun e w' => e = .returned (bv (iw (withoutW A i))) ∧ Below w.heap.size w w' := by
  obtain ⟨W0, hW0⟩ : ∃ W0, (w.alloc (.cells #[.int .u64 (A 0 : Int), .int .u64 (A 1 : Int), .int .u64 (A 2 : Int), .int .u64 (A 3 : Int)] 50)).alloc (.cells #[.int .u64 0, .int .u64 0, .int .u64 0, .int .u64 0] 50) = W0 := ⟨_, rfl⟩
  have nA : W0.heap[w.heap.size]? = some (.cells (rowc (iw A)) 50 (0, 0)) := by rw [← hW0, Below.heap_alloc _ _ _ (by simp)]; exact heap_new _ _ _ rfl
  have nR : W0.heap[w.heap.size + 1]? = some (.cells (rowc (iw noneW)) 50 (0, 0)) := by rw [← hW0]; exact heap_new _ _ _ (by simp)
  have hb0 : Below w.heap.size w W0 := by rw [← hW0]; exact ((Below.refl _ w).alloc (Nat.le_refl _) _).alloc (by simp) _
  have hsz : W0.heap.size = w.heap.size + 2 := by rw [← hW0]; simp
  obtain ⟨a0, a1, a2, a3⟩ := c4 nA
  have KA : ∀ w', Hid (Below W0.heap.size W0 w' → w'.heap[w.heap.size]? = some (.cells (rowc (iw A)) 50 (0, 0))) := fun w' h => old4 nA h (by omega)
  have KR : ∀ w', Hid (Below W0.heap.size W0 w' → w'.heap[w.heap.size + 1]? = some (.cells (rowc (iw noneW)) 50 (0, 0))) := fun w' h => old4 nR h (by omega)
  have KB : ∀ w', Hid (Below W0.heap.size W0 w' → Below w.heap.size w w') := fun w' h => hb0.trans (h.mono (by omega))
  clear nA nR hb0 hsz
  rw [bvl]
  go_enter Try.func84, Try.ntmps84
  go_wp2_with fail
  refine (hasr_n hA i _).mono ?_
  rintro e W1 ⟨rfl, hb1⟩
  have nA := (KA W1).out hb1
  have nR := (KR W1).out hb1
  have hb := (KB W1).out hb1
  clear a0 a1 a2 a3 KA KR KB hb1 hW0
  cases hh : hasI A i with
  | false =>
    have es := without_same hA i hh
    clear hh
    have HA1 := Lib.hid nA
    have HR1 := Lib.hid nR
    have HB1 := Lib.hid hb
    clear nA nR hb
    obtain ⟨a0, a1, a2, a3⟩ := c4 (HA1.out)
    have k0 := frozen_row (HR1.out) 0
    have k1 := frozen_row (HR1.out) 1
    have k2 := frozen_row (HR1.out) 2
    have k3 := frozen_row (HR1.out) 3
    obtain ⟨e0, e1, e2, e3⟩ := c4 (HR1.out)
    have hw := set4 (HR1.out) (iw A)
    have hbw := (below_set (below_set (below_set (below_set HB1.out (w.heap.size + 1) (by omega) 0 (.int .u64 (A 0 : Int))) (w.heap.size + 1) (by omega) 1 (.int .u64 (A 1 : Int))) (w.heap.size + 1) (by omega) 2 (.int .u64 (A 2 : Int))) (w.heap.size + 1) (by omega) 3 (.int .u64 (A 3 : Int)))
    simp only [iw] at hw
    generalize hW9 : ((((W1.setCell ⟨w.heap.size + 1, 0, none⟩ (.int .u64 (A 0 : Int))).setCell ⟨w.heap.size + 1, 1, none⟩ (.int .u64 (A 1 : Int))).setCell ⟨w.heap.size + 1, 2, none⟩ (.int .u64 (A 2 : Int))).setCell ⟨w.heap.size + 1, 3, none⟩ (.int .u64 (A 3 : Int))) = W9 at *
    have HBW := Lib.hid hbw
    have HW : Hid (W9.heap[w.heap.size + 1]? = some (.cells (rowc (iw A)) 50 (0, 0))) := hw
    clear hw hbw
    go_wp2
    obtain ⟨q0, q1, q2, q3⟩ := c4 HW.out
    refine bodyPost_ret (v := bv (iw (A))) ?_ rfl ⟨by first | rw [es] | rfl, HBW.out⟩
    simp [bv, rowc, iw, results, Try.results84, go_sem, q0, q1, q2, q3]
  | true =>
    have h01 : 0 ≤ i ∧ i < 256 := by
      unfold hasI at hh
      split at hh
      · assumption
      · cases hh
    obtain ⟨n, rfl⟩ : ∃ n : Nat, i = (n : Int) := ⟨i.toNat, by omega⟩
    have hn : n < 256 := by omega
    have hn' : (n : Int) ≤ 255 := by omega
    clear h01
    have ki : n / 64 < 4 := by omega
    have kj : n % 64 < 64 := by omega
    have hz := hA (n / 64) ki
    have hbit : (A (n / 64)).testBit (n % 64) = true := by
      unfold hasI hasN at hh
      rw [if_pos (by omega), Int.toNat_natCast] at hh
      exact hh
    have hpow : IntKind.u64.wrap (2 ^ (n % 64)) = 2 ^ (n % 64) := by
      have e : (2 : Int) ^ (n % 64) = ((2 ^ (n % 64) : Nat) : Int) := by simp
      have l : 2 ^ (n % 64) < 18446744073709551616 := (Nat.pow_lt_pow_right (a := 2) (m := n % 64) (n := 64) (by omega) kj : 2 ^ (n % 64) < 2 ^ 64)
      rw [IntKind.wrap_u64, e]
      generalize 2 ^ (n % 64) = m at *
      omega
    have hwrap : IntKind.u64.wrap ((A (n / 64) : Int) - 2 ^ (n % 64)) = ((A (n / 64) : Int) - 2 ^ (n % 64)) := by
      have e : (2 : Int) ^ (n % 64) = ((2 ^ (n % 64) : Nat) : Int) := by simp
      have l := (bit_sub _ _ hz kj hbit).1
      rw [IntKind.wrap_u64, e]
      generalize 2 ^ (n % 64) = m at *
      omega
    have hset := rowc_without (A := A) n hn hbit hz
    have c1 := cell_row nA (n / 64) ki
    have f1 := frozen_row nA (n / 64)
    have nA2 : (W1.setCell ⟨w.heap.size, n / 64, none⟩ (.int .u64 ((A (n / 64) : Int) - 2 ^ (n % 64)))).heap[w.heap.size]? = some (.cells (rowc (iw (withoutW A n))) 50 (0, 0)) := by
      rw [← hset]
      exact Lib.heap_setCell_same (i := n / 64) nA (.int .u64 ((A (n / 64) : Int) - 2 ^ (n % 64)))
    have nR2 : (W1.setCell ⟨w.heap.size, n / 64, none⟩ (.int .u64 ((A (n / 64) : Int) - 2 ^ (n % 64)))).heap[w.heap.size + 1]? = some (.cells (rowc (iw noneW)) 50 (0, 0)) := (Below.heap_setCell _ _ _ _ (by simp)).trans nR
    have hb2 : Below w.heap.size w (W1.setCell ⟨w.heap.size, n / 64, none⟩ (.int .u64 ((A (n / 64) : Int) - 2 ^ (n % 64)))) := below_set hb w.heap.size (Nat.le_refl _) _ _
    simp only [iw] at c1
    clear hset nA nR hb hbit
    generalize hW2 : W1.setCell ⟨w.heap.size, n / 64, none⟩ (.int .u64 ((A (n / 64) : Int) - 2 ^ (n % 64))) = W2 at *
    have HA2 := Lib.hid nA2
    have HR2 := Lib.hid nR2
    have HB2 := Lib.hid hb2
    clear nA2 nR2 hb2
    generalize hX : withoutW A n = X at *
    have HX := Lib.hid hX
    clear hX
    obtain ⟨a0, a1, a2, a3⟩ := c4 (HA2.out)
    have k0 := frozen_row (HR2.out) 0
    have k1 := frozen_row (HR2.out) 1
    have k2 := frozen_row (HR2.out) 2
    have k3 := frozen_row (HR2.out) 3
    obtain ⟨e0, e1, e2, e3⟩ := c4 (HR2.out)
    have hw := set4 (HR2.out) (iw X)
    have hbw := (below_set (below_set (below_set (below_set HB2.out (w.heap.size + 1) (by omega) 0 (.int .u64 (X 0 : Int))) (w.heap.size + 1) (by omega) 1 (.int .u64 (X 1 : Int))) (w.heap.size + 1) (by omega) 2 (.int .u64 (X 2 : Int))) (w.heap.size + 1) (by omega) 3 (.int .u64 (X 3 : Int)))
    simp only [iw] at hw
    generalize hW9 : ((((W2.setCell ⟨w.heap.size + 1, 0, none⟩ (.int .u64 (X 0 : Int))).setCell ⟨w.heap.size + 1, 1, none⟩ (.int .u64 (X 1 : Int))).setCell ⟨w.heap.size + 1, 2, none⟩ (.int .u64 (X 2 : Int))).setCell ⟨w.heap.size + 1, 3, none⟩ (.int .u64 (X 3 : Int))) = W9 at *
    have HBW := Lib.hid hbw
    have HW : Hid (W9.heap[w.heap.size + 1]? = some (.cells (rowc (iw X)) 50 (0, 0))) := hw
    clear hw hbw
    go_wp2
    obtain ⟨q0, q1, q2, q3⟩ := c4 HW.out
    refine bodyPost_ret (v := bv (iw (X))) ?_ rfl ⟨by rw [HX.out], HBW.out⟩
    simp [bv, rowc, iw, results, Try.results84, go_sem, q0, q1, q2, q3]
end Go.Proofs.Ytaofldlidifdcaa.Bits

/-
  The reference of the sets: And, Minus.
-/
namespace Go.Proofs.Ytaofldlidifdcaa.Bits
open Go.RowKit Go.Shelf

set_option maxHeartbeats 4000000 in
set_option maxRecDepth 100000 in
theorem andr_n {A B : Nat → Nat} (hA : Ws A) (hB : Ws B) (w : World) : Calls Try.prog 72 #[bv (iw A), bv (iw B)] w fun e w' => e = .returned (bv (iw (andW A B))) ∧ Below w.heap.size w w' := by
  obtain ⟨W0, hW0⟩ : ∃ W0, ((w.alloc (.cells #[.int .u64 (A 0 : Int), .int .u64 (A 1 : Int), .int .u64 (A 2 : Int), .int .u64 (A 3 : Int)] 50)).alloc (.cells #[.int .u64 (B 0 : Int), .int .u64 (B 1 : Int), .int .u64 (B 2 : Int), .int .u64 (B 3 : Int)] 50)).alloc (.cells #[.int .u64 0, .int .u64 0, .int .u64 0, .int .u64 0] 50) = W0 := ⟨_, rfl⟩
  have nA : W0.heap[w.heap.size]? = some (.cells (rowc (iw A)) 50 (0, 0)) := by rw [← hW0, Below.heap_alloc _ _ _ (by simp; omega), Below.heap_alloc _ _ _ (by simp)]; exact heap_new _ _ _ rfl
  have nB : W0.heap[w.heap.size + 1]? = some (.cells (rowc (iw B)) 50 (0, 0)) := by rw [← hW0, Below.heap_alloc _ _ _ (by simp)]; exact heap_new _ _ _ (by simp)
  have nR : W0.heap[w.heap.size + 2]? = some (.cells (rowc (iw noneW)) 50 (0, 0)) := by rw [← hW0]; exact heap_new _ _ _ (by simp)
  have hb0 : Below w.heap.size w W0 := by rw [← hW0]; exact (((Below.refl _ w).alloc (Nat.le_refl _) _).alloc (by simp) _).alloc (by simp; omega) _
  have HA := Lib.hid nA
  have HB := Lib.hid nB
  have HR := Lib.hid nR
  have HL := Lib.hid hb0
  clear nA nB nR hb0
  rw [bvl A, bvl B]
  go_enter Try.func72, Try.ntmps72
  go_wp2
  clear hW0
  go_loopg [5] 256 (fun g iv wr => ∃ (i : Nat) (X : Nat → Nat), i ≤ 256 ∧ iv = .int .i64 (i : Int) ∧ Aside (256 - i = g) ∧ Aside (Ws X) ∧ Aside (∀ m, m < 256 → hasN X m = (hasN A m && (decide (i ≤ m) || hasN B m))) ∧ Aside (wr.heap[w.heap.size]? = some (.cells (rowc (iw X)) 50 (0, 0))) ∧ Aside (wr.heap[w.heap.size + 1]? = some (.cells (rowc (iw B)) 50 (0, 0))) ∧ Aside (wr.heap[w.heap.size + 2]? = some (.cells (rowc (iw noneW)) 50 (0, 0))) ∧ Aside (Below w.heap.size w wr))
  case atStart => exact ⟨0, A, by decide, rfl, rfl, hA, fun m hm => by simp, HA.out, HB.out, HR.out, HL.out⟩
  case round =>
    obtain ⟨i, X, hi, rfl, hk, hX, hin, nX, nB, nR, hbel⟩ := hrel
    clear HA HB HR HL
    by_cases hlt : i < 256
    · obtain ⟨b0, b1, b2, b3⟩ := c4 nB.out
      go_wp2_with fail
      refine (hasr_n hB (i : Int) _).mono ?_
      rintro e W1 ⟨rfl, hb1⟩
      have hI : hasI B (i : Int) = hasN B i := by unfold hasI; rw [if_pos (by omega), Int.toNat_natCast]
      have nX1 := Lib.hid (old4 nX.out hb1 (lt4 nX.out))
      have nB1 := Lib.hid (old4 nB.out hb1 (lt4 nB.out))
      have nR1 := Lib.hid (old4 nR.out hb1 (lt4 nR.out))
      have hbel1 := Lib.hid (hbel.out.trans (hb1.mono hbel.out.size))
      clear hb1 b0 b1 b2 b3
      cases hh : hasN B i with
      | true =>
        have hI2 := hI.trans hh
        go_wp2
        go_roundg (256 - (i + 1))
        case measure => have := hk.out; omega
        case rel =>
          refine ⟨i + 1, X, by omega, by go_num, rfl, hX.out, fun m hm => ?_, nX1.out, nB1.out, nR1.out, hbel1.out⟩
          rw [hin.out m hm]
          by_cases he : m = i
          · subst he; simp [hh]
          · rw [show decide (i + 1 ≤ m) = decide (i ≤ m) from decide_eq_decide.2 (by omega)]
      | false =>
        have hI2 := hI.trans hh
        obtain ⟨a0, a1, a2, a3⟩ := c4 nX1.out
        go_wp2_with fail
        clear a0 a1 a2 a3
        refine (withoutr_n hX.out (i : Int) _).mono ?_
        rintro e W2 ⟨rfl, hb2⟩
        have nX2 := Lib.hid (old4 nX1.out hb2 (lt4 nX1.out))
        have nB2 := Lib.hid (old4 nB1.out hb2 (lt4 nB1.out))
        have nR2 := Lib.hid (old4 nR1.out hb2 (lt4 nR1.out))
        have hbel2 := Lib.hid (hbel1.out.trans (hb2.mono hbel1.out.size))
        have hY : Hid (Ws (withoutW X (i : Int))) := hX.out.min
        have hinY : Hid (∀ m, m < 256 → hasN (withoutW X (i : Int)) m = (hasN X m && !decide ((i : Int) = (m : Int)))) := fun m hm => has_without X i m hm
        clear hb2 nX1 nB1 nR1 hbel1
        generalize withoutW X (i : Int) = Y at *
        simp only [bvl]
        have k0 := frozen_row (nX2.out) 0
        have k1 := frozen_row (nX2.out) 1
        have k2 := frozen_row (nX2.out) 2
        have k3 := frozen_row (nX2.out) 3
        obtain ⟨e0, e1, e2, e3⟩ := c4 (nX2.out)
        have hw := set4 (nX2.out) (iw Y)
        simp only [iw] at hw
        have hbw := (below_set (below_set (below_set (below_set hbel2.out (w.heap.size) (by omega) 0 (.int .u64 (Y 0 : Int))) (w.heap.size) (by omega) 1 (.int .u64 (Y 1 : Int))) (w.heap.size) (by omega) 2 (.int .u64 (Y 2 : Int))) (w.heap.size) (by omega) 3 (.int .u64 (Y 3 : Int)))
        have nB30 := (set4_other W2 (w.heap.size) (w.heap.size + 1) (by omega) (.int .u64 (Y 0 : Int)) (.int .u64 (Y 1 : Int)) (.int .u64 (Y 2 : Int)) (.int .u64 (Y 3 : Int))).trans (nB2.out)
        have nR30 := (set4_other W2 (w.heap.size) (w.heap.size + 2) (by omega) (.int .u64 (Y 0 : Int)) (.int .u64 (Y 1 : Int)) (.int .u64 (Y 2 : Int)) (.int .u64 (Y 3 : Int))).trans (nR2.out)
        generalize hW9 : ((((W2.setCell ⟨w.heap.size, 0, none⟩ (.int .u64 (Y 0 : Int))).setCell ⟨w.heap.size, 1, none⟩ (.int .u64 (Y 1 : Int))).setCell ⟨w.heap.size, 2, none⟩ (.int .u64 (Y 2 : Int))).setCell ⟨w.heap.size, 3, none⟩ (.int .u64 (Y 3 : Int))) = W3 at *
        have HBW := Lib.hid hbw
        have HS : Hid (W3.heap[w.heap.size]? = some (.cells (rowc (iw Y)) 50 (0, 0))) := hw
        have nB3 : Hid (W3.heap[w.heap.size + 1]? = some (.cells (rowc (iw B)) 50 (0, 0))) := nB30
        have nR3 : Hid (W3.heap[w.heap.size + 2]? = some (.cells (rowc (iw noneW)) 50 (0, 0))) := nR30
        clear hw hbw nB30 nR30
        clear nX2 nB2 nR2 hbel2
        go_wp2
        go_roundg (256 - (i + 1))
        case measure => have := hk.out; omega
        case rel =>
          refine ⟨i + 1, Y, by omega, by go_num, rfl, hY.out, fun m hm => ?_, HS.out, nB3.out, nR3.out, HBW.out⟩
          rw [hinY.out m hm, hin.out m hm]
          by_cases he : m = i
          · subst he; simp [hh]
          · rw [show decide (i + 1 ≤ m) = decide (i ≤ m) from decide_eq_decide.2 (by omega)]
            simp [show ¬ (i : Int) = (m : Int) by omega]
    · obtain rfl : i = 256 := by omega
      have es : Hid (bv (iw X) = bv (iw (andW A B))) := bv_ext hX.out (hA.and) fun m hm => by
        rw [hin.out m hm, has_and, decide_eq_false (by omega : ¬ 256 ≤ m), Bool.false_or]
      rw [show ((256 : Nat) : Int) = 256 from rfl]
      obtain ⟨a0, a1, a2, a3⟩ := c4 (nX.out)
      have k0 := frozen_row (nR.out) 0
      have k1 := frozen_row (nR.out) 1
      have k2 := frozen_row (nR.out) 2
      have k3 := frozen_row (nR.out) 3
      obtain ⟨e0, e1, e2, e3⟩ := c4 (nR.out)
      have hw := set4 (nR.out) (iw X)
      have hbw := (below_set (below_set (below_set (below_set hbel.out (w.heap.size + 2) (by omega) 0 (.int .u64 (X 0 : Int))) (w.heap.size + 2) (by omega) 1 (.int .u64 (X 1 : Int))) (w.heap.size + 2) (by omega) 2 (.int .u64 (X 2 : Int))) (w.heap.size + 2) (by omega) 3 (.int .u64 (X 3 : Int)))
      simp only [iw] at hw
      generalize hW9 : ((((wr.setCell ⟨w.heap.size + 2, 0, none⟩ (.int .u64 (X 0 : Int))).setCell ⟨w.heap.size + 2, 1, none⟩ (.int .u64 (X 1 : Int))).setCell ⟨w.heap.size + 2, 2, none⟩ (.int .u64 (X 2 : Int))).setCell ⟨w.heap.size + 2, 3, none⟩ (.int .u64 (X 3 : Int))) = W9 at *
      have HBW := Lib.hid hbw
      have HW : Hid (W9.heap[w.heap.size + 2]? = some (.cells (rowc (iw X)) 50 (0, 0))) := hw
      clear hw hbw
      clear nX nB nR
      go_wp2
      obtain ⟨q0, q1, q2, q3⟩ := c4 HW.out
      refine bodyPost_ret (v := bv (iw (X))) ?_ rfl ⟨by rw [es.out], HBW.out⟩
      simp [bv, rowc, iw, results, Try.results72, go_sem, q0, q1, q2, q3]
end Go.Proofs.Ytaofldlidifdcaa.Bits
