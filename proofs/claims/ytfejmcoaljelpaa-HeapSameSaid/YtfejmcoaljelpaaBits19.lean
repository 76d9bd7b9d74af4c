/-
  The statement BitsSame, walked.
-/
import Derived.Test.YtfejmcoaljelpaaBits18
import Derived.Test.YtfejmcoaljelpaaApp
import Derived.Test.YtfejmcoaljelpaaRow0
import Derived.Deep.RegionHeld3
import Derived.Deep.DeepMust
namespace Go.Proofs.Ytfejmcoaljelpaa.Bits
open Go.RowKit Go.Shelf

/-- A slice of numbers that came in, cut to at most 20. -/
theorem few_row {w : World} {a : Option Addr} {len cap : Nat} {zs : List Int} (h : Row0.IsRow .i64 w a len cap zs) :
    len ≤ cap ∧ cap ≤ 9223372036854775807 ∧ (0 < len → ∃ ad, a = some ad) ∧ ∃ q : List Int, q.length = min len 20 ∧ (∀ ad, a = some ad → ∀ j, j < min len 20 → w.cell? (ad.add j) = some (.int .i64 (q.getD j 0))) := by
  rcases h with ⟨rfl, rfl, rfl, rfl⟩ | ⟨x, rfl, h1, h2, h3, h4, h5⟩
  · exact ⟨Nat.le_refl _, by decide, fun h => absurd h (by decide), [], rfl, fun ad e => by cases e⟩
  · unfold maxLen at h2
    refine ⟨h1, h2, fun _ => ⟨x, rfl⟩, zs.take (min len 20), by rw [List.length_take]; omega, fun ad e j hj => ?_⟩
    cases e
    rw [h4 j (by omega)]
    simp [List.getD_eq_getElem?_getD, hj]
def m16 (l : List Int) : List Int := l.map fun z => z % 16
theorem m16_snoc (l : List Int) (i : Nat) (h : i < l.length) : m16 (l.take (i + 1)) = m16 (l.take i) ++ [l.getD i 0 % 16] := by
  rw [take_int l i h]; simp [m16]
theorem rdI_news {w : World} {b o n : Nat} {l : List Int} (h : RdI w (some ⟨b, o, none⟩) n l) (k m : Nat) (hk : k + m ≤ n) : ∀ j u, (((l.drop k).take m).map (Value.int .i64))[j]? = some u → w.cell? ((⟨b, o + k, none⟩ : Addr).add j) = some u := by
  intro j u hu
  have hj : j < m := by
    have := (List.getElem?_eq_some_iff.1 hu).1
    simp at this
    omega
  rw [Row0.plain_add', Nat.add_assoc, h.atI (k + j) (by omega)]
  rw [← hu]
  have hl := h.1
  simp [List.getElem?_map, List.getElem?_take, hj, List.getElem?_drop, List.getD_eq_getElem?_getD, List.getElem?_eq_getElem (show k + j < l.length by omega)]
theorem one_i64 (l : List Int) : ∀ u ∈ l.map (Value.int .i64), u.oneCell' = true := by
  intro u hu
  obtain ⟨x, _, rfl⟩ := List.mem_map.1 hu
  rfl
/-- What the statement says of a row and how it is turned. -/
theorem same_turn (l : List Int) (k : Nat) : bv (iw (ofN (l.drop k ++ l.take k))) = bv (iw (ofN l)) := bv_ext (Ws.ofN _) (Ws.ofN _) fun i hi => by
  rw [has_ofN _ _ hi, has_ofN _ _ hi, List.any_append, Bool.or_comm, ← List.any_append, List.take_append_drop]
theorem same_more (l : List Int) (k : Nat) (m : Int) (h : l.any (fun i => i == m) = true) : bv (iw (ofN (l.drop k ++ l.take k ++ [m]))) = bv (iw (ofN l)) := bv_ext (Ws.ofN _) (Ws.ofN _) fun i hi => by
  rw [has_ofN _ _ hi, has_ofN _ _ hi, List.any_append, List.any_append, Bool.or_comm (List.any (List.drop k l) _), ← List.any_append, List.take_append_drop]
  simp only [List.any_cons, List.any_nil, Bool.or_false]
  cases hd : decide (m = (i : Int)) with
  | false => simp
  | true =>
    have e := of_decide_eq_true hd
    subst e
    rw [Bool.or_true]
    obtain ⟨x, hx, he⟩ := List.any_eq_true.1 h
    exact (List.any_eq_true.2 ⟨x, hx, by simpa using he⟩).symm
theorem same_not (l : List Int) (k : Nat) (m : Int) (h0 : 0 ≤ m) (h1 : m < 256) (h : l.any (fun i => i == m) = false) : eqN (ofN (l.drop k ++ l.take k ++ [m])) (ofN l) = false := by
  cases he : eqN (ofN (l.drop k ++ l.take k ++ [m])) (ofN l) with
  | false => rfl
  | true =>
    have := hasN_of_bv (of_eqN he) m.toNat (by omega)
    rw [has_ofN _ _ (by omega), has_ofN _ _ (by omega), List.any_append] at this
    have e : decide (m = (m.toNat : Int)) = true := decide_eq_true (by omega)
    simp only [List.any_cons, List.any_nil, e, Bool.or_true, Bool.true_or, Bool.or_false] at this
    rw [Eq.comm, List.any_eq_true] at this
    obtain ⟨x, hx, hxm⟩ := this
    have hx2 := of_decide_eq_true hxm
    have h3 := List.any_eq_false.1 h x hx
    exact absurd (beq_iff_eq.2 (by omega)) h3
theorem any_snoc (l : List Int) (i : Nat) (m : Int) (h : i < l.length) : (l.take (i + 1)).any (fun x => x == m) = ((l.take i).any (fun x => x == m) || (l.getD i 0 == m)) := by
  rw [take_int l i h, List.any_append]
  simp

theorem rdI_ad {w : World} {ad : Addr} {n : Nat} {l : List Int} (h : RdI w (some ad) n l) : ∀ j, j < n → w.cell? (ad.add j) = some (.int .i64 (l.getD j 0)) := fun j hj => by
  obtain ⟨b, o, e, hc⟩ := h.2.2 (by omega)
  cases e
  rw [Row0.plain_add']
  exact hc j hj
theorem drop_news {w : World} {ad : Addr} {n : Nat} {l : List Int} (h : RdI w (some ad) n l) (k : Nat) : ∀ a, some (ad.add k) = some a → ∀ j u, ((l.drop k).map (Value.int .i64))[j]? = some u → w.cell? (a.add j) = some u := by
  intro a e j u hu
  cases e
  have hj : j < l.length - k := by
    have := (List.getElem?_eq_some_iff.1 hu).1
    simpa using this
  have hl := h.1
  rw [show (ad.add k).add j = ad.add (k + j) by simp [Addr.add_add], rdI_ad h (k + j) (by omega), ← hu]
  simp [List.getElem?_map, List.getElem?_drop, List.getD_eq_getElem?_getD, List.getElem?_eq_getElem (show k + j < l.length by omega)]
theorem take_news {w : World} {ad : Addr} {n : Nat} {l : List Int} (h : RdI w (some ad) n l) (k : Nat) : ∀ a, some ad = some a → ∀ j u, ((l.take k).map (Value.int .i64))[j]? = some u → w.cell? (a.add j) = some u := by
  intro a e j u hu
  cases e
  have hj : j < k ∧ j < l.length := by
    have := (List.getElem?_eq_some_iff.1 hu).1
    simp at this
    omega
  have hl := h.1
  rw [rdI_ad h j (by omega), ← hu]
  simp [List.getElem?_map, List.getElem?_take, hj.1, List.getD_eq_getElem?_getD, List.getElem?_eq_getElem hj.2]
theorem own_below {B : Nat} {e : TypeId} {k : Nat} {v : Value} {n : Nat} {xs : List Value} {w w' : World} (h : w.ownsRow B e k v n xs) (hb : Below w.heap.size w w') : w'.ownsRow B e k v n xs :=
  h.kept (row := none) ⟨hb.os, hb.tape, hb.output, hb.size, fun j hj _ => hb.block j hj⟩ (by cases v.ownBlock <;> simp)
theorem rdI0 (w : World) : RdI w none 0 [] := ⟨rfl, by decide, fun h => absurd h (by decide)⟩
theorem cell_old {B : Nat} {w w' : World} {a : Addr} {v : Value} (h : w.cell? a = some v) (hb : Below B w w') (hB : w.heap.size ≤ B) : w'.cell? a = some v :=
  (World.cell?_of_block (hb.block _ (Nat.lt_of_lt_of_le (World.block_lt_of_cell? _ _ h) hB))).trans h

end Go.Proofs.Ytfejmcoaljelpaa.Bits
