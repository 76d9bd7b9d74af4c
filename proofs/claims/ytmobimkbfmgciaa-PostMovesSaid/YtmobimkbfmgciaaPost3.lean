/-
  Package post: rows of requests; Drain, Move; the reference's Same.
-/
import Derived.Test.YtmobimkbfmgciaaPost2
import Derived.Maps.AppendAt
import Derived.Deep.AppendLies
namespace Go.Proofs.Ytmobimkbfmgciaa.Post
open Go.Conc Go.RowKit

/-- A slice of requests that is read. -/
def RdA (w : World) (A : Option Addr) (n : Nat) (q : List (Int × Int)) : Prop :=
  q.length = n ∧ n ≤ 9223372036854775807 ∧ (0 < n → ∃ b o, A = some ⟨b, o, none⟩ ∧ ∀ j, j < n → w.cell? ⟨b, o + j * 2, none⟩ = some (.int .i64 (q.getD j (0, 0)).1) ∧ w.cell? ⟨b, o + j * 2 + 1, none⟩ = some (.int .i64 (q.getD j (0, 0)).2))

/-- What leaves the row's block alone leaves the row. -/
theorem RdA.kept {w w' : World} {A : Option Addr} {n : Nat} {q : List (Int × Int)} (h : RdA w A n q) (hk : ∀ b o, A = some ⟨b, o, none⟩ → b < w.heap.size → w'.heap[b]? = w.heap[b]?) : RdA w' A n q := by
  refine ⟨h.1, h.2.1, fun hn => ?_⟩
  obtain ⟨b, o, e, hc⟩ := h.2.2 hn
  have hb := hk b o e (World.block_lt_of_cell? w _ (hc 0 hn).1)
  exact ⟨b, o, e, fun j hj => ⟨(World.cell?_of_block (a := ⟨b, o + j * 2, none⟩) hb).trans (hc j hj).1, (World.cell?_of_block (a := ⟨b, o + j * 2 + 1, none⟩) hb).trans (hc j hj).2⟩⟩

set_option maxHeartbeats 1000000 in
set_option maxRecDepth 100000 in
theorem same_any (A B : Option Addr) (n c c' : Nat) (q : List (Int × Int)) (w : World) (ha : RdA w A n q) (hb : RdA w B n q) :
    Calls Try.prog 16 #[.slice A n c, .slice B n c'] w fun e w' => e = .returned (.bool true) ∧ ∃ m, w' = w.drewN m := by
  have hn := ha.2.1
  have HA := Lib.hid ha
  have HB := Lib.hid hb
  clear ha hb
  go_enter Try.func16, Try.ntmps16
  go_wp2
  go_loopg [5] n (fun k iv wr => ∃ (i : Nat), i ≤ n ∧ iv = .int .i64 (i : Int) ∧ Aside (n - i = k) ∧ ∃ m, wr = w.drewN m)
  case atStart => exact ⟨0, Nat.zero_le _, rfl, rfl, 0, rfl⟩
  case round =>
    obtain ⟨i, hi, rfl, hk, m, rfl⟩ := hrel
    by_cases hlt : i < n
    · have h1 : decide ((i : Int) < (n : Int)) = true := by simpa using hlt
      obtain ⟨b1, o1, rfl, hc⟩ := HA.out.2.2 (by omega)
      obtain ⟨b2, o2, rfl, hd⟩ := HB.out.2.2 (by omega)
      obtain ⟨c1, c2⟩ := hc i hlt
      obtain ⟨d1, d2⟩ := hd i hlt
      generalize (q.getD i (0, 0)).1 = x at *
      generalize (q.getD i (0, 0)).2 = y at *
      clear hc hd
      go_wp2
      go_quiet (fail)
      go_wp2
      go_roundg (n - (i + 1))
      case measure => have := hk.out; omega
      case rel => exact ⟨i + 1, by omega, by go_num, rfl, _, rfl⟩
    · have h1 : decide ((i : Int) < (n : Int)) = false := by simp; omega
      go_wp2
      go_ret
      exact ⟨rfl, m, rfl⟩
/-- The cells of a row of requests. -/
def flat (q : List (Int × Int)) : List Value := q.flatMap fun p => [.int .i64 p.1, .int .i64 p.2]
theorem flat_snoc (q : List (Int × Int)) (p : Int × Int) : flat (q ++ [p]) = flat q ++ [.int .i64 p.1, .int .i64 p.2] := by simp [flat]
theorem flat_length (q : List (Int × Int)) : (flat q).length = q.length * 2 := by
  induction q with
  | nil => rfl
  | cons p q ih => simp [flat] at ih ⊢; omega
theorem flat_get (q : List (Int × Int)) : ∀ j, j < q.length → (flat q)[j * 2]? = some (.int .i64 (q.getD j (0, 0)).1) ∧ (flat q)[j * 2 + 1]? = some (.int .i64 (q.getD j (0, 0)).2) := by
  induction q with
  | nil => intro j hj; simp at hj
  | cons p q ih =>
    intro j hj
    cases j with
    | zero => simp [flat]
    | succ j =>
      have := ih j (by simpa using hj)
      have e : flat (p :: q) = .int .i64 p.1 :: .int .i64 p.2 :: flat q := by simp [flat]
      rw [e, show (j + 1) * 2 = j * 2 + 1 + 1 by omega]
      simpa using this
theorem own_rd {w : World} {base n : Nat} {v : Value} {q : List (Int × Int)} (h : w.ownsRow base 28 2 v n (flat q)) : ∃ A c, v = .slice A n c ∧ RdA w A n q ∧ (∀ a, A = some a → base ≤ a.block) := by
  have hl : q.length = n := by have := h.1; rw [flat_length] at this; omega
  rcases h.2 with ⟨rfl, rfl⟩ | ⟨g, cap, cur, rfl, hb, hh, hn, hm, _⟩
  · exact ⟨none, 0, rfl, ⟨hl, by decide, fun h => absurd h (by decide)⟩, fun a e => by cases e⟩
  · refine ⟨_, cap, rfl, ⟨hl, by unfold maxLen at hm; omega, fun _ => ⟨g, 0, rfl, fun j hj => ?_⟩⟩, fun a e => by cases e; exact hb⟩
    have h1 := flat_get q j (by omega)
    have c1 := h.cellAt (j * 2) (by omega)
    have c2 := h.cellAt (j * 2 + 1) (by omega)
    rw [h1.1] at c1
    rw [h1.2] at c2
    rw [Nat.zero_add]
    exact ⟨c1, c2⟩
theorem gb_row {a b c : World} {R row : Option Nat} (h : a.grownBy b R) (k : b.grownBy c row) (hr : ∀ j, row = some j → a.heap.size ≤ j) : a.grownBy c R :=
  ⟨k.os.trans h.os, k.tape.trans h.tape, k.output.trans h.output, Nat.le_trans h.size k.size, fun i hi hn => (k.block i (Nat.lt_of_lt_of_le hi h.size) (fun e => by have := hr i e.symm; omega)).trans (h.block i hi hn)⟩
theorem own_low {w : World} {base : Nat} {e : TypeId} {size : Nat} {v : Value} {n : Nat} {xs : List Value} (h : w.ownsRow base e size v n xs) (k : Nat) (hk : k < base) : v.ownBlock = none ∨ v.ownBlock ≠ some k := by
  cases hv : v.ownBlock with
  | none => exact .inl rfl
  | some j => exact .inr fun e => by have := (h.lt j hv).1; injection e with e; omega

theorem infoAsk : (Try.prog.info? 28).map (fun i => (i.zero, i.size, i.bytes)) = some (some (.agg #[.int .i64 0, .int .i64 0]), 2, 16) := by kernel_rfl

theorem drop_pair (q : List (Int × Int)) (i : Nat) (h : i < q.length) : q.drop i = ((q.getD i (0, 0)).1, (q.getD i (0, 0)).2) :: q.drop (i + 1) := by
  have e : q.getD i (0, 0) = q[i] := by rw [List.getD_eq_getElem?_getD, List.getElem?_eq_getElem h]; rfl
  rw [e]
  exact List.drop_eq_getElem_cons h
theorem take_pair (q : List (Int × Int)) (i : Nat) (h : i < q.length) : q.take (i + 1) = q.take i ++ [((q.getD i (0, 0)).1, (q.getD i (0, 0)).2)] := by
  have e : q.getD i (0, 0) = q[i] := by rw [List.getD_eq_getElem?_getD, List.getElem?_eq_getElem h]; rfl
  rw [e, List.take_add_one, List.getElem?_eq_getElem h]
  rfl
/-- What Drain has, in the end. -/
def drainN (q : List (Int × Int)) (m : Int) : Nat := min m.toNat q.length

set_option maxHeartbeats 4000000 in
set_option maxRecDepth 100000 in
theorem drain_any (bp ch cap : Nat) (q : List (Int × Int)) (shut : Bool) (m : Int) (w : World) (h : IsBox w bp ch cap q shut) (hcap : cap ≤ 1000) :
    Calls Try.prog 15 #[.pointer (some ⟨bp, 0, none⟩), .int .i64 m] w fun e w' => ∃ v, e = .returned v ∧ w'.ownsRow w.heap.size 28 2 v (drainN q m) (flat (q.take (drainN q m))) ∧
      IsBox w' bp ch cap (q.drop (drainN q m)) shut ∧ w.grownBy w' (some ch) := by
  obtain ⟨i0, hi0, hz0, hz1, hz2⟩ := info_parts infoAsk
  obtain ⟨b1, b2, b3⟩ := h.lt
  have hqle : Aside (q.length ≤ cap) := h.le
  have H := Lib.hid h
  clear h
  go_enter Try.func15, Try.ntmps15
  go_wp2
  go_step3
  go_wp2
  go_step3
  go_wp2
  go_loopg [5] (drainN q m) (fun k v wr => ∃ (i : Nat), i ≤ drainN q m ∧ Aside (drainN q m - i = k) ∧ Aside (wr.ownsRow w.heap.size 28 2 v i (flat (q.take i))) ∧ Aside (IsBox wr bp ch cap (q.drop i) shut) ∧ Aside (w.grownBy wr (some ch)))
  case atStart => exact ⟨0, Nat.zero_le _, rfl, World.ownsRow_nil _ _ _ _, H.out, gb_refl _ _⟩
  case round =>
    obtain ⟨i, hi, hk, hown, hbox, hgr⟩ := hrel
    obtain ⟨A, c, rfl, hA⟩ := own_rd hown.out
    clear hA
    have hmx : Aside (drainN q m = min m.toNat q.length) := rfl
    by_cases h1 : (i : Int) < m
    · have g1 : decide ((i : Int) < m) = true := decide_eq_true h1
      by_cases h2 : i < q.length
      · have hd := drop_pair q i h2
        have ht := take_pair q i h2
        generalize (q.getD i (0, 0)).1 = x at *
        generalize (q.getD i (0, 0)).2 = y at *
        rw [hd] at hbox
        have HT : Aside (q.take (i + 1) = q.take i ++ [(x, y)]) := ht
        clear ht hd
        go_wp2_with fail
        refine (take_any1 bp ch cap x y (q.drop (i + 1)) shut wr hbox.out).mono ?_
        rintro e W1 ⟨rfl, hb1, hg1⟩
        have hB1 : Aside (IsBox W1 bp ch cap (q.drop (i + 1)) shut) := hb1
        have hG1 : Aside (w.grownBy W1 (some ch)) := gb_trans hgr.out hg1
        have hO1 := hown.out.kept hg1 (own_low hown.out ch b2)
        have hz : w.heap.size ≤ W1.heap.size := hG1.out.size
        clear hb1 hg1
        unfold askV
        go_wp2_with (at_builtin; refine wpList_append_own _ rfl _ _ 22 rfl w.heap.size 28 i0 (.agg #[.int .i64 0, .int .i64 0]) 2 16 Try.underlying22 hi0 hz0 hz1 hz2 rfl (by decide) _ _ _ rfl ((hO1.alloc _).alloc _) ⟨W1.heap.size + 1, 0, none⟩ 1 1 [.int .i64 x, .int .i64 y] rfl rfl ?c1 ?c2 ?c3 ?c4 ?c5 ?_)
        case c1 =>
          intro j u hj
          have ha : (⟨W1.heap.size + 1, 0, none⟩ : Addr).add j = ⟨W1.heap.size + 1, j, none⟩ := by unfold Addr.add; split <;> simp_all
          rw [ha, World.cell?_alloc_at _ _ _ _ (by simp)]
          simpa using hj
        case c2 => simp [Value.oneCell']
        case c3 => have := hqle.out; unfold maxLen; omega
        case c4 => have := hqle.out; omega
        case c5 => simp; omega
        intro v' W4 hown4 hgrow4 _
        have hB2 : Aside (IsBox W4 bp ch cap (q.drop (i + 1)) shut) := by
          have hl := hB1.out.lt
          refine hB1.out.kept ?_ ?_
          · exact (hgrow4.block bp (by simp; omega) (fun e => by have := (hO1.lt bp e.symm).1; omega)).trans ((Below.heap_alloc _ _ _ (by simp; omega)).trans (Below.heap_alloc _ _ _ (by omega)))
          · exact (hgrow4.block ch (by simp; omega) (fun e => by have := (hO1.lt ch e.symm).1; omega)).trans ((Below.heap_alloc _ _ _ (by simp; omega)).trans (Below.heap_alloc _ _ _ (by omega)))
        have hG2 : Aside (w.grownBy W4 (some ch)) := gb_row (gb_alloc (gb_alloc hG1.out _) _) hgrow4 (fun j hj => (hO1.lt j hj).1)
        have hO2 : Aside (W4.ownsRow w.heap.size 28 2 v' (i + 1) (flat (q.take (i + 1)))) := by
          rw [HT.out, flat_snoc]; exact hown4
        clear hown4 hgrow4 hO1
        go_wp2
        go_roundg (drainN q m - (i + 1))
        case measure => have := hk.out; have := hmx.out; omega
        case rel => exact ⟨i + 1, by have := hmx.out; omega, rfl, hO2.out, hB2.out, hG2.out⟩
      · have hd : q.drop i = [] := List.drop_eq_nil_of_le (by omega)
        rw [hd] at hbox
        go_wp2_with fail
        refine (take_any0 bp ch cap shut wr hbox.out).mono ?_
        rintro e W1 ⟨rfl, hb1, hg1⟩
        have hB1 : Aside (IsBox W1 bp ch cap [] shut) := hb1
        have hG1 : Aside (w.grownBy W1 (some ch)) := gb_trans hgr.out hg1
        have hO1 : Aside (W1.ownsRow w.heap.size 28 2 (.slice A i c) i (flat (q.take i))) := hown.out.kept hg1 (own_low hown.out ch b2)
        clear hb1 hg1
        unfold askV
        go_wp2
        rw [Exit.noGoto_ret]
        go_ret
        have e : i = drainN q m := by have := hmx.out; omega
        have hl := hB1.out.lt
        refine ⟨.slice A i c, rfl, ?_, ?_, gb_alloc hG1.out _⟩
        · rw [← e]; exact hO1.out.alloc _
        · rw [← e, hd]; exact hB1.out.kept (Below.heap_alloc _ _ _ hl.1) (Below.heap_alloc _ _ _ hl.2.1)
    · have g1 : decide ((i : Int) < m) = false := decide_eq_false h1
      go_wp2
      go_ret
      have e : i = drainN q m := by have := hmx.out; omega
      refine ⟨.slice A i c, rfl, ?_, ?_, hgr.out⟩
      · rw [← e]; exact hown.out
      · rw [← e]; exact hbox.out
end Go.Proofs.Ytmobimkbfmgciaa.Post
