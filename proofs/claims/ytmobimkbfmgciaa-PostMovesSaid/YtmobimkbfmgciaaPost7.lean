/-
  Package post: Move, whole, and what a nil box does.
-/
import Derived.Test.YtmobimkbfmgciaaPost6
import Derived.LaidEqlPtr
namespace Go.Proofs.Ytmobimkbfmgciaa.Post
open Go.Conc Go.RowKit

/-- Below B nothing has changed but, perhaps, these two. -/
structure Two (w w' : World) (c d : Nat) : Prop where
  os : w'.os = w.os
  tape : w'.tape = w.tape
  output : w'.output = w.output
  size : w.heap.size ≤ w'.heap.size
  block : ∀ k, k < w.heap.size → k ≠ c → k ≠ d → w'.heap[k]? = w.heap[k]?
theorem Two.refl (w : World) (c d : Nat) : Two w w c d := ⟨rfl, rfl, rfl, Nat.le_refl _, fun _ _ _ _ => rfl⟩
theorem Two.grown {a b e : World} {c d : Nat} {row : Option Nat} (h : Two a b c d) (g : b.grownBy e row) (hr : ∀ j, row = some j → j = c ∨ j = d ∨ a.heap.size ≤ j) : Two a e c d :=
  ⟨g.os.trans h.os, g.tape.trans h.tape, g.output.trans h.output, Nat.le_trans h.size g.size, fun k hk h1 h2 => (g.block k (Nat.lt_of_lt_of_le hk h.size) (fun ee => by rcases hr k ee.symm with rfl | rfl | h3; exact h1 rfl; exact h2 rfl; omega)).trans (h.block k hk h1 h2)⟩
theorem Two.below {a b e : World} {c d B : Nat} (h : Two b e c d) (k : Below B a b) (hB : B ≤ b.heap.size) (hc : B ≤ c) (hd : B ≤ d) : Below B a e :=
  ⟨h.os.trans k.os, h.tape.trans k.tape, h.output.trans k.output, Nat.le_trans k.size h.size, fun j hj => (h.block j (Nat.lt_of_lt_of_le hj hB) (by omega) (by omega)).trans (k.block j hj)⟩
theorem Two.drew {a b : World} {c d : Nat} (h : Two a b c d) (n : Nat) : Two a (b.drewN n) c d := ⟨h.os, h.tape, h.output, h.size, h.block⟩
theorem Two.alloc {a b : World} {c d : Nat} (h : Two a b c d) (o : Obj) : Two a (b.alloc o) c d := h.grown (gb_alloc (gb_refl b none) o) (fun j e => by cases e)

theorem drain_nil (m : Int) (w : World) : Calls Try.prog 15 #[.pointer none, .int .i64 m] w fun e w' => e = .returned (.slice none 0 0) ∧ w.grownBy w' none := by
  go_enter Try.func15, Try.ntmps15
  go_wp2
  go_step3
  go_wp2
  go_step3
  go_wp2
  go_loopg [5] 0 (fun k v wr => v = .slice none 0 0 ∧ wr = w)
  case atStart => exact ⟨rfl, rfl⟩
  case round =>
    obtain ⟨rfl, rfl⟩ := hrel
    by_cases h1 : (0 : Int) < m
    · go_wp2_with fail
      refine (take_nil wr).mono ?_
      rintro e W1 ⟨rfl, hg1⟩
      unfold askV
      go_wp2
      rw [Exit.noGoto_ret]
      go_ret
      exact ⟨rfl, gb_alloc hg1 _⟩
    · have h1' : m ≤ 0 := by omega
      go_wp2
      go_ret
      exact ⟨rfl, gb_refl _ _⟩

theorem run_eql_nil_ptr {P : Program} (w : World) {tp te : TypeId} (a : Addr) (hp : P.underlying tp = some (.pointer te)) :
    (binOp .eql tp (.pointer none) (.pointer (some a))).run P w = .ok (.bool false) w := by
  have h : ∀ d : Nat, (Op.equalIn (d + 1) tp (.pointer none) (.pointer (some a))).run P w = .ok false w := fun d => by
    simp [Op.equalIn, run_underlying hp]
  simp only [binOp]
  simp [Op.equal, Op.maxDepth, h 9999]
theorem run_eql_ptr_nil {P : Program} (w : World) {tp te : TypeId} (a : Addr) (hp : P.underlying tp = some (.pointer te)) :
    (binOp .eql tp (.pointer (some a)) (.pointer none)).run P w = .ok (.bool false) w := by
  have h : ∀ d : Nat, (Op.equalIn (d + 1) tp (.pointer (some a)) (.pointer none)).run P w = .ok false w := fun d => by
    simp [Op.equalIn, run_underlying hp]
  simp only [binOp]
  simp [Op.equal, Op.maxDepth, h 9999]

/-- A block of cells of which no string is a view. -/
def Blk (w : World) (b : Nat) : Prop := ∃ ca ta, w.heap[b]? = some (.cells ca ta (0, 0))
theorem Blk.kept {w w' : World} {b : Nat} (h : Blk w b) (h1 : w'.heap[b]? = w.heap[b]?) : Blk w' b := by
  obtain ⟨c, t, e⟩ := h
  exact ⟨c, t, h1.trans e⟩
theorem new_blk (x : Int) (n : Nat) (hx : x = (n : Int)) (h0 : 1 ≤ n) (h1 : n ≤ 1000) (w : World) :
    Calls Try.prog 10 #[.int .i64 x] w fun e w' => ∃ bp ch, e = .returned (.pointer (some ⟨bp, 0, none⟩)) ∧ IsBox w' bp ch n [] false ∧ w.grownBy w' none ∧ w.heap.size ≤ bp ∧ w.heap.size ≤ ch ∧ Blk w' bp := by
  subst hx
  obtain ⟨i, hi, hb⟩ := bytesAsk
  have hmk := fun W => run_makeChan (P := Try.prog) (w := W) Try.underlying48 hi .i64 n (by omega) (by rw [hb]; omega)
  have g1 : decide ((n : Int) < 1) = false := by simp; omega
  have g2 : decide ((1000 : Int) < (n : Int)) = false := by simp; omega
  go_enter Try.func10, Try.ntmps10
  go_wp2
  go_ret
  refine ⟨w.heap.size + 1, w.heap.size, rfl, ⟨?_, ?_, ?_, ⟨0, 0, ?_⟩, Nat.zero_le _⟩, gb_alloc (gb_alloc (gb_refl w _) _) _, by omega, Nat.le_refl _, ?_⟩
  · rw [World.cell?_alloc_at _ _ _ _ (by simp)]; rfl
  · rw [World.cell?_alloc_at _ _ _ _ (by simp)]; rfl
  · rw [World.frozen?_alloc_at _ _ _ _ (by simp)]
  · rw [Below.heap_alloc _ _ _ (by simp)]
    exact heap_alloc_new w _
  · exact ⟨_, _, by rw [show w.heap.size + 1 = (w.alloc (.chan n #[] false 0 0 false)).heap.size by simp]; exact heap_alloc_new _ _⟩
theorem infoBox : ∃ i, Try.prog.info? 50 = some i ∧ i.size ≠ 0 := by
  have h : (Try.prog.info? 50).map (·.size) = some 2 := by kernel_rfl
  cases e : Try.prog.info? 50 with
  | none => rw [e] at h; cases h
  | some i => rw [e] at h; simp at h; exact ⟨i, rfl, by omega⟩

/-- How many Move hands over. -/
def moveN (q : List (Int × Int)) (m : Int) (room : Nat) : Nat := drainN q (min m room)

set_option maxHeartbeats 4000000 in
set_option maxRecDepth 100000 in
theorem move_any (bp ch cap tp ch2 cap2 : Nat) (q q2 : List (Int × Int)) (s s2 : Bool) (m : Int) (w : World) (h : IsBox w bp ch cap q s) (h2 : IsBox w tp ch2 cap2 q2 s2) (hc : cap ≤ 1000) (hc2 : cap2 ≤ 1000) (hbt : bp ≠ tp) (hcc : ch ≠ ch2) (hb : Blk w bp) (ht : Blk w tp) :
    Calls Try.prog 17 #[.pointer (some ⟨bp, 0, none⟩), .pointer (some ⟨tp, 0, none⟩), .int .i64 m] w fun e w' => e = .returned (.int .i64 (moveN q m (roomN cap2 q2 s2) : Nat)) ∧
      IsBox w' bp ch cap (q.drop (moveN q m (roomN cap2 q2 s2))) s ∧ IsBox w' tp ch2 cap2 (q2 ++ q.take (moveN q m (roomN cap2 q2 s2))) s2 ∧ Two w w' ch ch2 := by
  obtain ⟨b1, b2, b3⟩ := h.lt
  obtain ⟨d1, d2, d3⟩ := h2.lt
  have hne : (⟨bp, 0, none⟩ : Addr) ≠ ⟨tp, 0, none⟩ := fun e => hbt (by injection e)
  have n1 : bp ≠ ch2 := by
    intro e
    obtain ⟨x, y, hs⟩ := h2.hc
    have := h.c0
    rw [e] at this
    simp [World.cell?, hs] at this
  have n2 : tp ≠ ch := by
    intro e
    obtain ⟨x, y, hs⟩ := h.hc
    have := h2.c0
    rw [e] at this
    simp [World.cell?, hs] at this
  have hcmp : ((binOp .eql 24 (.pointer (some ⟨bp, 0, none⟩)) (.pointer (some ⟨tp, 0, none⟩))).run Try.prog w = .ok (.bool false) w) := by
    obtain ⟨i, hi, hz⟩ := infoBox
    obtain ⟨_, _, e1⟩ := hb
    obtain ⟨_, _, e2⟩ := ht
    exact run_eql_ptr_other w Try.underlying24 hi hz hne e1 e2
  have H := Lib.hid h
  have H2 := Lib.hid h2
  have hqle : q.length ≤ cap := h.le
  have hN : moveN q m (roomN cap2 q2 s2) = drainN q (min m (roomN cap2 q2 s2)) := rfl
  have hN1 : moveN q m (roomN cap2 q2 s2) ≤ roomN cap2 q2 s2 := by unfold moveN drainN; omega
  have hN2 : moveN q m (roomN cap2 q2 s2) ≤ q.length := by unfold moveN drainN; omega
  have hR : ∀ i, i < moveN q m (roomN cap2 q2 s2) → s2 = false ∧ q2.length + i < cap2 := by
    intro i hi
    have : i < roomN cap2 q2 s2 := by omega
    unfold roomN at this
    cases s2
    · simp at this; exact ⟨rfl, by omega⟩
    · simp at this
  generalize hr : roomN cap2 q2 s2 = R at *
  generalize moveN q m R = N at *
  have HRm := Lib.hid hr
  have HR := Lib.hid hR
  have HN := Lib.hid hN
  clear h h2 hR hr hN
  go_enter Try.func17, Try.ntmps17
  go_upto_region 3 with (fail)
  go_cut [7] (fun v wr => ∃ A c, v = .slice A N c ∧ Aside (RdA wr A N (q.take N)) ∧ Aside (∀ ad, A = some ad → ∃ b, ad = ⟨b, 0, none⟩ ∧ w.heap.size ≤ b ∧ b < wr.heap.size) ∧ Aside (IsBox wr bp ch cap (q.drop N) s) ∧ Aside (IsBox wr tp ch2 cap2 q2 s2) ∧ Aside (Two w wr ch ch2))
  case first =>
    have go : ∀ p : Int, min m (R : Int) = p → ∀ z, Calls Try.prog 15 #[.pointer (some ⟨bp, 0, none⟩), .int .i64 p] (w.drewN z) fun e wr => ∃ A c, e = .returned (.slice A N c) ∧ Aside (RdA wr A N (q.take N)) ∧ Aside (∀ ad, A = some ad → ∃ b, ad = ⟨b, 0, none⟩ ∧ w.heap.size ≤ b ∧ b < wr.heap.size) ∧ Aside (IsBox wr bp ch cap (q.drop N) s) ∧ Aside (IsBox wr tp ch2 cap2 q2 s2) ∧ Aside (Two w wr ch ch2) := by
      intro p hp z
      have hb1 : IsBox (w.drewN z) bp ch cap q s := H.out.kept rfl rfl
      have hb2 : IsBox (w.drewN z) tp ch2 cap2 q2 s2 := H2.out.kept rfl rfl
      have hNp : drainN q p = N := by rw [HN.out, hp]
      refine (drain_any bp ch cap q s p (w.drewN z) hb1 hc).mono ?_
      rintro e W1 ⟨v, rfl, ho, hb', hg⟩
      rw [hNp] at ho hb'
      obtain ⟨A, c, rfl, r, _, y, _⟩ := own_form ho
      exact ⟨A, c, rfl, r, y, hb', hb2.grown hg (by simpa using fun e => n2 e) (by simpa using fun e => hcc e.symm), ((Two.refl w ch ch2).drew z).grown hg (fun j e => by cases e; exact .inl rfl)⟩
    have HGo := Lib.hid go
    clear go
    go_wp2_with fail
    refine (room_any tp ch2 cap2 q2 s2 w H2.out hc2).mono ?_
    rintro e _ ⟨rfl, z, rfl⟩
    rw [HRm.out]
    clear hcmp
    by_cases hmR : m ≤ (R : Int)
    · go_wp2_with fail
      refine (HGo.out m (by omega) z).mono ?_
      rintro e W1 ⟨A, c, rfl, h1, h2, h3, h4, h5⟩
      go_wp2
      go_meet
      exact ⟨A, c, rfl, h1, h2, h3, h4, h5⟩
    · have hmR' : (R : Int) < m := by omega
      go_wp2_with fail
      refine (HGo.out (R : Int) (by omega) z).mono ?_
      rintro e W1 ⟨A, c, rfl, h1, h2, h3, h4, h5⟩
      go_wp2
      go_meet
      exact ⟨A, c, rfl, h1, h2, h3, h4, h5⟩
  case rest =>
    obtain ⟨A, c, rfl, r1, y1, x1, x2, t1⟩ := hcut
    have hN9 : N ≤ 1000 := by omega
    go_wp2
    go_loopg [21] N (fun g iv wr => ∃ (i : Nat), i ≤ N ∧ iv = .int .i64 (i : Int) ∧ Aside (N - i = g) ∧ Aside (RdA wr A N (q.take N)) ∧ Aside (IsBox wr bp ch cap (q.drop N) s) ∧ Aside (IsBox wr tp ch2 cap2 (q2 ++ q.take i) s2) ∧ Aside (Two w wr ch ch2))
    case atStart => exact ⟨0, Nat.zero_le _, rfl, rfl, r1, x1, by simpa [Aside] using x2, t1⟩
    case round =>
      clear r1 x1 x2 t1
      obtain ⟨i, hi, rfl, hk, r1, x1, x2, t1⟩ := hrel
      by_cases hlt : i < N
      · obtain ⟨hs2, hroom⟩ := HR.out i hlt
        subst hs2
        obtain ⟨b, o, rfl, hcl⟩ := r1.out.2.2 (by omega)
        clear hcl
        obtain ⟨bb, ebb, yb, _⟩ := y1.out _ rfl
        have ybb : w.heap.size ≤ b := by injection ebb with e1; rw [e1]; exact yb
        obtain ⟨g1, g2⟩ := r1.out.at i hlt
        have htk := take_pair q i (by omega)
        have egd : (q.take N).getD i (0, 0) = q.getD i (0, 0) := by simp [List.getD_eq_getElem?_getD, hlt]
        rw [egd] at g1 g2
        obtain ⟨x, ex⟩ : ∃ x, (q.getD i (0, 0)).1 = x := ⟨_, rfl⟩
        obtain ⟨y, ey⟩ : ∃ y, (q.getD i (0, 0)).2 = y := ⟨_, rfl⟩
        rw [ex] at g1
        rw [ey] at g2
        rw [ex, ey] at htk
        have p1 : putOk cap2 (q2 ++ q.take i) false = true := by simp [putOk]; omega
        have p2 : putQ cap2 (q2 ++ q.take i) false (x, y) = q2 ++ q.take (i + 1) := by rw [htk, ← List.append_assoc]; unfold putQ; rw [if_pos ⟨rfl, by simp; omega⟩]
        have P1 := Lib.hid p1
        have P2 := Lib.hid p2
        clear p1 p2 htk egd ebb yb ex ey
        go_wp2_with fail
        have HX2 : Aside (IsBox (wr.alloc (.cells #[.int .i64 x, .int .i64 y] 28)) tp ch2 cap2 (q2 ++ q.take i) false) := x2.out.grown (gb_alloc (gb_refl wr none) _) (fun e => by cases e) (fun e => by cases e)
        refine (put_any tp ch2 cap2 _ false x y _ HX2.out).mono ?_
        rintro e W4 ⟨rfl, hb3, hg3⟩
        rw [P2.out] at hb3
        rw [P1.out]
        have HX3 : Aside (IsBox W4 tp ch2 cap2 (q2 ++ q.take (i + 1)) false) := hb3
        have HX1 : Aside (IsBox W4 bp ch cap (q.drop N) s) := (x1.out.grown (gb_alloc (gb_refl wr none) _) (fun e => by cases e) (fun e => by cases e)).grown hg3 (by simpa using n1) (by simpa using hcc)
        have T3 : Aside (Two w W4 ch ch2) := (t1.out.alloc _).grown hg3 (fun j e => by cases e; exact .inr (.inl rfl))
        have R3 : Aside (RdA W4 (some ⟨b, o, none⟩) N (q.take N)) := r1.out.kept (fun b' o' e hb' => by
          cases e
          exact (hg3.block b (by simp; omega) (fun e => by injection e with e; omega)).trans (Below.heap_alloc _ _ _ hb'))
        clear hb3 hg3 g1 g2 HX2
        go_wp2
        go_roundg (N - (i + 1))
        case measure => have := hk.out; omega
        case rel => exact ⟨i + 1, by omega, by go_num, rfl, R3.out, HX1.out, HX3.out, T3.out⟩
      · have ei : i = N := by omega
        subst ei
        go_wp2
        go_ret
        exact ⟨rfl, x1.out, x2.out, t1.out⟩

set_option maxHeartbeats 4000000 in
set_option maxRecDepth 100000 in
theorem move_from_nil (tp ch2 cap2 : Nat) (q2 : List (Int × Int)) (s2 : Bool) (m : Int) (w : World) (h2 : IsBox w tp ch2 cap2 q2 s2) (hc2 : cap2 ≤ 1000) :
    Calls Try.prog 17 #[.pointer none, .pointer (some ⟨tp, 0, none⟩), .int .i64 m] w fun e w' => e = .returned (.int .i64 0) ∧ w.grownBy w' none := by
  have H2 := Lib.hid h2
  have hcmp := run_eql_nil_ptr (P := Try.prog) w (⟨tp, 0, none⟩ : Addr) Try.underlying24
  clear h2
  go_enter Try.func17, Try.ntmps17
  go_upto_region 3 with (fail)
  go_cut [7] (fun v wr => v = .slice none 0 0 ∧ Aside (w.grownBy wr none))
  case first =>
    go_wp2_with fail
    refine (room_any tp ch2 cap2 q2 s2 w H2.out hc2).mono ?_
    rintro e _ ⟨rfl, z, rfl⟩
    rcases (show (roomN cap2 q2 s2 : Int) < m ∨ m ≤ (roomN cap2 q2 s2 : Int) by omega) with hm | hm
    · go_wp2_with fail
      refine (drain_nil _ _).mono ?_
      rintro e W1 ⟨rfl, h1⟩
      go_wp2
      go_meet
      exact ⟨rfl, gb_trans (gb_drewN (gb_refl w none) z) h1⟩
    · go_wp2_with fail
      refine (drain_nil _ _).mono ?_
      rintro e W1 ⟨rfl, h1⟩
      go_wp2
      go_meet
      exact ⟨rfl, gb_trans (gb_drewN (gb_refl w none) z) h1⟩
  case rest =>
    obtain ⟨rfl, g⟩ := hcut
    go_wp2
    go_loopg [21] 0 (fun g iv wr => iv = .int .i64 0 ∧ Aside (w.grownBy wr none))
    case atStart => exact ⟨rfl, g⟩
    case round =>
      obtain ⟨rfl, g1⟩ := hrel
      go_wp2
      go_ret
      exact ⟨rfl, g1.out⟩

set_option maxHeartbeats 4000000 in
set_option maxRecDepth 100000 in
theorem move_to_nil (bp ch cap : Nat) (q : List (Int × Int)) (s : Bool) (m : Int) (w : World) (h : IsBox w bp ch cap q s) (hc : cap ≤ 1000) :
    Calls Try.prog 17 #[.pointer (some ⟨bp, 0, none⟩), .pointer none, .int .i64 m] w fun e w' => e = .returned (.int .i64 0) ∧ IsBox w' bp ch cap q s ∧ w.grownBy w' (some ch) := by
  have H := Lib.hid h
  have hcmp := run_eql_ptr_nil (P := Try.prog) w (⟨bp, 0, none⟩ : Addr) Try.underlying24
  clear h
  have go : ∀ p : Int, p ≤ 0 → ∀ z, Calls Try.prog 15 #[.pointer (some ⟨bp, 0, none⟩), .int .i64 p] (w.drewN z) fun e wr => ∃ A c, e = .returned (.slice A 0 c) ∧ Aside (IsBox wr bp ch cap q s) ∧ Aside (w.grownBy wr (some ch)) := by
    intro p hp z
    have hb1 : IsBox (w.drewN z) bp ch cap q s := H.out.kept rfl rfl
    have hNp : drainN q p = 0 := by unfold drainN; omega
    refine (drain_any bp ch cap q s p (w.drewN z) hb1 hc).mono ?_
    rintro e W1 ⟨v, rfl, ho, hb', hg⟩
    rw [hNp] at ho hb'
    obtain ⟨A, c, rfl, r, _, y, _⟩ := own_form ho
    exact ⟨A, c, rfl, hb', gb_trans (gb_drewN (gb_refl w _) z) hg⟩
  have HGo := Lib.hid go
  clear go
  go_enter Try.func17, Try.ntmps17
  go_upto_region 3 with (fail)
  go_cut [7] (fun v wr => ∃ A c, v = .slice A 0 c ∧ Aside (IsBox wr bp ch cap q s) ∧ Aside (w.grownBy wr (some ch)))
  case first =>
    go_wp2_with fail
    refine (room_nil w).mono ?_
    rintro e _ ⟨rfl, z, rfl⟩
    by_cases hm : m ≤ 0
    · go_wp2_with fail
      refine (HGo.out m hm z).mono ?_
      rintro e W1 ⟨A, c, rfl, h1, h2⟩
      go_wp2
      go_meet
      exact ⟨A, c, rfl, h1, h2⟩
    · have hm' : 0 < m := by omega
      go_wp2_with fail
      refine (HGo.out 0 (Int.le_refl _) z).mono ?_
      rintro e W1 ⟨A, c, rfl, h1, h2⟩
      go_wp2
      go_meet
      exact ⟨A, c, rfl, h1, h2⟩
  case rest =>
    obtain ⟨A, c, rfl, x1, g⟩ := hcut
    go_wp2
    go_loopg [21] 0 (fun k iv wr => iv = .int .i64 0 ∧ Aside (IsBox wr bp ch cap q s) ∧ Aside (w.grownBy wr (some ch)))
    case atStart => exact ⟨rfl, x1, g⟩
    case round =>
      obtain ⟨rfl, x2, g1⟩ := hrel
      go_wp2
      go_ret
      exact ⟨rfl, x2.out, g1.out⟩
end Go.Proofs.Ytmobimkbfmgciaa.Post
