/-
  Demands and blocks by numbers; the chapter's example.
-/
import Derived.Test.YtajkckjpfbkpmaaQpa3
import Derived.Test.YtajkckjpfbkpmaaDem4
import Derived.Test.YtajkckjpfbkpmaaArrs
import Derived.StillTailTactics
namespace Go.Proofs.Ytajkckjpfbkpmaa.Dem
open Go.RowKit Go.Shelf Go.Proofs.Ytajkckjpfbkpmaa.Ari

set_option maxHeartbeats 4000000 in
set_option maxRecDepth 100000 in
theorem madeQ_any (a : Option Addr) (len cap : Nat) (q : List (Int × Int × Int)) (w : World) (h : Row0.IsTrips .i64 w a len cap q) :
    Calls Try.prog 9 #[.slice a len cap] w fun e w' => ∃ v l, e = .returned v ∧ Smalls l ∧ l.length = min len 6 ∧ w'.ownsRow w.heap.size 32 3 v (min len 6) (flat3 l) ∧ Below w.heap.size w w' := by
  obtain ⟨i0, hi0, hz0, hz1, hz2⟩ := info_parts infoD
  have HP := Lib.hid h
  clear h
  go_enter Try.func9, Try.ntmps9
  go_wp2_with fail
  have hb0 : (w.alloc (.cells pers 51)).heap[w.heap.size]? = some (.cells pers 51 (0, 0)) := heap_alloc_new _ _
  have hB0 : Hid (Below w.heap.size w (w.alloc (.cells pers 51))) := (Below.refl _ w).alloc (Nat.le_refl _) _
  go_loopg [4, 5] (min len 6) (fun gg pv iv wr => ∃ (kk : Nat) (ms : List Dm), kk ≤ len ∧ kk ≤ 6 ∧ min len 6 - kk ≤ gg ∧ iv = .int .i64 (kk : Int) ∧ Aside (Smalls ms) ∧ Aside (ms.length = kk) ∧ Aside (wr.ownsRow (w.heap.size + 1) 32 3 pv kk (flat3 ms)) ∧ Aside (w.heap.size + 1 ≤ wr.heap.size) ∧ Aside (wr.heap[w.heap.size]? = some (.cells pers 51 (0, 0))) ∧ Aside (Below w.heap.size w wr))
  case atStart => exact ⟨0, [], Nat.zero_le _, by omega, by omega, rfl, fun x hx => by simp at hx, rfl, World.ownsRow_nil _ _ _ _, by show _ ≤ _; simp, hb0, hB0.out⟩
  case round =>
    obtain ⟨kk, ms, hk1, hk6, hg, rfl, hsm, hml, hown, hsz, hper, BW⟩ := hrel
    clear hb0 hB0
    by_cases hlt : kk < len ∧ kk < 6
    · obtain ⟨hl1, hl2⟩ := hlt
      obtain ⟨b, o, rfl⟩ := HP.out.ad (by omega)
      obtain ⟨x0, x1, x2⟩ := HP.out.at_ b o rfl kk hl1
      have hlc := HP.out.le
      have hbb := World.block_lt_of_cell? _ _ x0
      have c0 := (BW.out.cell hbb).trans x0
      have c1 := (BW.out.cell (World.block_lt_of_cell? _ _ x1)).trans x1
      have c2 := (BW.out.cell (World.block_lt_of_cell? _ _ x2)).trans x2
      clear x0 x1 x2
      generalize (q.getD kk (0, 0, 0)).1 = z0 at *
      generalize (q.getD kk (0, 0, 0)).2.1 = z1 at *
      generalize (q.getD kk (0, 0, 0)).2.2 = z2 at *
      obtain ⟨k, hk8, ek⟩ : ∃ k : Nat, k < 8 ∧ Go.bits .and .i64 z2 7 = (k : Int) := by
        have := Row0.and_i64 z2 3 (by decide) 7 rfl
        exact ⟨(z2 % 8).toNat, by omega, by rw [this]; omega⟩
      obtain ⟨T, hT, hcT⟩ := pers_at hper.out k hk8
      have HT := Lib.hid hT
      have t0 : 4 ≤ T ∧ T ≤ 24 := by unfold IsT at hT; omega
      obtain ⟨tl, tu⟩ := t0
      obtain ⟨R, eR, r0, r1⟩ := rest_bd z1 T (by omega)
      have w1 : IntKind.i64.wrap (R + T) = R + T := by rw [IntKind.wrap_i64]; omega
      obtain ⟨D, eD, d0, d1⟩ := rest_pos (R + T) T (by omega) (by omega)
      have w2 : IntKind.i64.wrap (1 + D) = 1 + D := by rw [IntKind.wrap_i64]; omega
      have w3 : IntKind.i64.wrap (1 + D + 1) = 1 + D + 1 := by rw [IntKind.wrap_i64]; omega
      obtain ⟨U, eU, u0, u1⟩ := rest_bd z0 (1 + D + 1) (by omega)
      have w4 : IntKind.i64.wrap (U + (1 + D)) = U + (1 + D) := by rw [IntKind.wrap_i64]; omega
      have w5 : IntKind.i64.wrap (U + (1 + D) + 1) = U + (1 + D) + 1 := by rw [IntKind.wrap_i64]; omega
      obtain ⟨C, eC, v0, v1⟩ := rest_pos (U + (1 + D) + 1) (1 + D + 1) (by omega) (by omega)
      have n1 : (T == 0) = false := by simp; omega
      have n2 : (1 + D + 1 == 0) = false := by simp; omega
      have q1 : (0 : Int) ≤ (kk : Int) := by omega
      have q2 : (kk : Int) < (len : Int) := by omega
      have q3 : (kk : Int) < 6 := by omega
      have q4 : (k : Int) < 8 := by omega
      clear hT
      go_wp2_with (at_builtin; refine wpList_append_own _ rfl _ _ 25 rfl (w.heap.size + 1) 32 i0 (.agg #[.int .i64 0, .int .i64 0, .int .i64 0]) 3 24 Try.underlying25 hi0 hz0 hz1 hz2 rfl (by decide) _ _ _ rfl (hown.out.alloc _) ⟨wr.heap.size, 0, none⟩ 1 1 [.int .i64 C, .int .i64 (1 + D), .int .i64 T] rfl rfl ?c1 ?c2 ?c3 ?c4 ?c5 ?_)
      case c2 => simp [Value.oneCell']
      case c3 => unfold maxLen; omega
      case c4 => omega
      case c5 => have := hsz.out; simp; omega
      intro v' w4 hown' hgrow _
      have hk2 := fun j (e : _ = some j) => (hown.out.lt j e).1
      have hO4 : Aside (w4.ownsRow (w.heap.size + 1) 32 3 v' (kk + 1) (flat3 (ms ++ [⟨C, 1 + D, T⟩]))) := by
        rw [flat3_snoc]; exact hown'
      have hB4 : Aside (Below w.heap.size w w4) := (BW.out.alloc BW.out.size _).grown hgrow (by have := BW.out.size; simp; omega) (fun j e => by have := hk2 j e; omega)
      have hP4 : Aside (w4.heap[w.heap.size]? = some (.cells pers 51 (0, 0))) :=
        (hgrow.block _ (by have := hsz.out; simp; omega) (fun e => by have := hk2 _ e.symm; omega)).trans ((Below.heap_alloc _ _ _ (by have := hsz.out; omega)).trans hper.out)
      have hS4 : Aside (w.heap.size + 1 ≤ w4.heap.size) := by have := hsz.out; have h2 := hgrow.size; simp at h2; show _ ≤ _; omega
      have hM4 : Aside (Smalls (ms ++ [⟨C, 1 + D, T⟩])) := fun x hx => by
        rcases List.mem_append.1 hx with hx | hx
        · exact hsm.out x hx
        · simp at hx
          subst hx
          exact ⟨by show 0 ≤ C; omega, by show C ≤ 1 + D; omega, by show 1 ≤ 1 + D; omega, by show 1 + D ≤ T; omega, HT.out⟩
      clear hown' hgrow hk2 hown hper BW
      go_wp2
      go_roundg (min len 6 - (kk + 1))
      case measure => omega
      case rel => exact ⟨kk + 1, ms ++ [Dm.mk C (1 + D) T], by omega, by omega, by omega, by go_num, hM4.out, by rw [Aside, List.length_append, hml.out]; rfl, hO4.out, hS4.out, hP4.out, hB4.out⟩
    · have HI : Hid (kk = min len 6) := by rw [RowKit.Hid]; omega
      by_cases hl : kk < len
      · have hl2 : decide ((kk : Int) < 6) = false := by simp; omega
        have hl1 : decide ((kk : Int) < (len : Int)) = true := by simp; omega
        clear hlt hk6
        go_wp2
        go_ret
        refine ⟨_, ms, rfl, hsm.out, by rw [hml.out, HI.out], ?_, BW.out⟩
        rw [← HI.out]
        exact own_base hown.out (Nat.le_succ _)
      · have hl1 : decide ((kk : Int) < (len : Int)) = false := by simp; omega
        clear hlt
        go_wp2
        go_ret
        refine ⟨_, ms, rfl, hsm.out, by rw [hml.out, HI.out], ?_, BW.out⟩
        rw [← HI.out]
        exact own_base hown.out (Nat.le_succ _)

def flat2 (q : List (Int × Int)) : List Value := q.flatMap fun p => [.int .i64 p.1, .int .i64 p.2]
theorem flat2_snoc (q : List (Int × Int)) (p : Int × Int) : flat2 (q ++ [p]) = flat2 q ++ [.int .i64 p.1, .int .i64 p.2] := by simp [flat2]
theorem flat2_append (q r : List (Int × Int)) : flat2 (q ++ r) = flat2 q ++ flat2 r := by simp [flat2]
theorem flat2_length (q : List (Int × Int)) : (flat2 q).length = q.length * 2 := by
  induction q with
  | nil => rfl
  | cons p q ih => simp [flat2] at ih ⊢; omega
theorem flat2_get (q : List (Int × Int)) : ∀ j, j < q.length → (flat2 q)[j * 2]? = some (.int .i64 (q.getD j (0, 0)).1) ∧ (flat2 q)[j * 2 + 1]? = some (.int .i64 (q.getD j (0, 0)).2) := by
  induction q with
  | nil => intro j hj; simp at hj
  | cons p q ih =>
    intro j hj
    cases j with
    | zero => simp [flat2]
    | succ j =>
      have := ih j (by simpa using hj)
      have e : flat2 (p :: q) = .int .i64 p.1 :: .int .i64 p.2 :: flat2 q := by simp [flat2]
      rw [e, show (j + 1) * 2 = j * 2 + 1 + 1 by omega]
      simpa using this
theorem flat2_one (q : List (Int × Int)) : ∀ u ∈ flat2 q, u.oneCell' = true := by
  intro u hu
  obtain ⟨p, _, h⟩ := List.mem_flatMap.1 hu
  simp at h
  rcases h with rfl | rfl <;> rfl
theorem own_rdK {w : World} {base n : Nat} {v : Value} {q : List (Int × Int)} {t : TypeId} (h : w.ownsRow base t 2 v n (flat2 q)) (hn : n ≤ 64) :
    ∃ A c, v = .slice A n c ∧ RdK w A n q ∧ n ≤ c ∧ c ≤ 9223372036854775807 ∧ (∀ a, A = some a → base ≤ a.block) ∧ (A = none → n = 0 ∧ c = 0) := by
  have hl : q.length = n := by have := h.1; rw [flat2_length] at this; omega
  rcases h.2 with ⟨rfl, rfl⟩ | ⟨g, cap, cur, rfl, hb, hh, hnc, hm, _⟩
  · exact ⟨none, 0, rfl, ⟨hl, by decide, fun h => absurd h (by decide)⟩, Nat.le_refl _, by decide, (fun a e => by cases e), fun _ => ⟨rfl, rfl⟩⟩
  · refine ⟨_, cap, rfl, ⟨hl, hn, fun _ => ⟨g, 0, rfl, fun j hj => ?_⟩⟩, hnc, by unfold maxLen at hm; omega, (fun a e => by cases e; exact hb), fun e => by cases e⟩
    obtain ⟨h1, h2⟩ := flat2_get q j (by omega)
    have c1 := h.cellAt (j * 2) (by omega)
    have c2 := h.cellAt (j * 2 + 1) (by omega)
    rw [h1] at c1
    rw [h2] at c2
    rw [Nat.zero_add]
    exact ⟨c1, c2⟩
theorem infoK : (Try.prog.info? 50).map (fun i => (i.zero, i.size, i.bytes)) = some (some (.agg #[.int .i64 0, .int .i64 0]), 2, 16) := by kernel_rfl
theorem cells2_new (W : World) (x y : Value) (T : TypeId) : ∀ j u, ([x, y] : List Value)[j]? = some u → (W.alloc (.cells #[x, y] T)).drew.cell? ((⟨W.heap.size, 0, none⟩ : Addr).add j) = some u := by
  intro j u hj
  have h : (W.alloc (.cells #[x, y] T)).drew.heap[W.heap.size]? = some (.cells #[x, y] T (0, 0)) := heap_alloc_new _ _
  rw [Row0.plain_add', Nat.zero_add]
  generalize (W.alloc (.cells #[x, y] T)).drew = V at *
  generalize W.heap.size = k at *
  match j, hj with
  | 0, hj => simp at hj; subst hj; simp [World.cell?, h]
  | 1, hj => simp at hj; subst hj; simp [World.cell?, h]
/-- A block by numbers. -/
def SmallB (p : Int × Int) : Prop := 1 ≤ p.1 ∧ p.1 ≤ 64 ∧ 0 ≤ p.2 ∧ p.2 ≤ 15
def SmallsB (l : List (Int × Int)) : Prop := ∀ p ∈ l, SmallB p
theorem SmallsB.oks {l : List (Int × Int)} (h : SmallsB l) : OksB l := fun p hp => by
  obtain ⟨a, b, c, d⟩ := h p hp
  exact ⟨a, by omega, c, by omega⟩
set_option maxHeartbeats 4000000 in
set_option maxRecDepth 100000 in
theorem held_any (a : Option Addr) (len cap : Nat) (z : List (Int × Int)) (w : World) (h : Row0.IsPairs .i64 .i64 w a len cap z) :
    Calls Try.prog 10 #[.slice a len cap] w fun e w' => ∃ v q, e = .returned v ∧ SmallsB q ∧ q.length = min len 6 ∧ w'.ownsRow w.heap.size 50 2 v (min len 6) (flat2 q) ∧ Below w.heap.size w w' := by
  obtain ⟨i0, hi0, hz0, hz1, hz2⟩ := info_parts infoK
  have HP := Lib.hid h
  clear h
  go_enter Try.func10, Try.ntmps10
  go_wp2_with fail
  go_loopg [3, 4] (min len 6) (fun gg pv iv wr => ∃ (kk : Nat) (ms : List (Int × Int)), kk ≤ len ∧ kk ≤ 6 ∧ min len 6 - kk ≤ gg ∧ iv = .int .i64 (kk : Int) ∧ Aside (SmallsB ms) ∧ Aside (ms.length = kk) ∧ Aside (wr.ownsRow w.heap.size 50 2 pv kk (flat2 ms)) ∧ Aside (Below w.heap.size w wr))
  case atStart => exact ⟨0, [], Nat.zero_le _, by omega, by omega, rfl, fun x hx => by simp at hx, rfl, World.ownsRow_nil _ _ _ _, Below.refl _ _⟩
  case round =>
    obtain ⟨kk, ms, hk1, hk6, hg, rfl, hsm, hml, hown, BW⟩ := hrel
    by_cases hlt : kk < len ∧ kk < 6
    · obtain ⟨hl1, hl2⟩ := hlt
      obtain ⟨b, o, rfl⟩ := HP.out.ad (by omega)
      obtain ⟨x0, x1⟩ := HP.out.at_ b o rfl kk hl1
      have hlc := HP.out.le
      have c0 := (BW.out.cell (World.block_lt_of_cell? _ _ x0)).trans x0
      have c1 := (BW.out.cell (World.block_lt_of_cell? _ _ x1)).trans x1
      clear x0 x1
      generalize (z.getD kk (0, 0)).1 = z0 at *
      generalize (z.getD kk (0, 0)).2 = z1 at *
      obtain ⟨D, eD, d0, d1⟩ : ∃ D, Go.bits .and .i64 z0 63 = D ∧ 0 ≤ D ∧ D ≤ 63 := ⟨_, rfl, by rw [Row0.and_i64 z0 6 (by decide) 63 rfl]; omega, by rw [Row0.and_i64 z0 6 (by decide) 63 rfl]; omega⟩
      obtain ⟨X, eX, b0, b1⟩ : ∃ X, Go.bits .and .i64 z1 15 = X ∧ 0 ≤ X ∧ X ≤ 15 := ⟨_, rfl, by rw [Row0.and_i64 z1 4 (by decide) 15 rfl]; omega, by rw [Row0.and_i64 z1 4 (by decide) 15 rfl]; omega⟩
      have w1 : IntKind.i64.wrap (1 + D) = 1 + D := by rw [IntKind.wrap_i64]; omega
      have q1 : (0 : Int) ≤ (kk : Int) := by omega
      have q2 : (kk : Int) < (len : Int) := by omega
      have q3 : (kk : Int) < 6 := by omega
      have hsz : w.heap.size ≤ wr.heap.size := BW.out.size
      have HC3 : Hid (∀ j u, ([.int .i64 (1 + D), .int .i64 X] : List Value)[j]? = some u → (wr.alloc (.cells #[.int .i64 (1 + D), .int .i64 X] 50)).drew.cell? ((⟨wr.heap.size, 0, none⟩ : Addr).add j) = some u) := fun j u hj => cells2_new wr _ _ _ j u hj
      have hbW : b < w.heap.size := by have := World.block_lt_of_cell? _ _ (HP.out.at_ b o rfl kk hl1).1; exact this
      have yy : ∀ o', (wr.alloc o').drew.cell? ⟨b, o + kk * 2, none⟩ = some (.int .i64 z0) ∧ (wr.alloc o').drew.cell? ⟨b, o + kk * 2 + 1, none⟩ = some (.int .i64 z1) := fun o' =>
        ⟨(World.cell?_of_block (a := ⟨b, o + kk * 2, none⟩) (Below.heap_alloc wr o' b (by omega))).trans c0, (World.cell?_of_block (a := ⟨b, o + kk * 2 + 1, none⟩) (Below.heap_alloc wr o' b (by omega))).trans c1⟩
      have hob : ∀ j, u3.ownBlock = some j → w.heap.size ≤ j := fun j e => (hown.out.lt j e).1
      have hO3 : ∀ o, Hid ((wr.alloc o).drew.ownsRow w.heap.size 50 2 u3 kk (flat2 ms)) := fun o => own_belowD (hown.out.alloc o) (Below.refl _ _).drew
      have wdr : wr.drew.cell? ⟨b, o + kk * 2, none⟩ = some (.int .i64 z0) ∧ wr.drew.cell? ⟨b, o + kk * 2 + 1, none⟩ = some (.int .i64 z1) := ⟨c0, c1⟩
      obtain ⟨d0', d1'⟩ := wdr
      go_wp2_with fail
      go_region_held3 (fun w' => w'.cell? ⟨b, o + kk * 2, none⟩ = some (.int .i64 z0) ∧ w'.cell? ⟨b, o + kk * 2 + 1, none⟩ = some (.int .i64 z1))
        (first | with_reducible exact ⟨c0, c1⟩ | with_reducible exact ⟨d0', d1'⟩ | with_reducible exact yy _ | with_reducible exact ⟨y0, y1⟩ | exact ⟨c0, c1⟩)
        (first
          | (refine Row0.step_append_sl (by rfl) (.tmp 15) (.tmp 30) 27 (by rfl) w.heap.size 50 i0 (.agg #[.int .i64 0, .int .i64 0]) 2 16 Try.underlying27 hi0 hz0 hz1 hz2 rfl (by decide) _ kk _ (by rfl) (hO3 _).out (some ⟨wr.heap.size, 0, none⟩) 1 1 [.int .i64 (1 + D), .int .i64 X] (by rfl) (fun e => by cases e) rfl (fun a e => by cases e; exact HC3.out) (by simp [Value.oneCell']) (by unfold maxLen; omega) (by omega) (by simp; omega) ?_; intro v' w4 hown' hgrow; have hz9 := hgrow.block b (by simp; omega) (fun e => by have := hob b e.symm; omega); have y0 := (World.cell?_of_block (a := ⟨b, o + kk * 2, none⟩) hz9).trans (yy _).1; have y1 := (World.cell?_of_block (a := ⟨b, o + kk * 2 + 1, none⟩) hz9).trans (yy _).2))
      have hk2 := fun j (e : _ = some j) => (hown.out.lt j e).1
      have hO4 : Aside (w4.ownsRow w.heap.size 50 2 v' (kk + 1) (flat2 (ms ++ [(1 + D, X)]))) := by
        rw [flat2_snoc]; exact hown'
      have hB4 : Aside (Below w.heap.size w w4) := ((BW.out.alloc BW.out.size _).drew).grown hgrow (by simp; omega) (fun j e => hk2 j e)
      have hM4 : Aside (SmallsB (ms ++ [(1 + D, X)])) := fun x hx => by
        rcases List.mem_append.1 hx with hx | hx
        · exact hsm.out x hx
        · simp at hx
          subst hx
          exact ⟨by show 1 ≤ 1 + D; omega, by show 1 + D ≤ 64; omega, by show 0 ≤ X; omega, by show X ≤ 15; omega⟩
      clear hown' hgrow hk2 hown BW y0 y1 yy hO3 HC3 hz9 c0 c1 d0' d1'
      go_wp2
      go_roundg (min len 6 - (kk + 1))
      case measure => omega
      case rel => exact ⟨kk + 1, ms ++ [(1 + D, X)], by omega, by omega, by omega, by go_num, hM4.out, by rw [Aside, List.length_append, hml.out]; rfl, hO4.out, hB4.out⟩
    · have HI : Hid (kk = min len 6) := by rw [RowKit.Hid]; omega
      by_cases hl : kk < len
      · have hl2 : decide ((kk : Int) < 6) = false := by simp; omega
        have hl1 : decide ((kk : Int) < (len : Int)) = true := by simp; omega
        clear hlt hk6
        go_wp2
        go_ret
        refine ⟨_, ms, rfl, hsm.out, by rw [hml.out, HI.out], ?_, BW.out⟩
        rw [← HI.out]
        exact hown.out
      · have hl1 : decide ((kk : Int) < (len : Int)) = false := by simp; omega
        clear hlt
        go_wp2
        go_ret
        refine ⟨_, ms, rfl, hsm.out, by rw [hml.out, HI.out], ?_, BW.out⟩
        rw [← HI.out]
        exact hown.out
theorem per_one : Per [⟨2, 4, 5⟩] 5 := by
  refine ⟨?_, by decide, by decide, fun x hx => ⟨1, by simp at hx; subst hx; decide, by decide⟩⟩
  show lcmM (cs [5]) = _
  rw [lcmM_eq [5] (by unfold M64; decide), if_neg (by decide), if_pos (by unfold M64; decide)]
  rfl
set_option maxHeartbeats 4000000 in
theorem awakeQ_any (w : World) : Calls Try.prog 8 #[] w fun e w' => e = .returned (.bool true) ∧ Below w.heap.size w w' := by
  have hok : Oks [⟨2, 4, 5⟩] := fun x hx => by simp at hx; subst hx; unfold Dm.Ok; decide
  have hob : OksB [(10, 3)] := fun x hx => by simp at hx; subst hx; unfold OkB; decide
  have hw1 : Below w.heap.size w (w.alloc (.cells #[.int .i64 2, .int .i64 4, .int .i64 5] 32)) := (Below.refl _ w).alloc (Nat.le_refl _) _
  have hw2 : Below w.heap.size w ((w.alloc (.cells #[.int .i64 2, .int .i64 4, .int .i64 5] 32)).alloc (.cells #[.int .i64 10, .int .i64 3] 50)) := hw1.alloc hw1.size _
  have hr : ∀ w', Below (w.alloc (.cells #[.int .i64 2, .int .i64 4, .int .i64 5] 32)).heap.size (w.alloc (.cells #[.int .i64 2, .int .i64 4, .int .i64 5] 32)) w' → RdD w' (some ⟨w.heap.size, 0, none⟩) 1 [⟨2, 4, 5⟩] := fun w' hb => ⟨rfl, by decide, fun _ => ⟨_, 0, rfl, fun j hj => by
    obtain rfl : j = 0 := by omega
    exact box3 w 2 4 5 _ hb⟩⟩
  have hk : ∀ W : World, RdK (W.alloc (.cells #[.int .i64 10, .int .i64 3] 50)) (some ⟨W.heap.size, 0, none⟩) 1 [(10, 3)] := fun W => ⟨rfl, by decide, fun _ => ⟨_, 0, rfl, fun j hj => by
    obtain rfl : j = 0 := by omega
    have h : (W.alloc (.cells #[.int .i64 10, .int .i64 3] 50)).heap[W.heap.size]? = some (.cells #[.int .i64 10, .int .i64 3] 50 (0, 0)) := heap_alloc_new _ _
    generalize (W.alloc (.cells #[.int .i64 10, .int .i64 3] 50)) = V at *
    generalize W.heap.size = k at *
    simp [World.cell?, h]⟩⟩
  have hk1 := hk (w.alloc (.cells #[.int .i64 2, .int .i64 4, .int .i64 5] 32))
  rw [World.size_alloc] at hk1
  have hr2 := hr _ ((Below.refl _ _).alloc (Nat.le_refl _) (.cells #[.int .i64 10, .int .i64 3] 50))
  have hT := Lib.hid (test_any (some ⟨w.heap.size, 0, none⟩) 1 1 [⟨2, 4, 5⟩] hok 5 per_one (by decide) (some ⟨w.heap.size + 1, 0, none⟩) 1 1 [(10, 3)] hob ((w.alloc (.cells #[.int .i64 2, .int .i64 4, .int .i64 5] 32)).alloc (.cells #[.int .i64 10, .int .i64 3] 50)) hr2 hk1)
  rw [show testI [⟨2, 4, 5⟩] [(10, 3)] 5 = 17 by decide +kernel] at hT
  have hA := fun W : World => Lib.hid (at_any (some ⟨W.heap.size, 0, none⟩) 1 1 [(10, 3)] 4 (W.alloc (.cells #[.int .i64 10, .int .i64 3] 50)) (hk W))
  simp only [show heldAt [(10, 3)] 4 = 3 by decide] at hA
  have HW2 := Lib.hid hw2
  clear hr hk hk1 hr2 hw1 hw2
  go_enter Try.func8, Try.ntmps8
  go_wp2_with fail
  refine hT.out.mono ?_
  rintro e w1 ⟨rfl, hb⟩
  have HB1 : Hid (Below w.heap.size w w1) := HW2.out.trans (hb.mono HW2.out.size)
  clear hb hT
  go_wp2_with fail
  refine (hA w1).out.mono ?_
  rintro e w2 ⟨rfl, hb⟩
  have HB2 : Hid (Below w.heap.size w w2) := (HB1.out.alloc HB1.out.size _).trans (hb.mono (by have := HB1.out.size; simp; omega))
  clear hb hA
  go_wp2
  go_ret
  exact ⟨rfl, HB2.out⟩
end Go.Proofs.Ytajkckjpfbkpmaa.Dem
