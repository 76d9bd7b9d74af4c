/-
  Demands by numbers: what 'made' makes; the chapter's example.
-/
import Derived.Test.YtcgfaddegglnkaaDem3
import Derived.Test.YtcgfaddegglnkaaArr3
namespace Go.Proofs.Ytcgfaddegglnkaa.Dem
open Go.RowKit Go.Shelf Go.Proofs.Ytcgfaddegglnkaa.Ari

def IsT (T : Int) : Prop := T = 4 ∨ T = 5 ∨ T = 6 ∨ T = 8 ∨ T = 10 ∨ T = 12 ∨ T = 20 ∨ T = 24
/-- A demand by numbers. -/
def Dm.Small (x : Dm) : Prop := 0 ≤ x.c ∧ x.c ≤ x.d ∧ 1 ≤ x.d ∧ x.d ≤ x.t ∧ IsT x.t
def Smalls (l : List Dm) : Prop := ∀ x ∈ l, x.Small
theorem Dm.Small.ok {x : Dm} (h : x.Small) : x.Ok := by
  obtain ⟨a, b, c, d, e⟩ := h
  unfold IsT at e
  exact ⟨a, by omega, c, d, by omega⟩
theorem Smalls.oks {l : List Dm} (h : Smalls l) : Oks l := fun x hx => (h x hx).ok
def flat3 (q : List Dm) : List Value := q.flatMap fun p => [.int .i64 p.c, .int .i64 p.d, .int .i64 p.t]
theorem flat3_snoc (q : List Dm) (p : Dm) : flat3 (q ++ [p]) = flat3 q ++ [.int .i64 p.c, .int .i64 p.d, .int .i64 p.t] := by simp [flat3]
theorem flat3_append (q r : List Dm) : flat3 (q ++ r) = flat3 q ++ flat3 r := by simp [flat3]
theorem flat3_length (q : List Dm) : (flat3 q).length = q.length * 3 := by
  induction q with
  | nil => rfl
  | cons p q ih => simp [flat3] at ih ⊢; omega
theorem flat3_get (q : List Dm) : ∀ j, j < q.length → (flat3 q)[j * 3]? = some (.int .i64 (q.getD j default).c) ∧ (flat3 q)[j * 3 + 1]? = some (.int .i64 (q.getD j default).d) ∧ (flat3 q)[j * 3 + 2]? = some (.int .i64 (q.getD j default).t) := by
  induction q with
  | nil => intro j hj; simp at hj
  | cons p q ih =>
    intro j hj
    cases j with
    | zero => simp [flat3]
    | succ j =>
      have := ih j (by simpa using hj)
      have e : flat3 (p :: q) = .int .i64 p.c :: .int .i64 p.d :: .int .i64 p.t :: flat3 q := by simp [flat3]
      rw [e, show (j + 1) * 3 = j * 3 + 1 + 1 + 1 by omega]
      simpa using this
theorem flat3_one (q : List Dm) : ∀ u ∈ flat3 q, u.oneCell' = true := by
  intro u hu
  obtain ⟨p, _, h⟩ := List.mem_flatMap.1 hu
  simp at h
  rcases h with rfl | rfl | rfl <;> rfl
theorem own_rdD {w : World} {base n : Nat} {v : Value} {q : List Dm} {t : TypeId} (h : w.ownsRow base t 3 v n (flat3 q)) (hn : n ≤ 64) :
    ∃ A c, v = .slice A n c ∧ RdD w A n q ∧ n ≤ c ∧ c ≤ 9223372036854775807 ∧ (∀ a, A = some a → base ≤ a.block) ∧ (A = none → n = 0 ∧ c = 0) := by
  have hl : q.length = n := by have := h.1; rw [flat3_length] at this; omega
  rcases h.2 with ⟨rfl, rfl⟩ | ⟨g, cap, cur, rfl, hb, hh, hnc, hm, _⟩
  · exact ⟨none, 0, rfl, ⟨hl, by decide, fun h => absurd h (by decide)⟩, Nat.le_refl _, by decide, (fun a e => by cases e), fun _ => ⟨rfl, rfl⟩⟩
  · refine ⟨_, cap, rfl, ⟨hl, hn, fun _ => ⟨g, 0, rfl, fun j hj => ?_⟩⟩, hnc, by unfold maxLen at hm; omega, (fun a e => by cases e; exact hb), fun e => by cases e⟩
    obtain ⟨h1, h2, h3⟩ := flat3_get q j (by omega)
    have c1 := h.cellAt (j * 3) (by omega)
    have c2 := h.cellAt (j * 3 + 1) (by omega)
    have c3 := h.cellAt (j * 3 + 2) (by omega)
    rw [h1] at c1
    rw [h2] at c2
    rw [h3] at c3
    rw [Nat.zero_add]
    exact ⟨c1, c2, c3⟩

theorem infoD : (Try.prog.info? 27).map (fun i => (i.zero, i.size, i.bytes)) = some (some (.agg #[.int .i64 0, .int .i64 0, .int .i64 0]), 3, 24) := by kernel_rfl
def pers : Array Value := #[.int .i64 4, .int .i64 5, .int .i64 6, .int .i64 8, .int .i64 10, .int .i64 12, .int .i64 20, .int .i64 24]
theorem pers_at {w : World} {b : Nat} {t : TypeId} (h : w.heap[b]? = some (.cells pers t (0, 0))) (k : Nat) (hk : k < 8) : ∃ T, IsT T ∧ w.cell? ⟨b, k, none⟩ = some (.int .i64 T) := by
  match k, hk with
  | 0, _ => exact ⟨4, by unfold IsT; omega, by simp [World.cell?, h, pers]⟩
  | 1, _ => exact ⟨5, by unfold IsT; omega, by simp [World.cell?, h, pers]⟩
  | 2, _ => exact ⟨6, by unfold IsT; omega, by simp [World.cell?, h, pers]⟩
  | 3, _ => exact ⟨8, by unfold IsT; omega, by simp [World.cell?, h, pers]⟩
  | 4, _ => exact ⟨10, by unfold IsT; omega, by simp [World.cell?, h, pers]⟩
  | 5, _ => exact ⟨12, by unfold IsT; omega, by simp [World.cell?, h, pers]⟩
  | 6, _ => exact ⟨20, by unfold IsT; omega, by simp [World.cell?, h, pers]⟩
  | 7, _ => exact ⟨24, by unfold IsT; omega, by simp [World.cell?, h, pers]⟩
/-- The rest of a sum, as the code reckons it. -/
theorem rest_bd (z m : Int) (hm : 1 ≤ m) : ∃ R, z.tmod m = R ∧ -m < R ∧ R < m :=
  ⟨_, rfl, Int.lt_tmod_of_pos z (by omega), Int.tmod_lt_of_pos z (by omega)⟩
theorem rest_pos (z m : Int) (hm : 1 ≤ m) (hz : 0 ≤ z) : ∃ R, z.tmod m = R ∧ 0 ≤ R ∧ R < m :=
  ⟨_, rfl, Int.tmod_nonneg _ hz, Int.tmod_lt_of_pos z (by omega)⟩

theorem own_base {w : World} {B B' : Nat} {e : TypeId} {k : Nat} {v : Value} {n : Nat} {xs : List Value} (h : w.ownsRow B e k v n xs) (hB : B' ≤ B) : w.ownsRow B' e k v n xs := by
  refine ⟨h.1, ?_⟩
  rcases h.2 with h | ⟨g, cap, cur, rfl, hb, hr⟩
  · exact .inl h
  · exact .inr ⟨g, cap, cur, rfl, Nat.le_trans hB hb, hr⟩
set_option maxHeartbeats 4000000 in
set_option maxRecDepth 100000 in
theorem made_any (a : Option Addr) (len cap : Nat) (q : List (Int × Int × Int)) (w : World) (h : Row0.IsTrips .i64 w a len cap q) :
    Calls Try.prog 10 #[.slice a len cap] w fun e w' => ∃ v l, e = .returned v ∧ Smalls l ∧ l.length = min len 6 ∧ w'.ownsRow w.heap.size 27 3 v (min len 6) (flat3 l) ∧ Below w.heap.size w w' := by
  obtain ⟨i0, hi0, hz0, hz1, hz2⟩ := info_parts infoD
  have HP := Lib.hid h
  clear h
  go_enter Try.func10, Try.ntmps10
  go_wp2_with fail
  have hb0 : (w.alloc (.cells pers 45)).heap[w.heap.size]? = some (.cells pers 45 (0, 0)) := heap_alloc_new _ _
  have hB0 : Hid (Below w.heap.size w (w.alloc (.cells pers 45))) := (Below.refl _ w).alloc (Nat.le_refl _) _
  go_loopg [4, 5] (min len 6) (fun gg pv iv wr => ∃ (kk : Nat) (ms : List Dm), kk ≤ len ∧ kk ≤ 6 ∧ min len 6 - kk ≤ gg ∧ iv = .int .i64 (kk : Int) ∧ Aside (Smalls ms) ∧ Aside (ms.length = kk) ∧ Aside (wr.ownsRow (w.heap.size + 1) 27 3 pv kk (flat3 ms)) ∧ Aside (w.heap.size + 1 ≤ wr.heap.size) ∧ Aside (wr.heap[w.heap.size]? = some (.cells pers 45 (0, 0))) ∧ Aside (Below w.heap.size w wr))
  case atStart => exact ⟨0, [], Nat.zero_le _, by omega, by omega, rfl, fun x hx => by simp at hx, rfl, World.ownsRow_nil _ _ _ _, by show _ ≤ _; simp, hb0, hB0.out⟩
  case round =>
    obtain ⟨kk, ms, hk1, hk6, hg, rfl, hsm, hml, hown, hsz, hper, BW⟩ := hrel
    clear hb0 hB0
    by_cases hlt : kk < len ∧ kk < 6
    · obtain ⟨hl1, hl2⟩ := hlt
      obtain ⟨b, o, rfl⟩ := HP.out.ad (by omega)
      obtain ⟨x0, x1, x2⟩ := HP.out.at_ b o rfl kk hl1
      have hlc := HP.out.le
      have hbb := World.block_lt_of_cell? _ _ x0
      have c0 := (BW.out.cell hbb).trans x0
      have c1 := (BW.out.cell (World.block_lt_of_cell? _ _ x1)).trans x1
      have c2 := (BW.out.cell (World.block_lt_of_cell? _ _ x2)).trans x2
      clear x0 x1 x2
      generalize (q.getD kk (0, 0, 0)).1 = z0 at *
      generalize (q.getD kk (0, 0, 0)).2.1 = z1 at *
      generalize (q.getD kk (0, 0, 0)).2.2 = z2 at *
      obtain ⟨k, hk8, ek⟩ : ∃ k : Nat, k < 8 ∧ Go.bits .and .i64 z2 7 = (k : Int) := by
        have := Row0.and_i64 z2 3 (by decide) 7 rfl
        exact ⟨(z2 % 8).toNat, by omega, by rw [this]; omega⟩
      obtain ⟨T, hT, hcT⟩ := pers_at hper.out k hk8
      have HT := Lib.hid hT
      have t0 : 4 ≤ T ∧ T ≤ 24 := by unfold IsT at hT; omega
      obtain ⟨tl, tu⟩ := t0
      obtain ⟨R, eR, r0, r1⟩ := rest_bd z1 T (by omega)
      have w1 : IntKind.i64.wrap (R + T) = R + T := by rw [IntKind.wrap_i64]; omega
      obtain ⟨D, eD, d0, d1⟩ := rest_pos (R + T) T (by omega) (by omega)
      have w2 : IntKind.i64.wrap (1 + D) = 1 + D := by rw [IntKind.wrap_i64]; omega
      have w3 : IntKind.i64.wrap (1 + D + 1) = 1 + D + 1 := by rw [IntKind.wrap_i64]; omega
      obtain ⟨U, eU, u0, u1⟩ := rest_bd z0 (1 + D + 1) (by omega)
      have w4 : IntKind.i64.wrap (U + (1 + D)) = U + (1 + D) := by rw [IntKind.wrap_i64]; omega
      have w5 : IntKind.i64.wrap (U + (1 + D) + 1) = U + (1 + D) + 1 := by rw [IntKind.wrap_i64]; omega
      obtain ⟨C, eC, v0, v1⟩ := rest_pos (U + (1 + D) + 1) (1 + D + 1) (by omega) (by omega)
      have n1 : (T == 0) = false := by simp; omega
      have n2 : (1 + D + 1 == 0) = false := by simp; omega
      have q1 : (0 : Int) ≤ (kk : Int) := by omega
      have q2 : (kk : Int) < (len : Int) := by omega
      have q3 : (kk : Int) < 6 := by omega
      have q4 : (k : Int) < 8 := by omega
      clear hT
      go_wp2_with (at_builtin; refine wpList_append_own _ rfl _ _ 24 rfl (w.heap.size + 1) 27 i0 (.agg #[.int .i64 0, .int .i64 0, .int .i64 0]) 3 24 Try.underlying24 hi0 hz0 hz1 hz2 rfl (by decide) _ _ _ rfl (hown.out.alloc _) ⟨wr.heap.size, 0, none⟩ 1 1 [.int .i64 C, .int .i64 (1 + D), .int .i64 T] rfl rfl ?c1 ?c2 ?c3 ?c4 ?c5 ?_)
      case c2 => simp [Value.oneCell']
      case c3 => unfold maxLen; omega
      case c4 => omega
      case c5 => have := hsz.out; simp; omega
      intro v' w4 hown' hgrow _
      have hk2 := fun j (e : _ = some j) => (hown.out.lt j e).1
      have hO4 : Aside (w4.ownsRow (w.heap.size + 1) 27 3 v' (kk + 1) (flat3 (ms ++ [⟨C, 1 + D, T⟩]))) := by
        rw [flat3_snoc]; exact hown'
      have hB4 : Aside (Below w.heap.size w w4) := (BW.out.alloc BW.out.size _).grown hgrow (by have := BW.out.size; simp; omega) (fun j e => by have := hk2 j e; omega)
      have hP4 : Aside (w4.heap[w.heap.size]? = some (.cells pers 45 (0, 0))) :=
        (hgrow.block _ (by have := hsz.out; simp; omega) (fun e => by have := hk2 _ e.symm; omega)).trans ((Below.heap_alloc _ _ _ (by have := hsz.out; omega)).trans hper.out)
      have hS4 : Aside (w.heap.size + 1 ≤ w4.heap.size) := by have := hsz.out; have h2 := hgrow.size; simp at h2; show _ ≤ _; omega
      have hM4 : Aside (Smalls (ms ++ [⟨C, 1 + D, T⟩])) := fun x hx => by
        rcases List.mem_append.1 hx with hx | hx
        · exact hsm.out x hx
        · simp at hx
          subst hx
          exact ⟨by show 0 ≤ C; omega, by show C ≤ 1 + D; omega, by show 1 ≤ 1 + D; omega, by show 1 + D ≤ T; omega, HT.out⟩
      clear hown' hgrow hk2 hown hper BW
      go_wp2
      go_roundg (min len 6 - (kk + 1))
      case measure => omega
      case rel => exact ⟨kk + 1, ms ++ [Dm.mk C (1 + D) T], by omega, by omega, by omega, by go_num, hM4.out, by rw [Aside, List.length_append, hml.out]; rfl, hO4.out, hS4.out, hP4.out, hB4.out⟩
    · have HI : Hid (kk = min len 6) := by rw [RowKit.Hid]; omega
      by_cases hl : kk < len
      · have hl2 : decide ((kk : Int) < 6) = false := by simp; omega
        have hl1 : decide ((kk : Int) < (len : Int)) = true := by simp; omega
        clear hlt hk6
        go_wp2
        go_ret
        refine ⟨_, ms, rfl, hsm.out, by rw [hml.out, HI.out], ?_, BW.out⟩
        rw [← HI.out]
        exact own_base hown.out (Nat.le_succ _)
      · have hl1 : decide ((kk : Int) < (len : Int)) = false := by simp; omega
        clear hlt
        go_wp2
        go_ret
        refine ⟨_, ms, rfl, hsm.out, by rw [hml.out, HI.out], ?_, BW.out⟩
        rw [← HI.out]
        exact own_base hown.out (Nat.le_succ _)
theorem awakeD_any (w : World) : Calls Try.prog 9 #[] w fun e w' => e = .returned (.bool true) ∧ Below w.heap.size w w' := by
  have hok : Oks [⟨2, 4, 5⟩] := fun x hx => by simp at hx; subst hx; unfold Dm.Ok; decide
  have hr : RdD (w.alloc (.cells #[.int .i64 2, .int .i64 4, .int .i64 5] 27)) (some ⟨w.heap.size, 0, none⟩) 1 [⟨2, 4, 5⟩] := ⟨rfl, by decide, fun _ => ⟨_, 0, rfl, fun j hj => by
    obtain rfl : j = 0 := by omega
    exact box3 w 2 4 5 _ (Below.refl _ _)⟩⟩
  have hO := Lib.hid (of_any (some ⟨w.heap.size, 0, none⟩) 1 1 [⟨2, 4, 5⟩] hok 10 (by decide) (by decide) _ hr)
  rw [show work [⟨2, 4, 5⟩] 10 = 4 by decide] at hO
  clear hr
  go_enter Try.func9, Try.ntmps9
  go_wp2_with fail
  refine hO.out.mono ?_
  rintro e w' ⟨rfl, hb⟩
  have HB : Hid (Below w.heap.size w w') := ((Below.refl _ w).alloc (Nat.le_refl _) _).trans (hb.mono (by simp))
  clear hb
  go_wp2
  go_ret
  exact ⟨rfl, HB.out⟩
end Go.Proofs.Ytcgfaddegglnkaa.Dem
