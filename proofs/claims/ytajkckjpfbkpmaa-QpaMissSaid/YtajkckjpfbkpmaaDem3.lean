/-
  Package demand: Next, Last.
-/
import Derived.Test.YtajkckjpfbkpmaaDem2
namespace Go.Proofs.Ytajkckjpfbkpmaa.Dem
open Go.RowKit Go.Shelf Go.Proofs.Ytajkckjpfbkpmaa.Ari

def nexts (l : List Dm) (s : Int) : List Int := l.map (dl · s)
theorem nexts_take (l : List Dm) (s : Int) (i : Nat) (h : i < l.length) : (nexts l s).take (i + 1) = (nexts l s).take i ++ [dl (l.getD i default) s] := by
  have e : l.getD i default = l[i] := by rw [List.getD_eq_getElem?_getD, List.getElem?_eq_getElem h]; rfl
  rw [e, List.take_add_one]
  simp [nexts, List.getElem?_eq_getElem h]
theorem own_rd {w : World} {base n : Nat} {v : Value} {l : List Int} {t : TypeId} (h : w.ownsRow base t 1 v n (l.map (Value.int .i64))) (hn : n ≤ 9223372036854775807) :
    ∃ A c, v = .slice A n c ∧ Rd w .i64 A n l := by
  have hl : l.length = n := by have := h.1; simpa using this
  rcases h.2 with ⟨rfl, rfl⟩ | ⟨g, cap, cur, rfl, hb, hh, hnc, hcm, hcs, htk⟩
  · exact ⟨none, 0, rfl, hl, hn, fun h => absurd h (by decide)⟩
  · refine ⟨_, _, rfl, hl, hn, fun _ => ⟨_, rfl, fun j hj => ?_⟩⟩
    rw [Row0.plain_add', Nat.zero_add, h.cellAt j (by omega)]
    simp [List.getElem?_map, List.getD_eq_getElem?_getD, List.getElem?_eq_getElem (show j < l.length by omega)]

theorem least_any (A : Option Addr) (n c : Nat) (l : List Int) (w : World) (hr : Rd w .i64 A n l) :
    Calls Try.prog 45 #[.slice A n c] w fun e w' => e = .returned (.tuple #[.int .i64 (mins l), .bool (decide (0 < n))]) ∧ Dn w w' := by
  by_cases h : n = 0
  · subst h
    obtain rfl : l = [] := List.eq_nil_of_length_eq_zero hr.1
    clear hr
    go_enter Try.func45, Try.ntmps45
    go_wp2
    go_ret2
    exact ⟨rfl, Dn.refl _⟩
  · have hm := Lib.hid (min_any A n c l w hr (by omega))
    rw [show decide (0 < n) = true by simp; omega]
    have e1 : ((n : Int) == 0) = false := by simp; omega
    clear hr h
    go_enter Try.func45, Try.ntmps45
    go_wp2_with fail
    refine hm.out.mono ?_
    rintro e w' ⟨rfl, nd, rfl⟩
    go_wp2
    go_ret2
    exact ⟨rfl, nd, rfl⟩

set_option maxHeartbeats 4000000 in
set_option maxRecDepth 100000 in
theorem next_any (A : Option Addr) (n c : Nat) (l : List Dm) (ho : Oks l) (s : Int) (h0 : 0 ≤ s) (h1 : s ≤ 2097152) (w : World) (hr : RdD w A n l) :
    Calls Try.prog 34 #[.slice A n c, .int .i64 s] w fun e w' => e = .returned (.tuple #[.int .i64 (nextI l s), .bool (decide (0 < n))]) ∧ Below w.heap.size w w' := by
  obtain ⟨i0, hi0, hz0, hz1, hz2⟩ := info_parts infoJ
  have hln := hr.1
  have hn := hr.2.1
  have HR := Lib.hid hr
  have HO := Lib.hid ho
  have hnx : Hid (mins (nexts l s) = nextI l s) := rfl
  clear hr ho
  have em : Hid (∀ w : World, Rd (w.alloc (.cells #[.int .i64 s] 2)) .i64 (some ⟨w.heap.size, 0, none⟩) 1 [s]) := fun w => rd_new w .i64 _ [s] _ 1 (by simp) rfl (by decide)
  go_enter Try.func34, Try.ntmps34
  go_wp2_with fail
  refine (may_any A n c l HO.out _ 1 1 [s] _ (HR.out.below ((Below.refl _ w).alloc (Nat.le_refl _) _) (Nat.le_refl _)) (em.out w) (by decide) (by simpa [mins] using h0) (by simp [maxs]; omega)).mono ?_
  rintro e w1 ⟨rfl, hb⟩
  have HB1 : Hid (Below w.heap.size w w1) := ((Below.refl _ w).alloc (Nat.le_refl _) _).trans (hb.mono (by simp))
  clear hb em
  go_wp2_with fail
  go_loopg [6, 16] n (fun gg pv iv wr => ∃ kk : Nat, kk ≤ n ∧ n - kk ≤ gg ∧ iv = .int .i64 (kk : Int) ∧ Aside (wr.ownsRow w.heap.size 2 1 pv kk (((nexts l s).take kk).map (Value.int .i64))) ∧ Aside (Below w.heap.size w wr))
  case atStart => exact ⟨0, Nat.zero_le _, by omega, rfl, World.ownsRow_nil _ _ _ _, HB1.out⟩
  case round =>
    obtain ⟨kk, hkk, hg, rfl, hown, BW⟩ := hrel
    clear HB1
    by_cases hlt : kk < n
    · have hltz : (kk : Int) < (n : Int) := by omega
      obtain ⟨b, o, rfl, hc⟩ := (HR.out.below BW.out (Nat.le_refl _)).2.2 (by omega)
      obtain ⟨c0, c1, c2⟩ := hc kk hlt
      clear hc
      have hx := getD_ok HO.out (i := kk) (by omega)
      have ht := Lib.hid (nexts_take l s kk (by omega))
      generalize l.getD kk default = x at *
      have jb := jobs_nonneg hx s
      have jl := jobs_le hx h0
      have d1 := dl_pos hx s
      have d2 := dl_le hx h0
      obtain ⟨a0, a1, a2, a3, a4, a5, a6⟩ := ok_bd hx
      have hJ := fun w => Lib.hid (jobs_any x hx s (by omega) (by omega) w)
      unfold dl at ht d1 d2
      generalize jobs x s = J at *
      unfold demV at hJ
      generalize x.c = c at *
      generalize x.d = d at *
      generalize x.t = t at *
      have mb : 0 ≤ J * t := Int.mul_nonneg jb (by omega)
      have e1 : IntKind.i64.wrap (J * t) = J * t := by rw [IntKind.wrap_i64]; generalize J * t = M at *; omega
      have e2 : IntKind.i64.wrap (d + J * t) = d + J * t := by rw [IntKind.wrap_i64]; generalize J * t = M at *; omega
      have hsz : w.heap.size ≤ wr.heap.size := BW.out.size
      go_wp2_with fail
      clear c0 c1 c2
      have hbx := Lib.hid (box3 wr c d t)
      have hB2 : Hid (Below w.heap.size w (wr.alloc (.cells #[.int .i64 c, .int .i64 d, .int .i64 t] 32))) := BW.out.alloc BW.out.size _
      have hO2 : Hid ((wr.alloc (.cells #[.int .i64 c, .int .i64 d, .int .i64 t] 32)).ownsRow w.heap.size 2 1 u6 kk (((nexts l s).take kk).map (Value.int .i64))) := hown.out.alloc _
      have hob : ∀ j, u6.ownBlock = some j → j < wr.heap.size := fun j e => (hown.out.lt j e).2
      clear BW hown
      generalize hW2 : wr.alloc (.cells #[.int .i64 c, .int .i64 d, .int .i64 t] 32) = W2 at *
      have hsz2 : wr.heap.size ≤ W2.heap.size := by rw [← hW2]; simp
      clear hW2
      generalize wr.heap.size = b at *
      obtain ⟨x0, x1, x2⟩ := hbx.out W2 (Below.refl _ _)
      go_region_held3 (fun w' => w'.cell? ⟨b, 0, none⟩ = some (.int .i64 c) ∧ w'.cell? ⟨b, 1, none⟩ = some (.int .i64 d) ∧ w'.cell? ⟨b, 2, none⟩ = some (.int .i64 t))
        (first | with_reducible exact ⟨x0, x1, x2⟩ | with_reducible exact ⟨y0, y1, y2⟩ | with_reducible exact yy _ | with_reducible exact ⟨z0, z1, z2⟩ | exact ⟨x0, x1, x2⟩)
        (first
          | (go_at_call 44; refine (hJ _).out.mono ?_; rintro e W3 ⟨rfl, hb3⟩; obtain ⟨y0, y1, y2⟩ := hbx.out W3 ((Below.refl _ _).drew.trans hb3); have yy := fun o => hbx.out (W3.alloc o) (((Below.refl _ _).drew.trans hb3).alloc hb3.size o))
          | (refine Row0.step_append_sl (by rfl) (.tmp 20) (.tmp 30) 83 (by rfl) w.heap.size 2 i0 (.int .i64 0) 1 8 Try.underlying83 hi0 hz0 hz1 hz2 rfl (by decide) _ kk _ (by rfl) ((own_belowD hO2.out ((Below.refl _ W2).drew.trans hb3)).alloc _) (some ⟨W3.heap.size, 0, none⟩) 1 1 [.int .i64 (d + J * t)] (by rfl) (fun e => by cases e) rfl (fun a e => by cases e; exact cell_one_new _ _ _) (by simp [Value.oneCell']) (by unfold maxLen; omega) (by omega) (by have := hb3.size; simp at this; simp; omega) ?_; intro v' w4 hown' hgrow; have hz9 := hgrow.block b (by have := hb3.size; simp at this; simp; omega) (fun e => by have := hob b e.symm; omega); obtain ⟨q0, q1, q2⟩ := yy (.cells #[.int .i64 (d + J * t)] 2); have z0 := (World.cell?_of_block (a := ⟨b, 0, none⟩) hz9).trans q0; have z1 := (World.cell?_of_block (a := ⟨b, 1, none⟩) hz9).trans q1; have z2 := (World.cell?_of_block (a := ⟨b, 2, none⟩) hz9).trans q2))
      have hs3 : W2.heap.size ≤ W3.heap.size := hb3.size
      have hO4 : Aside (w4.ownsRow w.heap.size 2 1 v' (kk + 1) (((nexts l s).take (kk + 1)).map (Value.int .i64))) := by
        rw [ht.out, List.map_append]; exact hown'
      have HB3 : Hid (Below w.heap.size w W3) := (hB2.out.drew).trans (hb3.mono hB2.out.size)
      have hB4 : Aside (Below w.heap.size w w4) := (HB3.out.alloc HB3.out.size _).grown hgrow (by have := HB3.out.size; simp; omega) (fun j e => (hO2.out.lt j e).1)
      clear hown' hgrow hb3 y0 y1 y2 x0 x1 x2 hO2 hB2 hbx hJ yy z0 z1 z2 q0 q1 q2 hz9 e1 e2
      go_wp2
      go_roundg (n - (kk + 1))
      case measure => omega
      case rel => exact ⟨kk + 1, by omega, by omega, by go_num, hO4.out, hB4.out⟩
    · have hltz : ¬ (kk : Int) < (n : Int) := by omega
      obtain rfl : kk = n := by omega
      have hq : (nexts l s).take kk = nexts l s := List.take_of_length_le (by simp [nexts]; omega)
      have hown2 := hown.out
      rw [hq] at hown2
      obtain ⟨A1, c1, rfl, hr1⟩ := own_rd hown2 (by omega)
      have HS := Lib.hid (least_any A1 kk c1 (nexts l s) _ hr1)
      rw [hnx.out] at HS
      clear hq hown hown2 hr1
      go_wp2_with fail
      refine HS.out.mono ?_
      rintro e w' ⟨rfl, nd, rfl⟩
      go_wp2
      go_ret2
      exact ⟨rfl, below_dn BW.out nd⟩

theorem last_take (l : List Dm) (s : Int) (i : Nat) (h : i < l.length) : (l.take (i + 1)).foldl (stepL s) 0 = stepL s ((l.take i).foldl (stepL s) 0) (l.getD i default) := by
  have e : l.getD i default = l[i] := by rw [List.getD_eq_getElem?_getD, List.getElem?_eq_getElem h]; rfl
  rw [e, List.take_add_one, List.getElem?_eq_getElem h, List.foldl_append]
  rfl
end Go.Proofs.Ytajkckjpfbkpmaa.Dem
