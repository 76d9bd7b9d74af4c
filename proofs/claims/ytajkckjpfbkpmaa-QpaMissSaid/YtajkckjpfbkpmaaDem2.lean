/-
  Package demand: Of.
-/
import Derived.Test.YtajkckjpfbkpmaaDem1
import Derived.Test.YtajkckjpfbkpmaaAri11
import Derived.Maps.AppendAt
import Derived.Deep.AppendLies
import Derived.Deep.RegionHeld3
namespace Go.Proofs.Ytajkckjpfbkpmaa.Dem
open Go.RowKit Go.Shelf Go.Proofs.Ytajkckjpfbkpmaa.Ari

theorem own_belowD {B : Nat} {e : TypeId} {k : Nat} {v : Value} {n : Nat} {xs : List Value} {w w' : World} (h : w.ownsRow B e k v n xs) (hb : Below w.heap.size w w') : w'.ownsRow B e k v n xs :=
  h.kept (row := none) ⟨hb.os, hb.tape, hb.output, hb.size, fun j hj _ => hb.block j hj⟩ (by cases v.ownBlock <;> simp)
theorem box3 (w : World) (c d t : Int) : ∀ w', Below (w.alloc (.cells #[.int .i64 c, .int .i64 d, .int .i64 t] 32)).heap.size (w.alloc (.cells #[.int .i64 c, .int .i64 d, .int .i64 t] 32)) w' →
    w'.cell? ⟨w.heap.size, 0, none⟩ = some (.int .i64 c) ∧ w'.cell? ⟨w.heap.size, 1, none⟩ = some (.int .i64 d) ∧ w'.cell? ⟨w.heap.size, 2, none⟩ = some (.int .i64 t) := by
  intro w' hb
  have h : w'.heap[w.heap.size]? = some (.cells #[.int .i64 c, .int .i64 d, .int .i64 t] 32 (0, 0)) := (hb.block _ (by simp)).trans (heap_alloc_new _ _)
  simp [World.cell?, h]

set_option maxHeartbeats 1000000 in
theorem may_any (A : Option Addr) (n c : Nat) (l : List Dm) (ho : Oks l) (B : Option Addr) (m c2 : Nat) (ts : List Int) (w : World) (hr : RdD w A n l) (ht : Rd w .i64 B m ts) (hm : 0 < m) (h0 : 0 ≤ mins ts) (h1 : maxs ts ≤ 2199023255552) :
    Calls Try.prog 43 #[.slice A n c, .slice B m c2] w fun e w' => e = .returned (.bool true) ∧ Below w.heap.size w w' := by
  have HC := Lib.hid (check_any A n c l ho w hr)
  have HM := fun w' h => Lib.hid (min_any B m c2 ts w' h hm)
  have HX := fun w' h => Lib.hid (max_any B m c2 ts w' h hm)
  have HT := Lib.hid ht
  generalize mins ts = x at *
  generalize maxs ts = y at *
  clear ho hr ht
  go_enter Try.func43, Try.ntmps43
  go_wp2_with fail
  refine HC.out.mono ?_
  rintro e w1 ⟨rfl, hb⟩
  have HB := Lib.hid hb
  have h2 := HT.out.below hb
  have H2 := Lib.hid h2
  clear hb h2
  go_wp2_with fail
  refine (HM _ H2.out).out.mono ?_
  rintro e w2 ⟨rfl, k1, rfl⟩
  go_wp2_with fail
  refine (HX _ (H2.out.drewN k1)).out.mono ?_
  rintro e w2 ⟨rfl, k2, rfl⟩
  go_wp2
  go_ret
  exact ⟨rfl, below_dn HB.out (k1 + k2)⟩

/-- The parts of the work that is due. -/
def terms (l : List Dm) (s : Int) : List Int := l.map fun x => x.c * jobs x s
theorem terms_take (l : List Dm) (s : Int) (i : Nat) (h : i < l.length) : (terms l s).take (i + 1) = (terms l s).take i ++ [(l.getD i default).c * jobs (l.getD i default) s] := by
  have e : l.getD i default = l[i] := by rw [List.getD_eq_getElem?_getD, List.getElem?_eq_getElem h]; rfl
  rw [e, List.take_add_one]
  simp [terms, List.getElem?_eq_getElem h]
theorem cs_sum (ns : List Nat) : (cs ns).sum = ((ns.sum : Nat) : Int) := by
  induction ns with
  | nil => rfl
  | cons n r ih =>
    have e : cs (n :: r) = (n : Int) :: cs r := rfl
    rw [e, List.sum_cons, List.sum_cons, ih]
    push_cast
    rfl
theorem sumM_le (l : List Int) (h : Nums l) (hs : l.sum < 18446744073709551616) : sumM l = (l.sum, true) := by
  obtain ⟨ns, rfl, h1, _⟩ := cs_of l h
  rw [cs_sum] at hs ⊢
  rw [sumM_eq _ h1, if_pos (by unfold M64; omega)]
theorem terms_nums (l : List Dm) (ho : Oks l) {s : Int} (h0 : 0 ≤ s) (h1 : s ≤ 4194304) : Nums (terms l s) := by
  intro j hj
  have hj' : j < l.length := by simpa [terms] using hj
  have e : (terms l s).getD j 0 = (l.getD j default).c * jobs (l.getD j default) s := by
    simp [terms, List.getD_eq_getElem?_getD, List.getElem?_eq_getElem hj']
  rw [e]
  have := term_bd (getD_ok ho hj') h0 h1
  omega

theorem infoU : (Try.prog.info? 62).map (fun i => (i.zero, i.size, i.bytes)) = some (some (.int .u64 0), 1, 8) := by kernel_rfl
theorem infoJ : (Try.prog.info? 2).map (fun i => (i.zero, i.size, i.bytes)) = some (some (.int .i64 0), 1, 8) := by kernel_rfl

set_option maxHeartbeats 4000000 in
set_option maxRecDepth 100000 in
theorem of_any (A : Option Addr) (n c : Nat) (l : List Dm) (ho : Oks l) (s : Int) (h0 : 0 ≤ s) (h1 : s ≤ 4194304) (w : World) (hr : RdD w A n l) :
    Calls Try.prog 35 #[.slice A n c, .int .i64 s] w fun e w' => e = .returned (.tuple #[.int .i64 (work l s), .bool true]) ∧ Below w.heap.size w w' := by
  obtain ⟨i0, hi0, hz0, hz1, hz2⟩ := info_parts infoU
  have hln := hr.1
  have hn := hr.2.1
  have HR := Lib.hid hr
  have HO := Lib.hid ho
  have hsum : Hid (sumM (terms l s) = (work l s, true)) := sumM_le _ (terms_nums l ho h0 h1) (by have := work_bd l ho h0 h1; unfold work at this; unfold terms; omega)
  have hwb := work_bd l ho h0 h1
  obtain ⟨wk, hwk⟩ : ∃ wk, work l s = wk := ⟨_, rfl⟩
  rw [hwk] at hsum hwb ⊢
  clear hwk
  have hw0 := hwb.1
  have hw1 : wk ≤ 281474976710656 := by have := hwb.2; omega
  clear hwb hr ho
  have em : Hid (∀ w : World, Rd (w.alloc (.cells #[.int .i64 s] 2)) .i64 (some ⟨w.heap.size, 0, none⟩) 1 [s]) := fun w => rd_new w .i64 _ [s] _ 1 (by simp) rfl (by decide)
  go_enter Try.func35, Try.ntmps35
  go_wp2_with fail
  refine (may_any A n c l HO.out _ 1 1 [s] _ (HR.out.below ((Below.refl _ w).alloc (Nat.le_refl _) _) (Nat.le_refl _)) (em.out w) (by decide) (by simpa [mins] using h0) (by simp [maxs]; omega)).mono ?_
  rintro e w1 ⟨rfl, hb⟩
  have HB1 : Hid (Below w.heap.size w w1) := ((Below.refl _ w).alloc (Nat.le_refl _) _).trans (hb.mono (by simp))
  clear hb em
  go_wp2_with fail
  go_loopg [6, 20] n (fun gg pv iv wr => ∃ kk : Nat, kk ≤ n ∧ n - kk ≤ gg ∧ iv = .int .i64 (kk : Int) ∧ Aside (wr.ownsRow w.heap.size 62 1 pv kk (((terms l s).take kk).map (Value.int .u64))) ∧ Aside (Below w.heap.size w wr))
  case atStart => exact ⟨0, Nat.zero_le _, by omega, rfl, World.ownsRow_nil _ _ _ _, HB1.out⟩
  case round =>
    obtain ⟨kk, hkk, hg, rfl, hown, BW⟩ := hrel
    clear HB1
    by_cases hlt : kk < n
    · have hltz : (kk : Int) < (n : Int) := by omega
      obtain ⟨b, o, rfl, hc⟩ := (HR.out.below BW.out (Nat.le_refl _)).2.2 (by omega)
      obtain ⟨c0, c1, c2⟩ := hc kk hlt
      clear hc
      have hx := getD_ok HO.out (i := kk) (by omega)
      have ht := Lib.hid (terms_take l s kk (by omega))
      generalize l.getD kk default = x at *
      have tb := term_bd hx h0 h1
      have jb := jobs_nonneg hx s
      have jl := jobs_le hx h0
      obtain ⟨a0, a1, a2, a3, a4, a5, a6⟩ := ok_bd hx
      have hJ := fun w => Lib.hid (jobs_any x hx s (by omega) h1 w)
      generalize jobs x s = J at *
      have hM := fun w => Lib.hid (mul_any x.c J w)
      rw [mulM_eq _ _ (by omega) (by omega) (by omega) (by omega), if_pos (by omega)] at hM
      unfold demV at hJ
      generalize x.c = c at *
      generalize x.d = d at *
      generalize x.t = t at *
      generalize c * J = K at *
      have e1 : IntKind.u64.wrap c = c := by rw [IntKind.wrap_u64]; omega
      have e2 : IntKind.u64.wrap J = J := by rw [IntKind.wrap_u64]; omega
      go_wp2_with fail
      clear c0 c1 c2
      have hbx := Lib.hid (box3 wr c d t)
      have hB2 : Hid (Below w.heap.size w (wr.alloc (.cells #[.int .i64 c, .int .i64 d, .int .i64 t] 32))) := BW.out.alloc BW.out.size _
      have hO2 : Hid ((wr.alloc (.cells #[.int .i64 c, .int .i64 d, .int .i64 t] 32)).ownsRow w.heap.size 62 1 u6 kk (((terms l s).take kk).map (Value.int .u64))) := hown.out.alloc _
      have hsz : w.heap.size ≤ wr.heap.size := BW.out.size
      clear BW hown
      generalize hW2 : wr.alloc (.cells #[.int .i64 c, .int .i64 d, .int .i64 t] 32) = W2 at *
      have hsz2 : wr.heap.size ≤ W2.heap.size := by rw [← hW2]; simp
      clear hW2
      generalize wr.heap.size = b at *
      obtain ⟨x0, x1, x2⟩ := hbx.out W2 (Below.refl _ _)
      go_region_held3 (fun w' => w'.cell? ⟨b, 0, none⟩ = some (.int .i64 c) ∧ w'.cell? ⟨b, 1, none⟩ = some (.int .i64 d) ∧ w'.cell? ⟨b, 2, none⟩ = some (.int .i64 t))
        (first | with_reducible exact ⟨x0, x1, x2⟩ | with_reducible exact ⟨y0, y1, y2⟩ | exact ⟨x0, x1, x2⟩)
        (first
          | (go_at_call 44; refine (hJ _).out.mono ?_; rintro e W3 ⟨rfl, hb3⟩; obtain ⟨y0, y1, y2⟩ := hbx.out W3 ((Below.refl _ _).drew.trans hb3))
          | (go_at_call 46; refine (hM _).out.mono ?_; rintro e W4 ⟨rfl, rfl⟩))
      have hO3 := own_belowD hO2.out ((Below.refl _ W2).drew.trans hb3)
      have HB3 : Hid (Below w.heap.size w W3) := (hB2.out.drew).trans (hb3.mono hB2.out.size)
      have hs3 : W2.heap.size ≤ W3.heap.size := hb3.size
      have hbw : w.heap.size ≤ W3.heap.size := by omega
      clear hb3 y0 y1 y2 x0 x1 x2 hO2 hB2 hbx hJ hM
      go_wp2_with (at_builtin; refine wpList_append_own _ rfl _ _ 74 rfl w.heap.size 62 i0 (.int .u64 0) 1 8 Try.underlying74 hi0 hz0 hz1 hz2 rfl (by decide) _ _ _ rfl (hO3.alloc _) ⟨W3.heap.size, 0, none⟩ 1 1 [.int .u64 K] rfl rfl (cell_one_new _ _ _) (by simp [Value.oneCell']) (by unfold maxLen; omega) (by omega) (by simp; omega) ?_; intro v' w4 hown' hgrow _)
      have hO4 : Aside (w4.ownsRow w.heap.size 62 1 v' (kk + 1) (((terms l s).take (kk + 1)).map (Value.int .u64))) := by
        rw [ht.out, List.map_append]; exact hown'
      have hk2 := fun j (e : _ = some j) => (hO3.lt j e).1
      have hB4 : Aside (Below w.heap.size w w4) := (HB3.out.alloc HB3.out.size _).grown hgrow (by have := HB3.out.size; simp; omega) (fun j e => hk2 j e)
      clear hown' hgrow hk2 hO3
      go_wp2
      go_roundg (n - (kk + 1))
      case measure => omega
      case rel => exact ⟨kk + 1, by omega, by omega, by go_num, hO4.out, hB4.out⟩
    · have hltz : ¬ (kk : Int) < (n : Int) := by omega
      obtain rfl : kk = n := by omega
      have hq : (terms l s).take kk = terms l s := List.take_of_length_le (by simp [terms]; omega)
      have hown2 := hown.out
      rw [hq] at hown2
      obtain ⟨A1, c1, rfl, hr1⟩ := own_rd64 hown2 (by omega)
      have HR1 := Lib.hid hr1
      clear hq hown hown2 hr1
      have hS := fun w h => Lib.hid (sum_any A1 kk c1 (terms l s) w h (terms_nums l HO.out h0 h1))
      rw [hsum.out] at hS
      have e1 : decide ((4611686018427387904 : Int) < wk) = false := by simp; omega
      have e2 : IntKind.i64.wrap wk = wk := by rw [IntKind.wrap_i64]; omega
      go_wp2_with fail
      refine (hS _ HR1.out).out.mono ?_
      rintro e w' ⟨rfl, nd, rfl⟩
      go_wp2
      go_ret2
      exact ⟨rfl, below_dn BW.out nd⟩
end Go.Proofs.Ytajkckjpfbkpmaa.Dem
