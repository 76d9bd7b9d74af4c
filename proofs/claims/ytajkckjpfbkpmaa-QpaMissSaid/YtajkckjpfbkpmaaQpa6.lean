/-
  Package qpa: Room.
-/
import Derived.Test.YtajkckjpfbkpmaaQpa3
namespace Go.Proofs.Ytajkckjpfbkpmaa.Dem
open Go.RowKit Go.Shelf Go.Proofs.Ytajkckjpfbkpmaa.Ari
attribute [local go_sem] Oper.semAt_some

def roomV (l : List Dm) (q : List (Int × Int)) (P : Int) : Int := if testI l q P = 0 then mins ((pts l q P).map (leftI l q)) else 0
def roomB (l : List Dm) (q : List (Int × Int)) (P : Int) : Bool := decide (testI l q P = 0 ∧ pts l q P ≠ [])
set_option maxHeartbeats 1000000 in
theorem put_any (y : Int) (bi bl : Nat) (hne : bl ≠ bi) (B : Bool) (M : Int) (w : World) (hi : w.heap[bi]? = some (.cells #[.bool B] 4 (0, 0))) (hl : w.heap[bl]? = some (.cells #[.int .i64 M] 2 (0, 0))) :
    Calls Try.prog 28 #[.int .i64 y, .pointer (some ⟨bi, 0, none⟩), .pointer (some ⟨bl, 0, none⟩)] w fun e w' => ∃ v, e = .returned v ∧ w' = (if B = false ∨ y < M then (w.setCell ⟨bl, 0, none⟩ (.int .i64 y)).setCell ⟨bi, 0, none⟩ (.bool true) else w) := by
  have ci := cell1 hi
  have cl := cell1 hl
  have fi := free1 hi
  have fl := free1 hl
  clear hi hl
  cases B with
  | false =>
    rw [if_pos (.inl rfl)]
    go_enter Try.func28, Try.ntmps28
    go_wp2
    go_end0
    exact ⟨_, rfl, rfl⟩
  | true =>
    by_cases h : y < M
    · have e1 : decide (y < M) = true := by simpa using h
      rw [if_pos (.inr h)]
      clear h
      go_enter Try.func28, Try.ntmps28
      go_wp2
      go_end0
      exact ⟨_, rfl, rfl⟩
    · have e1 : decide (y < M) = false := by simpa using h
      rw [if_neg (by rintro (h' | h'); cases h'; exact h h')]
      clear h
      go_enter Try.func28, Try.ntmps28
      go_wp2
      go_end0
      exact ⟨_, rfl, rfl⟩
theorem fn_new (w1 : World) : (((w1.alloc (.cells #[.int .i64 0] 2)).alloc (.cells #[.bool false] 4)).alloc (.cells #[Value.nilFunc] 67)).heap[w1.heap.size + 1 + 1]? = some (.cells #[Value.nilFunc] 67 (0, 0)) := by simpa using heap_alloc_new ((w1.alloc (.cells #[.int .i64 0] 2)).alloc (.cells #[.bool false] 4)) (.cells #[Value.nilFunc] 67)
theorem run_store_fn {P : Program} (w : World) (a : Addr) (m : Mode) (f : Fn) (x y : Array Value) : (store a (.func f x y) m).run P w = stored P w a (.func f x y) m := run_store P w a _ m rfl
attribute [local go_sem] run_store_fn
/-- As far as the range has come. -/
structure RoomI (w : World) (b z : Nat) (fv : Value) (pre : List (Int × Int)) (W : World) : Prop where
  a : W.heap[b]? = some (.cells #[.int .i64 (mins (pre.map (·.2)))] 2 (0, 0))
  m : W.heap[b + 1]? = some (.cells #[.bool (!pre.isEmpty)] 4 (0, 0))
  f : W.heap[b + 1 + 1]? = some (.cells #[fv] 67 (0, 0))
  b : Below w.heap.size w W
  z : z ≤ W.heap.size
theorem roomI_own (w : World) (b z : Nat) (fv : Value) (B : Nat) (hB : w.heap.size ≤ B) : OwnFrom B (RoomI w b z fv) := fun s W W' row h hg hr =>
  ⟨own_cells _ b (fun s : List (Int × Int) => #[.int .i64 (mins (s.map (·.2)))]) _ s W W' row h.a hg hr, own_cells _ (b + 1) (fun s : List (Int × Int) => #[.bool (!s.isEmpty)]) _ s W W' row h.m hg hr,
    own_cells _ (b + 1 + 1) (fun _ : Unit => #[fv]) _ () W W' row h.f hg hr, ownFrom_below (β := Unit) (Nat.le_refl _) hB () W W' row h.b hg hr, Nat.le_trans h.z hg.size⟩

set_option maxRecDepth 100000 in
set_option maxHeartbeats 4000000 in
theorem room_in (N : Nat) (hN : 3 ≤ N) (A : Option Addr) (n c : Nat) (l : List Dm) (ho : Oks l) (P : Int) (hP : Per l P) (hP1 : P ≤ 1048575) (A2 : Option Addr) (m c2 : Nat) (q : List (Int × Int)) (hoq : OksB q) (w : World) (hr : RdD w A n l) (hq : RdK w A2 m q) :
    CallsIn Fence.wide N Try.prog 18 #[.slice A n c, .slice A2 m c2] w fun e W' => e = .returned (.tuple #[.int .i64 (roomV l q P), .bool (roomB l q P)]) ∧ Below w.heap.size w W' := by
  have h1 : 1 ≤ N := by omega
  have hmx : (Try.prog).follows .mixedOrders = true := by kernel_rfl
  have HR := Lib.hid hr
  have HQ := Lib.hid hq
  have HO := Lib.hid ho
  have HOQ := Lib.hid hoq
  have HP := Lib.hid hP
  have HT := Lib.hid (test_any A n c l ho P hP hP1 A2 m c2 q hoq w hr hq)
  have hor := test_or l q P
  have hv : Hid (roomV l q P = if testI l q P = 0 then mins ((pts l q P).map (leftI l q)) else 0) := rfl
  have hbb : Hid (roomB l q P = decide (testI l q P = 0 ∧ pts l q P ≠ [])) := rfl
  obtain ⟨V, hV⟩ : ∃ V, roomV l q P = V := ⟨_, rfl⟩
  obtain ⟨Y, hY⟩ : ∃ Y, roomB l q P = Y := ⟨_, rfl⟩
  rw [hV] at hv
  rw [hY] at hbb
  rw [hV, hY]
  obtain ⟨E, hE⟩ : ∃ E : Int, testI l q P = E := ⟨_, rfl⟩
  rw [hE] at HT hor hv hbb
  clear hr hq ho hoq hP hE hV hY
  refine callsIn_of_wp_marks Try.func18 rfl trivial ?_ rfl
  simp only [Try.ntmps18, List.size_toArray, List.length_cons, List.length_nil, Nat.reduceAdd, Nat.reduceSub, Array.replicate_succ, Array.replicate_zero, List.push_toArray, List.append_toArray, List.nil_append, List.cons_append]
  rcases hor with rfl | rfl
  · have hv' : Hid (V = mins ((pts l q P).map (leftI l q))) := by rw [RowKit.Hid, hv.out, if_pos rfl]
    have hb' : Hid (Y = decide (pts l q P ≠ [])) := by rw [RowKit.Hid, hbb.out]; simp
    clear hv hbb
    gi_wp2_with (first
      | (refine ⟨trivial, ?_⟩; gi_at_call 11; refine (callsIn_wide.2 HT.out).mono ?_; rintro e w1 ⟨rfl, hb⟩; have hfn := fn_new w1; have kf := cell1 hfn; have ff := free1 hfn)
      | (refine ⟨trivial, ?_⟩; gi_at_call 20; refine (pointsOf_in (N - 1) A n c A2 m c2 _).mono ?_; rintro e w2 ⟨rfl, rfl⟩))
    have hw1 : Below w.heap.size w w1 := hb
    have hz0 : w.heap.size ≤ w1.heap.size := hb.size
    clear hb HT hfn kf ff
    generalize hbz : w1.heap.size = b at *
    have hL1 : (((((w1.alloc (.cells #[.int .i64 0] 2)).alloc (.cells #[.bool false] 4)).alloc (.cells #[.func (.func 28) #[] #[.pointer (some ⟨b + 1, 0, none⟩), .pointer (some ⟨b, 0, none⟩)]] 67)).alloc (.cells #[.slice A n c] 25)).alloc (.cells #[.slice A2 m c2] 27)).heap.size = b + 5 := by simp [hbz]
    have hLw : Below b w1 (((((w1.alloc (.cells #[.int .i64 0] 2)).alloc (.cells #[.bool false] 4)).alloc (.cells #[.func (.func 28) #[] #[.pointer (some ⟨b + 1, 0, none⟩), .pointer (some ⟨b, 0, none⟩)]] 67)).alloc (.cells #[.slice A n c] 25)).alloc (.cells #[.slice A2 m c2] 27)) :=
      (((((Below.refl _ w1).alloc (by omega) _).alloc (by simp; omega) _).alloc (by simp; omega) _).alloc (by simp; omega) _).alloc (by simp; omega) _
    have nB : (((((w1.alloc (.cells #[.int .i64 0] 2)).alloc (.cells #[.bool false] 4)).alloc (.cells #[.func (.func 28) #[] #[.pointer (some ⟨b + 1, 0, none⟩), .pointer (some ⟨b, 0, none⟩)]] 67)).alloc (.cells #[.slice A n c] 25)).alloc (.cells #[.slice A2 m c2] 27)).heap[b]? = some (.cells #[.int .i64 0] 2 (0, 0)) := by
      rw [Below.heap_alloc _ _ _ (by simp; omega), Below.heap_alloc _ _ _ (by simp; omega), Below.heap_alloc _ _ _ (by simp; omega), Below.heap_alloc _ _ _ (by simp; omega)]; exact (by simpa [hbz] using heap_alloc_new w1 (.cells #[.int .i64 0] 2))
    have nM : (((((w1.alloc (.cells #[.int .i64 0] 2)).alloc (.cells #[.bool false] 4)).alloc (.cells #[.func (.func 28) #[] #[.pointer (some ⟨b + 1, 0, none⟩), .pointer (some ⟨b, 0, none⟩)]] 67)).alloc (.cells #[.slice A n c] 25)).alloc (.cells #[.slice A2 m c2] 27)).heap[b + 1]? = some (.cells #[.bool false] 4 (0, 0)) := by
      rw [Below.heap_alloc _ _ _ (by simp; omega), Below.heap_alloc _ _ _ (by simp; omega), Below.heap_alloc _ _ _ (by simp; omega)]; exact (by simpa [hbz] using heap_alloc_new (w1.alloc (.cells #[.int .i64 0] 2)) (.cells #[.bool false] 4))
    have nV : (((((w1.alloc (.cells #[.int .i64 0] 2)).alloc (.cells #[.bool false] 4)).alloc (.cells #[.func (.func 28) #[] #[.pointer (some ⟨b + 1, 0, none⟩), .pointer (some ⟨b, 0, none⟩)]] 67)).alloc (.cells #[.slice A n c] 25)).alloc (.cells #[.slice A2 m c2] 27)).heap[b + 1 + 1]? = some (.cells #[.func (.func 28) #[] #[.pointer (some ⟨b + 1, 0, none⟩), .pointer (some ⟨b, 0, none⟩)]] 67 (0, 0)) := by
      rw [Below.heap_alloc _ _ _ (by simp; omega), Below.heap_alloc _ _ _ (by simp; omega)]; exact (by simpa [hbz] using heap_alloc_new ((w1.alloc (.cells #[.int .i64 0] 2)).alloc (.cells #[.bool false] 4)) (.cells #[.func (.func 28) #[] #[.pointer (some ⟨b + 1, 0, none⟩), .pointer (some ⟨b, 0, none⟩)]] 67))
    have nS : (((((w1.alloc (.cells #[.int .i64 0] 2)).alloc (.cells #[.bool false] 4)).alloc (.cells #[.func (.func 28) #[] #[.pointer (some ⟨b + 1, 0, none⟩), .pointer (some ⟨b, 0, none⟩)]] 67)).alloc (.cells #[.slice A n c] 25)).alloc (.cells #[.slice A2 m c2] 27)).heap[b + 1 + 1 + 1]? = some (.cells #[.slice A n c] 25 (0, 0)) := by
      rw [Below.heap_alloc _ _ _ (by simp; omega)]; exact (by simpa [hbz] using heap_alloc_new (((w1.alloc (.cells #[.int .i64 0] 2)).alloc (.cells #[.bool false] 4)).alloc (.cells #[.func (.func 28) #[] #[.pointer (some ⟨b + 1, 0, none⟩), .pointer (some ⟨b, 0, none⟩)]] 67)) (.cells #[.slice A n c] 25))
    have nF : (((((w1.alloc (.cells #[.int .i64 0] 2)).alloc (.cells #[.bool false] 4)).alloc (.cells #[.func (.func 28) #[] #[.pointer (some ⟨b + 1, 0, none⟩), .pointer (some ⟨b, 0, none⟩)]] 67)).alloc (.cells #[.slice A n c] 25)).alloc (.cells #[.slice A2 m c2] 27)).heap[b + 1 + 1 + 1 + 1]? = some (.cells #[.slice A2 m c2] 27 (0, 0)) := by
      exact (by simpa [hbz] using heap_alloc_new ((((w1.alloc (.cells #[.int .i64 0] 2)).alloc (.cells #[.bool false] 4)).alloc (.cells #[.func (.func 28) #[] #[.pointer (some ⟨b + 1, 0, none⟩), .pointer (some ⟨b, 0, none⟩)]] 67)).alloc (.cells #[.slice A n c] 25)) (.cells #[.slice A2 m c2] 27))
    generalize (((((w1.alloc (.cells #[.int .i64 0] 2)).alloc (.cells #[.bool false] 4)).alloc (.cells #[.func (.func 28) #[] #[.pointer (some ⟨b + 1, 0, none⟩), .pointer (some ⟨b, 0, none⟩)]] 67)).alloc (.cells #[.slice A n c] 25)).alloc (.cells #[.slice A2 m c2] 27)) = wL at *
    have hwL : Below w.heap.size w wL := hw1.trans (hLw.mono (by omega))
    have hS : Seen2 w.heap.size (b + 1 + 1 + 1) A n c l A2 m c2 q wL := ⟨nS, nF, fun w' h => ⟨HR.out.below (hwL.trans h) (Nat.le_refl _), HQ.out.below (hwL.trans h) (Nat.le_refl _)⟩⟩
    clear nS nF hLw hw1 hbz
    refine wpIn_rangeFunc_ownG (w0 := wL) rfl h1 (gf := 32) (lb := #[.pointer (some ⟨b + 1 + 1 + 1, 0, none⟩), .pointer (some ⟨b + 1 + 1 + 1 + 1, 0, none⟩)]) rfl trivial (enters_of Try.func32 (by kernel_rfl) rfl)
      (points_stops (N - 1) (by omega) w.heap.size (b + 1 + 1 + 1) A n c l HO.out P HP.out hP1 A2 m c2 q HOQ.out wL hS hwL.size (by omega)) Kp2.trans (Kp2.put (by omega) (by omega)) (Below.refl _ _) (fun _ => rfl)
      (RoomI w b wL.heap.size (.func (.func 28) #[] #[.pointer (some ⟨b + 1, 0, none⟩), .pointer (some ⟨b, 0, none⟩)])) (fun _ _ _ => False) (roomI_own _ _ _ _ _ (by omega)) (fun _ _ _ _ _ hs _ _ => hs)
      ⟨nB, nM, nV, hwL, Nat.le_refl _⟩
      (fun x => { tmps := #[.slice A n c, .slice A2 m c2, undef, undef, .int .i64 0, .bool false, .pointer (some ⟨b, 0, none⟩), .pointer (some ⟨b + 1, 0, none⟩), .pointer (some ⟨b + 1 + 1, 0, none⟩), undef, .int .i64 x.2, .slice A n c, .slice A2 m c2, .int .i64 0, .bool false, .func (.func 28) #[] #[.pointer (some ⟨b + 1, 0, none⟩), .pointer (some ⟨b, 0, none⟩)], .slice A n c, .slice A2 m c2, .func (.func 32) #[] #[.pointer (some ⟨b + 1 + 1 + 1, 0, none⟩), .pointer (some ⟨b + 1 + 1 + 1 + 1, 0, none⟩)], .int .i64 x.1, .int .i64 x.2, undef, undef, undef, undef, undef], defers := [] }) ?assign ?body ?done ?stop
    case assign =>
      intro l x W K hK
      gi_wp2
      exact hK
    case body =>
      rintro l1 pre ⟨X, Y'⟩ W ⟨hA, hM, hF, hB, hZ⟩ hlt
      have cF := cell1 hF
      have HPut := Lib.hid (put_any Y' (b + 1) b (by omega) _ _ W hM hA)
      have HA := Lib.hid hA
      have HM := Lib.hid hM
      have HF := Lib.hid hF
      have HB := Lib.hid hB
      have HZ := Lib.hid hZ
      generalize wL.heap.size = Z at *
      clear hlt nB nM nV hwL hS hA hM hF hB hZ hL1
      gi_wp2_with fail
      refine ⟨trivial, (fun h => by cases h), ?_⟩
      refine (CallsIn.inRound l1 (callsIn_wide.2 HPut.out)).mono ?_
      rintro e W2 ⟨v, rfl, rfl⟩
      have hsn : mins ((pre ++ [(X, Y')]).map (·.2)) = if pre = [] then Y' else min (mins (pre.map (·.2))) Y' := by
        rw [List.map_append]
        show mins (pre.map (·.2) ++ [Y']) = _
        rw [mins_snoc]
        cases pre <;> simp
      have hne : (pre ++ [(X, Y')]).isEmpty = false := by cases pre <;> rfl
      have hstore : ∀ y : Int, mins ((pre ++ [(X, Y')]).map (·.2)) = y → KeepsFrom Z W ((W.setCell ⟨b, 0, none⟩ (.int .i64 y)).setCell ⟨b + 1, 0, none⟩ (.bool true)) ∧ Kp2 w.heap.size (b + 1 + 1 + 1) W ((W.setCell ⟨b, 0, none⟩ (.int .i64 y)).setCell ⟨b + 1, 0, none⟩ (.bool true)) ∧ RoomI w b Z (.func (.func 28) #[] #[.pointer (some ⟨b + 1, 0, none⟩), .pointer (some ⟨b, 0, none⟩)]) (pre ++ [(X, Y')]) ((W.setCell ⟨b, 0, none⟩ (.int .i64 y)).setCell ⟨b + 1, 0, none⟩ (.bool true)) := fun y hy => by
        have o : ∀ k, k ≠ b → k ≠ b + 1 → ((W.setCell ⟨b, 0, none⟩ (.int .i64 y)).setCell ⟨b + 1, 0, none⟩ (.bool true)).heap[k]? = W.heap[k]? := fun k k1 k2 => (set1_other _ _ _ k2 _).trans (set1_other _ _ _ k1 _)
        refine ⟨((KeepsOthers.setCell _ _ _).trans (KeepsOthers.setCell _ _ _)).from _, ⟨⟨rfl, rfl, rfl, by simp [World.setCell], fun j hj => o j (by omega) (by omega)⟩, fun j h1 h2 => o j (by omega) (by omega)⟩, ?_, ?_, (o _ (by omega) (by omega)).trans HF.out, HB.out.trans ⟨rfl, rfl, rfl, by simp [World.setCell], fun j hj => o j (by omega) (by omega)⟩, by simpa [World.setCell] using HZ.out⟩
        · rw [hy]; exact (set1_other _ _ _ (by omega) _).trans (set1 HA.out _)
        · rw [hne]; exact set1 ((set1_other _ _ _ (by omega) _).trans HM.out) _
      have hI : Hid (KeepsFrom Z W (if (!pre.isEmpty) = false ∨ Y' < mins (pre.map (·.2)) then (W.setCell ⟨b, 0, none⟩ (.int .i64 Y')).setCell ⟨b + 1, 0, none⟩ (.bool true) else W) ∧ Kp2 w.heap.size (b + 1 + 1 + 1) W (if (!pre.isEmpty) = false ∨ Y' < mins (pre.map (·.2)) then (W.setCell ⟨b, 0, none⟩ (.int .i64 Y')).setCell ⟨b + 1, 0, none⟩ (.bool true) else W) ∧ RoomI w b Z (.func (.func 28) #[] #[.pointer (some ⟨b + 1, 0, none⟩), .pointer (some ⟨b, 0, none⟩)]) (pre ++ [(X, Y')]) (if (!pre.isEmpty) = false ∨ Y' < mins (pre.map (·.2)) then (W.setCell ⟨b, 0, none⟩ (.int .i64 Y')).setCell ⟨b + 1, 0, none⟩ (.bool true) else W)) := by
        rw [RowKit.Hid]
        by_cases hp : pre = []
        · rw [if_pos (.inl (by subst hp; rfl))]
          exact hstore Y' (by rw [hsn, if_pos hp])
        · rw [if_neg hp] at hsn
          have hpe : (!pre.isEmpty) = true := by cases pre with | nil => exact absurd rfl hp | cons _ _ => rfl
          by_cases hy : Y' < mins (pre.map (·.2))
          · rw [if_pos (.inr hy)]
            exact hstore Y' (by rw [hsn]; omega)
          · rw [if_neg (by rintro (h | h); rw [hpe] at h; cases h; exact hy h)]
            refine ⟨KeepsFrom.refl _ _, Kp2.refl _ _ _, ?_, ?_, HF.out, HB.out, HZ.out⟩
            · rw [hsn, show min (mins (pre.map (·.2))) Y' = mins (pre.map (·.2)) by omega]; exact HA.out
            · have hm := HM.out
              rw [hpe] at hm
              rw [hne]
              exact hm
      clear hstore hsn hne HPut cF
      generalize (if (!pre.isEmpty) = false ∨ Y' < mins (pre.map (·.2)) then (W.setCell ⟨b, 0, none⟩ (.int .i64 Y')).setCell ⟨b + 1, 0, none⟩ (.bool true) else W) = W9 at *
      gi_wp2
      exact hI.out
    case done =>
      rintro D ys W hD hys ⟨hA, hM, hF, hB, hZ⟩ hK
      have hvv : Hid (V = mins (ys.map (·.2))) := by
        rw [RowKit.Hid, hv'.out, hys]
        simp only [withL, List.map_map]
        rfl
      have hbb : Hid (Y = !ys.isEmpty) := by
        rw [RowKit.Hid, hb'.out, hys]
        cases pts l q P <;> simp [withL]
      rw [← hvv.out] at hA
      rw [← hbb.out] at hM
      have cA := cell1 hA
      have cM := cell1 hM
      have HK := Lib.hid hK
      have HB := Lib.hid hB
      clear hys hA hM hF hB hZ hK nB nM nV hwL hS hvv hbb hv' hb'
      gi_wp2
      gi_quiet (fail)
      clear cA cM
      gi_wp2
      refine ⟨by simp, .inl ⟨_, _, rfl, run_takeDeferred (show (W.drewN nq).heap[D]? = some (.deferred (some [])) from HK.out), ?_⟩⟩
      exact ⟨_, results_tmp2 rfl _ _ _, rfl, (below_dn HB.out nq).trans (belowK_b (w := w) (Nat.le_refl _) (W.drewN nq) D _ _ (by omega) (show (W.drewN nq).heap[D]? = some (.deferred (some [])) from HK.out) rfl rfl)⟩
    case stop =>
      rintro D c pre W _ _ h _
      exact h.elim
  · have hv' : Hid (V = 0) := by rw [RowKit.Hid, hv.out, if_neg (by decide)]
    have hb' : Hid (Y = false) := by rw [RowKit.Hid, hbb.out]; simp
    clear hv hbb
    gi_wp2_with (refine ⟨trivial, ?_⟩; gi_at_call 11; refine (callsIn_wide.2 HT.out).mono ?_; rintro e w1 ⟨rfl, hb⟩)
    have HB := Lib.hid hb
    clear hb HT
    exact ⟨_, results_tmp2 rfl _ _ _, by rw [hv'.out, hb'.out]; rfl, HB.out⟩
theorem room_any (A : Option Addr) (n c : Nat) (l : List Dm) (ho : Oks l) (P : Int) (hP : Per l P) (hP1 : P ≤ 1048575) (A2 : Option Addr) (m c2 : Nat) (q : List (Int × Int)) (hoq : OksB q) (w : World) (hr : RdD w A n l) (hq : RdK w A2 m q) :
    Calls Try.prog 18 #[.slice A n c, .slice A2 m c2] w fun e W' => e = .returned (.tuple #[.int .i64 (roomV l q P), .bool (roomB l q P)]) ∧ Below w.heap.size w W' :=
  callsIn_wide.1 (room_in 3 (Nat.le_refl _) A n c l ho P hP hP1 A2 m c2 q hoq w hr hq)
end Go.Proofs.Ytajkckjpfbkpmaa.Dem
