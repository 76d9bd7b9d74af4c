/-
  Package qpa: Miss, Test.
-/
import Derived.Test.YtajkckjpfbkpmaaQpa2
import Derived.Test.YtajkckjpfbkpmaaDem13
namespace Go.Proofs.Ytajkckjpfbkpmaa.Dem
open Go.RowKit Go.Shelf Go.Proofs.Ytajkckjpfbkpmaa.Ari
attribute [local go_sem] Oper.semAt_some

def missT (l : List Dm) (b : List (Int × Int)) (P : Int) : Int := (missOf l b P).getD 0
theorem miss_of_pre {l : List Dm} {q : List (Int × Int)} {P : Int} {r : List (Int × Int)} {x : Int × Int} (h : r ++ [x] <+: withL l q (pts l q P)) (hr : ∀ p ∈ r, 0 ≤ p.2) (hx : x.2 < 0) : missOf l q P = some x.1 := by
  obtain ⟨u, hu⟩ := h
  unfold withL at hu
  unfold missOf
  generalize pts l q P = L at *
  induction L generalizing r with
  | nil => simp at hu
  | cons t L ih =>
    cases r with
    | nil =>
      simp at hu
      obtain ⟨rfl, _⟩ := hu
      simp at hx
      simp [List.find?, hx]
    | cons p r =>
      simp at hu
      obtain ⟨rfl, hu⟩ := hu
      have h0 := hr (t, leftI l q t) (List.mem_cons_self ..)
      simp at h0
      have := ih (r := r) (fun p hp => hr p (List.mem_cons_of_mem _ hp)) (by simpa using hu)
      rw [List.find?_cons_of_neg (by simp; omega)]
      exact this
theorem miss_none' {l : List Dm} {q : List (Int × Int)} {P : Int} (h : ∀ p ∈ withL l q (pts l q P), 0 ≤ p.2) : missOf l q P = none := missOf_none.2 fun t ht => h (t, leftI l q t) (List.mem_map.2 ⟨t, ht, rfl⟩)

/-- Before the first time at which it is too much. -/
structure MissI (w : World) (b z : Nat) (pre : List (Int × Int)) (W : World) : Prop where
  a : W.heap[b]? = some (.cells #[.int .i64 0] 2 (0, 0))
  m : W.heap[b + 1]? = some (.cells #[.bool false] 4 (0, 0))
  p : ∀ p ∈ pre, (0 : Int) ≤ p.2
  b : Below w.heap.size w W
  z : z ≤ W.heap.size
/-- At it. -/
structure MissX (w : World) (b z : Nat) (cd : Code) (pre : List (Int × Int)) (W : World) : Prop where
  c : cd = Code.exit 0
  r : ∃ r x, pre = r ++ [x] ∧ (∀ p ∈ r, (0 : Int) ≤ p.2) ∧ x.2 < 0 ∧ W.heap[b]? = some (.cells #[.int .i64 x.1] 2 (0, 0)) ∧ W.heap[b + 1]? = some (.cells #[.bool true] 4 (0, 0))
  b : Below w.heap.size w W
  z : z ≤ W.heap.size
theorem missI_own (w : World) (b z B : Nat) (hB : w.heap.size ≤ B) : OwnFrom B (MissI w b z) := fun s W W' row h hg hr =>
  ⟨own_cells _ b (fun _ : Unit => #[.int .i64 0]) _ () W W' row h.a hg hr, own_cells _ (b + 1) (fun _ : Unit => #[.bool false]) _ () W W' row h.m hg hr, h.p, ownFrom_below (β := Unit) (Nat.le_refl _) hB () W W' row h.b hg hr, Nat.le_trans h.z hg.size⟩
theorem missX_own (w : World) (b z B : Nat) (hB : w.heap.size ≤ B) (cd : Code) : OwnFrom B (MissX w b z cd) := fun s W W' row h hg hr => by
  obtain ⟨r, x, h1, h2, h3, h4, h5⟩ := h.r
  exact ⟨h.c, ⟨r, x, h1, h2, h3, own_cells _ b (fun _ : Unit => #[.int .i64 x.1]) _ () W W' row h4 hg hr, own_cells _ (b + 1) (fun _ : Unit => #[.bool true]) _ () W W' row h5 hg hr⟩, ownFrom_below (β := Unit) (Nat.le_refl _) hB () W W' row h.b hg hr, Nat.le_trans h.z hg.size⟩
theorem own_pure {β : Type} (B : Nat) (p : β → Prop) : OwnFrom B (fun (s : β) _ => p s) := fun _ _ _ _ hs _ _ => hs
set_option maxRecDepth 100000 in
set_option maxHeartbeats 4000000 in
theorem miss_in (N : Nat) (hN : 3 ≤ N) (A : Option Addr) (n c : Nat) (l : List Dm) (ho : Oks l) (P : Int) (hP : Per l P) (hP1 : P ≤ 1048575) (A2 : Option Addr) (m c2 : Nat) (q : List (Int × Int)) (hoq : OksB q) (w : World) (hr : RdD w A n l) (hq : RdK w A2 m q) :
    CallsIn Fence.wide N Try.prog 13 #[.slice A n c, .slice A2 m c2] w fun e W' => e = .returned (.tuple #[.int .i64 (missT l q P), .bool (missOf l q P).isSome]) ∧ Below w.heap.size w W' := by
  have h1 : 1 ≤ N := by omega
  have hmx : (Try.prog).follows .mixedOrders = true := by kernel_rfl
  have HR := Lib.hid hr
  have HQ := Lib.hid hq
  have HO := Lib.hid ho
  have HOQ := Lib.hid hoq
  have HP := Lib.hid hP
  have HM := Lib.hid (mayQ_any A n c l ho P hP A2 m c2 q hoq w hr hq)
  obtain ⟨E, hE⟩ : ∃ E : Int, (if loadI l P ≤ P then 0 else 17) = E := ⟨_, rfl⟩
  rw [hE] at HM
  clear hr hq ho hoq hP hE
  refine callsIn_of_wp_marks Try.func13 rfl trivial ?_ rfl
  simp only [Try.ntmps13, List.size_toArray, List.length_cons, List.length_nil, Nat.reduceAdd, Nat.reduceSub, Array.replicate_succ, Array.replicate_zero, List.push_toArray, List.append_toArray, List.nil_append, List.cons_append]
  gi_wp2
  refine Row0.wpIn_scope_straight ?_
  gi_wp2_with (refine ⟨trivial, ?_⟩; gi_at_call 19; refine (callsIn_wide.2 HM.out).mono ?_; rintro e w1 ⟨rfl, hb⟩)
  refine wpIn_label ?_
  gi_wp2_with (refine ⟨trivial, ?_⟩; gi_at_call 20; refine (pointsOf_in (N - 1) A n c A2 m c2 _).mono ?_; rintro e w2 ⟨rfl, rfl⟩)
  have hw1 : Below w.heap.size w w1 := hb
  have hz0 : w.heap.size ≤ w1.heap.size := hb.size
  clear hb HM
  generalize hbz : w1.heap.size = b at *
  have hL1 : ((((w1.alloc (.cells #[.int .i64 0] 2)).alloc (.cells #[.bool false] 4)).alloc (.cells #[.slice A n c] 25)).alloc (.cells #[.slice A2 m c2] 27)).heap.size = b + 4 := by simp [hbz]
  have hLw : Below b w1 ((((w1.alloc (.cells #[.int .i64 0] 2)).alloc (.cells #[.bool false] 4)).alloc (.cells #[.slice A n c] 25)).alloc (.cells #[.slice A2 m c2] 27)) :=
    ((((Below.refl _ w1).alloc (by omega) _).alloc (by simp; omega) _).alloc (by simp; omega) _).alloc (by simp; omega) _
  have nB : ((((w1.alloc (.cells #[.int .i64 0] 2)).alloc (.cells #[.bool false] 4)).alloc (.cells #[.slice A n c] 25)).alloc (.cells #[.slice A2 m c2] 27)).heap[b]? = some (.cells #[.int .i64 0] 2 (0, 0)) := by
    rw [Below.heap_alloc _ _ _ (by simp; omega), Below.heap_alloc _ _ _ (by simp; omega), Below.heap_alloc _ _ _ (by simp; omega), ← hbz]; exact heap_alloc_new _ _
  have nM : ((((w1.alloc (.cells #[.int .i64 0] 2)).alloc (.cells #[.bool false] 4)).alloc (.cells #[.slice A n c] 25)).alloc (.cells #[.slice A2 m c2] 27)).heap[b + 1]? = some (.cells #[.bool false] 4 (0, 0)) := by
    rw [Below.heap_alloc _ _ _ (by simp; omega), Below.heap_alloc _ _ _ (by simp; omega), ← hbz]; exact (by simpa using heap_alloc_new (w1.alloc (.cells #[.int .i64 0] 2)) (.cells #[.bool false] 4))
  have nS : ((((w1.alloc (.cells #[.int .i64 0] 2)).alloc (.cells #[.bool false] 4)).alloc (.cells #[.slice A n c] 25)).alloc (.cells #[.slice A2 m c2] 27)).heap[b + 1 + 1]? = some (.cells #[.slice A n c] 25 (0, 0)) := by
    rw [Below.heap_alloc _ _ _ (by simp; omega), ← hbz]; exact (by simpa using heap_alloc_new ((w1.alloc (.cells #[.int .i64 0] 2)).alloc (.cells #[.bool false] 4)) (.cells #[.slice A n c] 25))
  have nF : ((((w1.alloc (.cells #[.int .i64 0] 2)).alloc (.cells #[.bool false] 4)).alloc (.cells #[.slice A n c] 25)).alloc (.cells #[.slice A2 m c2] 27)).heap[b + 1 + 1 + 1]? = some (.cells #[.slice A2 m c2] 27 (0, 0)) := by
    rw [← hbz]; exact (by simpa using heap_alloc_new (((w1.alloc (.cells #[.int .i64 0] 2)).alloc (.cells #[.bool false] 4)).alloc (.cells #[.slice A n c] 25)) (.cells #[.slice A2 m c2] 27))
  generalize ((((w1.alloc (.cells #[.int .i64 0] 2)).alloc (.cells #[.bool false] 4)).alloc (.cells #[.slice A n c] 25)).alloc (.cells #[.slice A2 m c2] 27)) = wL at *
  have hwL : Below w.heap.size w wL := hw1.trans (hLw.mono (by omega))
  have hS : Seen2 w.heap.size (b + 1 + 1) A n c l A2 m c2 q wL := ⟨nS, nF, fun w' h => ⟨HR.out.below (hwL.trans h) (Nat.le_refl _), HQ.out.below (hwL.trans h) (Nat.le_refl _)⟩⟩
  clear nS nF hLw hw1 hbz
  refine wpIn_rangeFunc_ownG (w0 := wL) rfl h1 (gf := 32) (lb := #[.pointer (some ⟨b + 1 + 1, 0, none⟩), .pointer (some ⟨b + 1 + 1 + 1, 0, none⟩)]) rfl trivial (enters_of Try.func32 (by kernel_rfl) rfl)
    (points_stops (N - 1) (by omega) w.heap.size (b + 1 + 1) A n c l HO.out P HP.out hP1 A2 m c2 q HOQ.out wL hS hwL.size (by omega)) Kp2.trans (Kp2.put (by omega) (by omega)) (Below.refl _ _) (fun _ => rfl)
    (MissI w b wL.heap.size) (MissX w b wL.heap.size) (missI_own _ _ _ _ (by omega)) (missX_own _ _ _ _ (by omega))
    ⟨nB, nM, fun p hp => by simp at hp, hwL, Nat.le_refl _⟩
    (fun x => { tmps := #[.slice A n c, .slice A2 m c2, undef, undef, .int .i64 0, .bool false, .bool true, .int .i64 E, .pointer (some ⟨b, 0, none⟩), .pointer (some ⟨b + 1, 0, none⟩), .int .i64 x.1, .int .i64 x.2, .tuple #[.bool true, .int .i64 E], .slice A n c, .slice A2 m c2, .tuple #[.bool true, .int .i64 E], .bool true, .int .i64 E, .bool true, .bool false, .slice A n c, .slice A2 m c2, .func (.func 32) #[] #[.pointer (some ⟨b + 1 + 1, 0, none⟩), .pointer (some ⟨b + 1 + 1 + 1, 0, none⟩)], .int .i64 x.1, .int .i64 x.2, undef, undef, undef, undef, undef], defers := [] }) ?assign ?body ?done ?stop
  case assign =>
    intro l x W K hK
    gi_wp2
    exact hK
  case body =>
    rintro l1 pre ⟨X, Y⟩ W ⟨hA, hM, hp, hB, hZ⟩ hlt
    have cA := cell1 hA
    have cM := cell1 hM
    have fA := free1 hA
    have fM := free1 hM
    generalize wL.heap.size = Z at *
    clear hlt nB nM hwL hS
    by_cases hy : Y < 0
    · have e1 : decide (Y < 0) = true := by simpa using hy
      have o : ∀ k, k ≠ b → k ≠ b + 1 → ((W.setCell ⟨b, 0, none⟩ (.int .i64 X)).setCell ⟨b + 1, 0, none⟩ (.bool true)).heap[k]? = W.heap[k]? := fun k k1 k2 => (set1_other _ _ _ k2 _).trans (set1_other _ _ _ k1 _)
      have HI : Hid (KeepsFrom Z W ((W.setCell ⟨b, 0, none⟩ (.int .i64 X)).setCell ⟨b + 1, 0, none⟩ (.bool true)) ∧ MissX w b Z (Code.exit 0) (pre ++ [(X, Y)]) ((W.setCell ⟨b, 0, none⟩ (.int .i64 X)).setCell ⟨b + 1, 0, none⟩ (.bool true))) :=
        ⟨((KeepsOthers.setCell _ _ _).trans (KeepsOthers.setCell _ _ _)).from _, ⟨rfl, ⟨pre, (X, Y), rfl, hp, hy, (set1_other _ _ _ (by omega) _).trans (set1 hA _), set1 ((set1_other _ _ _ (by omega) _).trans hM) _⟩, hB.trans ⟨rfl, rfl, rfl, by simp [World.setCell], fun j hj => o j (by omega) (by omega)⟩, by simpa [World.setCell] using hZ⟩⟩
      clear hy o hA hM hp hB hZ hL1
      gi_wp2
      exact HI.out
    · have e1 : decide (Y < 0) = false := by simpa using hy
      have HI : Hid (KeepsFrom Z W W ∧ Kp2 w.heap.size (b + 1 + 1) W W ∧ MissI w b Z (pre ++ [(X, Y)]) W) :=
        ⟨KeepsFrom.refl _ _, Kp2.refl _ _ _, ⟨hA, hM, fun p hp' => by
          rcases List.mem_append.1 hp' with h | h
          · exact hp p h
          · simp at h; subst h; show 0 ≤ Y; omega, hB, hZ⟩⟩
      clear hy hA hM hp hB hZ hL1
      gi_wp2
      exact HI.out
  case done =>
    rintro D ys W hD hys ⟨hA, hM, hp, hB, hZ⟩ hK
    have hnn : Hid (missOf l q P = none) := by rw [hys] at hp; exact miss_none' hp
    have cA := cell1 hA
    have cM := cell1 hM
    have HK := Lib.hid hK
    have HB := Lib.hid hB
    clear hys hp hA hM hB hZ hK nB nM hwL hS
    gi_wp2
    gi_quiet (fail)
    clear cA cM
    gi_wp2
    simp only [Exit.noGoto]
    refine ⟨by simp, .inl ⟨_, _, rfl, run_takeDeferred (show (W.drewN nq).heap[D]? = some (.deferred (some [])) from HK.out), ?_⟩⟩
    exact ⟨_, results_tmp2 rfl _ _ _, (by unfold missT; rw [hnn.out]; rfl), (below_dn HB.out nq).trans (belowK_b (w := w) (Nat.le_refl _) (W.drewN nq) D _ _ (by omega) (show (W.drewN nq).heap[D]? = some (.deferred (some [])) from HK.out) rfl rfl)⟩
  case stop =>
    rintro D cd pre W hD hSp ⟨rfl, ⟨r, x, rfl, hr0, hx0, hA, hM⟩, hB, hZ⟩ hK
    have hnn : Hid (missOf l q P = some x.1) := miss_of_pre hSp hr0 hx0
    have cA := cell1 hA
    have cM := cell1 hM
    have HK := Lib.hid hK
    have HB := Lib.hid hB
    clear hSp hr0 hx0 hA hM hB hZ hK nB nM hwL hS
    refine wpIn_exit ?_
    gi_wp2
    gi_quiet (fail)
    clear cA cM
    gi_wp2
    simp only [Exit.noGoto]
    refine ⟨by simp, .inl ⟨_, _, rfl, run_takeDeferred (show (W.drewN nq).heap[D]? = some (.deferred (some [])) from HK.out), ?_⟩⟩
    exact ⟨_, results_tmp2 rfl _ _ _, (by unfold missT; rw [hnn.out]; rfl), (below_dn HB.out nq).trans (belowK_b (w := w) (Nat.le_refl _) (W.drewN nq) D _ _ (by omega) (show (W.drewN nq).heap[D]? = some (.deferred (some [])) from HK.out) rfl rfl)⟩
theorem miss_any (A : Option Addr) (n c : Nat) (l : List Dm) (ho : Oks l) (P : Int) (hP : Per l P) (hP1 : P ≤ 1048575) (A2 : Option Addr) (m c2 : Nat) (q : List (Int × Int)) (hoq : OksB q) (w : World) (hr : RdD w A n l) (hq : RdK w A2 m q) :
    Calls Try.prog 13 #[.slice A n c, .slice A2 m c2] w fun e W' => e = .returned (.tuple #[.int .i64 (missT l q P), .bool (missOf l q P).isSome]) ∧ Below w.heap.size w W' :=
  callsIn_wide.1 (miss_in 3 (Nat.le_refl _) A n c l ho P hP hP1 A2 m c2 q hoq w hr hq)
set_option maxHeartbeats 2000000 in
theorem test_any (A : Option Addr) (n c : Nat) (l : List Dm) (ho : Oks l) (P : Int) (hP : Per l P) (hP1 : P ≤ 1048575) (A2 : Option Addr) (m c2 : Nat) (q : List (Int × Int)) (hoq : OksB q) (w : World) (hr : RdD w A n l) (hq : RdK w A2 m q) :
    Calls Try.prog 11 #[.slice A n c, .slice A2 m c2] w fun e W' => e = .returned (.int .i64 (testI l q P)) ∧ Below w.heap.size w W' := by
  have HM := Lib.hid (mayQ_any A n c l ho P hP A2 m c2 q hoq w hr hq)
  have HS := fun w h1 h2 => Lib.hid (miss_any A n c l ho P hP hP1 A2 m c2 q hoq w h1 h2)
  have HR := Lib.hid hr
  have HQ := Lib.hid hq
  clear hr hq ho hoq hP
  by_cases hL : loadI l P ≤ P
  · rw [if_pos hL] at HM
    have ht : Hid (testI l q P = if missOf l q P = none then 0 else 17) := by
      rw [RowKit.Hid]
      unfold testI
      by_cases h : missOf l q P = none
      · rw [if_pos ⟨hL, h⟩, if_pos h]
      · rw [if_neg (fun e => h e.2), if_neg h]
    obtain ⟨E, hE⟩ : ∃ E : Int, testI l q P = E := ⟨_, rfl⟩
    rw [hE] at ht ⊢
    clear hL hE
    go_enter Try.func11, Try.ntmps11
    go_wp2_with fail
    refine HM.out.mono ?_
    rintro e w1 ⟨rfl, hb⟩
    have HR1 := Lib.hid (HR.out.below hb (Nat.le_refl _))
    have HQ1 := Lib.hid (HQ.out.below hb (Nat.le_refl _))
    have HB1 := Lib.hid hb
    clear hb HM HR HQ
    go_wp2_with fail
    refine (HS w1 HR1.out HQ1.out).out.mono ?_
    rintro e w2 ⟨rfl, hb⟩
    have HB2 : Hid (Below w.heap.size w w2) := HB1.out.trans (hb.mono HB1.out.size)
    clear hb HS HR1 HQ1
    cases hm : missOf l q P with
    | none =>
      rw [hm] at ht
      simp only [Option.isSome_none]
      clear hm
      go_wp2
      go_ret
      exact ⟨by rw [ht.out]; rfl, HB2.out⟩
    | some t =>
      rw [hm] at ht
      simp only [Option.isSome_some]
      clear hm
      go_wp2
      go_ret
      exact ⟨by rw [ht.out]; rfl, HB2.out⟩
  · rw [if_neg hL] at HM
    have ht : testI l q P = 17 := by unfold testI; rw [if_neg (fun e => hL e.1)]
    rw [ht]
    clear hL ht HS
    go_enter Try.func11, Try.ntmps11
    go_wp2_with fail
    refine HM.out.mono ?_
    rintro e w1 ⟨rfl, hb⟩
    have HB1 := Lib.hid hb
    clear hb HM HR HQ
    go_wp2
    go_ret
    exact ⟨rfl, HB1.out⟩
end Go.Proofs.Ytajkckjpfbkpmaa.Dem
