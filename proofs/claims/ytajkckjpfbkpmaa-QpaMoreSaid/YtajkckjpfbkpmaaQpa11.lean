/-
  With more work, or more that is held; Clone and Fits.
-/
import Derived.Test.YtajkckjpfbkpmaaQpa5
import Derived.Test.YtajkckjpfbkpmaaDem7
import Derived.Laws.Cover3
namespace Go.Proofs.Ytajkckjpfbkpmaa.Dem
open Go.RowKit Go.Shelf Go.Proofs.Ytajkckjpfbkpmaa.Ari

theorem fine_less {l x : List Dm} (ho : Oks (l ++ x)) {q : List (Int × Int)} {P P' : Int} (hP : Per l P) (hP' : Per (l ++ x) P') (hf : Fine (l ++ x) q P') : Fine l q P := by
  have hol : Oks l := fun y hy => ho y (List.mem_append.2 (.inl hy))
  have hox : Oks x := fun y hy => ho y (List.mem_append.2 (.inr hy))
  have hw : ∀ s, 0 ≤ s → s ≤ 4194304 → work l s ≤ work (l ++ x) s := fun s h0 h1 => by
    rw [work_append]
    have := (work_bd x hox h0 h1).1
    omega
  have hp0 := hP.pos
  have hp1 := hP.le
  refine ⟨?_, fun t ht => ?_⟩
  · have h1 := work_period hol hP (t := 0) (Int.le_refl 0)
    have h0 : work l 0 = 0 := work_zero fun y hy => by have := (hol y hy).2.2.1; omega
    rw [h0, Int.zero_add, Int.zero_add] at h1
    have h2 := fine_work ho hP' hf P.toNat P (Nat.le_refl _) (by omega)
    have h3 := hw P (by omega) (by omega)
    omega
  · obtain ⟨h1, h2⟩ := (mem_pts hol).1 ht
    have h3 := isDl_pos hol h2
    obtain ⟨y, hy, hd⟩ := isDl_due hol h2
    have h4 := sound ho hP' hf (t := t) ⟨y, List.mem_append.2 (.inl hy), hd⟩
    by_cases hb : t ≤ 4194304
    · have := hw t (by omega) hb
      unfold leftI
      omega
    · have hx : 0 ≤ work x t := by
        clear h4 hf hP' ho hw
        induction x with
        | nil => exact Int.le_refl 0
        | cons a r ih =>
          have e : work (a :: r) t = a.c * jobs a t + work r t := by simp [work]
          rw [e]
          have h5 := ih fun y hy => hox y (List.mem_cons_of_mem _ hy)
          have ha := hox a (List.mem_cons_self ..)
          have := Int.mul_nonneg ha.1 (jobs_nonneg ha t)
          omega
      rw [work_append] at h4
      unfold leftI
      omega
theorem fine_held {l : List Dm} (ho : Oks l) {q y : List (Int × Int)} {P : Int} (hP : Per l P) (hf : Fine l (q ++ y) P) : Fine l q P := by
  refine ⟨hf.1, fun t ht => ?_⟩
  obtain ⟨h1, h2⟩ := (mem_pts ho).1 ht
  obtain ⟨a, ha, hd⟩ := isDl_due ho h2
  have h4 := sound ho hP hf (t := t) ⟨a, ha, hd⟩
  have h5 := held_mono (b := q) (b' := q ++ y) (fun p hp => List.mem_append.2 (.inl hp)) t
  unfold leftI
  omega

theorem eql_nil (a : Option Addr) (l c : Nat) (w : World) : (binOp .eql 25 (.slice a l c) (.slice none 0 0)).run Try.prog w = .ok (.bool a.isNone) w := by
  simp only [binOp]
  simp [run_equal_slice_nil w 25 32 a l c Try.underlying25]
set_option maxHeartbeats 2000000 in
set_option maxRecDepth 100000 in
theorem clone_any (A : Option Addr) (n c : Nat) (l : List Dm) (w : World) (hr : RdD w A n l) (hz : A = none → n = 0 ∧ c = 0) :
    Calls Try.prog 27 #[.slice A n c] w fun e w' => ∃ v, e = .returned v ∧ w'.ownsRow w.heap.size 32 3 v n (flat3 l) ∧ Below w.heap.size w w' := by
  obtain ⟨i0, hi0, hz0, hz1, hz2⟩ := info_parts infoD
  have hn := hr.2.1
  cases A with
  | none =>
    obtain ⟨rfl, rfl⟩ := hz rfl
    obtain rfl : l = [] := List.eq_nil_of_length_eq_zero hr.1
    clear hr hz
    have en : ∀ w, (binOp .eql 25 (.slice none 0 0) (.slice none 0 0)).run Try.prog w = .ok (.bool true) w := fun w => eql_nil none 0 0 w
    go_enter Try.func27, Try.ntmps27
    go_wp2
    go_ret
    exact ⟨_, rfl, World.ownsRow_nil _ _ _ _, Below.refl _ _⟩
  | some ad =>
    have hB0 : Hid ((w.alloc (.cells #[] 32)).ownsRow w.heap.size 32 3 (.slice (some ⟨w.heap.size, 0, none⟩) 0 0) 0 (flat3 [])) :=
      ⟨rfl, .inr ⟨w.heap.size, 0, #[], rfl, Nat.le_refl _, heap_alloc_new _ _, Nat.le_refl _, by unfold maxLen; decide, rfl, rfl⟩⟩
    have hL1 := Lib.hid (flat3_rd hr)
    have hN1 := Lib.hid (news3 (hr.below ((Below.refl _ w).alloc (Nat.le_refl _) (.cells #[] 32)) (Nat.le_refl _)))
    clear hr hz
    have en : ∀ w, (binOp .eql 25 (.slice (some ad) n c) (.slice none 0 0)).run Try.prog w = .ok (.bool false) w := fun w => eql_nil (some ad) n c w
    go_enter Try.func27, Try.ntmps27
    go_wp2_with (at_builtin; refine Row0.wpList_append_sl rfl (.tmp 5) (.tmp 6) 25 rfl w.heap.size 32 i0 (.agg #[.int .i64 0, .int .i64 0, .int .i64 0]) 3 24 Try.underlying25 hi0 hz0 hz1 hz2 rfl (by decide) _ _ _ rfl hB0.out (some ad) n c (flat3 l) rfl (fun e => by cases e) hL1.out hN1.out (flat3_one _) (by unfold maxLen; omega) (by omega) (by simp) ?_; intro v6 W6 ho6 hg6; replace hg6 : (w.alloc (.cells #[] 32)).grownBy W6 (some w.heap.size) := hg6)
    have hb : Below w.heap.size w W6 := ((Below.refl _ w).alloc (Nat.le_refl _) _).grown hg6 (by simp) (fun j e => by cases e; exact Nat.le_refl _)
    rw [show flat3 [] ++ flat3 l = flat3 l from rfl, Nat.zero_add] at ho6
    have HO := Lib.hid ho6
    have HB := Lib.hid hb
    clear ho6 hb hg6
    go_wp2
    go_ret
    exact ⟨_, rfl, HO.out, HB.out⟩
theorem snoc3 (l : List Dm) (x : Dm) : flat3 l ++ [.int .i64 x.c, .int .i64 x.d, .int .i64 x.t] = flat3 (l ++ [x]) := (flat3_snoc l x).symm
theorem cells3_pl {W w' : World} (x y z : Value) (T : TypeId) (h : Below (W.heap.size + 1) (W.alloc (.cells #[x, y, z] T)) w') : ∀ j u, ([x, y, z] : List Value)[j]? = some u → w'.cell? ((⟨W.heap.size, 0, none⟩ : Addr).add j) = some u := by
  intro j u hj
  have h : w'.heap[W.heap.size]? = some (.cells #[x, y, z] T (0, 0)) := (h.block _ (Nat.lt_succ_self _)).trans (heap_alloc_new _ _)
  rw [Row0.plain_add', Nat.zero_add]
  generalize W.heap.size = k at *
  match j, hj with
  | 0, hj => simp at hj; subst hj; simp [World.cell?, h]
  | 1, hj => simp at hj; subst hj; simp [World.cell?, h]
  | 2, hj => simp at hj; subst hj; simp [World.cell?, h]
set_option maxHeartbeats 8000000 in
set_option maxRecDepth 100000 in
theorem fits_any (A : Option Addr) (n c : Nat) (l : List Dm) (hz : A = none → n = 0 ∧ c = 0) (hn : n ≤ 60) (x : Dm) (ho : Oks (l ++ [x])) (P : Int) (hP : Per (l ++ [x]) P) (hP1 : P ≤ 1048575) (A2 : Option Addr) (m c2 : Nat) (q : List (Int × Int)) (hoq : OksB q) (w : World) (hr : RdD w A n l) (hq : RdK w A2 m q) :
    Calls Try.prog 17 #[.slice A n c, .slice A2 m c2, demV x.c x.d x.t] w fun e W' => e = .returned (.bool (testI (l ++ [x]) q P == 0)) ∧ Below w.heap.size w W' := by
  obtain ⟨i0, hi0, hz0, hz1, hz2⟩ := info_parts infoD
  have HR := Lib.hid hr
  have HQ := Lib.hid hq
  have hT := fun A' c' w' h1 h2 => Lib.hid (test_any A' (n + 1) c' (l ++ [x]) ho P hP hP1 A2 m c2 q hoq w' h1 h2)
  have hC := fun w' h => Lib.hid (clone_any A n c l w' h hz)
  have hsn := Lib.hid (snoc3 l x)
  generalize testI (l ++ [x]) q P = E at *
  clear hr hq hz hoq hP
  unfold demV
  have hbx0 := Lib.hid (box3 w x.c x.d x.t)
  generalize x.c = C at *
  generalize x.d = D at *
  generalize x.t = T at *
  go_enter Try.func17, Try.ntmps17
  go_wp2_with fail
  have hw0 : Below w.heap.size w (w.alloc (.cells #[.int .i64 C, .int .i64 D, .int .i64 T] 32)) := (Below.refl _ w).alloc (Nat.le_refl _) _
  have hs0 : (w.alloc (.cells #[.int .i64 C, .int .i64 D, .int .i64 T] 32)).heap.size = w.heap.size + 1 := by simp
  generalize w.alloc (.cells #[.int .i64 C, .int .i64 D, .int .i64 T] 32) = W0 at *
  have HR0 := HR.out.below hw0 (Nat.le_refl _)
  have bA : Below W0.heap.size W0 W0.drew := (Below.refl _ _).drew
  have bB : Below W0.heap.size W0 (W0.alloc (.cells #[.int .i64 C, .int .i64 D, .int .i64 T] 32)).drew := ((Below.refl _ _).alloc (Nat.le_refl _) _).drew
  have rA := HR0.below bA (Nat.le_refl _)
  have rB := HR0.below bB (Nat.le_refl _)
  have hCA := Lib.hid (hC _ rA).out
  have hCB := Lib.hid (hC _ rB).out
  obtain ⟨x0, x1, x2⟩ := hbx0.out W0 (Below.refl _ _)
  obtain ⟨p0, p1, p2⟩ := hbx0.out _ bB
  have HW0 := Lib.hid hw0
  have heq : (W0.alloc (.cells #[.int .i64 C, .int .i64 D, .int .i64 T] 32)).drew.heap.size = W0.heap.size + 1 := World.size_alloc _ _
  have hle : W0.heap.size ≤ (W0.alloc (.cells #[.int .i64 C, .int .i64 D, .int .i64 T] 32)).drew.heap.size := by rw [heq]; omega
  have hpl : ∀ W4, Below (W0.alloc (.cells #[.int .i64 C, .int .i64 D, .int .i64 T] 32)).drew.heap.size (W0.alloc (.cells #[.int .i64 C, .int .i64 D, .int .i64 T] 32)).drew W4 → ∀ j u, ([.int .i64 C, .int .i64 D, .int .i64 T] : List Value)[j]? = some u → W4.cell? ((⟨W0.heap.size, 0, none⟩ : Addr).add j) = some u := fun W4 h => by
    rw [heq] at h
    exact cells3_pl _ _ _ _ ((Below.refl _ _).drew.trans h)
  have HPL := Lib.hid hpl
  clear hC rA rB HR0 hw0 hpl
  generalize hbw : w.heap.size = b at *
  have hbz : b ≤ W0.heap.size := by omega
  clear hs0
  go_region_held3 (fun w' => w'.cell? ⟨b, 0, none⟩ = some (.int .i64 C) ∧ w'.cell? ⟨b, 1, none⟩ = some (.int .i64 D) ∧ w'.cell? ⟨b, 2, none⟩ = some (.int .i64 T))
    (first | with_reducible exact ⟨x0, x1, x2⟩ | with_reducible exact ⟨p0, p1, p2⟩ | with_reducible exact ⟨y0, y1, y2⟩ | with_reducible exact yy _ | with_reducible exact ⟨z0, z1, z2⟩ | with_reducible exact ⟨t0, t1, t2⟩ | exact ⟨x0, x1, x2⟩)
    (first
      | (go_at_call 27; with_reducible refine hCA.out.mono ?_; rintro e W3 ⟨v3, rfl, ho3, hb3⟩; have hb3' : Below W0.heap.size W0 W3 := bA.trans (hb3.mono (show W0.heap.size ≤ W0.drew.heap.size from Nat.le_refl _)); obtain ⟨y0, y1, y2⟩ := hbx0.out W3 hb3'; have yy := fun o => hbx0.out (W3.alloc o) (hb3'.alloc hb3'.size o))
      | (go_at_call 27; with_reducible refine hCB.out.mono ?_; rintro e W4 ⟨v4, rfl, ho4, hb4⟩; have hb4' : Below W0.heap.size W0 W4 := bB.trans (hb4.mono hle); obtain ⟨y0, y1, y2⟩ := hbx0.out W4 hb4')
      | (refine Row0.step_append_sl (by rfl) (.tmp 8) (.tmp 10) 25 (by rfl) W0.heap.size 32 i0 (.agg #[.int .i64 0, .int .i64 0, .int .i64 0]) 3 24 Try.underlying25 hi0 hz0 hz1 hz2 rfl (by decide) v3 n _ (by rfl) (World.ownsRow.alloc (own_base ho3 (Nat.le_refl _)) _) (some ⟨W3.heap.size, 0, none⟩) 1 1 [.int .i64 C, .int .i64 D, .int .i64 T] (by rfl) (fun e => by cases e) rfl (fun a e => by cases e; exact cells3_pl _ _ _ _ (by rw [← World.size_alloc W3 (.cells #[.int .i64 C, .int .i64 D, .int .i64 T] 32)]; exact Below.refl _ _)) (by simp [Value.oneCell']) (by unfold maxLen; omega) (by omega) (by have := hb3'.size; simp; omega) ?_; intro v5 W5 ho5 hg5; have hk5 := fun j (e : v3.ownBlock = some j) => (ho3.lt j e).1; have hb5 : Below W0.heap.size W0 W5 := (hb3'.alloc hb3'.size (.cells #[.int .i64 C, .int .i64 D, .int .i64 T] 32)).grown hg5 (by have := hb3'.size; simp; omega) (fun j e => hk5 j e); obtain ⟨z0, z1, z2⟩ := hbx0.out W5 hb5; rw [hsn.out] at ho5; obtain ⟨A5, c5, rfl, rd5, _, _, _, _⟩ := own_rdD ho5 (by omega); have rk5 := HQ.out.below (HW0.out.trans (hb5.mono (by omega))) (by omega))
      | (refine Row0.step_append_sl (by rfl) (.tmp 8) (.tmp 10) 25 (by rfl) W0.heap.size 32 i0 (.agg #[.int .i64 0, .int .i64 0, .int .i64 0]) 3 24 Try.underlying25 hi0 hz0 hz1 hz2 rfl (by decide) v4 n _ (by rfl) (own_base ho4 hle) (some ⟨W0.heap.size, 0, none⟩) 1 1 [.int .i64 C, .int .i64 D, .int .i64 T] (by rfl) (fun e => by cases e) rfl (fun a e => by cases e; exact HPL.out W4 hb4) (by simp [Value.oneCell']) (by unfold maxLen; omega) (by omega) (by have := hb4'.size; omega) ?_; intro v5 W5 ho5 hg5; have hk5 := fun j (e : v4.ownBlock = some j) => (own_base ho4 hle).lt j e; have hb5 : Below W0.heap.size W0 W5 := hb4'.grown hg5 hb4'.size (fun j e => (hk5 j e).1); obtain ⟨z0, z1, z2⟩ := hbx0.out W5 hb5; rw [hsn.out] at ho5; obtain ⟨A5, c5, rfl, rd5, _, _, _, _⟩ := own_rdD ho5 (by omega); have rk5 := HQ.out.below (HW0.out.trans (hb5.mono (by omega))) (by omega))
      | (go_at_call 11; refine (hT A5 c5 _ rd5 rk5).out.mono ?_; rintro e W6 ⟨rfl, hb6⟩; obtain ⟨t0, t1, t2⟩ := hbx0.out W6 (hb5.trans (hb6.mono hb5.size))))
  all_goals
    have HBZ : Hid (Below b w W6) := HW0.out.trans ((hb5.trans (hb6.mono hb5.size)).mono (by omega))
    clear hb6 rk5 rd5
    go_wp2
    go_ret
    exact ⟨rfl, by rw [hbw]; exact HBZ.out⟩
end Go.Proofs.Ytajkckjpfbkpmaa.Dem
