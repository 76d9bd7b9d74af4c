/-
  The statement QpaDouble, walked.
-/
import Derived.Test.YtajkckjpfbkpmaaQpa7
import Derived.Test.YtajkckjpfbkpmaaQpa5
namespace Go.Proofs.Ytajkckjpfbkpmaa.Dem
open Go.RowKit Go.Shelf Go.Proofs.Ytajkckjpfbkpmaa.Ari

theorem room_bd {l : List Dm} (ho : Oks l) {q : List (Int × Int)} (hq : OksB q) {P : Int} (h1 : 1 ≤ P) (h2 : P ≤ 1048575) : 0 ≤ roomV l q P ∧ roomV l q P ≤ 1048576 := by
  unfold roomV
  split
  · rename_i ht
    have hf := test_fine.1 ht
    by_cases he : pts l q P = []
    · rw [he]; exact ⟨Int.le_refl 0, show (0 : Int) ≤ 1048576 by decide⟩
    · have hm := mins_mem (l := (pts l q P).map (leftI l q)) (by simpa using he)
      obtain ⟨t, htm, e⟩ := List.mem_map.1 hm
      rw [← e]
      have h0 := hf.2 t htm
      have ⟨a, b⟩ := (mem_pts ho).1 htm
      have := end_bd hq h1 h2
      have h3 := isDl_pos ho b
      have := (work_bd l ho (show 0 ≤ t by omega) (show t ≤ 4194304 by omega)).1
      have := held_nonneg q t
      unfold leftI at *
      omega
  · exact ⟨Int.le_refl 0, by decide⟩
theorem miss_bd {l : List Dm} (ho : Oks l) {q : List (Int × Int)} (hq : OksB q) {P : Int} (h1 : 1 ≤ P) (h2 : P ≤ 1048575) : 0 ≤ missT l q P ∧ missT l q P ≤ 1048576 := by
  unfold missT
  cases hm : missOf l q P with
  | none => exact ⟨Int.le_refl 0, by decide⟩
  | some t =>
    have ht := List.mem_of_find?_eq_some hm
    have ⟨a, b⟩ := (mem_pts ho).1 ht
    have := end_bd hq h1 h2
    have h3 := isDl_pos ho b
    show 0 ≤ t ∧ t ≤ _
    omega
theorem map_take {α β : Type} [Inhabited α] (f : α → β) (l : List α) (d : α) (i : Nat) (h : i < l.length) : (l.take (i + 1)).map f = (l.take i).map f ++ [f (l.getD i d)] := by
  have e : l.getD i d = l[i] := by rw [List.getD_eq_getElem?_getD, List.getElem?_eq_getElem h]; rfl
  rw [e, List.take_add_one, List.getElem?_eq_getElem h]
  show (l.take i ++ [l[i]]).map f = _
  rw [List.map_append]
  rfl
theorem cells3_new (W : World) (x y z : Value) (T : TypeId) : ∀ j u, ([x, y, z] : List Value)[j]? = some u → (W.alloc (.cells #[x, y, z] T)).drew.cell? ((⟨W.heap.size, 0, none⟩ : Addr).add j) = some u := by
  intro j u hj
  have h : (W.alloc (.cells #[x, y, z] T)).drew.heap[W.heap.size]? = some (.cells #[x, y, z] T (0, 0)) := heap_alloc_new _ _
  rw [Row0.plain_add', Nat.zero_add]
  generalize (W.alloc (.cells #[x, y, z] T)).drew = V at *
  generalize W.heap.size = k at *
  match j, hj with
  | 0, hj => simp at hj; subst hj; simp [World.cell?, h]
  | 1, hj => simp at hj; subst hj; simp [World.cell?, h]
  | 2, hj => simp at hj; subst hj; simp [World.cell?, h]
theorem test_at {W : World} {A : Option Addr} {n : Nat} {l : List Dm} (hr : RdD W A n l) (c : Nat) (ho : Oks l) {P : Int} (hP : Per l P) (hP1 : P ≤ 1048575) {A2 : Option Addr} {m : Nat} {q : List (Int × Int)} (hq : RdK W A2 m q) (c2 : Nat) (hoq : OksB q) : ∀ w, Below W.heap.size W w →
    Hid (Calls Try.prog 11 #[.slice A n c, .slice A2 m c2] w fun e w' => e = .returned (.int .i64 (testI l q P)) ∧ Below w.heap.size w w') :=
  fun w hb => test_any A n c l ho P hP hP1 A2 m c2 q hoq w (hr.below hb (Nat.le_refl _)) (hq.below hb (Nat.le_refl _))
theorem missQ_at {W : World} {A : Option Addr} {n : Nat} {l : List Dm} (hr : RdD W A n l) (c : Nat) (ho : Oks l) {P : Int} (hP : Per l P) (hP1 : P ≤ 1048575) {A2 : Option Addr} {m : Nat} {q : List (Int × Int)} (hq : RdK W A2 m q) (c2 : Nat) (hoq : OksB q) : ∀ w, Below W.heap.size W w →
    Hid (Calls Try.prog 13 #[.slice A n c, .slice A2 m c2] w fun e w' => e = .returned (.tuple #[.int .i64 (missT l q P), .bool (missOf l q P).isSome]) ∧ Below w.heap.size w w') :=
  fun w hb => miss_any A n c l ho P hP hP1 A2 m c2 q hoq w (hr.below hb (Nat.le_refl _)) (hq.below hb (Nat.le_refl _))
theorem room_at {W : World} {A : Option Addr} {n : Nat} {l : List Dm} (hr : RdD W A n l) (c : Nat) (ho : Oks l) {P : Int} (hP : Per l P) (hP1 : P ≤ 1048575) {A2 : Option Addr} {m : Nat} {q : List (Int × Int)} (hq : RdK W A2 m q) (c2 : Nat) (hoq : OksB q) : ∀ w, Below W.heap.size W w →
    Hid (Calls Try.prog 18 #[.slice A n c, .slice A2 m c2] w fun e w' => e = .returned (.tuple #[.int .i64 (roomV l q P), .bool (roomB l q P)]) ∧ Below w.heap.size w w') :=
  fun w hb => room_any A n c l ho P hP hP1 A2 m c2 q hoq w (hr.below hb (Nat.le_refl _)) (hq.below hb (Nat.le_refl _))

set_option maxHeartbeats 16000000 in
set_option maxRecDepth 100000 in
theorem QpaDouble_walk (a0 : Option Addr) (len0 cap0 : Nat) (z0 : List (Int × Int × Int)) (a1 : Option Addr) (len1 cap1 : Nat) (z1 : List (Int × Int)) (W : World) (w0 : Row0.IsTrips .i64 W a0 len0 cap0 z0) (w1 : Row0.IsPairs .i64 .i64 W a1 len1 cap1 z1) :
    Calls Try.prog 7 #[.slice a0 len0 cap0, .slice a1 len1 cap1] W fun e w' => e = .returned (.bool true) ∧ Below W.heap.size W w' := by
  obtain ⟨i0, hi0, hz0, hz1, hz2⟩ := info_parts infoD
  obtain ⟨j0, hj0, hy0, hy1, hy2⟩ := info_parts infoK
  have HP := Lib.hid w0
  have HQ := Lib.hid w1
  clear w0 w1
  go_enter Try.func7, Try.ntmps7
  go_wp2_with fail
  refine (awakeQ_any W).mono ?_
  rintro e W1 ⟨rfl, hb1⟩
  have HB1 := Lib.hid hb1
  clear hb1
  go_wp2_with fail
  have hp1 : Row0.IsTrips .i64 W1 a0 len0 cap0 z0 := HP.out.below HB1.out (Nat.le_refl _)
  refine (madeQ_any a0 len0 cap0 z0 W1 hp1).mono ?_
  rintro e W2 ⟨v1, l, rfl, hsm, hln, hown1, hb2⟩
  have hn1 : min len0 6 ≤ 6 := Nat.min_le_right _ _
  generalize min len0 6 = n at *
  obtain ⟨A, c, rfl, hrd1, _, _, _, _⟩ := own_rdD hown1 (by omega)
  have HR2 := Lib.hid hrd1
  have HB2 : Hid (Below W.heap.size W W2) := HB1.out.trans (hb2.mono HB1.out.size)
  clear hown1 hb2 hp1 HB1 HP hrd1
  go_wp2_with fail
  have hp2 : Row0.IsPairs .i64 .i64 W2 a1 len1 cap1 z1 := pairs_below HQ.out HB2.out (Nat.le_refl _)
  refine (held_any a1 len1 cap1 z1 W2 hp2).mono ?_
  rintro e W3 ⟨v2, q, rfl, hsq, hlq, hown2, hb3⟩
  have hn2 : min len1 6 ≤ 6 := Nat.min_le_right _ _
  generalize min len1 6 = m at *
  obtain ⟨A2, c2, rfl, hrk, _, _, _, _⟩ := own_rdK hown2 (by omega)
  have HB3 : Hid (Below W.heap.size W W3) := HB2.out.trans (hb3.mono HB2.out.size)
  have HR3 := Lib.hid (HR2.out.below hb3 (Nat.le_refl _))
  have HK3 := Lib.hid hrk
  have HS := Lib.hid hsm
  have HSQ := Lib.hid hsq
  clear hown2 hb3 hp2 HB2 HQ hrk hsm hsq HR2
  go_wp2_with fail
  go_loopg [8, 10] n (fun gg xv iv wr => ∃ kk : Nat, kk ≤ n ∧ n - kk ≤ gg ∧ iv = .int .i64 (kk : Int) ∧ Aside (wr.ownsRow W3.heap.size 32 3 xv kk (flat3 ((l.take kk).map dbl))) ∧ Aside (Below W3.heap.size W3 wr))
  case atStart => exact ⟨0, Nat.zero_le _, by omega, rfl, World.ownsRow_nil _ _ _ _, Below.refl _ _⟩
  case round =>
    obtain ⟨kk, hkk, hg, rfl, hown, BW⟩ := hrel
    by_cases hlt : kk < n
    · have hltz : (kk : Int) < (n : Int) := by omega
      obtain ⟨b, o, rfl, hc0⟩ := HR3.out.2.2 (by omega)
      have hbW : b < W3.heap.size := World.block_lt_of_cell? _ _ (hc0 kk hlt).1
      obtain ⟨b', o', e', hc⟩ := (HR3.out.below BW.out (Nat.le_refl _)).2.2 (by omega)
      injection e' with e'
      obtain ⟨rfl, rfl⟩ : b = b' ∧ o = o' := by injection e' with e1 e2 _; exact ⟨e1, e2⟩
      obtain ⟨c0, c1, c2'⟩ := hc kk hlt
      clear hc hc0 e'
      have ht := Lib.hid (map_take dbl l default kk (by omega))
      have hx := HS.out (l.getD kk default) (by rw [List.getD_eq_getElem?_getD, List.getElem?_eq_getElem (show kk < l.length by omega)]; exact List.getElem_mem _)
      have hxo := ok_bd hx.ok
      unfold dbl at ht
      generalize l.getD kk default = x at *
      obtain ⟨p0, p1, p2, p3, p4, p5, p6⟩ := hxo
      clear hx
      generalize x.c = C at *
      generalize x.d = D at *
      generalize x.t = T at *
      have e1 : IntKind.i64.wrap (2 * C) = 2 * C := by rw [IntKind.wrap_i64]; omega
      have e2 : IntKind.i64.wrap (2 * D) = 2 * D := by rw [IntKind.wrap_i64]; omega
      have e3 : IntKind.i64.wrap (2 * T) = 2 * T := by rw [IntKind.wrap_i64]; omega
      have q1 : (0 : Int) ≤ (kk : Int) := by omega
      have hsz : W3.heap.size ≤ wr.heap.size := BW.out.size
      have HC3 : Hid (∀ j u, ([.int .i64 (2 * C), .int .i64 (2 * D), .int .i64 (2 * T)] : List Value)[j]? = some u → (wr.alloc (.cells #[.int .i64 (2 * C), .int .i64 (2 * D), .int .i64 (2 * T)] 32)).drew.cell? ((⟨wr.heap.size, 0, none⟩ : Addr).add j) = some u) := fun j u hj => cells3_new wr _ _ _ _ j u hj
      have hob : ∀ j, u8.ownBlock = some j → W3.heap.size ≤ j := fun j e => (hown.out.lt j e).1
      have yy : ∀ o', (wr.alloc o').drew.cell? ⟨b, o + kk * 3, none⟩ = some (.int .i64 C) ∧ (wr.alloc o').drew.cell? ⟨b, o + kk * 3 + 1, none⟩ = some (.int .i64 D) ∧ (wr.alloc o').drew.cell? ⟨b, o + kk * 3 + 2, none⟩ = some (.int .i64 T) := fun o' =>
        ⟨(World.cell?_of_block (a := ⟨b, o + kk * 3, none⟩) (Below.heap_alloc wr o' b (by omega))).trans c0, (World.cell?_of_block (a := ⟨b, o + kk * 3 + 1, none⟩) (Below.heap_alloc wr o' b (by omega))).trans c1, (World.cell?_of_block (a := ⟨b, o + kk * 3 + 2, none⟩) (Below.heap_alloc wr o' b (by omega))).trans c2'⟩
      have hO3 : ∀ o, Hid ((wr.alloc o).drew.ownsRow W3.heap.size 32 3 u8 kk (flat3 ((l.take kk).map fun x => (⟨2 * x.c, 2 * x.d, 2 * x.t⟩ : Dm)))) := fun o => own_belowD (hown.out.alloc o) (Below.refl _ _).drew
      go_wp2_with fail
      go_region_held3 (fun w' => w'.cell? ⟨b, o + kk * 3, none⟩ = some (.int .i64 C) ∧ w'.cell? ⟨b, o + kk * 3 + 1, none⟩ = some (.int .i64 D) ∧ w'.cell? ⟨b, o + kk * 3 + 2, none⟩ = some (.int .i64 T))
        (first | with_reducible exact ⟨c0, c1, c2'⟩ | with_reducible exact yy _ | with_reducible exact ⟨y0, y1, y2⟩ | exact ⟨c0, c1, c2'⟩)
        (first
          | (refine Row0.step_append_sl (by rfl) (.tmp 31) (.tmp 51) 25 (by rfl) W3.heap.size 32 i0 (.agg #[.int .i64 0, .int .i64 0, .int .i64 0]) 3 24 Try.underlying25 hi0 hz0 hz1 hz2 rfl (by decide) _ kk _ (by rfl) (hO3 _).out (some ⟨wr.heap.size, 0, none⟩) 1 1 [.int .i64 (2 * C), .int .i64 (2 * D), .int .i64 (2 * T)] (by rfl) (fun e => by cases e) rfl (fun a e => by cases e; exact HC3.out) (by simp [Value.oneCell']) (by unfold maxLen; omega) (by omega) (by simp; omega) ?_; intro v' w4 hown' hgrow; have hz9 := hgrow.block b (by simp; omega) (fun e => by have := hob b e.symm; omega); have y0 := (World.cell?_of_block (a := ⟨b, o + kk * 3, none⟩) hz9).trans (yy _).1; have y1 := (World.cell?_of_block (a := ⟨b, o + kk * 3 + 1, none⟩) hz9).trans (yy _).2.1; have y2 := (World.cell?_of_block (a := ⟨b, o + kk * 3 + 2, none⟩) hz9).trans (yy _).2.2))
      have hO4 : Aside (w4.ownsRow W3.heap.size 32 3 v' (kk + 1) (flat3 ((l.take (kk + 1)).map dbl))) := by
        have : (l.take (kk + 1)).map dbl = (l.take kk).map (fun x => (⟨2 * x.c, 2 * x.d, 2 * x.t⟩ : Dm)) ++ [⟨2 * C, 2 * D, 2 * T⟩] := ht.out
        rw [this, flat3_snoc]
        exact hown'
      have hB4 : Aside (Below W3.heap.size W3 w4) := ((BW.out.alloc BW.out.size _).drew).grown hgrow (by simp; omega) (fun j e => hob j e)
      clear hown' hgrow hown BW y0 y1 y2 yy hO3 HC3 hz9 c0 c1 c2' hob
      go_wp2
      go_roundg (n - (kk + 1))
      case measure => omega
      case rel => exact ⟨kk + 1, by omega, by omega, by go_num, hO4.out, hB4.out⟩
    · have hltz : ¬ (kk : Int) < (n : Int) := by omega
      obtain rfl : kk = n := by omega
      have hq : l.take kk = l := List.take_of_length_le (by omega)
      have hownX := hown.out
      rw [hq] at hownX
      have HX := Lib.hid hownX
      have HBX : Hid (Below W3.heap.size W3 wr) := BW.out
      clear hown BW hq hownX
      generalize wr = W5 at *
      go_wp2_with fail
      go_loopg [9, 11] m (fun gg yv iv wr => ∃ kk : Nat, kk ≤ m ∧ m - kk ≤ gg ∧ iv = .int .i64 (kk : Int) ∧ Aside (wr.ownsRow W5.heap.size 50 2 yv kk (flat2 ((q.take kk).map dblB))) ∧ Aside (Below W5.heap.size W5 wr))
      case atStart => exact ⟨0, Nat.zero_le _, by omega, rfl, World.ownsRow_nil _ _ _ _, Below.refl _ _⟩
      case round =>
        obtain ⟨kk2, hkk2, hg2, rfl, hown, BW⟩ := hrel
        by_cases hlt2 : kk2 < m
        · have hltz2 : (kk2 : Int) < (m : Int) := by omega
          have HK5 := HK3.out.below HBX.out (Nat.le_refl _)
          obtain ⟨b, o, rfl, hc0⟩ := HK5.2.2 (by omega)
          have hbW : b < W5.heap.size := World.block_lt_of_cell? _ _ (hc0 kk2 hlt2).1
          obtain ⟨b', o', e', hc⟩ := (HK5.below BW.out (Nat.le_refl _)).2.2 (by omega)
          injection e' with e'
          obtain ⟨rfl, rfl⟩ : b = b' ∧ o = o' := by injection e' with e1 e2 _; exact ⟨e1, e2⟩
          obtain ⟨c0, c1⟩ := hc kk2 hlt2
          have ht := Lib.hid (map_take dblB q (0, 0) kk2 (by rw [HK5.1]; exact hlt2))
          have hx := HSQ.out (q.getD kk2 (0, 0)) (by rw [List.getD_eq_getElem?_getD, List.getElem?_eq_getElem (show kk2 < q.length by rw [HK5.1]; exact hlt2)]; exact List.getElem_mem _)
          clear hc hc0 e' HK5
          obtain ⟨p0, p1, p2, p3⟩ := hx
          unfold dblB at ht
          generalize (q.getD kk2 (0, 0)).1 = D at *
          generalize (q.getD kk2 (0, 0)).2 = X at *
          have e1 : IntKind.i64.wrap (2 * D) = 2 * D := by rw [IntKind.wrap_i64]; omega
          have e2 : IntKind.i64.wrap (2 * X) = 2 * X := by rw [IntKind.wrap_i64]; omega
          have q1 : (0 : Int) ≤ (kk2 : Int) := by omega
          have hsz : W5.heap.size ≤ wr.heap.size := BW.out.size
          have HC3 : Hid (∀ j u, ([.int .i64 (2 * D), .int .i64 (2 * X)] : List Value)[j]? = some u → (wr.alloc (.cells #[.int .i64 (2 * D), .int .i64 (2 * X)] 50)).drew.cell? ((⟨wr.heap.size, 0, none⟩ : Addr).add j) = some u) := fun j u hj => cells2_new wr _ _ _ j u hj
          have hob : ∀ j, u9.ownBlock = some j → W5.heap.size ≤ j := fun j e => (hown.out.lt j e).1
          have yy : ∀ o', (wr.alloc o').drew.cell? ⟨b, o + kk2 * 2, none⟩ = some (.int .i64 D) ∧ (wr.alloc o').drew.cell? ⟨b, o + kk2 * 2 + 1, none⟩ = some (.int .i64 X) := fun o' =>
            ⟨(World.cell?_of_block (a := ⟨b, o + kk2 * 2, none⟩) (Below.heap_alloc wr o' b (by omega))).trans c0, (World.cell?_of_block (a := ⟨b, o + kk2 * 2 + 1, none⟩) (Below.heap_alloc wr o' b (by omega))).trans c1⟩
          have hO3 : ∀ o, Hid ((wr.alloc o).drew.ownsRow W5.heap.size 50 2 u9 kk2 (flat2 ((q.take kk2).map fun p => (2 * p.1, 2 * p.2)))) := fun o => own_belowD (hown.out.alloc o) (Below.refl _ _).drew
          go_wp2_with fail
          go_region_held3 (fun w' => w'.cell? ⟨b, o + kk2 * 2, none⟩ = some (.int .i64 D) ∧ w'.cell? ⟨b, o + kk2 * 2 + 1, none⟩ = some (.int .i64 X))
            (first | with_reducible exact ⟨c0, c1⟩ | with_reducible exact yy _ | with_reducible exact ⟨y0, y1⟩ | exact ⟨c0, c1⟩)
            (first
              | (refine Row0.step_append_sl (by rfl) (.tmp 59) (.tmp 73) 27 (by rfl) W5.heap.size 50 j0 (.agg #[.int .i64 0, .int .i64 0]) 2 16 Try.underlying27 hj0 hy0 hy1 hy2 rfl (by decide) _ kk2 _ (by rfl) (hO3 _).out (some ⟨wr.heap.size, 0, none⟩) 1 1 [.int .i64 (2 * D), .int .i64 (2 * X)] (by rfl) (fun e => by cases e) rfl (fun a e => by cases e; exact HC3.out) (by simp [Value.oneCell']) (by unfold maxLen; omega) (by omega) (by simp; omega) ?_; intro v' w4 hown' hgrow; have hz9 := hgrow.block b (by simp; omega) (fun e => by have := hob b e.symm; omega); have y0 := (World.cell?_of_block (a := ⟨b, o + kk2 * 2, none⟩) hz9).trans (yy _).1; have y1 := (World.cell?_of_block (a := ⟨b, o + kk2 * 2 + 1, none⟩) hz9).trans (yy _).2))
          have hO4 : Aside (w4.ownsRow W5.heap.size 50 2 v' (kk2 + 1) (flat2 ((q.take (kk2 + 1)).map dblB))) := by
            have : (q.take (kk2 + 1)).map dblB = (q.take kk2).map (fun p => (2 * p.1, 2 * p.2)) ++ [(2 * D, 2 * X)] := ht.out
            rw [this, flat2_snoc]
            exact hown'
          have hB4 : Aside (Below W5.heap.size W5 w4) := ((BW.out.alloc BW.out.size _).drew).grown hgrow (by simp; omega) (fun j e => hob j e)
          clear hown' hgrow hown BW y0 y1 yy hO3 HC3 hz9 c0 c1 hob
          go_wp2
          go_roundg (m - (kk2 + 1))
          case measure => omega
          case rel => exact ⟨kk2 + 1, by omega, by omega, by go_num, hO4.out, hB4.out⟩
        · have hltz2 : ¬ (kk2 : Int) < (m : Int) := by omega
          obtain rfl : kk2 = m := by omega
          have hq2 : q.take kk2 = q := List.take_of_length_le (by rw [HK3.out.1]; omega)
          have hownY := hown.out
          rw [hq2] at hownY
          have hX2 := own_belowD HX.out BW.out
          obtain ⟨AX, cX, rfl, rdX, _, _, _, _⟩ := own_rdD hX2 (by omega)
          obtain ⟨AY, cY, rfl, rdY, _, _, _, _⟩ := own_rdK hownY (by omega)
          have HB6 : Hid (Below W3.heap.size W3 wr) := HBX.out.trans (BW.out.mono HBX.out.size)
          have HR6 := HR3.out.below HB6.out (Nat.le_refl _)
          have HK6 := HK3.out.below HB6.out (Nat.le_refl _)
          have HBW : Hid (Below W.heap.size W wr) := HB3.out.trans (HB6.out.mono HB3.out.size)
          obtain ⟨P, P2, hP, hP2, hl1, hl2, et, er, eb, em, es⟩ := dbl_all HS.out (q := q)
          have ho := HS.out.oks
          have hoq := HSQ.out.oks
          have rb := room_bd ho hoq hP.pos hl1
          have mb := miss_bd ho hoq hP.pos hl1
          have hR1 := room_at HR6 c ho hP hl1 HK6 c2 hoq
          have hR2 := room_at rdX cX (dbl_oks HS.out) hP2 hl2 rdY cY (dbl_oksB HSQ.out)
          have hM1 := missQ_at HR6 c ho hP hl1 HK6 c2 hoq
          have hM2 := missQ_at rdX cX (dbl_oks HS.out) hP2 hl2 rdY cY (dbl_oksB HSQ.out)
          have hT1 := test_at HR6 c ho hP hl1 HK6 c2 hoq
          have hT2 := test_at rdX cX (dbl_oks HS.out) hP2 hl2 rdY cY (dbl_oksB HSQ.out)
          simp only [er, eb] at hR2
          simp only [em, es] at hM2
          simp only [et] at hT2
          generalize roomV l q P = V at *
          generalize roomB l q P = Y at *
          generalize missT l q P = Z at *
          generalize (missOf l q P).isSome = U at *
          generalize testI l q P = E at *
          have ev : IntKind.i64.wrap (2 * V) = 2 * V := by rw [IntKind.wrap_i64]; omega
          have ez : IntKind.i64.wrap (2 * Z) = 2 * Z := by rw [IntKind.wrap_i64]; omega
          have Hb0 : Hid (Below wr.heap.size wr wr) := Below.refl _ _
          clear hown BW hownY hX2 rdX rdY HR6 HK6 HX HBX HB6 HR3 HK3 HS HSQ HB3 hP hP2 ho hoq rb mb et er eb em es hq2
          go_wp2_with fail
          refine (hR1 _ Hb0.out).out.mono ?_
          rintro e V1 ⟨rfl, hb⟩
          have Hb1 : Hid (Below wr.heap.size wr V1) := hb
          clear hb Hb0 hR1
          go_wp2_with fail
          refine (hR2 _ Hb1.out).out.mono ?_
          rintro e V2 ⟨rfl, hb⟩
          have Hb2 : Hid (Below wr.heap.size wr V2) := Hb1.out.trans (hb.mono Hb1.out.size)
          clear hb Hb1 hR2
          go_wp2_with fail
          refine (hM1 _ Hb2.out).out.mono ?_
          rintro e V3 ⟨rfl, hb⟩
          have Hb3 : Hid (Below wr.heap.size wr V3) := Hb2.out.trans (hb.mono Hb2.out.size)
          clear hb Hb2 hM1
          go_wp2_with fail
          refine (hM2 _ Hb3.out).out.mono ?_
          rintro e V4 ⟨rfl, hb⟩
          have Hb4 : Hid (Below wr.heap.size wr V4) := Hb3.out.trans (hb.mono Hb3.out.size)
          clear hb Hb3 hM2
          go_wp2_with fail
          refine (hT1 _ Hb4.out).out.mono ?_
          rintro e V5 ⟨rfl, hb⟩
          have Hb5 : Hid (Below wr.heap.size wr V5) := Hb4.out.trans (hb.mono Hb4.out.size)
          clear hb Hb4 hT1
          go_wp2_with fail
          refine (hT2 _ Hb5.out).out.mono ?_
          rintro e V6 ⟨rfl, hb⟩
          have HBZ : Hid (Below W.heap.size W V6) := HBW.out.trans ((Hb5.out.trans (hb.mono Hb5.out.size)).mono HBW.out.size)
          clear hb Hb5 hT2 HBW
          go_wp2
          go_ret
          exact ⟨rfl, HBZ.out⟩
end Go.Proofs.Ytajkckjpfbkpmaa.Dem
