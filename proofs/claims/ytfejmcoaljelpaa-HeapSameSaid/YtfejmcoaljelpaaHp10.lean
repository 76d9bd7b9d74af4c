/-
  A heap: Keys.
-/
import Derived.Test.YtfejmcoaljelpaaHp9
import Derived.Maps.AppendAt
namespace Go.Proofs.Ytfejmcoaljelpaa.Hp
open Go.RowKit Go.Maps Go.Proofs.Ytfejmcoaljelpaa.Box

theorem int_info : (Try.prog.info? 3).map (fun i => (i.zero, i.size, i.bytes)) = some (some (.int .i64 0), 1, 8) := by kernel_rfl
theorem GH.lt {w : World} {p bm : Nat} {A : Option Addr} {l : List (Int × Int)} (h : GH w p bm A l) : ∀ j, own3 p bm A j → j < w.heap.size := fun j hj => by
  obtain ⟨cap, h1, _, h5⟩ := h
  obtain ⟨f, _, hm⟩ := h1.mp
  rcases hj with e | e | ⟨a, e1, e2⟩
  · rw [e]; exact bx_lt h1.bx
  · rw [e]; exact hm.lt
  · rw [← e2]; exact h5 a e1
theorem HB.turn {B B' : Nat → Prop} {w w' : World} {p bm : Nat} {L : List (Int × Int)} (h : HB B w p bm L) (hs : w.heap.size ≤ w'.heap.size) (hk : ∀ j, ¬ B j → j < w.heap.size → w'.heap[j]? = w.heap[j]?) (hB : ∀ j, B' j → B j ∨ (w.heap.size ≤ j ∧ j < w'.heap.size)) : HB B' w' p bm L := by
  obtain ⟨A, l, h1, h2, h3⟩ := h
  refine ⟨A, l, h1.kept hs (fun j hj hl => hk j (fun hb => (h3 j hb).2 hj) hl), h2, fun j hj => ?_⟩
  rcases hB j hj with e | ⟨e1, e2⟩
  · exact ⟨Nat.lt_of_lt_of_le (h3 j e).1 hs, (h3 j e).2⟩
  · exact ⟨e2, fun ho => by have := h1.lt j ho; omega⟩
theorem own_keptK {w w' : World} {base n : Nat} {v : Value} {e : TypeId} {xs : List Value} (h : w.ownsRow base e 1 v n xs) (hk : ∀ j, v.ownBlock = some j → w'.heap[j]? = w.heap[j]?) : w'.ownsRow base e 1 v n xs :=
  ⟨h.1, h.2.imp id fun ⟨b, cap, cur, e1, hb, hh, r⟩ => ⟨b, cap, cur, e1, hb, (hk b (by rw [e1]; rfl)).trans hh, r⟩⟩
theorem ah_total (x y : Int × Int) (h : x.1 ≠ y.1) (h2 : ahI y x = false) : ahI x y = true := by
  simp [ahI] at h2 ⊢
  omega
theorem take_succ_perm (l : List (Int × Int)) (i : Nat) (hi : i < l.length) : (l.take (i + 1)).Perm (g l i :: l.take i) := by
  have hg : g l i = l[i] := by simp [g, List.getD_eq_getElem?_getD, hi]
  rw [List.take_succ_eq_append_getElem hi, hg]
  exact List.perm_append_comm (l₁ := l.take i) (l₂ := [l[i]])
/-- What has been taken, and what is left. -/
structure Out (l S L : List (Int × Int)) : Prop where
  p : (S ++ L).Perm l
  s : S.Pairwise fun x y => ahI x y = true
  b : ∀ x ∈ S, ∀ y ∈ L, ahI x y = true
theorem Out.step {l S L L' : List (Int × Int)} {x : Int × Int} (h : Out l S L) (hp : L.Perm (x :: L')) (hx : IsMin L x) (hn : (L.map (·.1)).Nodup) : Out l (S ++ [x]) L' := by
  have hmem : ∀ z ∈ L', z ∈ L := fun z hz => hp.mem_iff.2 (List.mem_cons_of_mem _ hz)
  have h2 := (hp.map (·.1)).nodup_iff.1 hn
  rw [List.map_cons, List.nodup_cons] at h2
  refine ⟨?_, ?_, fun y hy z hz => ?_⟩
  · rw [List.append_assoc]
    exact ((List.perm_append_left_iff S).2 hp.symm).trans h.p
  · rw [List.pairwise_append]
    refine ⟨h.s, List.pairwise_singleton _ _, fun a ha b hb => ?_⟩
    rw [List.mem_singleton.1 hb]
    exact h.b a ha x hx.1
  · rcases List.mem_append.1 hy with hy | hy
    · exact h.b y hy z (hmem z hz)
    · rw [List.mem_singleton.1 hy]
      exact ah_total _ _ (fun e => h2.1 (List.mem_map.2 ⟨z, hz, e.symm⟩)) (hx.2 z (hmem z hz))
set_option maxRecDepth 100000 in
set_option maxHeartbeats 8000000 in
theorem keys_b {B : Nat → Prop} {w : World} {p bm : Nat} {L : List (Int × Int)} (h : HB B w p bm L) (hn : L.length + 1 ≤ 4294967296) :
    Calls Try.prog 20 #[.pointer (some ⟨p, 0, none⟩)] w fun e w' =>
      ∃ v S, e = .returned v ∧ w'.ownsRow w.heap.size 3 1 v S.length (S.map fun x => .int .i64 x.1) ∧ Out L S [] ∧ Below w.heap.size w w' := by
  have KL := len_b h
  obtain ⟨A, l, ⟨cap, h1, ho, h5⟩, h2, h3⟩ := h
  have hlen := h2.length_eq
  obtain ⟨x0, x1, x2⟩ := bx_three h1.bx
  have H1 := Lib.hid h1
  have HP := Lib.hid h2
  obtain ⟨n, hn'⟩ : ∃ n, l.length = n := ⟨_, rfl⟩
  have HLn := Lib.hid hn'
  rw [hn'] at x1 hlen
  rw [← hlen] at KL hn
  obtain ⟨j0, hj0, hy0, hy1, hy2⟩ := info_parts int_info
  clear h1 h2 h3 h5 ho hn' hlen
  go_enter Try.func20, Try.ntmps20
  go_wp2_with fail
  refine KL.mono ?_
  rintro e w1 ⟨rfl, rfl⟩
  rcases Nat.eq_zero_or_pos n with hz | hz
  · subst hz
    have hl : l = [] := List.eq_nil_of_length_eq_zero HLn.out
    have HL0 : Hid (L = []) := by rw [hl] at HP; exact HP.out.nil_eq.symm
    clear hl
    go_wp2_with fail
    go_ret
    exact ⟨_, [], rfl, World.ownsRow_nil _ _ _ _, by rw [HL0.out]; exact ⟨List.Perm.refl _, List.Pairwise.nil, fun x hx => (by cases hx)⟩, Below.refl _ _⟩
  · obtain ⟨b, rfl, hbl, hc⟩ := H1.out.it.cells (i := 0) (by rw [HLn.out]; exact hz)
    have HC := Lib.hid hc
    have e0 : ((n : Int) == 0) = false := beq_eq_false_iff_ne.2 (by omega)
    have HND := Lib.hid (nodup_of H1.out)
    clear hc
    go_wp2_with fail
    refine (new_b w).mono ?_
    rintro e W1 ⟨pc, bc, rfl, hh, hb1⟩
    have HH := Lib.hid hh
    have HK : Hid (Kp (fun j => j < w.heap.size) w W1) := Kp.of_below hb1
    have hpl : p < w.heap.size := bx_lt H1.out.bx
    have hbx1 := (hb1.block p hpl).trans H1.out.bx
    rw [HLn.out] at hbx1
    obtain ⟨y0, y1, y2⟩ := bx_three hbx1
    clear hh hb1 hbx1 x0 x1 x2 KL
    go_wp2_with fail
    go_loopg [23] n (fun gg v23 wr => ∃ (i : Nat), i ≤ n ∧ n - i ≤ gg ∧ v23 = .int .i64 (i : Int) ∧ Aside (HB (fun j => j < w.heap.size) wr pc bc (l.take i)) ∧ Aside (Kp (fun j => j < w.heap.size) w wr))
    case atStart => exact ⟨0, by omega, by omega, rfl, HH.out, HK.out⟩
    case round =>
      obtain ⟨i, hi, hgk, rfl, hH, hKp⟩ := hrel
      clear HH HK y0 y1 y2
      by_cases hlt : i < n
      · obtain ⟨c0, c1, _, _⟩ := HC.out i (by rw [HLn.out]; exact hlt)
        have hkb : wr.heap[b]? = w.heap[b]? := hKp.out.block b hbl hbl
        have d0 := (World.cell?_of_block (a := ⟨b, i * 2, none⟩) hkb).trans c0
        have d1 := (World.cell?_of_block (a := ⟨b, i * 2 + 1, none⟩) hkb).trans c1
        have hw := H1.out.wfg (i := i) (by rw [HLn.out]; exact hlt)
        have hnew : (g l i).1 ∉ (l.take i).map (·.1) := fun hm => by
          have hi2 : i < l.length := by rw [HLn.out]; exact hlt
          have h2 := ((take_succ_perm l i hi2).map (·.1)).nodup_iff.1 ((List.Sublist.map _ (List.take_sublist _ _)).nodup HND.out)
          rw [List.map_cons, List.nodup_cons] at h2
          exact h2.1 hm
        have HNEW := Lib.hid hnew
        have HST := Lib.hid (take_succ_perm l i (by rw [HLn.out]; exact hlt))
        have HP5 : Hid (HB (fun j => j < w.heap.size) (wr.alloc (.cells #[.int .i64 (g l i).1, .int .i64 (g l i).2] 65)) pc bc (l.take i)) := hH.out.below ((Below.refl _ wr).alloc (Nat.le_refl _) _)
        have HK5 : Hid (Kp (fun j => j < w.heap.size) w (wr.alloc (.cells #[.int .i64 (g l i).1, .int .i64 (g l i).2] 65))) := hKp.out.trans (Kp.of_below ((Below.refl _ wr).alloc (Nat.le_refl _) _))
        have KP := put_b HP5.out (g l i).1 (g l i).2 hw.1 hw.2 (by rw [List.length_take]; omega)
        have HX : Hid (∀ w', HB (fun j => j < w.heap.size) w' pc bc (((g l i).1, (g l i).2) :: l.take i) → HB (fun j => j < w.heap.size) w' pc bc (l.take (i + 1))) := fun w' h => h.perm HST.out.symm
        clear hnew c0 c1 hw hH hkb
        generalize (g l i).1 = x at *
        generalize (g l i).2 = y at *
        have e1 : (i : Int) < (n : Int) := by omega
        go_wp2_with fail
        refine KP.mono ?_
        rintro e w3 (⟨h, _⟩ | ⟨_, rfl, h3, k3⟩)
        · exact absurd h HNEW.out
        have HH3 := Lib.hid (HX.out _ h3)
        have HK3 := Lib.hid (HK5.out.trans k3)
        clear h3 k3 KP d0 d1
        go_wp2
        go_roundg (n - (i + 1))
        case measure => omega
        case rel => exact ⟨i + 1, by omega, by omega, by go_num, HH3.out, HK3.out⟩
      · have hie : i = n := by omega
        subst hie
        have e1 : ¬ (i : Int) < (i : Int) := by omega
        have hall : l.take i = l := List.take_of_length_le (by rw [HLn.out]; exact Nat.le_refl _)
        have hH' := hH.out
        rw [hall] at hH'
        have HH3 : Hid (HB (fun j => j < w.heap.size ∨ (Value.slice none 0 0).ownBlock = some j) wr pc bc l) := hH'.turn (Nat.le_refl _) (fun _ _ _ => rfl) fun j hj => .inl (hj.elim id fun h => by cases h)
        have HK3 := Lib.hid hKp.out
        clear hH hKp hall hH' hgk hi
        go_wp2_with fail
        go_loopg [6] i (fun gg v6 wr => ∃ (v : Value) (S R : List (Int × Int)), R.length ≤ gg ∧ v6 = v ∧ Aside (wr.ownsRow w.heap.size 3 1 v S.length (S.map fun x => .int .i64 x.1)) ∧ Aside (HB (fun j => j < w.heap.size ∨ v.ownBlock = some j) wr pc bc R) ∧ Aside (Kp (fun j => j < w.heap.size) w wr) ∧ Aside (Out l S R))
        case atStart => exact ⟨_, [], l, by rw [HLn.out]; omega, rfl, World.ownsRow_nil _ _ _ _, HH3.out, HK3.out, List.Perm.refl _, List.Pairwise.nil, fun x hx => (by cases hx)⟩
        case round =>
          obtain ⟨v, S, R, hgk, hv, hO, hH, hKp, hOut⟩ := hrel
          rw [hv]
          clear hv
          clear HH3 HK3
          have KL := len_b hH.out
          have hlR : S.length + R.length = i := by
            have := hOut.out.p.length_eq
            rw [List.length_append, HLn.out] at this
            exact this
          have HHH := Lib.hid hH.out
          go_wp2_with fail
          refine KL.mono ?_
          rintro e w6 ⟨rfl, rfl⟩
          clear KL
          by_cases hR0 : 0 < R.length
          · have hwfR : ∀ x ∈ R, (Lit.int .i64 x.1).wf = true := fun x hx => (H1.out.wf x (hOut.out.p.mem_iff.1 (List.mem_append_right _ hx))).1
            have KT := take_b HHH.out hwfR
            have HND2 := Lib.hid (nodup_b HHH.out)
            have e1 : (0 : Int) < (R.length : Int) := by omega
            clear hwfR hH HHH
            go_wp2_with fail
            refine KT.mono ?_
            rintro e w7 (⟨⟨x, y⟩, R', hp, hx, rfl, h7, k7⟩ | ⟨h, _⟩)
            · have HOU := Lib.hid (hOut.out.step hp hx HND2.out)
              have HO7 : Hid (w7.ownsRow w.heap.size 3 1 v S.length (S.map fun x => .int .i64 x.1)) := own_keptK hO.out fun j hj => k7.block j (.inr hj) (hO.out.lt j hj).2
              have HK7 : Hid (Kp (fun j => j < w.heap.size) w w7) := hKp.out.trans ⟨k7.os, k7.tape, k7.output, k7.size, fun j hj hl => k7.block j (.inl hj) hl⟩
              have HH7 := Lib.hid h7
              have hRl : R'.length + 1 = R.length := hp.length_eq.symm
              have hs7 : w.heap.size ≤ w7.heap.size := HK7.out.size
              have hOa : Hid (∀ o, (w7.alloc o).ownsRow w.heap.size 3 1 v S.length (S.map fun x => .int .i64 x.1)) := fun o => HO7.out.alloc o
              clear KT hp hx h7 k7 hOut hO hKp HND2
              go_wp2_with (at_builtin; refine wpList_append_own_at _ rfl _ _ 41 rfl w.heap.size 3 j0 (.int .i64 0) 1 8 Try.underlying41 hj0 hy0 hy1 hy2 rfl (by decide) v S.length _ rfl (hOa.out _) ⟨w7.heap.size, 0, none⟩ 1 1 [.int .i64 x] rfl rfl (cell_one_new _ _ _) (ints_oneCell .i64 [x]) (by unfold maxLen; omega) (by omega) (by simp; omega) ?_; intro v' w8 hown' hgrow hnil hloc)
              have HO8 : Hid (w8.ownsRow w.heap.size 3 1 v' (S ++ [(x, y)]).length ((S ++ [(x, y)]).map fun x => .int .i64 x.1)) := by
                rw [List.length_append, List.map_append]; exact hown'
              have hH8 := (HH7.out.below ((Below.refl _ w7).alloc (Nat.le_refl _) (.cells #[.int .i64 x] 3))).turn (B' := fun j => j < w.heap.size ∨ v'.ownBlock = some j) hgrow.size (fun j hj hl => hgrow.block j hl (fun e => hj (.inr e.symm))) (fun j hj => by
                rcases hj with hj | hj
                · exact .inl (.inl hj)
                · rcases hloc with e | e
                  · exact .inl (.inr (e ▸ hj))
                  · have hlt := (hown'.lt j hj).2
                    rw [e] at hj
                    exact .inr ⟨by have := Option.some.inj hj; omega, hlt⟩)
              have HH8 := Lib.hid hH8
              have HK8 : Hid (Kp (fun j => j < w.heap.size) w w8) := (HK7.out.trans (Kp.of_below ((Below.refl _ w7).alloc (Nat.le_refl _) (.cells #[.int .i64 x] 3)))).trans ⟨hgrow.os, hgrow.tape, hgrow.output, hgrow.size, fun j hj hl => hgrow.block j hl (fun e => by
                have := (HO7.out.lt j e.symm).1
                omega)⟩
              clear hown' hgrow hnil hloc hH8 hOa
              go_wp2
              go_roundg R'.length
              case measure => omega
              case rel => exact ⟨v', S ++ [(x, y)], R', Nat.le_refl _, rfl, HO8.out, HH8.out, HK8.out, HOU.out⟩
            · rw [h] at hR0; simp at hR0
          · have hRe : R = [] := List.eq_nil_of_length_eq_zero (by omega)
            subst hRe
            have HOO : Hid (Out L S []) := ⟨hOut.out.p.trans HP.out, hOut.out.s, fun x _ y hy => (by cases hy)⟩
            have HE := Lib.hid hO.out
            have HK9 := Lib.hid hKp.out
            clear hO hKp hOut hH HHH
            go_wp2_with fail
            go_ret
            exact ⟨_, S, rfl, HE.out, HOO.out, HK9.out.below (fun j h => h) (Nat.le_refl _)⟩
end Go.Proofs.Ytfejmcoaljelpaa.Hp
