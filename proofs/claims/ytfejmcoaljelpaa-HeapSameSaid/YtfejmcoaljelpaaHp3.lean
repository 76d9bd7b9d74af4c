/-
  A heap: swap.
-/
import Derived.Test.YtfejmcoaljelpaaHp2
namespace Go.Proofs.Ytfejmcoaljelpaa.Hp
open Go.RowKit Go.Maps Go.Proofs.Ytfejmcoaljelpaa.Box

theorem g_sw_i (l : List (Int × Int)) (i k : Nat) (hi : i < l.length) (hk : k < l.length) : g (sw l i k) i = g l k := by
  rw [g_sw l i k i hi hk]
  by_cases e : i = k
  · rw [if_pos e, e]
  · rw [if_neg e, if_pos rfl]
theorem g_sw_k (l : List (Int × Int)) (i k : Nat) (hi : i < l.length) (hk : k < l.length) : g (sw l i k) k = g l i := by rw [g_sw l i k k hi hk, if_pos rfl]
theorem mem_sw {l : List (Int × Int)} {i k : Nat} (hi : i < l.length) (hk : k < l.length) : ∀ x ∈ sw l i k, x ∈ l := fun _x hx => (sw_perm l i k hi hk).mem_iff.1 hx
theorem chg_turn {w w' : World} {p bm : Nat} {A : Option Addr} (h : w.mapTurned w' bm) : Chg (own3 p bm A) w w' := Chg.grown h.grown fun k e => by cases e; exact .inr (.inl rfl)
set_option maxRecDepth 100000 in
set_option maxHeartbeats 8000000 in
theorem swap_any (w : World) (p bm : Nat) (A : Option Addr) (cap : Nat) (l : List (Int × Int)) (h : Hp w p bm A cap l) (i k : Nat) (hi : i < l.length) (hk : k < l.length) :
    Calls Try.prog 31 #[.pointer (some ⟨p, 0, none⟩), .int .i64 (i : Int), .int .i64 (k : Int)] w fun e w' => e = .returned (.tuple #[]) ∧ Hp w' p bm A cap (sw l i k) ∧ Chg (own3 p bm A) w w' := by
  have hbx := h.bx
  obtain ⟨x0, x1, x2⟩ := bx_three hbx
  obtain ⟨b, rfl, hb, hc⟩ := h.it.cells hi
  obtain ⟨c0, c1, f0, f1⟩ := hc i hi
  obtain ⟨d0, d1, f2, f3⟩ := hc k hk
  have hmx := h.mx
  have hpa : b ≠ p ∧ b ≠ bm := h.pa _ rfl
  have hpb := h.pb
  have wfi := h.wfg hi
  have wfk := h.wfg hk
  obtain ⟨f, hf, hm⟩ := h.mp
  have hit1 := h.it.set2 hi (g l k).1 (g l k).2
  obtain ⟨b', e', _, hc1⟩ := hit1.cells hk
  cases e'
  obtain ⟨d0', d1', f2', f3'⟩ := hc1 k hk
  have hit2 := hit1.set2 hk (g l i).1 (g l i).2
  have hfi : f (g l i).1 = some i := (hf _ _).2 ⟨hi, rfl⟩
  have hfk : f (g l k).1 = some k := (hf _ _).2 ⟨hk, rfl⟩
  have hix := hf.sw hi hk
  have e1 : (i : Int) < (l.length : Int) := by omega
  have e2 : (k : Int) < (l.length : Int) := by omega
  generalize hW1 : (((w.setCell ⟨b, i * 2, none⟩ (.int .i64 (g l k).1)).setCell ⟨b, i * 2 + 1, none⟩ (.int .i64 (g l k).2)).setCell ⟨b, k * 2, none⟩ (.int .i64 (g l i).1)).setCell ⟨b, k * 2 + 1, none⟩ (.int .i64 (g l i).2) = W1 at *
  have hS : own3 p bm (some ⟨b, 0, none⟩) b := .inr (.inr ⟨_, rfl, rfl⟩)
  have hC1 : Chg (own3 p bm (some ⟨b, 0, none⟩)) w W1 := by
    rw [← hW1]
    exact (((Chg.set _ _ hS).trans (Chg.set _ _ hS) fun j h => .inl h).trans (Chg.set _ _ hS) fun j h => .inl h).trans (Chg.set _ _ hS) fun j h => .inl h
  have hit : Its W1 (some ⟨b, 0, none⟩) l.length cap (sw l i k) := hit2
  have hbx1 : W1.heap[p]? = some (.cells #[.func (.func 11) #[] #[], .slice (some ⟨b, 0, none⟩) l.length cap, .map (some bm)] 61 (0, 0)) := by
    rw [← hW1, bx_other _ _ _ _ (by omega), bx_other _ _ _ _ (by omega), bx_other _ _ _ _ (by omega), bx_other _ _ _ _ (by omega)]; exact hbx
  have hm1 : MapI W1 bm l.length f := hm.kept (by rw [← hW1, bx_other _ _ _ _ (by omega), bx_other _ _ _ _ (by omega), bx_other _ _ _ _ (by omega), bx_other _ _ _ _ (by omega)])
  have hIT := Lib.hid hit
  have HC1 := Lib.hid hC1
  have HBX := Lib.hid hbx1
  have HM := Lib.hid hm1
  have HIX := Lib.hid hix
  have HWF : Hid (∀ x ∈ l, (Lit.int .i64 x.1).wf = true ∧ (Lit.int .i64 x.2).wf = true) := h.wf
  clear hit hC1 hbx1 hm1 hix hbx hc hc1 hit1 hit2 hm hf h hS
  have gi := g_sw_i l i k hi hk
  have gk := g_sw_k l i k hi hk
  have hmem : ∀ x ∈ sw l i k, (Lit.int .i64 x.1).wf = true ∧ (Lit.int .i64 x.2).wf = true := fun x hx => HWF.out x (mem_sw hi hk x hx)
  have hlen := sw_len l i k
  have HLEN := Lib.hid hlen
  have HMEM := Lib.hid hmem
  have GI := Lib.hid (congrArg Prod.fst gi)
  have GK := Lib.hid (congrArg Prod.fst gk)
  clear hmem HWF gi gk hlen
  generalize sw l i k = l' at *
  generalize (g l i).1 = xi at *
  generalize (g l i).2 = yi at *
  generalize (g l k).1 = xk at *
  generalize (g l k).2 = yk at *
  obtain ⟨u1, hu1⟩ := cell?_setCell_some (w := w) (p := ⟨b, i * 2, none⟩) (x := .int .i64 xk) (q := ⟨b, k * 2, none⟩) d0
  obtain ⟨u2, hu2⟩ := cell?_setCell_some (w := w) (p := ⟨b, i * 2 + 1, none⟩) (x := .int .i64 yk) (q := ⟨b, k * 2 + 1, none⟩) d1
  go_enter Try.func31, Try.ntmps31
  go_wp2_with fail
  go_region
  try rw [hW1]
  clear x0 x1 x2 c0 c1 d0 d1 f0 f1 f2 f3 d0' d1' f2' f3' hu1 hu2 hW1
  obtain ⟨x0, x1, x2⟩ := bx_three HBX.out
  obtain ⟨_, eb, _, hc⟩ := hIT.out.cells hi
  cases eb
  have ci := (hc i hi).1
  have ck := (hc k hk).1
  rw [GI.out] at ci
  rw [GK.out] at ck
  clear hc
  obtain ⟨w2, hr2, hm2, ht2⟩ := (show MapI W1.drew.drew bm l.length f from HM.out.kept rfl).store wfk.1 i (by simp [Lit.wf, IntKind.min, IntKind.max, IntKind.signed, IntKind.bits]; omega) (by unfold maxLen; omega)
  rw [hfk, Option.isSome_some, if_pos rfl] at hm2
  have hg2 : ∀ j, j ≠ bm → j < W1.heap.size → w2.heap[j]? = W1.heap[j]? := fun j hj hl => ht2.grown.block j hl (fun e => hj (Option.some.inj e))
  have HBX2 : Hid (w2.heap[p]? = some (.cells #[.func (.func 11) #[] #[], .slice (some ⟨b, 0, none⟩) l.length cap, .map (some bm)] 61 (0, 0))) := (hg2 p (by omega) (bx_lt HBX.out)).trans HBX.out
  have hIT2 : Hid (Its w2 (some ⟨b, 0, none⟩) l.length cap l') := hIT.out.kept fun a e hl => by cases e; exact hg2 b hpa.2 hl
  have HC2 : Hid (Chg (own3 p bm (some ⟨b, 0, none⟩)) w w2) := ((HC1.out.trans (Chg.drew (S := own3 p bm (some ⟨b, 0, none⟩)) W1) fun j h => .inl h).trans (Chg.drew (S := own3 p bm (some ⟨b, 0, none⟩)) W1.drew) fun j h => .inl h).trans (chg_turn ht2) fun j h => .inl h
  have HM2 := Lib.hid hm2
  clear hm2 hg2 ht2
  go_wp2_with fail
  go_region
  clear x0 x1 x2 ci hr2 ck
  obtain ⟨x0, x1, x2⟩ := bx_three HBX2.out
  obtain ⟨_, eb, _, hc⟩ := hIT2.out.cells hi
  cases eb
  have ck := (hc k hk).1
  rw [GK.out] at ck
  clear hc
  have hxs : ((updI f xk i) xi).isSome = true := by
    unfold updI
    by_cases e : xi = xk
    · rw [if_pos e]; rfl
    · rw [if_neg e, hfi]; rfl
  obtain ⟨w3, hr3, hm3, ht3⟩ := (show MapI w2.drew bm l.length (updI f xk i) from HM2.out.kept rfl).store wfi.1 k (by simp [Lit.wf, IntKind.min, IntKind.max, IntKind.signed, IntKind.bits]; omega) (by unfold maxLen; omega)
  rw [hxs, if_pos rfl] at hm3
  have hg3 : ∀ j, j ≠ bm → j < w2.heap.size → w3.heap[j]? = w2.heap[j]? := fun j hj hl => ht3.grown.block j hl (fun e => hj (Option.some.inj e))
  have HBX3 : Hid (w3.heap[p]? = some (.cells #[.func (.func 11) #[] #[], .slice (some ⟨b, 0, none⟩) l.length cap, .map (some bm)] 61 (0, 0))) := (hg3 p (by omega) (bx_lt HBX2.out)).trans HBX2.out
  have hIT3 : Hid (Its w3 (some ⟨b, 0, none⟩) l.length cap l') := hIT2.out.kept fun a e hl => by cases e; exact hg3 b hpa.2 hl
  have HC3 : Hid (Chg (own3 p bm (some ⟨b, 0, none⟩)) w w3) := (HC2.out.trans (Chg.drew (S := own3 p bm (some ⟨b, 0, none⟩)) w2) fun j h => .inl h).trans (chg_turn ht3) fun j h => .inl h
  have HM3 := Lib.hid hm3
  have HPA := Lib.hid hpa
  clear hm3 hg3 ht3
  go_wp2_with fail
  go_region
  go_wp2
  go_end0
  have hl' : l'.length = l.length := HLEN.out
  refine ⟨rfl, ⟨by rw [hl']; exact HBX3.out, by rw [hl']; exact hIT3.out, ⟨_, HIX.out, by rw [hl']; exact HM3.out⟩, HMEM.out, hpb, fun a e => by cases e; exact HPA.out, by omega⟩, HC3.out⟩
end Go.Proofs.Ytfejmcoaljelpaa.Hp
