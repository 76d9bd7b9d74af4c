/-
  Package ostinatolaw09: awake.
-/
import Derived.Test.YtdmfdgadhobkpaaBlk6
import Derived.Test.YtdmfdgadhobkpaaBits14
import Derived.Test.YtdmfdgadhobkpaaRef5
namespace Go.Proofs.Ytdmfdgadhobkpaa.Blk
open Go.RowKit Go.Shelf Go.Proofs.Ytdmfdgadhobkpaa.Sys Go.Proofs.Ytdmfdgadhobkpaa.Box Go.Proofs.Ytdmfdgadhobkpaa.Bits

def exT : TaskV := ⟨1, 4, 0, 0, 0, [], [1, 2, 1, 3]⟩
theorem ex_cnt1 : cntU exT (ofN [1, 2, 3]) 1 = 1 := by decide +kernel
theorem ex_cnt2 : cntU exT (ofN [1, 2, 3]) 2 = 1 := by decide +kernel
theorem ex_cnt3 : cntU exT (ofN [1, 2, 3]) 3 = 0 := by decide +kernel
theorem ex_most {m : Nat} {a : Int} (h : MostR exT (ofN [1, 2, 3]) m a 4) : m = 1 ∧ a = 1 := by
  have h1 := h.le 1 (by decide) (by decide)
  rw [ex_cnt1] at h1
  obtain ⟨q1, q2, q3, q4⟩ := h.at1 (by omega)
  have ha : a = 1 ∨ a = 2 ∨ a = 3 := by omega
  rcases ha with rfl | rfl | rfl
  · rw [ex_cnt1] at q3; exact ⟨q3.symm, rfl⟩
  · have := q4 1 (by decide) (by decide); rw [ex_cnt1] at this; rw [ex_cnt2] at q3; omega
  · rw [ex_cnt3] at q3; omega
theorem ex_of1 : bv (iw (ofN [1])) = .agg #[.int .u64 2, .int .u64 0, .int .u64 0, .int .u64 0] := by
  rw [bvl, show ofN [1] 0 = 2 by decide +kernel, show ofN [1] 1 = 0 by decide +kernel, show ofN [1] 2 = 0 by decide +kernel, show ofN [1] 3 = 0 by decide +kernel]; rfl
theorem ex_use : bv (iw (usefulN exT 2)) = .agg #[.int .u64 2, .int .u64 0, .int .u64 0, .int .u64 0] := by
  rw [bvl, show usefulN exT 2 0 = 2 by decide +kernel, show usefulN exT 2 1 = 0 by decide +kernel, show usefulN exT 2 2 = 0 by decide +kernel, show usefulN exT 2 3 = 0 by decide +kernel]; rfl
def exR (b : Nat) : RT := ⟨exT, none, 0, 0, some ⟨b, 0, none⟩, 4, 4⟩
theorem exR_rd {w : World} {b : Nat} (h : Bits.RdI w (some ⟨b, 0, none⟩) 4 [1, 2, 1, 3]) : (exR b).Rd w :=
  ⟨⟨⟨rfl, fun h => absurd h (Nat.lt_irrefl 0)⟩, Nat.le_refl _, Nat.zero_le _, fun _ => ⟨rfl, rfl⟩⟩, ⟨⟨rfl, h.2.2⟩, Nat.le_refl _, (by decide : 4 ≤ 9223372036854775807), fun h => by cases h⟩⟩
theorem ex_may : mayT exT = true := by decide
theorem exM (W : World) (b : Nat) (h : (exR b).Rd W) : Calls Try.prog 16 #[.agg #[.int .i64 1, .int .i64 4, .int .i64 0, .int .i64 0, .int .i64 0, .slice none 0 0, .slice (some ⟨b, 0, none⟩) 4 4], bv (iw (ofN [1, 2, 3]))] W fun e w' => e = .returned (.tuple #[.int .i64 1, .int .i64 1]) ∧ Below W.heap.size W w' :=
  (most_any (exR b) ex_may (ofN [1, 2, 3]) (Ws.ofN _) W h).mono fun e w' hq => by
    obtain ⟨m, a, rfl, hm, hb⟩ := hq
    obtain ⟨rfl, rfl⟩ := ex_most hm
    exact ⟨rfl, hb⟩
theorem exU (W : World) (b : Nat) (h : (exR b).Rd W) : Calls Try.prog 12 #[.agg #[.int .i64 1, .int .i64 4, .int .i64 0, .int .i64 0, .int .i64 0, .slice none 0 0, .slice (some ⟨b, 0, none⟩) 4 4], .int .i64 2] W fun e w' => e = .returned (.agg #[.int .u64 2, .int .u64 0, .int .u64 0, .int .u64 0]) ∧ Below W.heap.size W w' :=
  (useful_any (exR b) 2 (by decide) W h).mono fun e w' hq => ⟨hq.1.trans (congrArg Ending.returned ex_use), hq.2⟩
theorem exO (W : World) (A : Option Addr) (h : Bits.RdI W A 1 [1]) : Calls Try.prog 23 #[.slice A 1 1] W fun e w' => e = .returned (.agg #[.int .u64 2, .int .u64 0, .int .u64 0, .int .u64 0]) ∧ Below W.heap.size W w' :=
  (ofr_n A 1 1 [1] W h).mono fun e w' hq => ⟨hq.1.trans (congrArg Ending.returned ex_of1), hq.2⟩
set_option maxHeartbeats 4000000 in
set_option maxRecDepth 100000 in
theorem awake9_any (w : World) : Calls Try.prog 8 #[] w fun e w' => e = .returned (.bool true) ∧ Below w.heap.size w w' := by
  go_enter Try.func8, Try.ntmps8
  go_wp2_with fail
  have hr := rdI_new w w.heap.size [1, 2, 1, 3] _ 3 4 rfl rfl rfl (by decide)
  have hB0 : Below w.heap.size w (w.alloc (.cells #[.int .i64 1, .int .i64 2, .int .i64 1, .int .i64 3] 3)) := (Below.refl _ w).alloc (Nat.le_refl _) _
  have hB1 : Below w.heap.size w ((w.alloc (.cells #[.int .i64 1, .int .i64 2, .int .i64 1, .int .i64 3] 3)).alloc (.cells #[.int .i64 1, .int .i64 2, .int .i64 3] 3)) := hB0.alloc hB0.size _
  have hR := hr.below ((Below.refl _ _).alloc (Nat.le_refl _) (.cells #[.int .i64 1, .int .i64 2, .int .i64 3] 3)) (Nat.le_refl _)
  have HR := Lib.hid hR
  have HB1 := Lib.hid hB1
  clear hr hB0 hB1 hR
  refine (ofr_n _ 3 3 [1, 2, 3] _ (rdI_new _ _ [1, 2, 3] _ _ 3 (by simp) rfl rfl (by decide))).mono ?_
  rintro e W1 ⟨rfl, hb1⟩
  have HB2 : Hid (Below w.heap.size w W1) := HB1.out.trans (hb1.mono HB1.out.size)
  have HR2 := Lib.hid (HR.out.below hb1 (Nat.le_refl _))
  clear hb1 HR HB1
  go_wp2_with fail
  refine (exM W1 w.heap.size (exR_rd HR2.out)).mono ?_
  rintro e W2 ⟨rfl, hb2⟩
  have HB3 : Hid (Below w.heap.size w W2) := HB2.out.trans (hb2.mono HB2.out.size)
  clear hb2 HR2 HB2
  go_wp2_with fail
  refine (exU _ _ (exR_rd (rdI_new W2 _ [1, 2, 1, 3] _ _ 4 rfl rfl rfl (by decide)))).mono ?_
  rintro e W3 ⟨rfl, hb3⟩
  have HB4 : Hid (Below w.heap.size w W3) := (HB3.out.alloc HB3.out.size _).trans (hb3.mono (by have := HB3.out.size; simp; omega))
  clear hb3 HB3
  go_wp2_with fail
  refine (exO _ _ (rdI_new W3 _ [1] _ _ 1 rfl rfl rfl (by decide))).mono ?_
  rintro e W4 ⟨rfl, hb4⟩
  have HB5 : Hid (Below w.heap.size w W4) := (HB4.out.alloc HB4.out.size _).trans (hb4.mono (by have := HB4.out.size; simp; omega))
  clear hb4 HB4
  go_wp2
  go_ret
  exact ⟨rfl, HB5.out⟩
end Go.Proofs.Ytdmfdgadhobkpaa.Blk
