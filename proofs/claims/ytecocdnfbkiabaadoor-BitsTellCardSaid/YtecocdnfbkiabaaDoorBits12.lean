/-
  Package bits: the iterator over a set's numbers.
-/
import Derived.Test.YtecocdnfbkiabaaDoorBits11
import Derived.RangeFuncBox
import Derived.RangeFuncNested
import Derived.RangeFuncBound
import Derived.RangeFuncCalls
import Derived.RangeFuncLeaves
import Derived.Shelf.Abstract
import Derived.Shelf.RegionOpen
import Derived.OwnWalkIn
import Derived.TacticsInMore
import Derived.LoopNIn
import Derived.LoopIn
import Derived.Maps.AppendAt
namespace Go.Proofs.YtecocdnfbkiabaaDoor.Bits
open Go.RowKit Go.Shelf
attribute [local go_sem] Oper.semAt_some

def cast (l : List Nat) : List Int := l.map fun (i : Nat) => (i : Int)
theorem cast_append (a b : List Nat) : cast (a ++ b) = cast a ++ cast b := by simp [cast]
theorem cast_cons (a : Nat) (b : List Nat) : cast (a :: b) = (a : Int) :: cast b := rfl
theorem clear_u64 (x : Nat) (hx : x < 18446744073709551616) (h0 : x ≠ 0) : Go.bits .and .u64 (x : Int) ((x : Int) - 1) = ((x &&& (x - 1) : Nat) : Int) := by
  have := and_u64 x (x - 1) hx (by omega)
  rwa [show ((x - 1 : Nat) : Int) = (x : Int) - 1 by omega] at this

set_option maxRecDepth 100000 in
set_option maxHeartbeats 4000000 in
theorem allLit_in (n : Nat) (hn : 1 ≤ n) (l Bn n₀ : Nat) (A : Nat → Nat) (hA : Ws A) (J Jx : List Int → World → Prop)
    (hY : ∀ pre x W, J pre W → pre.length < 256 → YieldAt Fence.wide (n - 1) Tryd.prog l #[.int .i64 x] W fun e W' =>
      (e = .returned (.bool true) ∧ J (pre ++ [x]) W' ∧ Below n₀ W W') ∨ (e = .returned (.bool false) ∧ Jx (pre ++ [x]) W'))
    (W : World) (hBn : W.heap[Bn]? = some (.cells (rowc (iw A)) 27 (0, 0))) (hT : TabAt 0 Lib.deBruijn64tab W) (hg : 0 < n₀) (h0 : J [] W) :
    CallsIn Fence.wide n Tryd.prog 33 #[.func (.yield l) #[] #[], .pointer (some ⟨Bn, 0, none⟩)] W fun e W' => (∃ v, e = .returned v) ∧
      ((∃ ys, ys = cast (listN A) ∧ J ys W') ∨ (∃ pre, pre <+: cast (listN A) ∧ Jx pre W')) := by
  have b0 := cell_row hBn 0 (by decide)
  have b1 := cell_row hBn 1 (by decide)
  have b2 := cell_row hBn 2 (by decide)
  have b3 := cell_row hBn 3 (by decide)
  have HT : Hid _ := hT
  have H0 : Hid _ := h0
  have HY : Hid _ := hY
  have HL : Hid (cast (listN A) = cast (rests A 4 0)) := by rw [RowKit.Hid, listN_rests]
  clear hT h0 hBn hY
  unfold iw at b0 b1 b2 b3
  have i0 : ∀ w, (Instr.index 27 (.agg #[.int .u64 (A 0 : Int), .int .u64 (A 1 : Int), .int .u64 (A 2 : Int), .int .u64 (A 3 : Int)]) (.int .i64 0)).run Tryd.prog w = .ok (.int .u64 (A 0 : Int)) w := fun _ => by kernel_rfl
  have i1 : ∀ w, (Instr.index 27 (.agg #[.int .u64 (A 0 : Int), .int .u64 (A 1 : Int), .int .u64 (A 2 : Int), .int .u64 (A 3 : Int)]) (.int .i64 1)).run Tryd.prog w = .ok (.int .u64 (A 1 : Int)) w := fun _ => by kernel_rfl
  have i2 : ∀ w, (Instr.index 27 (.agg #[.int .u64 (A 0 : Int), .int .u64 (A 1 : Int), .int .u64 (A 2 : Int), .int .u64 (A 3 : Int)]) (.int .i64 2)).run Tryd.prog w = .ok (.int .u64 (A 2 : Int)) w := fun _ => by kernel_rfl
  have i3 : ∀ w, (Instr.index 27 (.agg #[.int .u64 (A 0 : Int), .int .u64 (A 1 : Int), .int .u64 (A 2 : Int), .int .u64 (A 3 : Int)]) (.int .i64 3)).run Tryd.prog w = .ok (.int .u64 (A 3 : Int)) w := fun _ => by kernel_rfl
  refine callsIn_of_wp Tryd.func33 rfl trivial ?_ rfl
  simp only [Tryd.ntmps33, List.size_toArray, List.length_cons, List.length_nil, Nat.reduceAdd, Nat.reduceSub, Array.replicate_succ, Array.replicate_zero, List.push_toArray, List.append_toArray, List.nil_append, List.cons_append]
  gi_wp2
  gi_loopw [6] (fun iv wr => ∃ k : Nat, k ≤ 4 ∧ iv = .int .i64 (k : Int) ∧ ∃ pre, Aside (cast (listN A) = pre ++ cast (rests A (4 - k) k)) ∧ Aside (J pre wr) ∧ Aside (TabAt 0 Lib.deBruijn64tab wr)) (fun iv _ => 4 - (intOf iv).toNat)
  case atStart => exact ⟨0, Nat.zero_le _, rfl, [], HL.out, H0.out, HT.out⟩
  case round =>
    obtain ⟨k, hk4, rfl, pre, hx, hJ, hTt⟩ := hrel
    by_cases hlt : k < 4
    · obtain rfl | rfl | rfl | rfl : k = 0 ∨ k = 1 ∨ k = 2 ∨ k = 3 := by omega
      · have hx' : Hid (cast (listN A) = pre ++ (cast (segw 0 (A 0)) ++ cast (rests A 3 1))) := by rw [RowKit.Hid, hx.out]; simp [rests, cast]
        clear hx
        rw [show ((0 : Nat) : Int) = 0 from rfl]
        gi_wp2
        gi_loopw [4] (fun wv wr => ∃ x : Nat, wv = .int .u64 (x : Int) ∧ x < 18446744073709551616 ∧ ∃ pre, Aside (cast (listN A) = pre ++ (cast (segw 0 x) ++ cast (rests A 3 1))) ∧ Aside (J pre wr) ∧ Aside (TabAt 0 Lib.deBruijn64tab wr)) (fun wv _ => (segw 0 (intOf wv).toNat).length)
        case atStart => exact ⟨A 0, rfl, hA 0 (by decide), pre, hx'.out, hJ, hTt⟩
        case round =>
          clear hx' hJ hTt
          obtain ⟨x, rfl, hxl, pre, hx, hJ, hTt⟩ := hrel
          by_cases hx0 : x = 0
          · subst hx0
            gi_wp2
            go_roundw
            case rel => exact ⟨0 + 1, by omega, by go_num, pre, by rw [Aside, hx.out, segw_zero]; rfl, hJ, hTt⟩
            case measure => simp [intOf]
          · have hne : ((x : Int) != 0) = true := by simp; exact hx0
            obtain ⟨hs, hc⟩ := segw_step 0 x hx0 hxl
            have hcl := clear_u64 x hxl hx0
            have hx1 : 1 ≤ x := by omega
            have hsl : Hid ((segw 0 x).length = (segw 0 (x &&& (x - 1))).length + 1) := by rw [RowKit.Hid, hs, List.length_cons]
            have hx2 : Hid (cast (listN A) = (pre ++ [((Lib.ctz 64 x : Nat) : Int)]) ++ (cast (segw 0 (x &&& (x - 1))) ++ cast (rests A 3 1))) := by rw [RowKit.Hid, hx.out, hs]; simp [cast]
            have hlen : pre.length < 256 := by
              have h1 := len_le A
              have h2 := congrArg List.length hx2.out
              simp [cast] at h2
              omega
            obtain ⟨fn, tmps, assign, body, hy, hR⟩ := HY.out pre ((Lib.ctz 64 x : Nat) : Int) wr hJ.out hlen
            have hxl2 : x &&& (x - 1) < 18446744073709551616 := Nat.lt_of_le_of_lt Nat.and_le_left hxl
            clear hs hlen
            gi_wp2_with (refine ⟨trivial, ?_⟩; gi_at_call 34; refine (callsIn_wide.2 (tz_any x hxl hx0 _ hTt.out)).mono ?_; rintro e w' ⟨rfl, rfl⟩)
            refine hR.mono ?_
            rintro e W3 (⟨rfl, hJ3, hk3⟩ | ⟨rfl, hJx3⟩)
            · have hT3 : Aside (TabAt 0 Lib.deBruijn64tab W3) := TabAt.below hTt.out hk3 hg
              clear hTt hk3
              gi_wp2
              go_roundw
              case rel => exact ⟨_, rfl, hxl2, _, hx2.out, hJ3, hT3⟩
              case measure => simp only [intOf, Int.toNat_natCast]; rw [hsl.out]; omega
            · gi_wp2
              refine bodyPost_ret (results_none rfl _ _ _) rfl ?_
              exact ⟨⟨_, rfl⟩, .inr ⟨_, ⟨_, hx2.out.symm⟩, hJx3⟩⟩
      · have hx' : Hid (cast (listN A) = pre ++ (cast (segw 1 (A 1)) ++ cast (rests A 2 2))) := by rw [RowKit.Hid, hx.out]; simp [rests, cast]
        clear hx
        rw [show ((1 : Nat) : Int) = 1 from rfl]
        gi_wp2
        gi_loopw [4] (fun wv wr => ∃ x : Nat, wv = .int .u64 (x : Int) ∧ x < 18446744073709551616 ∧ ∃ pre, Aside (cast (listN A) = pre ++ (cast (segw 1 x) ++ cast (rests A 2 2))) ∧ Aside (J pre wr) ∧ Aside (TabAt 0 Lib.deBruijn64tab wr)) (fun wv _ => (segw 1 (intOf wv).toNat).length)
        case atStart => exact ⟨A 1, rfl, hA 1 (by decide), pre, hx'.out, hJ, hTt⟩
        case round =>
          clear hx' hJ hTt
          obtain ⟨x, rfl, hxl, pre, hx, hJ, hTt⟩ := hrel
          by_cases hx0 : x = 0
          · subst hx0
            gi_wp2
            go_roundw
            case rel => exact ⟨1 + 1, by omega, by go_num, pre, by rw [Aside, hx.out, segw_zero]; rfl, hJ, hTt⟩
            case measure => simp [intOf]
          · have hne : ((x : Int) != 0) = true := by simp; exact hx0
            obtain ⟨hs, hc⟩ := segw_step 1 x hx0 hxl
            have hcl := clear_u64 x hxl hx0
            have hx1 : 1 ≤ x := by omega
            have hsl : Hid ((segw 1 x).length = (segw 1 (x &&& (x - 1))).length + 1) := by rw [RowKit.Hid, hs, List.length_cons]
            have hx2 : Hid (cast (listN A) = (pre ++ [(64 + ((Lib.ctz 64 x : Nat) : Int))]) ++ (cast (segw 1 (x &&& (x - 1))) ++ cast (rests A 2 2))) := by rw [RowKit.Hid, hx.out, hs]; simp [cast]
            have hlen : pre.length < 256 := by
              have h1 := len_le A
              have h2 := congrArg List.length hx2.out
              simp [cast] at h2
              omega
            obtain ⟨fn, tmps, assign, body, hy, hR⟩ := HY.out pre (64 + ((Lib.ctz 64 x : Nat) : Int)) wr hJ.out hlen
            have hxl2 : x &&& (x - 1) < 18446744073709551616 := Nat.lt_of_le_of_lt Nat.and_le_left hxl
            clear hs hlen
            gi_wp2_with (refine ⟨trivial, ?_⟩; gi_at_call 34; refine (callsIn_wide.2 (tz_any x hxl hx0 _ hTt.out)).mono ?_; rintro e w' ⟨rfl, rfl⟩)
            refine hR.mono ?_
            rintro e W3 (⟨rfl, hJ3, hk3⟩ | ⟨rfl, hJx3⟩)
            · have hT3 : Aside (TabAt 0 Lib.deBruijn64tab W3) := TabAt.below hTt.out hk3 hg
              clear hTt hk3
              gi_wp2
              go_roundw
              case rel => exact ⟨_, rfl, hxl2, _, hx2.out, hJ3, hT3⟩
              case measure => simp only [intOf, Int.toNat_natCast]; rw [hsl.out]; omega
            · gi_wp2
              refine bodyPost_ret (results_none rfl _ _ _) rfl ?_
              exact ⟨⟨_, rfl⟩, .inr ⟨_, ⟨_, hx2.out.symm⟩, hJx3⟩⟩
      · have hx' : Hid (cast (listN A) = pre ++ (cast (segw 2 (A 2)) ++ cast (rests A 1 3))) := by rw [RowKit.Hid, hx.out]; simp [rests, cast]
        clear hx
        rw [show ((2 : Nat) : Int) = 2 from rfl]
        gi_wp2
        gi_loopw [4] (fun wv wr => ∃ x : Nat, wv = .int .u64 (x : Int) ∧ x < 18446744073709551616 ∧ ∃ pre, Aside (cast (listN A) = pre ++ (cast (segw 2 x) ++ cast (rests A 1 3))) ∧ Aside (J pre wr) ∧ Aside (TabAt 0 Lib.deBruijn64tab wr)) (fun wv _ => (segw 2 (intOf wv).toNat).length)
        case atStart => exact ⟨A 2, rfl, hA 2 (by decide), pre, hx'.out, hJ, hTt⟩
        case round =>
          clear hx' hJ hTt
          obtain ⟨x, rfl, hxl, pre, hx, hJ, hTt⟩ := hrel
          by_cases hx0 : x = 0
          · subst hx0
            gi_wp2
            go_roundw
            case rel => exact ⟨2 + 1, by omega, by go_num, pre, by rw [Aside, hx.out, segw_zero]; rfl, hJ, hTt⟩
            case measure => simp [intOf]
          · have hne : ((x : Int) != 0) = true := by simp; exact hx0
            obtain ⟨hs, hc⟩ := segw_step 2 x hx0 hxl
            have hcl := clear_u64 x hxl hx0
            have hx1 : 1 ≤ x := by omega
            have hsl : Hid ((segw 2 x).length = (segw 2 (x &&& (x - 1))).length + 1) := by rw [RowKit.Hid, hs, List.length_cons]
            have hx2 : Hid (cast (listN A) = (pre ++ [(128 + ((Lib.ctz 64 x : Nat) : Int))]) ++ (cast (segw 2 (x &&& (x - 1))) ++ cast (rests A 1 3))) := by rw [RowKit.Hid, hx.out, hs]; simp [cast]
            have hlen : pre.length < 256 := by
              have h1 := len_le A
              have h2 := congrArg List.length hx2.out
              simp [cast] at h2
              omega
            obtain ⟨fn, tmps, assign, body, hy, hR⟩ := HY.out pre (128 + ((Lib.ctz 64 x : Nat) : Int)) wr hJ.out hlen
            have hxl2 : x &&& (x - 1) < 18446744073709551616 := Nat.lt_of_le_of_lt Nat.and_le_left hxl
            clear hs hlen
            gi_wp2_with (refine ⟨trivial, ?_⟩; gi_at_call 34; refine (callsIn_wide.2 (tz_any x hxl hx0 _ hTt.out)).mono ?_; rintro e w' ⟨rfl, rfl⟩)
            refine hR.mono ?_
            rintro e W3 (⟨rfl, hJ3, hk3⟩ | ⟨rfl, hJx3⟩)
            · have hT3 : Aside (TabAt 0 Lib.deBruijn64tab W3) := TabAt.below hTt.out hk3 hg
              clear hTt hk3
              gi_wp2
              go_roundw
              case rel => exact ⟨_, rfl, hxl2, _, hx2.out, hJ3, hT3⟩
              case measure => simp only [intOf, Int.toNat_natCast]; rw [hsl.out]; omega
            · gi_wp2
              refine bodyPost_ret (results_none rfl _ _ _) rfl ?_
              exact ⟨⟨_, rfl⟩, .inr ⟨_, ⟨_, hx2.out.symm⟩, hJx3⟩⟩
      · have hx' : Hid (cast (listN A) = pre ++ (cast (segw 3 (A 3)) ++ cast (rests A 0 4))) := by rw [RowKit.Hid, hx.out]; simp [rests, cast]
        clear hx
        rw [show ((3 : Nat) : Int) = 3 from rfl]
        gi_wp2
        gi_loopw [4] (fun wv wr => ∃ x : Nat, wv = .int .u64 (x : Int) ∧ x < 18446744073709551616 ∧ ∃ pre, Aside (cast (listN A) = pre ++ (cast (segw 3 x) ++ cast (rests A 0 4))) ∧ Aside (J pre wr) ∧ Aside (TabAt 0 Lib.deBruijn64tab wr)) (fun wv _ => (segw 3 (intOf wv).toNat).length)
        case atStart => exact ⟨A 3, rfl, hA 3 (by decide), pre, hx'.out, hJ, hTt⟩
        case round =>
          clear hx' hJ hTt
          obtain ⟨x, rfl, hxl, pre, hx, hJ, hTt⟩ := hrel
          by_cases hx0 : x = 0
          · subst hx0
            gi_wp2
            go_roundw
            case rel => exact ⟨3 + 1, by omega, by go_num, pre, by rw [Aside, hx.out, segw_zero]; rfl, hJ, hTt⟩
            case measure => simp [intOf]
          · have hne : ((x : Int) != 0) = true := by simp; exact hx0
            obtain ⟨hs, hc⟩ := segw_step 3 x hx0 hxl
            have hcl := clear_u64 x hxl hx0
            have hx1 : 1 ≤ x := by omega
            have hsl : Hid ((segw 3 x).length = (segw 3 (x &&& (x - 1))).length + 1) := by rw [RowKit.Hid, hs, List.length_cons]
            have hx2 : Hid (cast (listN A) = (pre ++ [(192 + ((Lib.ctz 64 x : Nat) : Int))]) ++ (cast (segw 3 (x &&& (x - 1))) ++ cast (rests A 0 4))) := by rw [RowKit.Hid, hx.out, hs]; simp [cast]
            have hlen : pre.length < 256 := by
              have h1 := len_le A
              have h2 := congrArg List.length hx2.out
              simp [cast] at h2
              omega
            obtain ⟨fn, tmps, assign, body, hy, hR⟩ := HY.out pre (192 + ((Lib.ctz 64 x : Nat) : Int)) wr hJ.out hlen
            have hxl2 : x &&& (x - 1) < 18446744073709551616 := Nat.lt_of_le_of_lt Nat.and_le_left hxl
            clear hs hlen
            gi_wp2_with (refine ⟨trivial, ?_⟩; gi_at_call 34; refine (callsIn_wide.2 (tz_any x hxl hx0 _ hTt.out)).mono ?_; rintro e w' ⟨rfl, rfl⟩)
            refine hR.mono ?_
            rintro e W3 (⟨rfl, hJ3, hk3⟩ | ⟨rfl, hJx3⟩)
            · have hT3 : Aside (TabAt 0 Lib.deBruijn64tab W3) := TabAt.below hTt.out hk3 hg
              clear hTt hk3
              gi_wp2
              go_roundw
              case rel => exact ⟨_, rfl, hxl2, _, hx2.out, hJ3, hT3⟩
              case measure => simp only [intOf, Int.toNat_natCast]; rw [hsl.out]; omega
            · gi_wp2
              refine bodyPost_ret (results_none rfl _ _ _) rfl ?_
              exact ⟨⟨_, rfl⟩, .inr ⟨_, ⟨_, hx2.out.symm⟩, hJx3⟩⟩
    · obtain rfl : k = 4 := by omega
      gi_wp2
      go_end0
      exact ⟨⟨_, rfl⟩, .inl ⟨pre, by have := hx.out; simpa [rests, cast] using this.symm, hJ.out⟩⟩

set_option maxHeartbeats 1000000 in
theorem all_in (n : Nat) (A : Nat → Nat) (w : World) :
    CallsIn Fence.wide n Tryd.prog 31 #[bv (iw A)] w fun e w' => e = .returned (.func (.func 33) #[] #[.pointer (some ⟨w.heap.size, 0, none⟩)]) ∧ w' = w.alloc (.cells (rowc (iw A)) 27) := by
  unfold bv rowc
  refine callsIn_of_wp Tryd.func31 rfl trivial ?_ rfl
  simp only [Tryd.ntmps31, List.size_toArray, List.length_cons, List.length_nil, Nat.reduceAdd, Nat.reduceSub, Array.replicate_succ, Array.replicate_zero, List.push_toArray, List.append_toArray, List.nil_append, List.cons_append]
  gi_wp2
  go_ret
  exact ⟨rfl, rfl⟩
theorem all_stops (n : Nat) (hn : 1 ≤ n) (Bn n₀ : Nat) (A : Nat → Nat) (hA : Ws A) (w : World) (hBn : w.heap[Bn]? = some (.cells (rowc (iw A)) 27 (0, 0))) (hT : TabAt 0 Lib.deBruijn64tab w) (hg : 0 < n₀) :
    SeqStopsK Fence.wide n Tryd.prog 33 #[.pointer (some ⟨Bn, 0, none⟩)] (fun x : Int => #[Value.int .i64 x]) (Below n₀) (fun ys => ys = cast (listN A)) (fun pre => pre <+: cast (listN A)) 256 w := fun l J Jx W hW _ _ hY h0 =>
  allLit_in n hn l Bn n₀ A hA J Jx hY W ((hW.block Bn (Array.getElem?_eq_some_iff.1 hBn).1).trans hBn) (TabAt.below hT hW (TabAt.lt hT)) hg h0

end Go.Proofs.YtecocdnfbkiabaaDoor.Bits
