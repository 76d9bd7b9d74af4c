/-
  The statements' few; OnesCount64.
-/
import Derived.Test.YtfejmcoaljelpaaBits6
namespace Go.Proofs.Ytfejmcoaljelpaa.Bits
open Go.RowKit

theorem rdI_take {w : World} {A : Option Addr} {n : Nat} {zs : List Int} (h : RdI w A n zs) (m : Nat) : RdI w A (min n m) (zs.take m) := by
  obtain ⟨h1, h2, h3⟩ := h
  refine ⟨by rw [List.length_take]; omega, by omega, fun hp => ?_⟩
  obtain ⟨b, o, e, hc⟩ := h3 (by omega)
  refine ⟨b, o, e, fun j hj => ?_⟩
  have := hc j (by omega)
  rw [show (zs.take m).getD j 0 = zs.getD j 0 by simp [List.getD_eq_getElem?_getD, show j < m by omega]]
  exact this

set_option maxHeartbeats 4000000 in
set_option maxRecDepth 100000 in
/-- Two rows of the same numbers are the same. -/
theorem same_any (A B : Option Addr) (n c c' : Nat) (q : List Int) (w : World) (ha : RdI w A n q) (hb : RdI w B n q) :
    Calls Try.prog 19 #[.slice A n c, .slice B n c'] w fun e w' => e = .returned (.bool true) ∧ ∃ m, w' = w.drewN m := by
  have hn := ha.2.1
  have HA := Lib.hid ha
  have HB := Lib.hid hb
  clear ha hb
  go_enter Try.func19, Try.ntmps19
  go_wp2
  go_loopg [5] n (fun g iv wr => ∃ k m : Nat, k ≤ n ∧ iv = .int .i64 (k : Int) ∧ Aside (n - k = g) ∧ wr = w.drewN m)
  case atStart => exact ⟨0, 0, Nat.zero_le _, rfl, rfl, rfl⟩
  case round =>
    obtain ⟨k, m, hk4, rfl, hk, rfl⟩ := hrel
    by_cases hlt : k < n
    · obtain ⟨b, o, rfl, hc⟩ := HA.out.2.2 (by omega)
      obtain ⟨b', o', rfl, hc'⟩ := HB.out.2.2 (by omega)
      have g1 := hc k hlt
      have g2 := hc' k hlt
      generalize q.getD k 0 = z at *
      clear hc hc' HA HB
      go_wp2
      go_quiet (fail)
      go_wp2
      go_roundg (n - (k + 1))
      case measure => have := hk.out; omega
      case rel => exact ⟨k + 1, _, by omega, by go_num, rfl, rfl⟩
    · go_wp2
      go_ret
      exact ⟨rfl, m, rfl⟩
end Go.Proofs.Ytfejmcoaljelpaa.Bits
