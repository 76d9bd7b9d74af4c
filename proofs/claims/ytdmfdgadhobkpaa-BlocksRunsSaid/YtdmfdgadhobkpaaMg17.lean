/-
  Texts of one claim, joined in build order: Acc.
-/
import Derived.Test.YtdmfdgadhobkpaaMg16
import Derived.Deep.QuietTactic
import Derived.BigQuiet
/-
  Package tasks: Access; the reference's.
-/
namespace Go.Proofs.Ytdmfdgadhobkpaa.Sys
open Go.RowKit Go.Proofs.Ytdmfdgadhobkpaa.Box

/-- Which set a tick uses, and whether it uses one. -/
def accB (u : List Int) (k : Int) : Bool := decide (u ≠ [] ∧ 0 ≤ k)
def accI (u : List Int) (k : Int) : Int := if accB u k then u.getD (k % (u.length : Int)).toNat 0 else 0
theorem below_dnS {B : Nat} {w w1 : World} (h : Below B w w1) (n : Nat) : Below B w (w1.drewN n) := ⟨h.os, h.tape, h.output, h.size, h.block⟩
set_option maxHeartbeats 4000000 in
set_option maxRecDepth 100000 in
theorem access_any (r : RT) (k : Int) (w : World) (h : r.Rd w) :
    Calls Try.prog 36 #[.agg #[.int .i64 r.x.id, .int .i64 r.x.c, .int .i64 r.x.d, .int .i64 r.x.t, .int .i64 r.x.prio, .slice r.ca r.cl r.cc, .slice r.ua r.ul r.uc], .int .i64 k] w fun e w' => e = .returned (.tuple #[.int .i64 (accI r.x.use k), .bool (accB r.x.use k)]) ∧ Below w.heap.size w w' := by
  obtain ⟨_, hu, h1, h2, h3⟩ := h
  obtain ⟨x, ca, cl, cc, ua, ul, uc⟩ := r
  obtain ⟨id, c, d, t, p, ch, us⟩ := x
  simp only at *
  have hln := hu.1
  have HB : ∀ o, Hid (Below w.heap.size w (w.alloc o)) := fun o => (Below.refl _ w).alloc (Nat.le_refl _) o
  by_cases hl : ul = 0
  · subst hl
    obtain rfl : us = [] := List.eq_nil_of_length_eq_zero hln
    clear hln hu
    go_enter Try.func36, Try.ntmps36
    go_wp2
    go_ret2
    exact ⟨by simp [accI, accB], (HB _).out⟩
  · have hne : us ≠ [] := fun e => by subst e; exact hl (by simpa using hln.symm)
    have hz : ((ul : Int) == 0) = false := by simp; omega
    by_cases hk : k < 0
    · have ea : accB us k = false := by simp [accB]; omega
      have ei : accI us k = 0 := by simp [accI, ea]
      rw [ea, ei]
      clear ea ei hne hln hu
      go_enter Try.func36, Try.ntmps36
      go_wp2
      go_ret2
      exact ⟨rfl, (HB _).out⟩
    · have ea : accB us k = true := by simp [accB, hne]; omega
      have ei : accI us k = us.getD (k % (ul : Int)).toNat 0 := by simp only [accI, ea, if_true, hln]
      rw [ea, ei]
      have m0 := Int.emod_nonneg k (show (ul : Int) ≠ 0 by omega)
      have m1 := Int.emod_lt_of_pos k (show (0 : Int) < (ul : Int) by omega)
      obtain ⟨m, hm, hml⟩ : ∃ m : Nat, k % (ul : Int) = (m : Int) ∧ m < ul := ⟨(k % (ul : Int)).toNat, by omega, by omega⟩
      rw [hm, Int.toNat_natCast]
      obtain ⟨b, o, rfl, hc⟩ := hu.2 (by omega)
      have hcm := hc m hml
      have hbl := World.block_lt_of_cell? _ _ hcm
      have hcm' : ∀ ob, (w.alloc ob).cell? ⟨b, o + m, none⟩ = some (.int .i64 (us.getD m 0)) := fun ob => (World.cell?_alloc_past _ _ _ hbl).trans hcm
      have hk0 : 0 ≤ k := by omega
      have q0 : (0 : Int) ≤ (m : Int) := by omega
      have q1 : (m : Int) < (ul : Int) := by omega
      generalize us.getD m 0 = v at *
      clear ea ei hne hln hu hc hk m0 m1
      go_enter Try.func36, Try.ntmps36
      go_wp2
      go_quiet (fail)
      go_wp2
      go_ret2
      exact ⟨rfl, below_dnS (HB _).out _⟩
end Go.Proofs.Ytdmfdgadhobkpaa.Sys
