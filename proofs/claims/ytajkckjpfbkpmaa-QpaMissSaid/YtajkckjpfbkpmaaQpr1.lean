/-
  The reference's demands, small ones: Mul, Add, gcd, jobs, time, Check.
-/
import Derived.Test.YtajkckjpfbkpmaaQpa5
namespace Go.Proofs.Ytajkckjpfbkpmaa.Dem
open Go.RowKit Go.Shelf Go.Proofs.Ytajkckjpfbkpmaa.Ari

theorem got_new (W : World) (x y : Value) (T : TypeId) : (W.alloc (.cells #[x, y] T)).cell? ⟨W.heap.size, 0, none⟩ = some x ∧ (W.alloc (.cells #[x, y] T)).cell? ⟨W.heap.size, 1, none⟩ = some y := by
  have h : (W.alloc (.cells #[x, y] T)).heap[W.heap.size]? = some (.cells #[x, y] T (0, 0)) := heap_alloc_new _ _
  generalize W.alloc (.cells #[x, y] T) = V at *
  generalize W.heap.size = k at *
  simp [World.cell?, h]
def numV (k : IntKind) (x : Int) : Value := .agg #[.int k x, .bool true]
set_option maxHeartbeats 1000000 in
theorem mulr_any (a b : Int) (a0 : 0 ≤ a) (b0 : 0 ≤ b) (h : a * b ≤ 18446744073709551615) (w : World) :
    Calls Try.prog 25 #[.int .u64 a, .int .u64 b] w fun e w' => e = .returned (numV .u64 (a * b)) ∧ Below w.heap.size w w' := by
  have p0 := Int.mul_nonneg a0 b0
  have ep : IntKind.u64.wrap (a * b) = a * b := by rw [IntKind.wrap_u64]; omega
  have hb : Below w.heap.size w (w.alloc (.cells #[.int .u64 (a * b), .bool true] 64)) := (Below.refl _ w).alloc (Nat.le_refl _) _
  have HB := Lib.hid hb
  clear hb
  unfold numV
  by_cases hz : 0 < b
  · have e1 : decide (0 < b) = true := by simpa using hz
    have e3 : (18446744073709551615 : Int).tdiv b = 18446744073709551615 / b := Int.tdiv_eq_ediv_of_nonneg (by decide)
    have hq : a ≤ 18446744073709551615 / b := Int.le_ediv_of_mul_le hz h
    have q1 : (18446744073709551615 : Int) / b ≤ 18446744073709551615 := Int.ediv_le_self _ (by decide)
    have e4 : (b == 0) = false := by simp; omega
    have e40 : ¬ b = 0 := by omega
    generalize hQ : (18446744073709551615 : Int) / b = Q at *
    have e5 : IntKind.u64.wrap Q = Q := by rw [IntKind.wrap_u64]; omega
    have e6 : decide (Q < a) = false := by simp; omega
    clear hQ q1 hq h p0
    go_enter Try.func25, Try.ntmps25
    go_wp2
    obtain ⟨q0, q1⟩ := got_new w (.int .u64 (a * b)) (.bool true) 64
    refine bodyPost_ret (v := .agg #[.int .u64 (a * b), .bool true]) ?_ rfl ⟨rfl, HB.out⟩
    simp [results, Try.results25, go_sem, q0, q1]
  · have e1 : decide (0 < b) = false := by simpa using hz
    clear h p0
    go_enter Try.func25, Try.ntmps25
    go_wp2
    obtain ⟨q0, q1⟩ := got_new w (.int .u64 (a * b)) (.bool true) 64
    refine bodyPost_ret (v := .agg #[.int .u64 (a * b), .bool true]) ?_ rfl ⟨rfl, HB.out⟩
    simp [results, Try.results25, go_sem, q0, q1]
set_option maxHeartbeats 1000000 in
theorem addr_any (a b : Int) (a0 : 0 ≤ a) (b0 : 0 ≤ b) (h : a + b ≤ 18446744073709551615) (w : World) :
    Calls Try.prog 26 #[.int .u64 a, .int .u64 b] w fun e w' => e = .returned (numV .u64 (a + b)) ∧ Below w.heap.size w w' := by
  have ep : IntKind.u64.wrap (a + b) = a + b := by rw [IntKind.wrap_u64]; omega
  have em : IntKind.u64.wrap (18446744073709551615 - b) = 18446744073709551615 - b := by rw [IntKind.wrap_u64]; omega
  have e1 : decide (18446744073709551615 - b < a) = false := by simp; omega
  have hb : Below w.heap.size w (w.alloc (.cells #[.int .u64 (a + b), .bool true] 64)) := (Below.refl _ w).alloc (Nat.le_refl _) _
  have HB := Lib.hid hb
  clear hb
  unfold numV
  go_enter Try.func26, Try.ntmps26
  go_wp2
  obtain ⟨q0, q1⟩ := got_new w (.int .u64 (a + b)) (.bool true) 64
  refine bodyPost_ret (v := .agg #[.int .u64 (a + b), .bool true]) ?_ rfl ⟨rfl, HB.out⟩
  simp [results, Try.results26, go_sem, q0, q1]
set_option maxHeartbeats 400000 in
theorem gcdr_any (a b : Int) (b0 : 0 ≤ b) (a0 : 0 ≤ a) (w : World) :
    Calls Try.prog 47 #[.int .u64 a, .int .u64 b] w fun e w' => e = .returned (.int .u64 (gcdI a b)) ∧ Dn w w' := by
  go_enter Try.func47, Try.ntmps47
  go_wp2
  go_loopg [0, 1] b.natAbs (fun k x y wr => ∃ (p q : Int), x = .int .u64 p ∧ y = .int .u64 q ∧ Aside (gcdI p q = gcdI a b) ∧ Aside (q.natAbs ≤ k) ∧ Aside (0 ≤ p) ∧ 0 ≤ q ∧ Dn w wr)
  case atStart => exact ⟨a, b, rfl, rfl, rfl, Nat.le_refl _, a0, b0, Dn.refl _⟩
  case round =>
    obtain ⟨p, q, rfl, rfl, hg, hk, p0, q0, hd⟩ := hrel
    by_cases hq : q = 0
    · subst hq
      have h2 : decide ((0:Int) < 0) = false := by decide
      go_wp2
      go_ret
      exact ⟨by rw [← hg.out, gcdI_zero]; rfl, hd⟩
    · have h1 : (q == 0) = false := beq_eq_false_iff_ne.2 hq
      have h2 : decide (0 < q) = true := by simp; omega
      have hs : Aside (gcdI p q = gcdI q (p.tmod q)) := gcdI_step p q hq
      have hl : Aside ((p.tmod q).natAbs < q.natAbs) := tmod_lt p q hq
      have ht : Aside (0 ≤ p.tmod q) := Int.tmod_nonneg _ p0.out
      go_wp2
      go_roundg (p.tmod q).natAbs
      case measure => have := hl.out; have := hk.out; omega
      case rel => exact ⟨q, p.tmod q, rfl, rfl, by rw [← hg.out, hs.out]; rfl, Nat.le_refl _, q0, ht.out, hd⟩
set_option maxHeartbeats 1000000 in
theorem jobsr_any (x : Dm) (h : x.Ok) (s : Int) (h0 : -1 ≤ s) (h1 : s ≤ 4194304) (w : World) :
    Calls Try.prog 24 #[demV x.c x.d x.t, .int .i64 s] w fun e w' => e = .returned (.int .i64 (jobs x s)) ∧ Below w.heap.size w w' := by
  obtain ⟨a0, a1, a2, a3, a4, a5, a6⟩ := ok_bd h
  unfold jobs
  generalize x.c = c at *
  generalize x.d = d at *
  generalize x.t = t at *
  unfold demV
  clear h
  have hb := (Below.refl _ w).alloc (Nat.le_refl _) (.cells #[.int .i64 c, .int .i64 d, .int .i64 t] 32)
  by_cases hlt : s < d
  · have e1 : decide (s < d) = true := by simpa using hlt
    rw [if_pos hlt]
    have HB := Lib.hid hb
    clear hb hlt
    go_enter Try.func24, Try.ntmps24
    go_wp2
    go_ret
    exact ⟨rfl, HB.out⟩
  · have e1 : decide (s < d) = false := by simpa using hlt
    rw [if_neg hlt]
    have e2 : IntKind.i64.wrap (s - d) = s - d := by rw [IntKind.wrap_i64]; omega
    have q0 : 0 ≤ (s - d) / t := Int.ediv_nonneg (by omega) (by omega)
    have q1 : (s - d) / t ≤ s - d := Int.ediv_le_self _ (by omega)
    have e3 : (s - d).tdiv t = (s - d) / t := Int.tdiv_eq_ediv_of_nonneg (by omega)
    have e4 : (t == 0) = false := by simp; omega
    generalize hq : (s - d) / t = q at *
    have e5 : IntKind.i64.wrap q = q := by rw [IntKind.wrap_i64]; omega
    have e6 : IntKind.i64.wrap (q + 1) = q + 1 := by rw [IntKind.wrap_i64]; omega
    have HB := Lib.hid hb
    clear hb hlt hq
    go_enter Try.func24, Try.ntmps24
    go_wp2
    go_ret
    exact ⟨rfl, HB.out⟩
theorem timer_any (s : Int) (h0 : 0 ≤ s) (h1 : s ≤ 4194304) (w : World) : Calls Try.prog 23 #[.int .i64 s] w fun e w' => e = .returned (.bool true) ∧ w = w' := by
  have e1 : decide (0 ≤ s) = true := by simpa using h0
  have e2 : decide (s ≤ 2199023255552) = true := by simp; omega
  go_enter Try.func23, Try.ntmps23
  go_wp2
  go_ret
  exact ⟨rfl, rfl⟩
set_option maxHeartbeats 2000000 in
theorem checkr_any (A : Option Addr) (n c : Nat) (l : List Dm) (ho : Oks l) (w : World) (hr : RdD w A n l) :
    Calls Try.prog 22 #[.slice A n c] w fun e w' => e = .returned (.bool true) ∧ Below w.heap.size w w' := by
  have hln := hr.1
  have hn := hr.2.1
  have HR := Lib.hid hr
  have HO := Lib.hid ho
  clear hr ho
  go_enter Try.func22, Try.ntmps22
  go_wp2
  go_loopg [3] n (fun gg s8 wr => ∃ kk : Nat, kk ≤ n ∧ n - kk ≤ gg ∧ s8 = .int .i64 kk ∧ Aside (Below w.heap.size w wr))
  case atStart => exact ⟨0, Nat.zero_le _, by omega, rfl, Below.refl _ w⟩
  case round =>
    obtain ⟨kk, hkk, hg, rfl, BW⟩ := hrel
    by_cases hlt : kk < n
    · have hltz : (kk : Int) < (n : Int) := by omega
      obtain ⟨b, o, rfl, hc⟩ := (HR.out.below BW.out (Nat.le_refl _)).2.2 (by omega)
      obtain ⟨c0, c1, c2⟩ := hc kk hlt
      clear hc
      have hx := ok_bd (getD_ok HO.out (i := kk) (by omega))
      generalize l.getD kk default = x at *
      obtain ⟨a0, a1, a2, a3, a4, a5, a6⟩ := hx
      generalize x.c = c at *
      generalize x.d = d at *
      generalize x.t = t at *
      have e1 : decide (c < 0) = false := by simp; omega
      have e2 : decide (1099511627776 < c) = false := by simp; omega
      have e3 : decide (d < 1) = false := by simp; omega
      have e4 : decide (t < d) = false := by simp; omega
      have e5 : decide (1073741824 < t) = false := by simp; omega
      have hB4 : Aside (Below w.heap.size w (wr.alloc (.cells #[.int .i64 c, .int .i64 d, .int .i64 t] 32))) := BW.out.alloc BW.out.size _
      go_wp2
      go_roundg (n - (kk + 1))
      case measure => omega
      case rel => exact ⟨kk + 1, by omega, by omega, by go_num, hB4.out⟩
    · have hltz : ¬ (kk : Int) < (n : Int) := by omega
      have e1 : decide ((n : Int) ≤ 64) = true := by simp; omega
      go_wp2
      go_ret
      exact ⟨rfl, BW.out⟩
end Go.Proofs.Ytajkckjpfbkpmaa.Dem
