/-
  The statement ArithDivides, walked.
-/
import Derived.Test.YtpdckjfjhhdcdaaAri8
namespace Go.Proofs.Ytpdckjfjhhdcdaa.Ari
open Go.RowKit Go.Shelf

set_option maxHeartbeats 2000000 in
set_option maxRecDepth 100000 in
theorem ArithDivides_walk (a0 : Option Addr) (len0 cap0 : Nat) (z0 : List Int) (a1 a2 : Int) (W : World) (w0 : Row0.IsRow .u64 W a0 len0 cap0 z0) (w1 : (Lit.int .u64 a1).wf = true) (w2 : (Lit.int .u64 a2).wf = true) :
    Calls Try.prog 4 #[.slice a0 len0 cap0, .int .u64 a1, .int .u64 a2] W fun e w' => e = .returned (.bool true) ∧ Below W.heap.size W w' := by
  obtain ⟨p0, p1⟩ := u64_bd w1
  obtain ⟨r0, r1⟩ := u64_bd w2
  obtain ⟨_, hlc, hcm, hsome, _⟩ := isRow_rd w0
  obtain ⟨ns, hrd, hns, hlen⟩ := few_nums w0 8
  clear w0 w1 w2
  have hm1 := and31 a1 p0 p1
  have hm2 := and31 a2 r0 r1
  obtain ⟨x, hx, x0, x1⟩ : ∃ x : Nat, a1 % 2147483648 = (x : Int) ∧ 0 ≤ x ∧ x ≤ 2147483647 := ⟨(a1 % 2147483648).toNat, by omega, by omega, by omega⟩
  obtain ⟨y, hy, y0, y1⟩ : ∃ y : Nat, a2 % 2147483648 = (y : Int) ∧ 0 ≤ y ∧ y ≤ 2147483647 := ⟨(a2 % 2147483648).toNat, by omega, by omega, by omega⟩
  rw [hx] at hm1
  rw [hy] at hm2
  clear hx hy p0 p1 r0 r1
  obtain ⟨h, k, q, q2, t1, t2, t3, t4, t5, t6, t7, t8⟩ := two_facts (1 + x) (1 + y) (by omega) (by omega) (by omega) (by omega)
  have HD := Lib.hid (fun i hi v hv => divides_facts ns hns i hi v hv)
  have HP := Lib.hid (lcmM_pos ns hns)
  have HG : Hid (gcdM (cs ns) = (gcdN ns : Int)) := gcdM_eq ns
  have hA := fun w => Lib.hid (awake_any w)
  have hF := fun w => Lib.hid (few_any a0 len0 cap0 w hlc hcm hsome)
  have HR : Hid (Rd W .u64 a0 (min len0 8) (cs ns)) := hrd
  have HL : Hid (ns.length = min len0 8) := hlen
  have hle : min len0 8 ≤ 8 := Nat.min_le_right _ _
  generalize min len0 8 = n at *
  clear hrd hlen hlc hcm hsome hns
  generalize hgg : gcdN ns = g at *
  generalize hlm : lcmM (cs ns) = lm at *
  obtain ⟨L, ok⟩ := lm
  go_enter Try.func4, Try.ntmps4
  go_wp2_with (first | (go_at_call 9; refine (hA _).out.mono ?_; rintro e W1 ⟨rfl, hb⟩) | (go_at_call 12; refine (hF _).out.mono ?_; rintro e w' ⟨rfl, rfl⟩))
  have HR1 : Hid (Rd W1 .u64 a0 n (cs ns)) := HR.out.below hb
  refine (gcd_row a0 n cap0 (cs ns) W1 HR1.out).mono ?_
  rintro e w' ⟨rfl, n1, rfl⟩
  rw [HG.out]
  go_wp2_with fail
  refine (lcm_row a0 n cap0 (cs ns) _ (HR1.out.drewN n1)).mono ?_
  rintro e w' ⟨rfl, n2, rfl⟩
  rw [hlm]
  clear hlm hgg
  go_wp2
  go_loopg [12] n (fun k iv wr => ∃ (i : Nat), i ≤ n ∧ iv = .int .i64 (i : Int) ∧ Aside (n - i = k) ∧ wr = W1.drewN (n1 + n2))
  case atStart => exact ⟨0, Nat.zero_le _, rfl, rfl, rfl⟩
  case round =>
    obtain ⟨i, hi, rfl, hk, rfl⟩ := hrel
    by_cases hlt : i < n
    · have h1 : decide ((i : Int) < (n : Int)) = true := by simpa using hlt
      obtain ⟨ad, rfl, hc⟩ := HR1.out.2.2 (by omega)
      have hcell := hc i hlt
      rw [cs_getD] at hcell
      have hd := HD.out i (by rw [HL.out]; exact hlt) _ rfl
      generalize ns.getD i 0 = v at *
      clear hc
      obtain ⟨d1, d2, d3⟩ := hd
      by_cases hg : g = 0
      · have hv := d1 hg
        cases ok
        · subst hg
          subst hv
          clear d1 d2 d3
          go_wp2
          go_roundg (n - (i + 1))
          case measure => have := hk.out; omega
          case rel => exact ⟨i + 1, by omega, by go_num, rfl, rfl⟩
        · exact absurd hv (d3 rfl).1
      · have g1 : ((g : Int) == 0) = false := by simp; exact hg
        have g2 : decide (0 < (g : Int)) = true := by simp; omega
        have g3 : ((v : Int) % (g : Int) != 0) = false := by
          have := d2 (by omega)
          simp
          omega
        have g4 : 1 ≤ g := by omega
        cases ok
        · clear d1 d2 d3 hg
          go_wp2
          go_roundg (n - (i + 1))
          case measure => have := hk.out; omega
          case rel => exact ⟨i + 1, by omega, by go_num, rfl, rfl⟩
        · obtain ⟨v0, L', e1, e2⟩ := d3 rfl
          subst e1
          have g5 : ((v : Int) == 0) = false := by simp; exact v0
          have g6 : ((L' : Int) % (v : Int) != 0) = false := by simp; omega
          have g7 : 1 ≤ v := by omega
          clear d1 d2 d3 hg e2 v0
          go_wp2
          go_roundg (n - (i + 1))
          case measure => have := hk.out; omega
          case rel => exact ⟨i + 1, by omega, by go_num, rfl, rfl⟩
    · have h1 : decide ((i : Int) < (n : Int)) = false := by simp; omega
      have t1' : gcdM [1 + (x : Int), 1 + (y : Int)] = h := by simpa using t1
      have t2' : lcmM [1 + (x : Int), 1 + (y : Int)] = ((k : Int), true) := by simpa using t2
      have T1 := Lib.hid t1'
      have T2 := Lib.hid t2'
      have s1 : decide (0 < (h : Int)) = true := by simp; omega
      have s2 : (k : Int) / (h : Int) = (q : Int) := by rw [← t5]; rfl
      have s3 : IntKind.u64.wrap ((h : Int) * (q : Int)) = (k : Int) := by rw [IntKind.wrap_u64, ← Int.natCast_mul, t6]; unfold M64 at t4; omega
      have s4 : (k : Int) / (1 + (x : Int)) = (q2 : Int) := by rw [← t7]; simp
      have s5 : IntKind.u64.wrap ((q2 : Int) * (h : Int)) = 1 + (y : Int) := by rw [IntKind.wrap_u64, ← Int.natCast_mul, t8]; omega
      have s6 : 1 ≤ h := t3
      have u1 : q ≤ k := by rw [← t5]; exact Nat.div_le_self _ _
      have u2 : q2 ≤ k := by rw [← t7]; exact Nat.div_le_self _ _
      have s8 : IntKind.u64.wrap (q : Int) = (q : Int) := by rw [IntKind.wrap_u64]; unfold M64 at t4; omega
      have s9 : IntKind.u64.wrap (q2 : Int) = (q2 : Int) := by rw [IntKind.wrap_u64]; unfold M64 at t4; omega
      have s7 : ok = true → decide (0 < L) = true := fun e => decide_eq_true (HP.out e)
      clear t1 t2 t3 t4 t5 t6 t7 t8 t1' t2' u1 u2
      have S2 := Lib.hid s2
      have S3 := Lib.hid s3
      have S4 := Lib.hid s4
      have S5 := Lib.hid s5
      have S7 := Lib.hid s7
      clear s2 s3 s4 s5 s7
      go_wp2_with fail
      refine (gcd_row _ 2 2 [1 + (x : Int), 1 + (y : Int)] _ (rd_new _ .u64 _ [1 + (x : Int), 1 + (y : Int)] _ 2 rfl rfl (by decide))).mono ?_
      rintro e w' ⟨rfl, n3, rfl⟩
      rw [T1.out]
      go_wp2_with fail
      refine (lcm_row _ 2 2 [1 + (x : Int), 1 + (y : Int)] _ (rd_new' _ _ .u64 _ [1 + (x : Int), 1 + (y : Int)] _ 2 (by simp) rfl rfl (by decide))).mono ?_
      rintro e w' ⟨rfl, n4, rfl⟩
      rw [T2.out]
      have s2 := S2.out
      have s3 := S3.out
      have s4 := S4.out
      have s5 := S5.out
      cases ok
      · clear S2 S3 S4 S5 S7
        go_wp2
        go_ret
        exact ⟨rfl, below_dn ((below_dn ((below_dn hb _).alloc (by have := hb.size; simp; omega) _) _).alloc (by have := hb.size; simp; omega) _) _⟩
      · have s7 := S7.out rfl
        clear S2 S3 S4 S5 S7
        go_wp2
        go_ret
        exact ⟨rfl, below_dn ((below_dn ((below_dn hb _).alloc (by have := hb.size; simp; omega) _) _).alloc (by have := hb.size; simp; omega) _) _⟩
end Go.Proofs.Ytpdckjfjhhdcdaa.Ari
