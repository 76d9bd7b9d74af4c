/-
  Texts of one claim, joined in build order: Mask.
-/
import Derived.Test.YtaofldlidifdcaaMg2
import Derived.WalkKit
import Derived.Deep.AppendLies
import Derived.Laws.AppendOwnNone
/-
  Masks of whole numbers: 'x & (2^i - 1)' is the rest by 2^i. An append whose source is any slice that is read.
-/
namespace Go.Proofs.Ytaofldlidifdcaa.Row0
open Go.RowKit

theorem and_i64 (x : Int) (i : Nat) (hi : i ≤ 62) (m : Int) (hm : m = ((2 ^ i - 1 : Nat) : Int)) : Go.bits .and .i64 x m = x % ((2 ^ i : Nat) : Int) := by
  subst hm
  have hp : 2 ^ i ≤ 2 ^ 62 := Nat.pow_le_pow_right (by decide) hi
  have hpos : 0 < 2 ^ i := Nat.two_pow_pos i
  have h1 : (BitVec.ofInt IntKind.i64.bits ((2 ^ i - 1 : Nat) : Int)).toNat = 2 ^ i - 1 := by
    show (BitVec.ofInt 64 ((2 ^ i - 1 : Nat) : Int)).toNat = 2 ^ i - 1
    rw [BitVec.ofInt_natCast, BitVec.toNat_ofNat]
    exact Nat.mod_eq_of_lt (by omega)
  have h2 : (BitVec.ofInt IntKind.i64.bits x).toNat = (x % 18446744073709551616).toNat := by
    rw [BitVec.toNat_ofInt]; rfl
  simp only [Go.bits, BitVec.toNat_and, h1, h2]
  rw [Nat.and_two_pow_sub_one_eq_mod, IntKind.wrap_i64]
  have h3 : ((x % 18446744073709551616).toNat % 2 ^ i : Nat) < 2 ^ i := Nat.mod_lt _ hpos
  have h4 : (((x % 18446744073709551616).toNat % 2 ^ i : Nat) : Int) = x % ((2 ^ i : Nat) : Int) := by
    rw [Int.natCast_emod, Int.toNat_of_nonneg (by omega)]
    apply Int.emod_emod_of_dvd
    have : (18446744073709551616 : Int) = ((2 ^ 64 : Nat) : Int) := by decide
    rw [this]
    exact Int.natCast_dvd_natCast.2 (Nat.pow_dvd_pow 2 (by omega))
  rw [h4]
  have h5 := Int.emod_nonneg x (show ((2 ^ i : Nat) : Int) ≠ 0 by omega)
  have h6 := Int.emod_lt_of_pos x (show (0 : Int) < ((2 ^ i : Nat) : Int) by omega)
  omega

theorem plain_add' (b o k : Nat) : (⟨b, o, none⟩ : Addr).add k = ⟨b, o + k, none⟩ := by
  unfold Addr.add
  by_cases h : k = 0
  · simp [h]
  · simp [h]

/-- append(dst, src...): the destination the call's own, the source any slice whose cells are read, nil too. -/
theorem wpList_append_sl {P : Program} {w : World} {ops : Array Oper} {rest : List Oper} {o : Oper} {a : Act} {Q : Exit → Act → World → Prop} (hgd : o.guard = none) (s x : Operand) (t : TypeId)
    (ho : o.op = .call { callee := .builtin .append, args := #[s, x], argTypes := #[t, t] })
    (base : Nat) (e : TypeId) (i : TypeInfo) (z : Value) (size bytes : Nat) (ht : P.underlying t = some (.slice e)) (hi : P.info? e = some i) (hz : i.zero = some z)
    (hsize : i.size = size) (hby : i.bytes = bytes) (hzs : z.cells.size = size) (hsz : 0 < size)
    (v : Value) (n : Nat) (xs : List Value) (hs : a.eval s = v) (hown : w.ownsRow base e size v n xs)
    (A : Option Addr) (m c : Nat) (news : List Value) (hx : a.eval x = .slice A m c) (hn : A = none → m = 0 ∧ c = 0) (hl : news.length = m * size)
    (hnews : ∀ ad, A = some ad → ∀ j u, news[j]? = some u → w.cell? (ad.add j) = some u) (h1 : ∀ u ∈ news, u.oneCell' = true)
    (h63 : n + m ≤ maxLen) (hbytes : (n + m) * bytes ≤ 140737488355328) (hbase : base ≤ w.heap.size)
    (h : ∀ v' w', w'.ownsRow base e size v' (n + m) (xs ++ news) → w.grownBy w' v.ownBlock → wpList P ops Q rest (a.put o.dst v') w') : wpList P ops Q (o :: rest) a w := by
  cases A with
  | none =>
    obtain ⟨rfl, rfl⟩ := hn rfl
    obtain rfl : news = [] := List.eq_nil_of_length_eq_zero (by simpa using hl)
    exact wpList_append_own_none hgd s x t ho base e i size ht hi v n xs hs hown hx (h v w (by simpa using hown) ⟨rfl, rfl, rfl, Nat.le_refl _, fun _ _ _ => rfl⟩)
  | some ad => exact wpList_append_own w hgd s x t ho base e i z size bytes ht hi hz hsize hby hzs hsz v n xs hs hown ad m c news hx hl (hnews ad rfl) h1 h63 hbytes hbase fun v' w' h2 h3 _ => h v' w' h2 h3
end Go.Proofs.Ytaofldlidifdcaa.Row0
