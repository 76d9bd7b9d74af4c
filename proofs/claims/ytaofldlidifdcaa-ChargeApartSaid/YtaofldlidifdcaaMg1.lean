/-
  Texts of one claim, joined in build order: Pop.
-/
/-
  How many ones: the sum by halves, bytes and words, over Nat.
-/
namespace Go.Proofs.Ytaofldlidifdcaa.Bits

theorem and_byte (h l m b : Nat) (hl : l < 256) (hb : b < 256) : (256 * h + l) &&& (256 * m + b) = 256 * (h &&& m) + (l &&& b) := by
  apply Nat.eq_of_testBit_eq
  intro i
  have h1 : l &&& b < 256 := Nat.lt_of_le_of_lt Nat.and_le_left hl
  rw [Nat.testBit_and, show (256 : Nat) = 2 ^ 8 from rfl, Nat.testBit_two_pow_mul_add _ (by simpa using hl), Nat.testBit_two_pow_mul_add _ (by simpa using hb), Nat.testBit_two_pow_mul_add _ (by simpa using h1)]
  by_cases hi : i < 8
  · simp [hi, Nat.testBit_and]
  · simp [hi, Nat.testBit_and]
/-- The ones of a number of so many bytes. -/
def ones : Nat → Nat → Nat
  | 0, _ => 0
  | k + 1, x => x % 2 + ones k (x / 2)
def rep (b : Nat) : Nat → Nat
  | 0 => 0
  | n + 1 => 256 * rep b n + b
def st1 (n x : Nat) : Nat := ((x / 2) &&& rep 85 n) + (x &&& rep 85 n)
def st2 (n x : Nat) : Nat := ((x / 4) &&& rep 51 n) + (x &&& rep 51 n)
def st3 (n x : Nat) : Nat := (x / 16 + x) &&& rep 15 n
def b1 (l : Nat) : Nat := ((l / 2) &&& 85) + (l &&& 85)
def b2 (l : Nat) : Nat := ((l / 4) &&& 51) + (l &&& 51)
theorem d1 : ∀ c : Fin 2, ∀ l : Fin 256, ((128 * c.val + l.val / 2) &&& 85) = ((l.val / 2) &&& 85) := by decide +kernel
theorem d2 : ∀ c : Fin 4, ∀ l : Fin 256, ((64 * c.val + l.val / 4) &&& 51) = ((l.val / 4) &&& 51) := by decide +kernel
theorem st1_step (n h l : Nat) (hl : l < 256) : st1 (n + 1) (256 * h + l) = 256 * st1 n h + b1 l := by
  have e := d1 ⟨h % 2, by omega⟩ ⟨l, hl⟩
  simp only at e
  unfold st1 b1
  rw [show (256 * h + l) / 2 = 256 * (h / 2) + (128 * (h % 2) + l / 2) by omega]
  simp only [rep]
  rw [and_byte _ _ _ _ (by omega) (by omega), and_byte _ _ _ _ hl (by omega), e]
  omega
theorem st2_step (n h l : Nat) (hl : l < 256) : st2 (n + 1) (256 * h + l) = 256 * st2 n h + b2 l := by
  have e := d2 ⟨h % 4, by omega⟩ ⟨l, hl⟩
  simp only at e
  unfold st2 b2
  rw [show (256 * h + l) / 4 = 256 * (h / 4) + (64 * (h % 4) + l / 4) by omega]
  simp only [rep]
  rw [and_byte _ _ _ _ (by omega) (by omega), and_byte _ _ _ _ hl (by omega), e]
  omega
theorem d3 : ∀ l : Fin 256, b1 l.val < 256 ∧ b2 (b1 l.val) < 256 ∧ b2 (b1 l.val) % 16 ≤ 4 ∧ b2 (b1 l.val) / 16 ≤ 4 ∧ b2 (b1 l.val) % 16 + b2 (b1 l.val) / 16 = ones 8 l.val := by decide +kernel
theorem d4 : ∀ c : Fin 5, ∀ a : Fin 5, ∀ b : Fin 5, ((16 * c.val + a.val + (16 * a.val + b.val)) &&& 15) = a.val + b.val := by decide +kernel
theorem g_step (n h l : Nat) (hl : l < 256) (hh : st2 n (st1 n h) % 16 ≤ 4) : st3 (n + 1) (st2 (n + 1) (st1 (n + 1) (256 * h + l))) = 256 * st3 n (st2 n (st1 n h)) + ones 8 l ∧ st2 (n + 1) (st1 (n + 1) (256 * h + l)) % 16 ≤ 4 := by
  obtain ⟨e1, e2, e3, e4, e5⟩ := d3 ⟨l, hl⟩
  simp only at e1 e2 e3 e4 e5
  rw [st1_step n h l hl, st2_step n _ _ e1]
  generalize b2 (b1 l) = m at *
  generalize st2 n (st1 n h) = H at *
  refine ⟨?_, by omega⟩
  have e := d4 ⟨H % 16, by omega⟩ ⟨m / 16, by omega⟩ ⟨m % 16, by omega⟩
  simp only at e
  unfold st3
  rw [show (256 * H + m) / 16 + (256 * H + m) = 256 * (H / 16 + H) + (16 * (H % 16) + m / 16 + (16 * (m / 16) + m % 16)) by omega]
  simp only [rep]
  rw [and_byte _ _ _ _ (by omega) (by omega), e]
  omega
theorem ones_byte (a h l : Nat) (hl : l < 256) : ones (a + 8) (256 * h + l) = ones 8 l + ones a h := by
  simp only [ones]
  have e : (256 * h + l) / 2 / 2 / 2 / 2 / 2 / 2 / 2 / 2 = h := by omega
  rw [e]
  omega
/-- The last three sums, and the seven bits. -/
def fin (y : Nat) : Nat := ((y + y / 256) + (y + y / 256) / 65536 + ((y + y / 256) + (y + y / 256) / 65536) / 4294967296) % 128
theorem div_add (d X r : Nat) (hr : r < d) : (d * X + r) / d = X := by
  rw [Nat.mul_add_div (by omega), Nat.div_eq_of_lt hr]
  rfl
theorem fin_sum (c0 c1 c2 c3 c4 c5 c6 c7 : Nat) (h0 : c0 ≤ 8) (h1 : c1 ≤ 8) (h2 : c2 ≤ 8) (h3 : c3 ≤ 8) (h4 : c4 ≤ 8) (h5 : c5 ≤ 8) (h6 : c6 ≤ 8) (h7 : c7 ≤ 8) :
    fin (256 * (256 * (256 * (256 * (256 * (256 * (256 * c7 + c6) + c5) + c4) + c3) + c2) + c1) + c0) = c0 + c1 + c2 + c3 + c4 + c5 + c6 + c7 := by
  unfold fin
  rw [div_add 256 _ c0 (by omega)]
  have e2 : (256 * (256 * (256 * (256 * (256 * (256 * (256 * c7 + c6) + c5) + c4) + c3) + c2) + c1) + c0) + (256 * (256 * (256 * (256 * (256 * (256 * c7 + c6) + c5) + c4) + c3) + c2) + c1) =
    65536 * (256 * (256 * (256 * (256 * (256 * c7 + (c6 + c7)) + (c5 + c6)) + (c4 + c5)) + (c3 + c4)) + (c2 + c3)) + ((c0 + c1) + 256 * (c1 + c2)) := by omega
  rw [e2, div_add 65536 _ _ (by omega)]
  have e3 : 65536 * (256 * (256 * (256 * (256 * (256 * c7 + (c6 + c7)) + (c5 + c6)) + (c4 + c5)) + (c3 + c4)) + (c2 + c3)) + ((c0 + c1) + 256 * (c1 + c2)) + (256 * (256 * (256 * (256 * (256 * c7 + (c6 + c7)) + (c5 + c6)) + (c4 + c5)) + (c3 + c4)) + (c2 + c3)) =
    4294967296 * (256 * (256 * (256 * c7 + (c6 + c7)) + (c5 + c6 + c7)) + (c4 + c5 + c6 + c7)) + (256 * (256 * (256 * (c3 + c4 + c5 + c6) + (c2 + c3 + c4 + c5)) + (c1 + c2 + c3 + c4)) + (c0 + c1 + c2 + c3)) := by omega
  rw [e3, div_add 4294967296 _ _ (by omega)]
  omega
theorem ones8_le (l : Nat) (hl : l < 256) : ones 8 l ≤ 8 := by
  have : ∀ l : Fin 256, ones 8 l.val ≤ 8 := by decide +kernel
  exact this ⟨l, hl⟩
def g (n x : Nat) : Nat := st3 n (st2 n (st1 n x))
theorem g_zero (x : Nat) : g 0 x = 0 ∧ st2 0 (st1 0 x) % 16 ≤ 4 := by simp [g, st1, st2, st3, rep]
theorem g_next (n x : Nat) (hh : st2 n (st1 n (x / 256)) % 16 ≤ 4) : g (n + 1) x = 256 * g n (x / 256) + ones 8 (x % 256) ∧ st2 (n + 1) (st1 (n + 1) x) % 16 ≤ 4 := by
  have := g_step n (x / 256) (x % 256) (by omega) hh
  rw [show 256 * (x / 256) + x % 256 = x by omega] at this
  exact this
theorem low (n : Nat) : ∀ x, st2 n (st1 n x) % 16 ≤ 4 := by
  induction n with
  | zero => exact fun x => (g_zero x).2
  | succ n ih => exact fun x => (g_next n x (ih _)).2
theorem g_succ (n x : Nat) : g (n + 1) x = 256 * g n (x / 256) + ones 8 (x % 256) := (g_next n x (low n _)).1
theorem ones_split (a x : Nat) : ones (a + 8) x = ones 8 (x % 256) + ones a (x / 256) := by
  have := ones_byte a (x / 256) (x % 256) (by omega)
  rw [show 256 * (x / 256) + x % 256 = x by omega] at this
  exact this
/-- The sum by halves is the number of ones. -/
theorem pop_all (x : Nat) : fin (g 8 x) = ones 64 x := by
  rw [g_succ, g_succ, g_succ, g_succ, g_succ, g_succ, g_succ, g_succ, (g_zero _).1]
  rw [show (64 : Nat) = 56 + 8 from rfl, ones_split 56, show (56 : Nat) = 48 + 8 from rfl, ones_split 48, show (48 : Nat) = 40 + 8 from rfl, ones_split 40, show (40 : Nat) = 32 + 8 from rfl, ones_split 32, show (32 : Nat) = 24 + 8 from rfl, ones_split 24, show (24 : Nat) = 16 + 8 from rfl, ones_split 16, show (16 : Nat) = 8 + 8 from rfl, ones_split 8]
  have L := fun y => ones8_le (y % 256) (Nat.mod_lt _ (by decide))
  have h := fin_sum _ _ _ _ _ _ _ _ (L x) (L (x / 256)) (L (x / 256 / 256)) (L (x / 256 / 256 / 256)) (L (x / 256 / 256 / 256 / 256)) (L (x / 256 / 256 / 256 / 256 / 256)) (L (x / 256 / 256 / 256 / 256 / 256 / 256)) (L (x / 256 / 256 / 256 / 256 / 256 / 256 / 256))
  have e8 : ones 8 (x / 256 / 256 / 256 / 256 / 256 / 256 / 256) = ones 8 (x / 256 / 256 / 256 / 256 / 256 / 256 / 256 % 256) := (ones_split 0 _).trans (Nat.add_zero _)
  rw [e8, Nat.mul_zero, Nat.zero_add, h]
  omega
end Go.Proofs.Ytaofldlidifdcaa.Bits
