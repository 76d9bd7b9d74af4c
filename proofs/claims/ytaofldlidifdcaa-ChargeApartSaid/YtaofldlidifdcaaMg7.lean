/-
  Texts of one claim, joined in build order: Calm.
-/
import Derived.Test.YtaofldlidifdcaaMg6
import Derived.Still
import Derived.Below
import Derived.KernelRfl
import Derived.Deep.Draws
import Derived.WalkKit
/-
  A region that draws its order, whose operations compute, read, make memory and call what only makes memory: one walk in the order of the text serves every order. An operation yields a value that is named, or a value of which a fact is kept that stays true when memory is made.
-/
namespace Go.Proofs.Ytaofldlidifdcaa.Calm
open Go Go.RowKit

/-- What an operation may yield: this very value, or one of which this holds. -/
abbrev Kind := Value ⊕ (Value → World → Prop)

def upon (P : Program) (K : Value → World → Prop) : Result Next → Prop
  | .ok (.value u) w' => K u w'
  | .ok .skip w' => K undef w'
  | .ok (.enter f args) w' => Calls P f args w' fun e w'' => ∃ u, e = .returned u ∧ K u w''
  | _ => False
theorem upon_value (P : Program) (K : Value → World → Prop) (u : Value) (w : World) : upon P K (.ok (.value u) w) = K u w := rfl
theorem upon_skip (P : Program) (K : Value → World → Prop) (w : World) : upon P K (.ok .skip w) = K undef w := rfl
theorem upon_enter (P : Program) (K : Value → World → Prop) (f : FuncId) (args : Array Value) (w : World) : upon P K (.ok (.enter f args) w) = Calls P f args w fun e w'' => ∃ u, e = .returned u ∧ K u w'' := rfl
theorem upon_mono {P : Program} {K K' : Value → World → Prop} (h : ∀ u w, K u w → K' u w) {r : Result Next} (hr : upon P K r) : upon P K' r := by
  cases r with
  | ok n w' =>
    cases n <;> simp only [upon] at hr ⊢
    case value u => exact h _ _ hr
    case skip => exact h _ _ hr
    case enter f args => exact hr.mono fun e w'' ⟨u, he, hk⟩ => ⟨u, he, h _ _ hk⟩
  | halt x w' => simp only [upon] at hr

def opAt (P : Program) (o : Oper) (a : Act) (K : Value → World → Prop) (w : World) : Prop := upon P K ((execOp a.eval o).run P w)

/-- What is known of an operation's values: of those that it waits for. -/
def facts (o : Oper) (F : List (Nat × (World → Prop))) (w : World) : Prop := ∀ f ∈ F, (o.after.toList.any fun e => Region.binds .any e && e.on == f.1) = true → f.2 w

def Calm (P : Program) (ops : Array Oper) (B : Nat) (W : World) (Q : Act → World → Prop) : List Oper → Nat → List Kind → List (Nat × (World → Prop)) → Act → Prop
  | [], _, _, F, a => ∀ w, Below B W w → (∀ (f : Nat × (World → Prop)), f ∈ F → f.2 w) → Q a w
  | o :: l, k, .inl v :: Ks, F, a =>
    (∀ w, Below B W w → facts o F w → if Region.wanted o (yielded ops a.tmps) = true then opAt P o a (fun u w' => u = v ∧ Below w.heap.size w w') w else v = undef) ∧ Calm P ops B W Q l (k + 1) Ks F (a.put o.dst v)
  | o :: l, k, .inr R :: Ks, F, a =>
    (∀ u w w', R u w → Below w.heap.size w w' → R u w') ∧ Region.wanted o (yielded ops a.tmps) = true ∧
    (∀ w, Below B W w → facts o F w → opAt P o a (fun u w' => R u w' ∧ Below w.heap.size w w') w) ∧ ∀ u, Calm P ops B W Q l (k + 1) Ks (F ++ [(k, R u)]) (a.put o.dst u)
  | _ :: _, _, [], _, _ => False

section
variable {P : Program} {ops : Array Oper} {B : Nat} {W : World} {Q : Act → World → Prop}

/-- The frame at which the operations of S have come up, with these values. -/
structure Agree (ops : Array Oper) (a0 : Act) (S : Nat → Prop) (x : Nat → Value) (A : Act) : Prop where
  size : A.tmps.size = a0.tmps.size
  defers : A.defers = a0.defers
  put : ∀ j o t, S j → ops[j]? = some o → o.dst = some t → A.tmps[t]? = if t < a0.tmps.size then some (x j) else none
  base : ∀ t, (∀ j o, S j → ops[j]? = some o → o.dst ≠ some t) → A.tmps[t]? = a0.tmps[t]?

def Distinct (ops : Array Oper) : Prop := ∀ (i j : Nat) (oi oj : Oper) (t : Tmp), ops[i]? = some oi → ops[j]? = some oj → oi.dst = some t → oj.dst = some t → i = j

theorem Agree.step {a0 A : Act} {S : Nat → Prop} {x : Nat → Value} (h : Agree ops a0 S x A) (hd : Distinct ops) {i : Nat} {oi : Oper} (hi : ops[i]? = some oi) (hS : ¬ S i) (u : Value) {S' : Nat → Prop} {x' : Nat → Value}
    (hS' : ∀ j, S' j ↔ S j ∨ j = i) (hx : x' i = u) (hx' : ∀ j, S j → x' j = x j) : Agree ops a0 S' x' (A.put oi.dst u) := by
  have key : ∀ t, (A.put oi.dst u).tmps[t]? = if oi.dst = some t then (if t < a0.tmps.size then some u else none) else A.tmps[t]? := by
    intro t
    cases hd' : oi.dst with
    | none => simp [Act.put]
    | some d =>
      by_cases hdt : d = t
      · subst hdt
        simp only [Act.put, if_true]
        rw [Array.getElem?_setIfInBounds_self]
        rw [h.size]
      · rw [if_neg (by intro e; injection e with e; exact hdt e)]
        simp [Act.put, Array.getElem?_setIfInBounds_ne hdt]
  refine ⟨?_, ?_, ?_, ?_⟩
  · rw [← h.size]; cases oi.dst <;> simp [Act.put]
  · rw [← h.defers]; cases oi.dst <;> simp [Act.put]
  · intro j o t hj ho hdst
    rw [key t]
    rcases (hS' j).1 hj with hj | rfl
    · rw [hx' j hj, ← h.put j o t hj ho hdst, if_neg]
      intro e
      have := hd i j oi o t hi ho e hdst
      exact hS (this ▸ hj)
    · rw [hi] at ho
      cases ho
      rw [if_pos hdst, hx]
  · intro t ht
    rw [key t, if_neg (fun e => ht i oi ((hS' i).2 (.inr rfl)) hi e)]
    exact h.base t fun j o hj ho => ht j o ((hS' j).2 (.inl hj)) ho

theorem Agree.same {a0 A A' : Act} {S : Nat → Prop} {x : Nat → Value} (h : Agree ops a0 S x A) (h' : Agree ops a0 S x A') : A = A' := by
  obtain ⟨ts, ds⟩ := A
  obtain ⟨ts', ds'⟩ := A'
  have e1 : ds = ds' := h.defers.trans h'.defers.symm
  have e2 : ts = ts' := by
    apply Array.ext_getElem?
    intro t
    by_cases ht : ∃ j o, S j ∧ ops[j]? = some o ∧ o.dst = some t
    · obtain ⟨j, o, h1, h2, h3⟩ := ht
      exact (h.put j o t h1 h2 h3).trans (h'.put j o t h1 h2 h3).symm
    · have ht' : ∀ j o, S j → ops[j]? = some o → o.dst ≠ some t := fun j o h1 h2 h3 => ht ⟨j, o, h1, h2, h3⟩
      exact (h.base t ht').trans (h'.base t ht').symm
  subst e1 e2
  rfl

/-- Two frames at which an operation is the same. -/
theorem Agree.like {a0 A A' : Act} {S S' : Nat → Prop} {x : Nat → Value} (h : Agree ops a0 S x A) (h' : Agree ops a0 S' x A') {o : Oper}
    (ho : ∀ t ∈ o.looksAt ops, ∀ j oj, ops[j]? = some oj → oj.dst = some t → (S j ↔ S' j)) : ∀ t ∈ o.looksAt ops, A.tmps[t]? = A'.tmps[t]? := by
  intro t ht
  by_cases hj : ∃ j oj, S j ∧ ops[j]? = some oj ∧ oj.dst = some t
  · obtain ⟨j, oj, h1, h2, h3⟩ := hj
    rw [h.put j oj t h1 h2 h3, h'.put j oj t ((ho t ht j oj h2 h3).1 h1) h2 h3]
  · rw [h.base t fun j oj h1 h2 h3 => hj ⟨j, oj, h1, h2, h3⟩, h'.base t fun j oj h1 h2 h3 => hj ⟨j, oj, (ho t ht j oj h2 h3).2 h1, h2, h3⟩]
theorem exec_like {o : Oper} (hs : ∀ cs b, o.op ≠ .select cs b) {A A' : Act} (h : ∀ t ∈ o.looksAt ops, A.tmps[t]? = A'.tmps[t]?) : execOp A.eval o = execOp A'.eval o :=
  execOp_congr o hs fun y hy => by
    cases y with
    | tmp t =>
      have := h t (List.mem_append_left _ (List.mem_filterMap.2 ⟨.tmp t, by simpa using hy, rfl⟩))
      simp only [Act.eval]
      rw [Array.getD_eq_getD_getElem?, Array.getD_eq_getD_getElem?, this]
    | _ => rfl
theorem wanted_like {o : Oper} {A A' : Act} (h : ∀ t ∈ o.looksAt ops, A.tmps[t]? = A'.tmps[t]?) : Region.wanted o (yielded ops A.tmps) = Region.wanted o (yielded ops A'.tmps) := by
  unfold Region.wanted
  cases hg : o.guard with
  | none => rfl
  | some gw =>
    obtain ⟨g, want⟩ := gw
    have hy : yielded ops A.tmps g = yielded ops A'.tmps g := by
      unfold yielded
      cases ht : (ops[g]?).bind (·.dst) with
      | none => rfl
      | some t =>
        have := h t (by simp [Oper.looksAt, hg, ht])
        simp only [Option.bind_some, this]
    simp only [hy]

/-- What one operation owes. -/
def owes (P : Program) (ops : Array Oper) (B : Nat) (W : World) (o : Oper) (K : Kind) (F : List (Nat × (World → Prop))) (a : Act) : Prop :=
  match K with
  | .inl v => ∀ w, Below B W w → facts o F w → if Region.wanted o (yielded ops a.tmps) = true then opAt P o a (fun u w' => u = v ∧ Below w.heap.size w w') w else v = undef
  | .inr R => (∀ u w w', R u w → Below w.heap.size w w' → R u w') ∧ Region.wanted o (yielded ops a.tmps) = true ∧ ∀ w, Below B W w → facts o F w → opAt P o a (fun u w' => R u w' ∧ Below w.heap.size w w') w

abbrev Fs := List (Nat × (World → Prop))
def Fine (KK : Nat → Kind) (x : Nat → Value) (k : Nat) (F : Fs) : Prop := ∀ f ∈ F, f.1 < k ∧ ∃ R, KK f.1 = .inr R ∧ f.2 = R (x f.1)
theorem Fine.mono {KK : Nat → Kind} {x : Nat → Value} {k k' : Nat} {F : Fs} (h : Fine KK x k F) (hk : k ≤ k') : Fine KK x k' F := fun f hf => ⟨Nat.lt_of_lt_of_le (h f hf).1 hk, (h f hf).2⟩
def Row (P : Program) (ops : Array Oper) (B : Nat) (W : World) (a0 : Act) (KK : Nat → Kind) (x : Nat → Value) (k : Nat) (l : List Oper) : Prop :=
  ∀ (i : Nat) (o : Oper), l[i]? = some o → ∃ (ai : Act) (Fi : Fs), Agree ops a0 (· < k + i) x ai ∧ Fine KK x (k + i) Fi ∧ owes P ops B W o (KK (k + i)) Fi ai
def End (B : Nat) (W : World) (Q : Act → World → Prop) (ops : Array Oper) (a0 : Act) (KK : Nat → Kind) (x : Nat → Value) (k : Nat) : Prop :=
  ∃ (an : Act) (Fn : Fs), Agree ops a0 (· < k) x an ∧ Fine KK x k Fn ∧ ∀ w, Below B W w → (∀ f ∈ Fn, f.2 w) → Q an w

theorem table (hd : Distinct ops) {a0 : Act} {x : Nat → Value} {KK : Nat → Kind} (hx : ∀ j v, KK j = .inl v → x j = v) : ∀ (l : List Oper) (k : Nat) (Ks : List Kind) (F : Fs) (a : Act), (∀ j, l[j]? = ops[k + j]?) → (∀ j, j < l.length → j < Ks.length → Ks[j]? = some (KK (k + j))) →
    Agree ops a0 (· < k) x a → Fine KK x k F → Calm P ops B W Q l k Ks F a → Row P ops B W a0 KK x k l ∧ End B W Q ops a0 KK x (k + l.length)
  | [], k, Ks, F, a, hl, hK, ha, hF, h => by
    refine ⟨fun i o hi => by simp at hi, a, F, by simpa using ha, by simpa using hF, ?_⟩
    simpa [Calm] using h
  | o :: l, k, [], F, a, hl, hK, ha, hF, h => by simp [Calm] at h
  | o :: l, k, K :: Ks, F, a, hl, hK, ha, hF, h => by
    have ho : ops[k]? = some o := by simpa using (hl 0).symm
    have hk : K = KK k := by simpa using hK 0 (by simp) (by simp)
    have hl' : ∀ j, l[j]? = ops[k + 1 + j]? := fun j => by have := hl (j + 1); simpa [Nat.add_assoc, Nat.add_comm 1 j] using this
    have hK' : ∀ j, j < l.length → j < Ks.length → Ks[j]? = some (KK (k + 1 + j)) := fun j hj hj' => by have := hK (j + 1) (by simpa using hj) (by simpa using hj'); simpa [Nat.add_assoc, Nat.add_comm 1 j] using this
    have ha' : Agree ops a0 (· < k + 1) x (a.put o.dst (x k)) := ha.step hd ho (Nat.lt_irrefl k) (x k) (fun j => by omega) rfl fun _ _ => rfl
    have next : ∀ F' : Fs, Fine KK x (k + 1) F' → Calm P ops B W Q l (k + 1) Ks F' (a.put o.dst (x k)) → owes P ops B W o (KK k) F a → Row P ops B W a0 KK x k (o :: l) ∧ End B W Q ops a0 KK x (k + (o :: l).length) := fun F' hF' hc hw => by
      obtain ⟨h1, h2⟩ := table hd hx l (k + 1) Ks F' (a.put o.dst (x k)) hl' hK' ha' hF' hc
      refine ⟨fun i o' hi => ?_, ?_⟩
      · cases i with
        | zero => simp at hi; subst hi; exact ⟨a, F, by simpa using ha, by simpa using hF, by simpa using hw⟩
        | succ i =>
          have := h1 i o' (by simpa using hi)
          rwa [show k + 1 + i = k + (i + 1) by omega] at this
      · rwa [show k + 1 + l.length = k + (o :: l).length by simp; omega] at h2
    cases K with
    | inl v =>
      simp only [Calm] at h
      have hv := hx k v hk.symm
      rw [← hv] at h
      refine next F (hF.mono (Nat.le_succ k)) h.2 ?_
      unfold owes
      rw [← hk]
      rw [hv] at h
      exact h.1
    | inr R =>
      simp only [Calm] at h
      refine next (F ++ [(k, R (x k))]) (fun f hf => ?_) (h.2.2.2 (x k)) ?_
      · rcases List.mem_append.1 hf with hf | hf
        · exact (hF.mono (Nat.le_succ k)) f hf
        · simp at hf
          subst hf
          exact ⟨by simp, R, hk.symm, rfl⟩
      · unfold owes
        rw [← hk]
        exact ⟨h.1, h.2.1, h.2.2.1⟩

theorem calm_len : ∀ (l : List Oper) (k : Nat) (Ks : List Kind) (F : Fs) (a : Act), Calm P ops B W Q l k Ks F a → l.length ≤ Ks.length
  | [], _, _, _, _, _ => Nat.zero_le _
  | _ :: _, _, [], _, _, h => by simp [Calm] at h
  | o :: l, k, .inl v :: Ks, F, a, h => by simp only [Calm] at h; have := calm_len l _ _ _ _ h.2; simpa using this
  | o :: l, k, .inr R :: Ks, F, a, h => by simp only [Calm] at h; have := calm_len l _ _ _ _ (h.2.2.2 undef); simpa using this

/-! The order -/
/-- Of two operations the later one waits for the earlier one, or they are apart; and none waits for a later one. -/
theorem lex_pairs (md : Region.Mode) : ∀ (f k : Nat) (listed : Array Bool), f + k = ops.size → listed.size = ops.size → (∀ j, listed.getD j true = true ↔ j < k ∨ ops.size ≤ j) → Region.lexFrom md ops f k listed = true →
    ∀ i, k ≤ i → ∀ oi, ops[i]? = some oi → (∀ e ∈ oi.after, Region.binds md e = true → e.on < i) ∧
      ∀ j oj, i < j → ops[j]? = some oj → (∀ e ∈ oj.after, Region.binds md e = true → e.on ≠ i) → oi.apart ops oj = true
  | 0, k, listed, hf, hs, hl, h, i, hi, oi, hoi => by
    have := (Array.getElem?_eq_some_iff.1 hoi).1
    omega
  | f + 1, k, listed, hf, hs, hl, h, i, hi, oi, hoi => by
    simp only [Region.lexFrom, Bool.and_eq_true] at h
    obtain ⟨⟨hr, hfree⟩, hB'⟩ := h
    by_cases hik : i = k
    · subst hik
      have hr' := mem_ready.1 (List.contains_iff_mem.1 hr)
      obtain ⟨_, o, ho, hall⟩ := hr'
      rw [hoi] at ho
      cases ho
      refine ⟨fun e he hb => ?_, fun j oj hij hoj hno => ?_⟩
      · have h1 := hall e he hb
        have hlt : e.on < listed.size := by
          rcases Nat.lt_or_ge e.on listed.size with h' | h'
          · exact h'
          · simp [Array.getElem?_eq_none h'] at h1
        have h2 : listed.getD e.on true = true := by simp [hlt] at h1 ⊢; exact h1
        rcases (hl e.on).1 h2 with h3 | h3
        · exact h3
        · omega
      · have hj : listed.getD j true = false := by
          cases h' : listed.getD j true with
          | false => rfl
          | true =>
            have := (Array.getElem?_eq_some_iff.1 hoj).1
            rcases (hl j).1 h' with h3 | h3 <;> omega
        exact Region.free_spec hoi hfree j oj hoj (by omega) hj hno
    · refine lex_pairs md f (k + 1) (listed.setIfInBounds k true) (by omega) (by simpa using hs) (fun j => ?_) hB' i (by omega) oi hoi
      by_cases hjk : k = j
      · subst hjk
        have : k < listed.size := by omega
        simp [this]
      · rw [getD_set_ne true hjk, hl j]
        omega

theorem lex_of (h : Region.lexB .any ops = true) : (∀ (j : Nat) (o : Oper) cs b, ops[j]? = some o → o.op ≠ .select cs b) ∧
    ∀ i oi, ops[i]? = some oi → (∀ e ∈ oi.after, Region.binds .any e = true → e.on < i) ∧ ∀ j oj, i < j → ops[j]? = some oj → (∀ e ∈ oj.after, Region.binds .any e = true → e.on ≠ i) → oi.apart ops oj = true := by
  simp only [Region.lexB, Bool.and_eq_true] at h
  refine ⟨Region.noSelect_spec h.1, fun i oi hi => lex_pairs .any ops.size 0 (Array.replicate ops.size false) (by simp) (by simp) (fun j => ?_) h.2 i (Nat.zero_le _) oi hi⟩
  rcases Nat.lt_or_ge j ops.size with hj | hj
  · simp [hj]
  · simp [hj]

def unl (listed : Array Bool) : Nat → Nat
  | 0 => 0
  | n + 1 => unl listed n + if listed.getD n true = false then 1 else 0
theorem unl_set (listed : Array Bool) (i : Nat) (hi : listed.getD i true = false) : ∀ n, unl (listed.setIfInBounds i true) n + (if i < n then 1 else 0) = unl listed n
  | 0 => rfl
  | n + 1 => by
    have ih := unl_set listed i hi n
    unfold unl
    by_cases hin : i = n
    · subst hin
      have h1 : (listed.setIfInBounds i true).getD i true = true := by
        rcases Nat.lt_or_ge i listed.size with h' | h'
        · simp [h']
        · simp [h']
      rw [h1, hi]
      simp at ih ⊢
      omega
    · rw [getD_set_ne true hin]
      have : (if i < n + 1 then 1 else 0) = (if i < n then 1 else 0) := by
        by_cases h : i < n
        · rw [if_pos h, if_pos (by omega)]
        · rw [if_neg h, if_neg (by omega)]
      rw [this]
      omega
theorem unl_zero (listed : Array Bool) (n : Nat) (h : unl listed n = 0) : ∀ i, i < n → listed.getD i true = true := by
  induction n with
  | zero => intro i hi; omega
  | succ n ih =>
    unfold unl at h
    intro i hi
    by_cases hin : i = n
    · subst hin
      cases h' : listed.getD i true with
      | true => rfl
      | false => rw [h'] at h; simp at h
    · exact ih (by omega) i (by omega)
theorem unl_full : ∀ n m, n ≤ m → unl (Array.replicate m false) n = n
  | 0, _, _ => rfl
  | n + 1, m, h => by unfold unl; rw [unl_full n m (by omega)]; simp [show n < m by omega]

/-- Where so many have come up. -/
structure Inv (ops : Array Oper) (B : Nat) (W : World) (a0 : Act) (KK : Nat → Kind) (listed : Array Bool) (x : Nat → Value) (A : Act) (w : World) : Prop where
  below : Below B W w
  size : listed.size = ops.size
  closed : ∀ j oj, ops[j]? = some oj → listed.getD j true = true → ∀ e ∈ oj.after, Region.binds .any e = true → listed.getD e.on true = true
  good : ∀ j v, KK j = .inl v → x j = v
  agree : Agree ops a0 (fun j => j < ops.size ∧ listed.getD j true = true) x A
  known : ∀ j R, j < ops.size → listed.getD j true = true → KK j = .inr R → R (x j) w

theorem wp_of_opAt {o : Oper} {a A : Act} {G : Value → World → Prop} {w : World} {K' : Act → World → Prop} {Q' : Exit → Act → World → Prop} (h : opAt P o a G w) (he : execOp A.eval o = execOp a.eval o) (hK : ∀ u w', G u w' → K' (A.put o.dst u) w') : o.wp P A w K' Q' := by
  unfold opAt at h
  unfold Oper.wp
  rw [he]
  generalize (execOp a.eval o).run P w = r at *
  cases r with
  | ok n w' =>
    cases n <;> simp only [upon] at h <;> simp only [Oper.upon]
    case value u => exact hK _ _ h
    case skip => exact hK _ _ h
    case enter f args => exact h.mono fun e w'' ⟨u, he, hk⟩ => by subst he; exact hK _ _ hk
  | halt x w' => simp only [upon] at h

theorem all_of_empty {listed : Array Bool} (hs : listed.size = ops.size) (hafter : ∀ (i : Nat) oi, ops[i]? = some oi → ∀ e ∈ oi.after, Region.binds .any e = true → e.on < i) (h : Region.ready .any ops listed = []) :
    ∀ i, i < ops.size → listed.getD i true = true := by
  intro i
  induction i using Nat.strongRecOn with
  | _ i ih =>
    intro hi
    cases h' : listed.getD i true with
    | true => rfl
    | false =>
      have : i ∈ Region.ready .any ops listed := by
        refine mem_ready.2 ⟨h', ops[i], Array.getElem?_eq_getElem hi, fun e he hb => ?_⟩
        have hlt := hafter i _ (Array.getElem?_eq_getElem hi) e he hb
        have h1 := ih e.on hlt (by omega)
        have h2 : e.on < listed.size := by omega
        simp [h2] at h1 ⊢
        exact h1
      rw [h] at this
      cases this

theorem any_of_inv (hBW : B ≤ W.heap.size) (hd : Distinct ops) (hlex : Region.lexB .any ops = true) {a0 : Act} {KK : Nat → Kind} {Q' : Exit → Act → World → Prop} (hQ : ∀ a w, Q a w → Q' .normal a w)
    (hT : ∀ x, (∀ j v, KK j = .inl v → x j = v) → Row P ops B W a0 KK x 0 ops.toList ∧ End B W Q ops a0 KK x ops.size)
    (hst : ∀ j R, j < ops.size → KK j = .inr R → ∀ u w w', R u w → Below w.heap.size w w' → R u w') :
    ∀ (fuel : Nat) (listed : Array Bool) (x : Nat → Value) (A : Act) (w : World), unl listed ops.size ≤ fuel → Inv ops B W a0 KK listed x A w → wpAny P .any ops Q' fuel listed A w := by
  obtain ⟨hsel, hpair⟩ := lex_of hlex
  have fin : ∀ (listed : Array Bool) (x : Nat → Value) (A : Act) (w : World), (∀ i, i < ops.size → listed.getD i true = true) → Inv ops B W a0 KK listed x A w → Q' .normal A w := fun listed x A w hall inv => by
    obtain ⟨an, Fn, h1, h2, h3⟩ := (hT x inv.good).2
    have e : A = an := by
      refine Agree.same (S := fun j => j < ops.size) (ops := ops) (a0 := a0) (x := x) ?_ h1
      exact ⟨inv.agree.size, inv.agree.defers, fun j o t hj => inv.agree.put j o t ⟨hj, hall j hj⟩, fun t ht => inv.agree.base t fun j o hj => ht j o hj.1⟩
    subst e
    refine hQ _ _ (h3 w inv.below fun f hf => ?_)
    obtain ⟨h4, R, h5, h6⟩ := h2 f hf
    rw [h6]
    exact inv.known f.1 R h4 (hall _ h4) h5
  intro fuel
  induction fuel with
  | zero =>
    intro listed x A w hu inv
    have hall := unl_zero listed ops.size (by omega)
    refine ⟨?_, fin listed x A w hall inv⟩
    apply List.eq_nil_iff_forall_not_mem.2
    intro i hi
    obtain ⟨h1, o, ho, _⟩ := mem_ready.1 hi
    rw [hall i (Array.getElem?_eq_some_iff.1 ho).1] at h1
    cases h1
  | succ fuel ih =>
    intro listed x A w hu inv
    refine ⟨fun h0 => fin listed x A w (all_of_empty inv.size (fun i oi hi => (hpair i oi hi).1) h0) inv, fun i hi => ?_⟩
    obtain ⟨hun, oi, hoi, hall⟩ := mem_ready.1 hi
    have hilt : i < ops.size := (Array.getElem?_eq_some_iff.1 hoi).1
    have hall' : ∀ e ∈ oi.after, Region.binds .any e = true → e.on < i ∧ listed.getD e.on true = true := fun e he hb => by
      have hlt := (hpair i oi hoi).1 e he hb
      have h1 := hall e he hb
      have h2 : e.on < listed.size := by rw [inv.size]; omega
      refine ⟨hlt, ?_⟩
      simp [h2] at h1 ⊢
      exact h1
    obtain ⟨ai, Fi, g1, g2, g3⟩ := (hT x inv.good).1 i oi (by simpa using hoi)
    rw [Nat.zero_add] at g1 g2 g3
    have like : ∀ t ∈ oi.looksAt ops, A.tmps[t]? = ai.tmps[t]? := by
      refine inv.agree.like g1 fun t ht j oj hoj hdst => ?_
      rcases Nat.lt_trichotomy j i with hji | hji | hji
      · refine ⟨fun _ => hji, fun _ => ⟨by omega, ?_⟩⟩
        by_cases hw : ∃ e ∈ oi.after, Region.binds .any e = true ∧ e.on = j
        · obtain ⟨e, he, hb, rfl⟩ := hw
          exact (hall' e he hb).2
        · have := (hpair j oj hoj).2 i oi hji hoi (fun e he hb hon => hw ⟨e, he, hb, hon⟩)
          exact absurd ht ((Oper.apart_spec this).1 t hdst)
      · subst hji
        exact ⟨fun h => by rw [hun] at h; exact absurd h.2 (by simp), fun h => absurd h (Nat.lt_irrefl _)⟩
      · refine ⟨fun h => ?_, fun h => by omega⟩
        exfalso
        by_cases hw : ∃ e ∈ oj.after, Region.binds .any e = true ∧ e.on = i
        · obtain ⟨e, he, hb, rfl⟩ := hw
          have := inv.closed j oj hoj h.2 e he hb
          rw [hun] at this
          cases this
        · have := (hpair i oi hoi).2 j oj hji hoj (fun e he hb hon => hw ⟨e, he, hb, hon⟩)
          exact absurd ht ((Oper.apart_spec this).2.2 t hdst)
    have hex := exec_like (ops := ops) (hsel i oi · · hoi) like
    have hwa := wanted_like (ops := ops) (o := oi) like
    have hfacts : facts oi Fi w := fun f hf hany => by
      obtain ⟨_, R, h5, h6⟩ := g2 f hf
      rw [h6]
      obtain ⟨e, he, hon⟩ := List.any_eq_true.1 hany
      simp only [Bool.and_eq_true, beq_iff_eq] at hon
      have := hall' e (by simpa using he) hon.1
      rw [hon.2] at this
      exact inv.known f.1 R (by omega) this.2 h5
    have step : ∀ (u : Value) (w' : World) (x' : Nat → Value), Below w.heap.size w w' → x' i = u → (∀ j, j ≠ i → x' j = x j) → (∀ v, KK i = .inl v → u = v) → (∀ R, KK i = .inr R → R u w') →
        (∀ j R, j < ops.size → listed.getD j true = true → KK j = .inr R → R (x j) w') → Inv ops B W a0 KK (listed.setIfInBounds i true) x' (A.put oi.dst u) w' := fun u w' x' hb hxi hxj hval hrel hkn => by
      have hli : ∀ j, (listed.setIfInBounds i true).getD j true = true ↔ listed.getD j true = true ∨ j = i := fun j => by
        by_cases hij : i = j
        · subst hij
          have : i < listed.size := by rw [inv.size]; exact hilt
          simp [this]
        · rw [getD_set_ne true hij]
          constructor
          · exact .inl
          · rintro (h | h)
            · exact h
            · exact absurd h.symm hij
      refine ⟨inv.below.trans (hb.mono (Nat.le_trans hBW inv.below.size)), by simpa using inv.size, fun j oj hoj hl e he hbd => ?_, fun j v hv => ?_, ?_, fun j R hj hl hR => ?_⟩
      · rcases (hli j).1 hl with h | rfl
        · exact (hli _).2 (.inl (inv.closed j oj hoj h e he hbd))
        · rw [hoi] at hoj
          cases hoj
          exact (hli _).2 (.inl (hall' e he hbd).2)
      · by_cases hji : j = i
        · subst hji
          rw [hxi]
          exact hval v hv
        · rw [hxj j hji]
          exact inv.good j v hv
      · refine inv.agree.step hd hoi (fun h => by rw [hun] at h; exact absurd h.2 (by simp)) u (fun j => ?_) hxi (fun j hj => hxj j fun e => by subst e; rw [hun] at hj; exact absurd hj.2 (by simp))
        rw [hli j]
        constructor
        · rintro ⟨h1, h2 | h2⟩
          · exact .inl ⟨h1, h2⟩
          · exact .inr h2
        · rintro (⟨h1, h2⟩ | rfl)
          · exact ⟨h1, .inl h2⟩
          · exact ⟨hilt, .inr rfl⟩
      · by_cases hji : j = i
        · subst hji
          rw [hxi]
          exact hrel R hR
        · rw [hxj j hji]
          rcases (hli j).1 hl with h | h
          · exact hkn j R hj h hR
          · exact absurd h hji
    have hu' : unl (listed.setIfInBounds i true) ops.size ≤ fuel := by
      have := unl_set listed i hun ops.size
      rw [if_pos hilt] at this
      omega
    unfold wpOp
    simp only [hoi]
    unfold owes at g3
    cases hk : KK i with
    | inl v =>
      rw [hk] at g3
      have g4 := g3 w inv.below hfacts
      have go : ∀ w', Below w.heap.size w w' → wpAny P .any ops Q' fuel (listed.setIfInBounds i true) (A.put oi.dst v) w' := fun w' hb =>
        ih _ x _ _ hu' (step v w' x hb (inv.good i v hk) (fun _ _ => rfl) (fun v' h => by rw [hk] at h; cases h; rfl) (fun R h => by rw [hk] at h; cases h)
          fun j R hj hl hR => hst j R hj hR _ _ _ (inv.known j R hj hl hR) hb)
      rw [hwa]
      by_cases hw : Region.wanted oi (yielded ops ai.tmps) = true
      · rw [if_pos hw] at g4 ⊢
        exact .inl (wp_of_opAt g4 hex fun u w' ⟨e1, e2⟩ => by subst e1; exact go w' e2)
      · rw [if_neg hw] at g4 ⊢
        subst g4
        exact go w (Below.refl _ _)
    | inr R =>
      rw [hk] at g3
      obtain ⟨_, hw, g4⟩ := g3
      rw [hwa, if_pos hw]
      refine .inl (wp_of_opAt (g4 w inv.below hfacts) hex fun u w' ⟨e1, e2⟩ => ?_)
      refine ih _ (fun j => if j = i then u else x j) _ _ hu' (step u w' _ e2 (if_pos rfl) (fun j hj => if_neg hj) (fun v h => by rw [hk] at h; cases h) (fun R' h => by rw [hk] at h; cases h; exact e1)
        fun j R' hj hl hR => hst j R' hj hR _ _ _ (inv.known j R' hj hl hR) e2)

/-- What is kept of a value stays true when memory is made. -/
theorem stable_of : ∀ (l : List Oper) (k : Nat) (Ks : List Kind) (F : Fs) (a : Act), Calm P ops B W Q l k Ks F a → ∀ j, j < l.length → ∀ R, Ks[j]? = some (.inr R) → ∀ u w w', R u w → Below w.heap.size w w' → R u w'
  | [], _, _, _, _, _, j, hj, _, _ => by simp at hj
  | _ :: _, _, [], _, _, h, _, _, _, _ => by simp [Calm] at h
  | o :: l, k, K :: Ks, F, a, h, j, hj, R, hR => by
    cases j with
    | zero =>
      simp at hR
      subst hR
      simp only [Calm] at h
      exact h.1
    | succ j =>
      have hR' : Ks[j]? = some (.inr R) := by simpa using hR
      have hj' : j < l.length := by simpa using hj
      cases K with
      | inl v => simp only [Calm] at h; exact stable_of l _ _ _ _ h.2 j hj' R hR'
      | inr R0 => simp only [Calm] at h; exact stable_of l _ _ _ _ (h.2.2.2 undef) j hj' R hR'

def distinctB (l : List (Option Tmp)) : Bool :=
  match l with
  | [] => true
  | none :: l => distinctB l
  | some t :: l => !l.contains (some t) && distinctB l
theorem distinctB_spec : ∀ (l : List (Option Tmp)), distinctB l = true → ∀ (i j : Nat) t, l[i]? = some (some t) → l[j]? = some (some t) → i = j
  | [], _, i, _, _, hi, _ => by simp at hi
  | x :: l, h, i, j, t, hi, hj => by
    have hl : distinctB l = true := by
      cases x with
      | none => simpa [distinctB] using h
      | some y => simp [distinctB] at h; exact h.2
    cases i with
    | zero =>
      cases j with
      | zero => rfl
      | succ j =>
        simp at hi hj
        subst hi
        simp [distinctB] at h
        exact absurd (List.mem_of_getElem? hj) h.1
    | succ i =>
      cases j with
      | zero =>
        simp at hi hj
        subst hj
        simp [distinctB] at h
        exact absurd (List.mem_of_getElem? hi) h.1
      | succ j =>
        have := distinctB_spec l hl i j t (by simpa using hi) (by simpa using hj)
        omega
theorem distinct_of (h : distinctB (ops.toList.map (·.dst)) = true) : Distinct ops := fun i j oi oj t hi hj hti htj =>
  distinctB_spec _ h i j t (by simp [hi, hti]) (by simp [hj, htj])

/-- ONE WALK IN THE ORDER OF THE TEXT SERVES EVERY ORDER. -/
theorem wp_region_calm {id : Nat} {Q' : Exit → Act → World → Prop} {a : Act} {l : List Oper} {w0 : World} (hm : P.follows .mixedOrders = true) (hB : Region.lexB .any l.toArray = true) (hD : distinctB (l.map (·.dst)) = true)
    (hBW : B ≤ W.heap.size) (hW : Below B W w0.drew) (hc : ∃ Ks, Calm P l.toArray B W (fun a w => Q' .normal a w) l 0 Ks [] a) : (Code.region id l.toArray true).wp P Q' a w0 := by
  obtain ⟨Ks, h⟩ := hc
  refine wp_region_any hm ?_
  have hlen := calm_len l 0 Ks [] a h
  let KK : Nat → Kind := fun j => (Ks[j]?).getD (.inl undef)
  have hKK : ∀ j, j < l.length → j < Ks.length → Ks[j]? = some (KK (0 + j)) := fun j _ hj => by
    simp [KK, List.getElem?_eq_getElem hj]
  have hT : ∀ x, (∀ j v, KK j = .inl v → x j = v) → Row P l.toArray B W a KK x 0 l.toArray.toList ∧ End B W (fun a w => Q' .normal a w) l.toArray a KK x l.toArray.size := fun x hx => by
    have := table (ops := l.toArray) (distinct_of (by simpa using hD)) hx l 0 Ks [] a (by simp) hKK ⟨rfl, rfl, fun j o t hj => absurd hj (Nat.not_lt_zero _), fun _ _ => rfl⟩ (fun f hf => by cases hf) h
    simpa using this
  have hst : ∀ j R, j < l.length → KK j = .inr R → ∀ u w w', R u w → Below w.heap.size w w' → R u w' := fun j R hj hR => by
    refine stable_of l 0 Ks [] a h j hj R ?_
    have := hKK j hj (by omega)
    rw [Nat.zero_add, hR] at this
    exact this
  let x0 : Nat → Value := fun j => match KK j with | .inl v => v | .inr _ => undef
  refine any_of_inv hBW (distinct_of (by simpa using hD)) hB (fun _ _ h => h) hT (fun j R hj => hst j R (by simpa using hj)) _ _ x0 _ _ (by rw [unl_full _ _ (Nat.le_refl _)]; exact Nat.le_refl _) ?_
  have hno : ∀ j, j < l.toArray.size → (Array.replicate l.toArray.size false).getD j true = true → False := fun j hj h => by
    rw [Array.getD_eq_getD_getElem?, Array.getElem?_eq_getElem (by simpa using hj)] at h
    simp at h
  refine ⟨hW, by simp, fun j oj hoj hl => (hno j (Array.getElem?_eq_some_iff.1 hoj).1 hl).elim, fun j v hv => by simp only [x0, hv], ⟨rfl, rfl, fun j o t hj => (hno j hj.1 hj.2).elim, fun _ _ => rfl⟩, fun j R hj hl => (hno j hj hl).elim⟩

/-! The steps -/
theorem calm_nil {k : Nat} {F : Fs} {a : Act} (h : ∀ w, Below B W w → (∀ f ∈ F, f.2 w) → Q a w) : Calm P ops B W Q [] k [] F a := by
  simpa only [Calm] using h
/-- One operation whose value is named; what follows stands behind a variable. -/
theorem calm_val {o : Oper} {l : List Oper} {k : Nat} {Ks : List Kind} {F : Fs} {a : Act} {v : Value} (hw : Region.wanted o (yielded ops a.tmps) = true)
    (h : ∀ w, Below B W w → facts o F w → ∀ K : Value → World → Prop, Hid (∀ u w', u = v → Below w.heap.size w w' → K u w') → opAt P o a K w)
    (hn : ∀ N : Fs → Act → Prop, Hid (∀ F a, Calm P ops B W Q l (k + 1) Ks F a → N F a) → N F (a.put o.dst v)) : Calm P ops B W Q (o :: l) k (.inl v :: Ks) F a := by
  simp only [Calm]
  exact ⟨fun w hB hF => by rw [if_pos hw]; exact h w hB hF _ (fun u w' h1 h2 => ⟨h1, h2⟩), hn _ (fun _ _ h => h)⟩
/-- One operation that is passed over. -/
theorem calm_skip {o : Oper} {l : List Oper} {k : Nat} {Ks : List Kind} {F : Fs} {a : Act} (hw : Region.wanted o (yielded ops a.tmps) = false)
    (hn : ∀ N : Fs → Act → Prop, Hid (∀ F a, Calm P ops B W Q l (k + 1) Ks F a → N F a) → N F (a.put o.dst undef)) : Calm P ops B W Q (o :: l) k (.inl undef :: Ks) F a := by
  simp only [Calm]
  exact ⟨fun w _ _ => by rw [if_neg (by rw [hw]; exact Bool.false_ne_true)]; trivial, hn _ (fun _ _ h => h)⟩
/-- One operation of whose value a fact is kept. -/
theorem calm_rel {o : Oper} {l : List Oper} {k : Nat} {Ks : List Kind} {F : Fs} {a : Act} (R : Value → World → Prop) (hst : ∀ u w w', R u w → Below w.heap.size w w' → R u w') (hw : Region.wanted o (yielded ops a.tmps) = true)
    (h : ∀ w, Below B W w → facts o F w → ∀ K : Value → World → Prop, Hid (∀ u w', R u w' → Below w.heap.size w w' → K u w') → opAt P o a K w)
    (hn : ∀ (u : Value) (N : Fs → Act → Prop), Hid (∀ F a, Calm P ops B W Q l (k + 1) Ks F a → N F a) → N (F ++ [(k, R u)]) (a.put o.dst u)) : Calm P ops B W Q (o :: l) k (.inr R :: Ks) F a := by
  simp only [Calm]
  exact ⟨hst, hw, fun w hB hF => h w hB hF _ (fun u w' h1 h2 => ⟨h1, h2⟩), fun u => hn u _ (fun _ _ h => h)⟩
/-- What is known of those that are waited for. -/
theorem facts_nil {o : Oper} {w : World} : facts o [] w := fun f hf => by cases hf
theorem facts_of {o : Oper} {F : Fs} {w : World} (h : facts o F w) (f : Nat × (World → Prop)) (hf : f ∈ F) (ho : (o.after.toList.any fun e => Region.binds .any e && e.on == f.1) = true) : f.2 w := h f hf ho
end
/-- The same for a region whose order is the text's. -/
theorem calm_list {P : Program} {B : Nat} {W : World} {ops : Array Oper} {Q' : Exit → Act → World → Prop} (hBW : B ≤ W.heap.size) : ∀ (l : List Oper) (k : Nat) (Ks : List Kind) (F : Fs) (a : Act) (w : World), Below B W w → (∀ f ∈ F, f.2 w) → (∀ f ∈ F, ∀ w', Below w.heap.size w w' → f.2 w') →
    Calm P ops B W (fun a w => Q' .normal a w) l k Ks F a → wpList P ops Q' l a w
  | [], _, _, _, a, w, hw, hF, _, h => by simp only [Calm] at h; exact h w hw hF
  | _ :: _, _, [], _, _, _, _, _, _, h => by simp [Calm] at h
  | o :: l, k, .inl v :: Ks, F, a, w, hw, hF, hst, h => by
    simp only [Calm] at h
    have h1 := h.1 w hw (fun f hf _ => hF f hf)
    have go : ∀ w', Below w.heap.size w w' → wpList P ops Q' l (a.put o.dst v) w' := fun w' hb =>
      calm_list hBW l (k + 1) Ks F _ w' (hw.trans (hb.mono (Nat.le_trans hBW hw.size))) (fun f hf => hst f hf w' hb) (fun f hf w'' hb' => hst f hf w'' (hb.trans (hb'.mono hb.size))) h.2
    unfold wpList
    by_cases hwa : Region.wanted o (yielded ops a.tmps) = true
    · rw [if_pos hwa] at h1 ⊢
      exact .inl (wp_of_opAt h1 rfl fun u w' ⟨e1, e2⟩ => by subst e1; exact go w' e2)
    · rw [if_neg hwa] at h1 ⊢
      subst h1
      exact go w (Below.refl _ _)
  | o :: l, k, .inr R :: Ks, F, a, w, hw, hF, hst, h => by
    simp only [Calm] at h
    obtain ⟨h0, h1, h2, h3⟩ := h
    unfold wpList
    rw [if_pos h1]
    refine .inl (wp_of_opAt (h2 w hw (fun f hf _ => hF f hf)) rfl fun u w' ⟨e1, hb⟩ => ?_)
    refine calm_list hBW l (k + 1) Ks _ _ w' (hw.trans (hb.mono (Nat.le_trans hBW hw.size))) (fun f hf => ?_) (fun f hf w'' hb' => ?_) (h3 u)
    · rcases List.mem_append.1 hf with hf | hf
      · exact hst f hf w' hb
      · simp at hf
        subst hf
        exact e1
    · rcases List.mem_append.1 hf with hf | hf
      · exact hst f hf w'' (hb.trans (hb'.mono hb.size))
      · simp at hf
        subst hf
        exact h0 u w' w'' e1 hb'
theorem wp_plain_calm {P : Program} {B : Nat} {W : World} {id : Nat} {Q' : Exit → Act → World → Prop} {a : Act} {l : List Oper} {w0 : World} (hBW : B ≤ W.heap.size) (hW : Below B W w0)
    (hc : ∃ Ks, Calm P l.toArray B W (fun a w => Q' .normal a w) l 0 Ks [] a) : (Code.region id l.toArray false).wp P Q' a w0 := by
  obtain ⟨Ks, h⟩ := hc
  exact wp_region_lit (calm_list hBW l 0 Ks [] a w0 hW (fun f hf => by cases hf) (fun f hf => by cases hf) h)
/-- A slice of a row that was just made. -/
def Laid (n : Nat) (cs : Array Value) (t : TypeId) (u : Value) (w : World) : Prop := ∃ b, u = .slice (some ⟨b, 0, none⟩) n n ∧ w.heap[b]? = some (.cells cs t (0, 0))
theorem laid_stable {n : Nat} {cs : Array Value} {t : TypeId} (u : Value) (w w' : World) (h : Laid n cs t u w) (hb : Below w.heap.size w w') : Laid n cs t u w' := by
  obtain ⟨b, e, hh⟩ := h
  exact ⟨b, e, (hb.block b (Array.getElem?_eq_some_iff.1 hh).1).trans hh⟩
theorem laid_new {n : Nat} {cs : Array Value} {t : TypeId} (w : World) : Laid n cs t (.slice (some ⟨w.heap.size, 0, none⟩) n n) (w.alloc (.cells cs t)) := ⟨_, rfl, heap_alloc_new w _⟩
end Go.Proofs.Ytaofldlidifdcaa.Calm
