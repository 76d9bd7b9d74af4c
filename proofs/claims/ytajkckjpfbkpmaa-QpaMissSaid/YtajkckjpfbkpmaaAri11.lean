/-
  The statement ArithTurns, walked.
-/
import Derived.Test.YtajkckjpfbkpmaaAri9
import Derived.Test.YtajkckjpfbkpmaaApp
import Derived.Deep.RegionHeld3
import Derived.StillTailTactics
import Derived.Deep.DeepCutAuto
import Derived.Test.YtajkckjpfbkpmaaCalm
namespace Go.Proofs.Ytajkckjpfbkpmaa.Ari
open Go.RowKit Go.Shelf

/-- A row that the call made, as it is read. -/
theorem own_rd64 {w : World} {base n : Nat} {v : Value} {l : List Int} {t : TypeId} (h : w.ownsRow base t 1 v n (l.map (Value.int .u64))) (hn : n ≤ 9223372036854775807) :
    ∃ A c, v = .slice A n c ∧ Rd w .u64 A n l := by
  have hl : l.length = n := by have := h.1; simpa using this
  rcases h.2 with ⟨rfl, rfl⟩ | ⟨g, cap, cur, rfl, hb, hh, hnc, hcm, hcs, htk⟩
  · exact ⟨none, 0, rfl, hl, hn, fun h => absurd h (by decide)⟩
  · refine ⟨_, _, rfl, hl, hn, fun _ => ⟨_, rfl, fun j hj => ?_⟩⟩
    rw [Row0.plain_add', Nat.zero_add, h.cellAt j (by omega)]
    simp [List.getElem?_map, List.getD_eq_getElem?_getD, List.getElem?_eq_getElem (show j < l.length by omega)]
theorem rd_news {w : World} {A : Option Addr} {n : Nat} {l : List Int} (h : Rd w .u64 A n l) : ∀ ad, A = some ad → ∀ j u, (l.map (Value.int .u64))[j]? = some u → w.cell? (ad.add j) = some u := by
  rintro ad rfl j u hu
  have hj : j < l.length := by
    have := (List.getElem?_eq_some_iff.1 hu).1
    simpa using this
  obtain ⟨ad', e, hc⟩ := h.2.2 (by rw [← h.1]; omega)
  cases e
  rw [hc j (by rw [← h.1]; exact hj)]
  simp [List.getElem?_eq_getElem hj] at hu
  subst hu
  simp [List.getD_eq_getElem?_getD, List.getElem?_eq_getElem hj]
theorem one_cells (l : List Int) : ∀ u ∈ l.map (Value.int .u64), u.oneCell' = true := by
  intro u hu
  obtain ⟨x, _, rfl⟩ := List.mem_map.1 hu
  rfl
theorem rd_drop {w : World} {k : IntKind} {ad : Addr} {n : Nat} {xs : List Int} (h : Rd w k (some ad) n xs) (m : Nat) (hm : m ≤ n) : Rd w k (some (ad.add m)) (n - m) (xs.drop m) := by
  obtain ⟨h1, h2, h3⟩ := h
  refine ⟨by rw [List.length_drop]; omega, by omega, fun hp => ?_⟩
  obtain ⟨ad', e, hc⟩ := h3 (by omega)
  cases e
  refine ⟨_, rfl, fun j hj => ?_⟩
  rw [show (ad.add m).add j = ad.add (m + j) by simp [Addr.add_add], hc (m + j) (by omega)]
  simp [List.getD_eq_getElem?_getD]

theorem rd_blk {w : World} {b : Nat} {g2 g3 : Int} {t : TypeId} (h : w.heap[b]? = some (.cells #[.int .u64 g2, .int .u64 g3] t (0, 0))) : Rd w .u64 (some ⟨b, 0, none⟩) 2 [g2, g3] := by
  refine ⟨rfl, by decide, fun _ => ⟨_, rfl, fun j hj => ?_⟩⟩
  rw [Row0.plain_add', Nat.zero_add]
  match j, hj with
  | 0, _ => simp [World.cell?, h]
  | 1, _ => simp [World.cell?, h]
theorem infoU64 : (Try.prog.info? 62).map (fun i => (i.zero, i.size, i.bytes)) = some (some (.int .u64 0), 1, 8) := by kernel_rfl
end Go.Proofs.Ytajkckjpfbkpmaa.Ari
