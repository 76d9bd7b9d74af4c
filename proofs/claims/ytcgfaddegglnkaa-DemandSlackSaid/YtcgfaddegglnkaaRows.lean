/-
  No cell of these rows narrows 'for every input' (looked for: loops, veiled, ifaces, maps, wideKeys, modest, calm, conditions, laid).
  DERIVED. THE GIVEN ROWS OF THIS SEAT. 6 by the template 'for every input the law returns true; each argument reads behind the call as it read before'; 0 by the template 'total and deterministic' (their statements: YtcgfaddegglnkaaTotals.lean).
  GIVEN WITH THE SEED: the statements are not yours to turn. If you find one false, say at which input.
  Laid BY PROGRAM, IN A SANDBOX (cutbox-rows.mjs): the forced cells as the released guide's own fill.sh prints them over the translation c8c856deb25fa4b9… (all of the seat's roots in one cut). By AI agents, Wed Nov 11 2026. No macro, syntax, notation, axiom, sorry.
-/
import Derived.Test.YtcgfaddegglnkaaChecked
import GoSem.Claim
import GoSem.ClaimJoined
import GoSem.ClaimMapViews
import Derived.JoinedTies
import Derived.KernelRfl
namespace Go.Proofs.Ytcgfaddegglnkaa
/- THE CELL 'sum', in the pinned program and in every row, IS THE sha256 OF THE DUMP (.gsa) THAT YtcgfaddegglnkaaProg.lean LOADS. Nothing in Lean hashes anything: it is a label: what it is worth is what the hold of that sum in a sandbox is worth. -/
noncomputable def Try.pinned : Pinned := { name := "ytcgfaddegglnkaa", sum := "c8c856deb25fa4b9d2809cfff853afa44d93c7df54a39d90a6ee6c87700a897d", checked := Try.checked }
namespace Rows
def none {H : Type} : Left H := { results := [], args := [] }

/-- 'ostinatolaw11.DemandSums': WHATEVER THE INPUT: true; the input reads as it did. -/
def demandSumsSpec : ChangeSpec := { name := "demandSums", fn := fun _ => fun
  | [d1, d2] => { results := [.lit (.bool true)], args := [d1, d2] }
  | _ => none }
def demandSumsRow : OpenClaim := { program := "ytcgfaddegglnkaa", sum := "c8c856deb25fa4b9d2809cfff853afa44d93c7df54a39d90a6ee6c87700a897d", func := "ostinato/ostinatolaw11.DemandSums", spec := "demandSums", inPlace := ["math/bits.Add64"], unfollowed := true, recurses := true, apart := false }
def DemandSumsSaid : Prop := demandSumsRow.holds Try.pinned (OpenSpec.ofChange demandSumsSpec)

/-- ITS FALSE NEIGHBOUR: 'it returns false'. Refute it at one input. -/
def demandSumsWrong : ChangeSpec := { name := "demandSums", fn := fun _ => fun
  | [d1, d2] => { results := [.lit (.bool false)], args := [d1, d2] }
  | _ => none }
def DemandSumsWrongFalsely : Prop := demandSumsRow.holds Try.pinned (OpenSpec.ofChange demandSumsWrong)

/-- 'ostinatolaw11.DemandParts': WHATEVER THE INPUT: true; the input reads as it did. -/
def demandPartsSpec : ChangeSpec := { name := "demandParts", fn := fun _ => fun
  | [d1, d2, d3] => { results := [.lit (.bool true)], args := [d1, d2, d3] }
  | _ => none }
def demandPartsRow : OpenClaim := { program := "ytcgfaddegglnkaa", sum := "c8c856deb25fa4b9d2809cfff853afa44d93c7df54a39d90a6ee6c87700a897d", func := "ostinato/ostinatolaw11.DemandParts", spec := "demandParts", inPlace := ["math/bits.Add64"], unfollowed := true, recurses := true, apart := false }
def DemandPartsSaid : Prop := demandPartsRow.holds Try.pinned (OpenSpec.ofChange demandPartsSpec)

/-- ITS FALSE NEIGHBOUR: 'it returns false'. Refute it at one input. -/
def demandPartsWrong : ChangeSpec := { name := "demandParts", fn := fun _ => fun
  | [d1, d2, d3] => { results := [.lit (.bool false)], args := [d1, d2, d3] }
  | _ => none }
def DemandPartsWrongFalsely : Prop := demandPartsRow.holds Try.pinned (OpenSpec.ofChange demandPartsWrong)

/-- 'ostinatolaw11.DemandSteps': WHATEVER THE INPUT: true; the input reads as it did. -/
def demandStepsSpec : ChangeSpec := { name := "demandSteps", fn := fun _ => fun
  | [d1, d2] => { results := [.lit (.bool true)], args := [d1, d2] }
  | _ => none }
def demandStepsRow : OpenClaim := { program := "ytcgfaddegglnkaa", sum := "c8c856deb25fa4b9d2809cfff853afa44d93c7df54a39d90a6ee6c87700a897d", func := "ostinato/ostinatolaw11.DemandSteps", spec := "demandSteps", inPlace := ["math/bits.Add64"], unfollowed := true, recurses := true, apart := false }
def DemandStepsSaid : Prop := demandStepsRow.holds Try.pinned (OpenSpec.ofChange demandStepsSpec)

/-- ITS FALSE NEIGHBOUR: 'it returns false'. Refute it at one input. -/
def demandStepsWrong : ChangeSpec := { name := "demandSteps", fn := fun _ => fun
  | [d1, d2] => { results := [.lit (.bool false)], args := [d1, d2] }
  | _ => none }
def DemandStepsWrongFalsely : Prop := demandStepsRow.holds Try.pinned (OpenSpec.ofChange demandStepsWrong)

/-- 'ostinatolaw11.DemandPeriods': WHATEVER THE INPUT: true; the input reads as it did. -/
def demandPeriodsSpec : ChangeSpec := { name := "demandPeriods", fn := fun _ => fun
  | [d1, d2] => { results := [.lit (.bool true)], args := [d1, d2] }
  | _ => none }
def demandPeriodsRow : OpenClaim := { program := "ytcgfaddegglnkaa", sum := "c8c856deb25fa4b9d2809cfff853afa44d93c7df54a39d90a6ee6c87700a897d", func := "ostinato/ostinatolaw11.DemandPeriods", spec := "demandPeriods", inPlace := ["math/bits.Add64"], unfollowed := true, recurses := true, apart := false }
def DemandPeriodsSaid : Prop := demandPeriodsRow.holds Try.pinned (OpenSpec.ofChange demandPeriodsSpec)

/-- ITS FALSE NEIGHBOUR: 'it returns false'. Refute it at one input. -/
def demandPeriodsWrong : ChangeSpec := { name := "demandPeriods", fn := fun _ => fun
  | [d1, d2] => { results := [.lit (.bool false)], args := [d1, d2] }
  | _ => none }
def DemandPeriodsWrongFalsely : Prop := demandPeriodsRow.holds Try.pinned (OpenSpec.ofChange demandPeriodsWrong)

/-- 'ostinatolaw11.DemandSlack': WHATEVER THE INPUT: true; the input reads as it did. -/
def demandSlackSpec : ChangeSpec := { name := "demandSlack", fn := fun _ => fun
  | [d1, d2] => { results := [.lit (.bool true)], args := [d1, d2] }
  | _ => none }
def demandSlackRow : OpenClaim := { program := "ytcgfaddegglnkaa", sum := "c8c856deb25fa4b9d2809cfff853afa44d93c7df54a39d90a6ee6c87700a897d", func := "ostinato/ostinatolaw11.DemandSlack", spec := "demandSlack", inPlace := ["math/bits.Add64"], unfollowed := true, recurses := true, apart := false }
def DemandSlackSaid : Prop := demandSlackRow.holds Try.pinned (OpenSpec.ofChange demandSlackSpec)

/-- ITS FALSE NEIGHBOUR: 'it returns false'. Refute it at one input. -/
def demandSlackWrong : ChangeSpec := { name := "demandSlack", fn := fun _ => fun
  | [d1, d2] => { results := [.lit (.bool false)], args := [d1, d2] }
  | _ => none }
def DemandSlackWrongFalsely : Prop := demandSlackRow.holds Try.pinned (OpenSpec.ofChange demandSlackWrong)

/-- 'ostinatolaw11.DemandTells': WHATEVER THE INPUT: true; the input reads as it did. -/
def demandTellsSpec : ChangeSpec := { name := "demandTells", fn := fun _ => fun
  | [d1, d2, d3] => { results := [.lit (.bool true)], args := [d1, d2, d3] }
  | _ => none }
def demandTellsRow : OpenClaim := { program := "ytcgfaddegglnkaa", sum := "c8c856deb25fa4b9d2809cfff853afa44d93c7df54a39d90a6ee6c87700a897d", func := "ostinato/ostinatolaw11.DemandTells", spec := "demandTells", inPlace := ["math/bits.Add64"], unfollowed := true, recurses := true, apart := false }
def DemandTellsSaid : Prop := demandTellsRow.holds Try.pinned (OpenSpec.ofChange demandTellsSpec)

/-- ITS FALSE NEIGHBOUR: 'it returns false'. Refute it at one input. -/
def demandTellsWrong : ChangeSpec := { name := "demandTells", fn := fun _ => fun
  | [d1, d2, d3] => { results := [.lit (.bool false)], args := [d1, d2, d3] }
  | _ => none }
def DemandTellsWrongFalsely : Prop := demandTellsRow.holds Try.pinned (OpenSpec.ofChange demandTellsWrong)

/- THE SECOND FORM. 'bulk': how many values and letters a reading holds, each counted each time it is reached (what is shared counts as often as it is met; a slice's spare places count too). A statement '..UptoSaid' is the law's where the arguments, and the package variables that the reading takes, are together of bulk at most 1048576: NARROWER than '..Said'. Prove '..Said' where nothing that the law and all that it calls make is longer than what came in: it says more and counts as full. Else prove '..UptoSaid'. A law counts once. -/
mutual
def uptoBulk {H : Type} : DataW H → Nat
  | .lit (.string bytes) => bytes.length + 1
  | .lit _ => 1
  | .nil => 1
  | .ptr d => uptoBulk d + 1
  | .slice elems spare => uptoBulkAll elems + uptoBulkAll spare + 1
  | .agg parts => uptoBulkAll parts + 1
  | .iface _ d => uptoBulk d + 1
  | .map entries => uptoBulkEntries entries + 1
  | .held _ => 1
def uptoBulkAll {H : Type} : List (DataW H) → Nat
  | [] => 0
  | d :: r => uptoBulk d + uptoBulkAll r
def uptoBulkEntries {H : Type} : List (Lit × DataW H) → Nat
  | [] => 0
  | x :: r => uptoBulkEntry x + uptoBulkEntries r
def uptoBulkEntry {H : Type} : Lit × DataW H → Nat
  | (.string bytes, d) => bytes.length + uptoBulk d + 1
  | (_, d) => uptoBulk d + 1
 end
def uptoSmall : (H : Type) → List (DataW H) → Bool := fun _ ds => decide (uptoBulkAll ds ≤ 1048576)
def OpenSpec.upto (s : _root_.Go.ChangeSpec) : _root_.Go.OpenSpec := { _root_.Go.OpenSpec.ofChange s with cond := some uptoSmall }

/-- 'ostinatolaw11.DemandSums', WHERE WHAT IT READS IS OF BULK AT MOST 1048576: true; the input reads as it did. -/
def demandSumsUptoRow : OpenClaim := { program := "ytcgfaddegglnkaa", sum := "c8c856deb25fa4b9d2809cfff853afa44d93c7df54a39d90a6ee6c87700a897d", func := "ostinato/ostinatolaw11.DemandSums", spec := "demandSums", inPlace := ["math/bits.Add64"], unfollowed := true, recurses := true, apart := false, narrowed := true }
def DemandSumsUptoSaid : Prop := demandSumsUptoRow.holds Try.pinned (OpenSpec.upto demandSumsSpec)

/-- 'ostinatolaw11.DemandParts', WHERE WHAT IT READS IS OF BULK AT MOST 1048576: true; the input reads as it did. -/
def demandPartsUptoRow : OpenClaim := { program := "ytcgfaddegglnkaa", sum := "c8c856deb25fa4b9d2809cfff853afa44d93c7df54a39d90a6ee6c87700a897d", func := "ostinato/ostinatolaw11.DemandParts", spec := "demandParts", inPlace := ["math/bits.Add64"], unfollowed := true, recurses := true, apart := false, narrowed := true }
def DemandPartsUptoSaid : Prop := demandPartsUptoRow.holds Try.pinned (OpenSpec.upto demandPartsSpec)

/-- 'ostinatolaw11.DemandSteps', WHERE WHAT IT READS IS OF BULK AT MOST 1048576: true; the input reads as it did. -/
def demandStepsUptoRow : OpenClaim := { program := "ytcgfaddegglnkaa", sum := "c8c856deb25fa4b9d2809cfff853afa44d93c7df54a39d90a6ee6c87700a897d", func := "ostinato/ostinatolaw11.DemandSteps", spec := "demandSteps", inPlace := ["math/bits.Add64"], unfollowed := true, recurses := true, apart := false, narrowed := true }
def DemandStepsUptoSaid : Prop := demandStepsUptoRow.holds Try.pinned (OpenSpec.upto demandStepsSpec)

/-- 'ostinatolaw11.DemandPeriods', WHERE WHAT IT READS IS OF BULK AT MOST 1048576: true; the input reads as it did. -/
def demandPeriodsUptoRow : OpenClaim := { program := "ytcgfaddegglnkaa", sum := "c8c856deb25fa4b9d2809cfff853afa44d93c7df54a39d90a6ee6c87700a897d", func := "ostinato/ostinatolaw11.DemandPeriods", spec := "demandPeriods", inPlace := ["math/bits.Add64"], unfollowed := true, recurses := true, apart := false, narrowed := true }
def DemandPeriodsUptoSaid : Prop := demandPeriodsUptoRow.holds Try.pinned (OpenSpec.upto demandPeriodsSpec)

/-- 'ostinatolaw11.DemandSlack', WHERE WHAT IT READS IS OF BULK AT MOST 1048576: true; the input reads as it did. -/
def demandSlackUptoRow : OpenClaim := { program := "ytcgfaddegglnkaa", sum := "c8c856deb25fa4b9d2809cfff853afa44d93c7df54a39d90a6ee6c87700a897d", func := "ostinato/ostinatolaw11.DemandSlack", spec := "demandSlack", inPlace := ["math/bits.Add64"], unfollowed := true, recurses := true, apart := false, narrowed := true }
def DemandSlackUptoSaid : Prop := demandSlackUptoRow.holds Try.pinned (OpenSpec.upto demandSlackSpec)

/-- 'ostinatolaw11.DemandTells', WHERE WHAT IT READS IS OF BULK AT MOST 1048576: true; the input reads as it did. -/
def demandTellsUptoRow : OpenClaim := { program := "ytcgfaddegglnkaa", sum := "c8c856deb25fa4b9d2809cfff853afa44d93c7df54a39d90a6ee6c87700a897d", func := "ostinato/ostinatolaw11.DemandTells", spec := "demandTells", inPlace := ["math/bits.Add64"], unfollowed := true, recurses := true, apart := false, narrowed := true }
def DemandTellsUptoSaid : Prop := demandTellsUptoRow.holds Try.pinned (OpenSpec.upto demandTellsSpec)

end Rows
end Go.Proofs.Ytcgfaddegglnkaa
