/-
  No cell of these rows narrows 'for every input' (looked for: loops, veiled, ifaces, maps, wideKeys, modest, calm, conditions, laid).
  DERIVED. THE GIVEN ROWS OF THIS SEAT. 5 by the template 'for every input the law returns true; each argument reads behind the call as it read before'; 0 by the template 'total and deterministic' (their statements: YtdmfdgadhobkpaaTotals.lean).
  GIVEN WITH THE SEED: the statements are not yours to turn. If you find one false, say at which input.
  Laid BY PROGRAM, IN A SANDBOX (cutbox-rows.mjs): the forced cells as the released guide's own fill.sh prints them over the translation 0728ed5c47f877af… (all of the seat's roots in one cut). By AI agents, Wed Nov 11 2026. No macro, syntax, notation, axiom, sorry.
-/
import Derived.Test.YtdmfdgadhobkpaaChecked
import GoSem.Claim
import GoSem.ClaimJoined
import GoSem.ClaimMapViews
import Derived.JoinedTies
import Derived.KernelRfl
namespace Go.Proofs.Ytdmfdgadhobkpaa
/- THE CELL 'sum', in the pinned program and in every row, IS THE sha256 OF THE DUMP (.gsa) THAT YtdmfdgadhobkpaaProg.lean LOADS. Nothing in Lean hashes anything: it is a label: what it is worth is what the hold of that sum in a sandbox is worth. -/
noncomputable def Try.pinned : Pinned := { name := "ytdmfdgadhobkpaa", sum := "0728ed5c47f877af196be2ab33bfdea17add1f8efcd4d54d003e60f1ea890fe1", checked := Try.checked }
namespace Rows
def none {H : Type} : Left H := { results := [], args := [] }

/-- 'ostinatolaw09.BlocksParts': WHATEVER THE INPUT: true; the input reads as it did. -/
def blocksPartsSpec : ChangeSpec := { name := "blocksParts", fn := fun _ => fun
  | [d1, d2] => { results := [.lit (.bool true)], args := [d1, d2] }
  | _ => none }
def blocksPartsRow : OpenClaim := { program := "ytdmfdgadhobkpaa", sum := "0728ed5c47f877af196be2ab33bfdea17add1f8efcd4d54d003e60f1ea890fe1", func := "ostinato/ostinatolaw09.BlocksParts", spec := "blocksParts", unfollowed := true, recurses := true, apart := false }
def BlocksPartsSaid : Prop := blocksPartsRow.holds Try.pinned (OpenSpec.ofChange blocksPartsSpec)

/-- ITS FALSE NEIGHBOUR: 'it returns false'. Refute it at one input. -/
def blocksPartsWrong : ChangeSpec := { name := "blocksParts", fn := fun _ => fun
  | [d1, d2] => { results := [.lit (.bool false)], args := [d1, d2] }
  | _ => none }
def BlocksPartsWrongFalsely : Prop := blocksPartsRow.holds Try.pinned (OpenSpec.ofChange blocksPartsWrong)

/-- 'ostinatolaw09.BlocksMost': WHATEVER THE INPUT: true; the input reads as it did. -/
def blocksMostSpec : ChangeSpec := { name := "blocksMost", fn := fun _ => fun
  | [d1, d2] => { results := [.lit (.bool true)], args := [d1, d2] }
  | _ => none }
def blocksMostRow : OpenClaim := { program := "ytdmfdgadhobkpaa", sum := "0728ed5c47f877af196be2ab33bfdea17add1f8efcd4d54d003e60f1ea890fe1", func := "ostinato/ostinatolaw09.BlocksMost", spec := "blocksMost", unfollowed := true, recurses := true, apart := false }
def BlocksMostSaid : Prop := blocksMostRow.holds Try.pinned (OpenSpec.ofChange blocksMostSpec)

/-- ITS FALSE NEIGHBOUR: 'it returns false'. Refute it at one input. -/
def blocksMostWrong : ChangeSpec := { name := "blocksMost", fn := fun _ => fun
  | [d1, d2] => { results := [.lit (.bool false)], args := [d1, d2] }
  | _ => none }
def BlocksMostWrongFalsely : Prop := blocksMostRow.holds Try.pinned (OpenSpec.ofChange blocksMostWrong)

/-- 'ostinatolaw09.BlocksSteps': WHATEVER THE INPUT: true; the input reads as it did. -/
def blocksStepsSpec : ChangeSpec := { name := "blocksSteps", fn := fun _ => fun
  | [d] => { results := [.lit (.bool true)], args := [d] }
  | _ => none }
def blocksStepsRow : OpenClaim := { program := "ytdmfdgadhobkpaa", sum := "0728ed5c47f877af196be2ab33bfdea17add1f8efcd4d54d003e60f1ea890fe1", func := "ostinato/ostinatolaw09.BlocksSteps", spec := "blocksSteps", unfollowed := true, recurses := true, apart := false }
def BlocksStepsSaid : Prop := blocksStepsRow.holds Try.pinned (OpenSpec.ofChange blocksStepsSpec)

/-- ITS FALSE NEIGHBOUR: 'it returns false'. Refute it at one input. -/
def blocksStepsWrong : ChangeSpec := { name := "blocksSteps", fn := fun _ => fun
  | [d] => { results := [.lit (.bool false)], args := [d] }
  | _ => none }
def BlocksStepsWrongFalsely : Prop := blocksStepsRow.holds Try.pinned (OpenSpec.ofChange blocksStepsWrong)

/-- 'ostinatolaw09.BlocksGrow': WHATEVER THE INPUT: true; the input reads as it did. -/
def blocksGrowSpec : ChangeSpec := { name := "blocksGrow", fn := fun _ => fun
  | [d1, d2, d3] => { results := [.lit (.bool true)], args := [d1, d2, d3] }
  | _ => none }
def blocksGrowRow : OpenClaim := { program := "ytdmfdgadhobkpaa", sum := "0728ed5c47f877af196be2ab33bfdea17add1f8efcd4d54d003e60f1ea890fe1", func := "ostinato/ostinatolaw09.BlocksGrow", spec := "blocksGrow", unfollowed := true, recurses := true, apart := false }
def BlocksGrowSaid : Prop := blocksGrowRow.holds Try.pinned (OpenSpec.ofChange blocksGrowSpec)

/-- ITS FALSE NEIGHBOUR: 'it returns false'. Refute it at one input. -/
def blocksGrowWrong : ChangeSpec := { name := "blocksGrow", fn := fun _ => fun
  | [d1, d2, d3] => { results := [.lit (.bool false)], args := [d1, d2, d3] }
  | _ => none }
def BlocksGrowWrongFalsely : Prop := blocksGrowRow.holds Try.pinned (OpenSpec.ofChange blocksGrowWrong)

/-- 'ostinatolaw09.BlocksRuns': WHATEVER THE INPUT: true; the input reads as it did. -/
def blocksRunsSpec : ChangeSpec := { name := "blocksRuns", fn := fun _ => fun
  | [d1, d2, d3] => { results := [.lit (.bool true)], args := [d1, d2, d3] }
  | _ => none }
def blocksRunsRow : OpenClaim := { program := "ytdmfdgadhobkpaa", sum := "0728ed5c47f877af196be2ab33bfdea17add1f8efcd4d54d003e60f1ea890fe1", func := "ostinato/ostinatolaw09.BlocksRuns", spec := "blocksRuns", unfollowed := true, recurses := true, apart := false }
def BlocksRunsSaid : Prop := blocksRunsRow.holds Try.pinned (OpenSpec.ofChange blocksRunsSpec)

/-- ITS FALSE NEIGHBOUR: 'it returns false'. Refute it at one input. -/
def blocksRunsWrong : ChangeSpec := { name := "blocksRuns", fn := fun _ => fun
  | [d1, d2, d3] => { results := [.lit (.bool false)], args := [d1, d2, d3] }
  | _ => none }
def BlocksRunsWrongFalsely : Prop := blocksRunsRow.holds Try.pinned (OpenSpec.ofChange blocksRunsWrong)

/- THE SECOND FORM. 'bulk': how many values and letters a reading holds, each counted each time it is reached (what is shared counts as often as it is met; a slice's spare places count too). A statement '..UptoSaid' is the law's where the arguments, and the package variables that the reading takes, are together of bulk at most 1048576: NARROWER than '..Said'. Prove '..Said' where nothing that the law and all that it calls make is longer than what came in: it says more and counts as full. Else prove '..UptoSaid'. A law counts once. -/
mutual
def uptoBulk {H : Type} : DataW H → Nat
  | .lit (.string bytes) => bytes.length + 1
  | .lit _ => 1
  | .nil => 1
  | .ptr d => uptoBulk d + 1
  | .slice elems spare => uptoBulkAll elems + uptoBulkAll spare + 1
  | .agg parts => uptoBulkAll parts + 1
  | .iface _ d => uptoBulk d + 1
  | .map entries => uptoBulkEntries entries + 1
  | .held _ => 1
def uptoBulkAll {H : Type} : List (DataW H) → Nat
  | [] => 0
  | d :: r => uptoBulk d + uptoBulkAll r
def uptoBulkEntries {H : Type} : List (Lit × DataW H) → Nat
  | [] => 0
  | x :: r => uptoBulkEntry x + uptoBulkEntries r
def uptoBulkEntry {H : Type} : Lit × DataW H → Nat
  | (.string bytes, d) => bytes.length + uptoBulk d + 1
  | (_, d) => uptoBulk d + 1
 end
def uptoSmall : (H : Type) → List (DataW H) → Bool := fun _ ds => decide (uptoBulkAll ds ≤ 1048576)
def OpenSpec.upto (s : _root_.Go.ChangeSpec) : _root_.Go.OpenSpec := { _root_.Go.OpenSpec.ofChange s with cond := some uptoSmall }

/-- 'ostinatolaw09.BlocksParts', WHERE WHAT IT READS IS OF BULK AT MOST 1048576: true; the input reads as it did. -/
def blocksPartsUptoRow : OpenClaim := { program := "ytdmfdgadhobkpaa", sum := "0728ed5c47f877af196be2ab33bfdea17add1f8efcd4d54d003e60f1ea890fe1", func := "ostinato/ostinatolaw09.BlocksParts", spec := "blocksParts", unfollowed := true, recurses := true, apart := false, narrowed := true }
def BlocksPartsUptoSaid : Prop := blocksPartsUptoRow.holds Try.pinned (OpenSpec.upto blocksPartsSpec)

/-- 'ostinatolaw09.BlocksMost', WHERE WHAT IT READS IS OF BULK AT MOST 1048576: true; the input reads as it did. -/
def blocksMostUptoRow : OpenClaim := { program := "ytdmfdgadhobkpaa", sum := "0728ed5c47f877af196be2ab33bfdea17add1f8efcd4d54d003e60f1ea890fe1", func := "ostinato/ostinatolaw09.BlocksMost", spec := "blocksMost", unfollowed := true, recurses := true, apart := false, narrowed := true }
def BlocksMostUptoSaid : Prop := blocksMostUptoRow.holds Try.pinned (OpenSpec.upto blocksMostSpec)

/-- 'ostinatolaw09.BlocksSteps', WHERE WHAT IT READS IS OF BULK AT MOST 1048576: true; the input reads as it did. -/
def blocksStepsUptoRow : OpenClaim := { program := "ytdmfdgadhobkpaa", sum := "0728ed5c47f877af196be2ab33bfdea17add1f8efcd4d54d003e60f1ea890fe1", func := "ostinato/ostinatolaw09.BlocksSteps", spec := "blocksSteps", unfollowed := true, recurses := true, apart := false, narrowed := true }
def BlocksStepsUptoSaid : Prop := blocksStepsUptoRow.holds Try.pinned (OpenSpec.upto blocksStepsSpec)

/-- 'ostinatolaw09.BlocksGrow', WHERE WHAT IT READS IS OF BULK AT MOST 1048576: true; the input reads as it did. -/
def blocksGrowUptoRow : OpenClaim := { program := "ytdmfdgadhobkpaa", sum := "0728ed5c47f877af196be2ab33bfdea17add1f8efcd4d54d003e60f1ea890fe1", func := "ostinato/ostinatolaw09.BlocksGrow", spec := "blocksGrow", unfollowed := true, recurses := true, apart := false, narrowed := true }
def BlocksGrowUptoSaid : Prop := blocksGrowUptoRow.holds Try.pinned (OpenSpec.upto blocksGrowSpec)

/-- 'ostinatolaw09.BlocksRuns', WHERE WHAT IT READS IS OF BULK AT MOST 1048576: true; the input reads as it did. -/
def blocksRunsUptoRow : OpenClaim := { program := "ytdmfdgadhobkpaa", sum := "0728ed5c47f877af196be2ab33bfdea17add1f8efcd4d54d003e60f1ea890fe1", func := "ostinato/ostinatolaw09.BlocksRuns", spec := "blocksRuns", unfollowed := true, recurses := true, apart := false, narrowed := true }
def BlocksRunsUptoSaid : Prop := blocksRunsUptoRow.holds Try.pinned (OpenSpec.upto blocksRunsSpec)

end Rows
end Go.Proofs.Ytdmfdgadhobkpaa
