/-
  No cell of these rows narrows 'for every input' (looked for: loops, veiled, ifaces, maps, wideKeys, modest, calm, conditions, laid).
  DERIVED. THE GIVEN ROWS OF THIS SEAT. 5 by the template 'for every input the law returns true; each argument reads behind the call as it read before'; 0 by the template 'total and deterministic' (their statements: YtaofldlidifdcaaTotals.lean).
  GIVEN WITH THE SEED: the statements are not yours to turn. If you find one false, say at which input.
  Laid BY PROGRAM, IN A SANDBOX (cutbox-rows.mjs): the forced cells as the released guide's own fill.sh prints them over the translation 3d9c8ab3190113a6… (all of the seat's roots in one cut). By AI agents, Wed Nov 11 2026. No macro, syntax, notation, axiom, sorry.
-/
import Derived.Test.YtaofldlidifdcaaChecked
import GoSem.Claim
import GoSem.ClaimJoined
import GoSem.ClaimMapViews
import Derived.JoinedTies
import Derived.KernelRfl
namespace Go.Proofs.Ytaofldlidifdcaa
/- THE CELL 'sum', in the pinned program and in every row, IS THE sha256 OF THE DUMP (.gsa) THAT YtaofldlidifdcaaProg.lean LOADS. Nothing in Lean hashes anything: it is a label: what it is worth is what the hold of that sum in a sandbox is worth. -/
noncomputable def Try.pinned : Pinned := { name := "ytaofldlidifdcaa", sum := "3d9c8ab3190113a6e859d5d58dc7d02e01fce578b95e253a93936f3f9568fd61", checked := Try.checked }
namespace Rows
def none {H : Type} : Left H := { results := [], args := [] }

/-- 'ostinatolaw10.ChargeLeast': WHATEVER THE INPUT: true; the input reads as it did. -/
def chargeLeastSpec : ChangeSpec := { name := "chargeLeast", fn := fun _ => fun
  | [d] => { results := [.lit (.bool true)], args := [d] }
  | _ => none }
def chargeLeastRow : OpenClaim := { program := "ytaofldlidifdcaa", sum := "3d9c8ab3190113a6e859d5d58dc7d02e01fce578b95e253a93936f3f9568fd61", func := "ostinato/ostinatolaw10.ChargeLeast", spec := "chargeLeast", unfollowed := true, recurses := true, apart := false }
def ChargeLeastSaid : Prop := chargeLeastRow.holds Try.pinned (OpenSpec.ofChange chargeLeastSpec)

/-- ITS FALSE NEIGHBOUR: 'it returns false'. Refute it at one input. -/
def chargeLeastWrong : ChangeSpec := { name := "chargeLeast", fn := fun _ => fun
  | [d] => { results := [.lit (.bool false)], args := [d] }
  | _ => none }
def ChargeLeastWrongFalsely : Prop := chargeLeastRow.holds Try.pinned (OpenSpec.ofChange chargeLeastWrong)

/-- 'ostinatolaw10.ChargeApart': WHATEVER THE INPUT: true; the input reads as it did. -/
def chargeApartSpec : ChangeSpec := { name := "chargeApart", fn := fun _ => fun
  | [d] => { results := [.lit (.bool true)], args := [d] }
  | _ => none }
def chargeApartRow : OpenClaim := { program := "ytaofldlidifdcaa", sum := "3d9c8ab3190113a6e859d5d58dc7d02e01fce578b95e253a93936f3f9568fd61", func := "ostinato/ostinatolaw10.ChargeApart", spec := "chargeApart", unfollowed := true, recurses := true, apart := false }
def ChargeApartSaid : Prop := chargeApartRow.holds Try.pinned (OpenSpec.ofChange chargeApartSpec)

/-- ITS FALSE NEIGHBOUR: 'it returns false'. Refute it at one input. -/
def chargeApartWrong : ChangeSpec := { name := "chargeApart", fn := fun _ => fun
  | [d] => { results := [.lit (.bool false)], args := [d] }
  | _ => none }
def ChargeApartWrongFalsely : Prop := chargeApartRow.holds Try.pinned (OpenSpec.ofChange chargeApartWrong)

/-- 'ostinatolaw10.ChargeGrows': WHATEVER THE INPUT: true; the input reads as it did. -/
def chargeGrowsSpec : ChangeSpec := { name := "chargeGrows", fn := fun _ => fun
  | [d] => { results := [.lit (.bool true)], args := [d] }
  | _ => none }
def chargeGrowsRow : OpenClaim := { program := "ytaofldlidifdcaa", sum := "3d9c8ab3190113a6e859d5d58dc7d02e01fce578b95e253a93936f3f9568fd61", func := "ostinato/ostinatolaw10.ChargeGrows", spec := "chargeGrows", unfollowed := true, recurses := true, apart := false }
def ChargeGrowsSaid : Prop := chargeGrowsRow.holds Try.pinned (OpenSpec.ofChange chargeGrowsSpec)

/-- ITS FALSE NEIGHBOUR: 'it returns false'. Refute it at one input. -/
def chargeGrowsWrong : ChangeSpec := { name := "chargeGrows", fn := fun _ => fun
  | [d] => { results := [.lit (.bool false)], args := [d] }
  | _ => none }
def ChargeGrowsWrongFalsely : Prop := chargeGrowsRow.holds Try.pinned (OpenSpec.ofChange chargeGrowsWrong)

/-- 'ostinatolaw10.ChargeTells': WHATEVER THE INPUT: true; the input reads as it did. -/
def chargeTellsSpec : ChangeSpec := { name := "chargeTells", fn := fun _ => fun
  | [d1, d2, d3] => { results := [.lit (.bool true)], args := [d1, d2, d3] }
  | _ => none }
def chargeTellsRow : OpenClaim := { program := "ytaofldlidifdcaa", sum := "3d9c8ab3190113a6e859d5d58dc7d02e01fce578b95e253a93936f3f9568fd61", func := "ostinato/ostinatolaw10.ChargeTells", spec := "chargeTells", unfollowed := true, recurses := true, apart := false }
def ChargeTellsSaid : Prop := chargeTellsRow.holds Try.pinned (OpenSpec.ofChange chargeTellsSpec)

/-- ITS FALSE NEIGHBOUR: 'it returns false'. Refute it at one input. -/
def chargeTellsWrong : ChangeSpec := { name := "chargeTells", fn := fun _ => fun
  | [d1, d2, d3] => { results := [.lit (.bool false)], args := [d1, d2, d3] }
  | _ => none }
def ChargeTellsWrongFalsely : Prop := chargeTellsRow.holds Try.pinned (OpenSpec.ofChange chargeTellsWrong)

/-- 'ostinatolaw10.ChargeHolds': WHATEVER THE INPUT: true; the input reads as it did. -/
def chargeHoldsSpec : ChangeSpec := { name := "chargeHolds", fn := fun _ => fun
  | [d1, d2] => { results := [.lit (.bool true)], args := [d1, d2] }
  | _ => none }
def chargeHoldsRow : OpenClaim := { program := "ytaofldlidifdcaa", sum := "3d9c8ab3190113a6e859d5d58dc7d02e01fce578b95e253a93936f3f9568fd61", func := "ostinato/ostinatolaw10.ChargeHolds", spec := "chargeHolds", unfollowed := true, recurses := true, apart := false }
def ChargeHoldsSaid : Prop := chargeHoldsRow.holds Try.pinned (OpenSpec.ofChange chargeHoldsSpec)

/-- ITS FALSE NEIGHBOUR: 'it returns false'. Refute it at one input. -/
def chargeHoldsWrong : ChangeSpec := { name := "chargeHolds", fn := fun _ => fun
  | [d1, d2] => { results := [.lit (.bool false)], args := [d1, d2] }
  | _ => none }
def ChargeHoldsWrongFalsely : Prop := chargeHoldsRow.holds Try.pinned (OpenSpec.ofChange chargeHoldsWrong)

/- THE SECOND FORM. 'bulk': how many values and letters a reading holds, each counted each time it is reached (what is shared counts as often as it is met; a slice's spare places count too). A statement '..UptoSaid' is the law's where the arguments, and the package variables that the reading takes, are together of bulk at most 1048576: NARROWER than '..Said'. Prove '..Said' where nothing that the law and all that it calls make is longer than what came in: it says more and counts as full. Else prove '..UptoSaid'. A law counts once. -/
mutual
def uptoBulk {H : Type} : DataW H → Nat
  | .lit (.string bytes) => bytes.length + 1
  | .lit _ => 1
  | .nil => 1
  | .ptr d => uptoBulk d + 1
  | .slice elems spare => uptoBulkAll elems + uptoBulkAll spare + 1
  | .agg parts => uptoBulkAll parts + 1
  | .iface _ d => uptoBulk d + 1
  | .map entries => uptoBulkEntries entries + 1
  | .held _ => 1
def uptoBulkAll {H : Type} : List (DataW H) → Nat
  | [] => 0
  | d :: r => uptoBulk d + uptoBulkAll r
def uptoBulkEntries {H : Type} : List (Lit × DataW H) → Nat
  | [] => 0
  | x :: r => uptoBulkEntry x + uptoBulkEntries r
def uptoBulkEntry {H : Type} : Lit × DataW H → Nat
  | (.string bytes, d) => bytes.length + uptoBulk d + 1
  | (_, d) => uptoBulk d + 1
 end
def uptoSmall : (H : Type) → List (DataW H) → Bool := fun _ ds => decide (uptoBulkAll ds ≤ 1048576)
def OpenSpec.upto (s : _root_.Go.ChangeSpec) : _root_.Go.OpenSpec := { _root_.Go.OpenSpec.ofChange s with cond := some uptoSmall }

/-- 'ostinatolaw10.ChargeLeast', WHERE WHAT IT READS IS OF BULK AT MOST 1048576: true; the input reads as it did. -/
def chargeLeastUptoRow : OpenClaim := { program := "ytaofldlidifdcaa", sum := "3d9c8ab3190113a6e859d5d58dc7d02e01fce578b95e253a93936f3f9568fd61", func := "ostinato/ostinatolaw10.ChargeLeast", spec := "chargeLeast", unfollowed := true, recurses := true, apart := false, narrowed := true }
def ChargeLeastUptoSaid : Prop := chargeLeastUptoRow.holds Try.pinned (OpenSpec.upto chargeLeastSpec)

/-- 'ostinatolaw10.ChargeApart', WHERE WHAT IT READS IS OF BULK AT MOST 1048576: true; the input reads as it did. -/
def chargeApartUptoRow : OpenClaim := { program := "ytaofldlidifdcaa", sum := "3d9c8ab3190113a6e859d5d58dc7d02e01fce578b95e253a93936f3f9568fd61", func := "ostinato/ostinatolaw10.ChargeApart", spec := "chargeApart", unfollowed := true, recurses := true, apart := false, narrowed := true }
def ChargeApartUptoSaid : Prop := chargeApartUptoRow.holds Try.pinned (OpenSpec.upto chargeApartSpec)

/-- 'ostinatolaw10.ChargeGrows', WHERE WHAT IT READS IS OF BULK AT MOST 1048576: true; the input reads as it did. -/
def chargeGrowsUptoRow : OpenClaim := { program := "ytaofldlidifdcaa", sum := "3d9c8ab3190113a6e859d5d58dc7d02e01fce578b95e253a93936f3f9568fd61", func := "ostinato/ostinatolaw10.ChargeGrows", spec := "chargeGrows", unfollowed := true, recurses := true, apart := false, narrowed := true }
def ChargeGrowsUptoSaid : Prop := chargeGrowsUptoRow.holds Try.pinned (OpenSpec.upto chargeGrowsSpec)

/-- 'ostinatolaw10.ChargeTells', WHERE WHAT IT READS IS OF BULK AT MOST 1048576: true; the input reads as it did. -/
def chargeTellsUptoRow : OpenClaim := { program := "ytaofldlidifdcaa", sum := "3d9c8ab3190113a6e859d5d58dc7d02e01fce578b95e253a93936f3f9568fd61", func := "ostinato/ostinatolaw10.ChargeTells", spec := "chargeTells", unfollowed := true, recurses := true, apart := false, narrowed := true }
def ChargeTellsUptoSaid : Prop := chargeTellsUptoRow.holds Try.pinned (OpenSpec.upto chargeTellsSpec)

/-- 'ostinatolaw10.ChargeHolds', WHERE WHAT IT READS IS OF BULK AT MOST 1048576: true; the input reads as it did. -/
def chargeHoldsUptoRow : OpenClaim := { program := "ytaofldlidifdcaa", sum := "3d9c8ab3190113a6e859d5d58dc7d02e01fce578b95e253a93936f3f9568fd61", func := "ostinato/ostinatolaw10.ChargeHolds", spec := "chargeHolds", unfollowed := true, recurses := true, apart := false, narrowed := true }
def ChargeHoldsUptoSaid : Prop := chargeHoldsUptoRow.holds Try.pinned (OpenSpec.upto chargeHoldsSpec)

end Rows
end Go.Proofs.Ytaofldlidifdcaa
