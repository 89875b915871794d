/-
  No cell of these rows narrows 'for every input' (looked for: loops, veiled, ifaces, maps, wideKeys, modest, calm, conditions, laid).
  DERIVED. THE GIVEN ROWS OF THIS SEAT. 3 by the template 'for every input the law returns true; each argument reads behind the call as it read before'; 0 by the template 'total and deterministic' (their statements: YtgeedlfnjneeiaaTotals.lean).
  GIVEN WITH THE SEED: the statements are not yours to turn. If you find one false, say at which input.
  Laid BY PROGRAM, IN A SANDBOX (cutbox-rows.mjs): the forced cells as the released guide's own fill.sh prints them over the translation 8e66020bf7ebeb53… (all of the seat's roots in one cut). By AI agents, Wed Nov 11 2026. No macro, syntax, notation, axiom, sorry.
-/
import Derived.Test.YtgeedlfnjneeiaaChecked
import GoSem.Claim
import GoSem.ClaimJoined
import GoSem.ClaimMapViews
import Derived.JoinedTies
import Derived.KernelRfl
namespace Go.Proofs.Ytgeedlfnjneeiaa
/- THE CELL 'sum', in the pinned program and in every row, IS THE sha256 OF THE DUMP (.gsa) THAT YtgeedlfnjneeiaaProg.lean LOADS. Nothing in Lean hashes anything: it is a label: what it is worth is what the hold of that sum in a sandbox is worth. -/
noncomputable def Try.pinned : Pinned := { name := "ytgeedlfnjneeiaa", sum := "8e66020bf7ebeb53c7312dd94af3bd1477723df25dc894afefd12c57ab04e2cc", checked := Try.checked }
namespace Rows
def none {H : Type} : Left H := { results := [], args := [] }

/-- 'spillwaylaw14.FlowRises': WHATEVER THE INPUT: true; the input reads as it did. -/
def flowRisesSpec : ChangeSpec := { name := "flowRises", fn := fun _ => fun
  | [d1, d2, d3] => { results := [.lit (.bool true)], args := [d1, d2, d3] }
  | _ => none }
def flowRisesRow : OpenClaim := { program := "ytgeedlfnjneeiaa", sum := "8e66020bf7ebeb53c7312dd94af3bd1477723df25dc894afefd12c57ab04e2cc", func := "spillway/spillwaylaw14.FlowRises", spec := "flowRises", inPlace := ["math/bits.Add64"], unfollowed := true, recurses := true, named := ["math/bits.divideError", "math/bits.overflowError"], apart := false }
def FlowRisesSaid : Prop := flowRisesRow.holds Try.pinned (OpenSpec.ofChange flowRisesSpec)

/-- ITS FALSE NEIGHBOUR: 'it returns false'. Refute it at one input. -/
def flowRisesWrong : ChangeSpec := { name := "flowRises", fn := fun _ => fun
  | [d1, d2, d3] => { results := [.lit (.bool false)], args := [d1, d2, d3] }
  | _ => none }
def FlowRisesWrongFalsely : Prop := flowRisesRow.holds Try.pinned (OpenSpec.ofChange flowRisesWrong)

/-- 'spillwaylaw14.FlowSteps': WHATEVER THE INPUT: true; the input reads as it did. -/
def flowStepsSpec : ChangeSpec := { name := "flowSteps", fn := fun _ => fun
  | [d1, d2] => { results := [.lit (.bool true)], args := [d1, d2] }
  | _ => none }
def flowStepsRow : OpenClaim := { program := "ytgeedlfnjneeiaa", sum := "8e66020bf7ebeb53c7312dd94af3bd1477723df25dc894afefd12c57ab04e2cc", func := "spillway/spillwaylaw14.FlowSteps", spec := "flowSteps", inPlace := ["math/bits.Add64"], unfollowed := true, recurses := true, named := ["math/bits.divideError", "math/bits.overflowError"], apart := false }
def FlowStepsSaid : Prop := flowStepsRow.holds Try.pinned (OpenSpec.ofChange flowStepsSpec)

/-- ITS FALSE NEIGHBOUR: 'it returns false'. Refute it at one input. -/
def flowStepsWrong : ChangeSpec := { name := "flowSteps", fn := fun _ => fun
  | [d1, d2] => { results := [.lit (.bool false)], args := [d1, d2] }
  | _ => none }
def FlowStepsWrongFalsely : Prop := flowStepsRow.holds Try.pinned (OpenSpec.ofChange flowStepsWrong)

/-- 'spillwaylaw14.FlowHolds': WHATEVER THE INPUT: true; the input reads as it did. -/
def flowHoldsSpec : ChangeSpec := { name := "flowHolds", fn := fun _ => fun
  | [d1, d2] => { results := [.lit (.bool true)], args := [d1, d2] }
  | _ => none }
def flowHoldsRow : OpenClaim := { program := "ytgeedlfnjneeiaa", sum := "8e66020bf7ebeb53c7312dd94af3bd1477723df25dc894afefd12c57ab04e2cc", func := "spillway/spillwaylaw14.FlowHolds", spec := "flowHolds", inPlace := ["math/bits.Add64"], unfollowed := true, recurses := true, named := ["math/bits.divideError", "math/bits.overflowError"], apart := false }
def FlowHoldsSaid : Prop := flowHoldsRow.holds Try.pinned (OpenSpec.ofChange flowHoldsSpec)

/-- ITS FALSE NEIGHBOUR: 'it returns false'. Refute it at one input. -/
def flowHoldsWrong : ChangeSpec := { name := "flowHolds", fn := fun _ => fun
  | [d1, d2] => { results := [.lit (.bool false)], args := [d1, d2] }
  | _ => none }
def FlowHoldsWrongFalsely : Prop := flowHoldsRow.holds Try.pinned (OpenSpec.ofChange flowHoldsWrong)

/- THE SECOND FORM. 'bulk': how many values and letters a reading holds, each counted each time it is reached (what is shared counts as often as it is met; a slice's spare places count too). A statement '..UptoSaid' is the law's where the arguments, and the package variables that the reading takes, are together of bulk at most 1048576: NARROWER than '..Said'. Prove '..Said' where nothing that the law and all that it calls make is longer than what came in: it says more and counts as full. Else prove '..UptoSaid'. A law counts once. -/
mutual
def uptoBulk {H : Type} : DataW H → Nat
  | .lit (.string bytes) => bytes.length + 1
  | .lit _ => 1
  | .nil => 1
  | .ptr d => uptoBulk d + 1
  | .slice elems spare => uptoBulkAll elems + uptoBulkAll spare + 1
  | .agg parts => uptoBulkAll parts + 1
  | .iface _ d => uptoBulk d + 1
  | .map entries => uptoBulkEntries entries + 1
  | .held _ => 1
def uptoBulkAll {H : Type} : List (DataW H) → Nat
  | [] => 0
  | d :: r => uptoBulk d + uptoBulkAll r
def uptoBulkEntries {H : Type} : List (Lit × DataW H) → Nat
  | [] => 0
  | x :: r => uptoBulkEntry x + uptoBulkEntries r
def uptoBulkEntry {H : Type} : Lit × DataW H → Nat
  | (.string bytes, d) => bytes.length + uptoBulk d + 1
  | (_, d) => uptoBulk d + 1
 end
def uptoSmall : (H : Type) → List (DataW H) → Bool := fun _ ds => decide (uptoBulkAll ds ≤ 1048576)
def OpenSpec.upto (s : _root_.Go.ChangeSpec) : _root_.Go.OpenSpec := { _root_.Go.OpenSpec.ofChange s with cond := some uptoSmall }

/-- 'spillwaylaw14.FlowRises', WHERE WHAT IT READS IS OF BULK AT MOST 1048576: true; the input reads as it did. -/
def flowRisesUptoRow : OpenClaim := { program := "ytgeedlfnjneeiaa", sum := "8e66020bf7ebeb53c7312dd94af3bd1477723df25dc894afefd12c57ab04e2cc", func := "spillway/spillwaylaw14.FlowRises", spec := "flowRises", inPlace := ["math/bits.Add64"], unfollowed := true, recurses := true, named := ["math/bits.divideError", "math/bits.overflowError"], apart := false, narrowed := true }
def FlowRisesUptoSaid : Prop := flowRisesUptoRow.holds Try.pinned (OpenSpec.upto flowRisesSpec)

/-- 'spillwaylaw14.FlowSteps', WHERE WHAT IT READS IS OF BULK AT MOST 1048576: true; the input reads as it did. -/
def flowStepsUptoRow : OpenClaim := { program := "ytgeedlfnjneeiaa", sum := "8e66020bf7ebeb53c7312dd94af3bd1477723df25dc894afefd12c57ab04e2cc", func := "spillway/spillwaylaw14.FlowSteps", spec := "flowSteps", inPlace := ["math/bits.Add64"], unfollowed := true, recurses := true, named := ["math/bits.divideError", "math/bits.overflowError"], apart := false, narrowed := true }
def FlowStepsUptoSaid : Prop := flowStepsUptoRow.holds Try.pinned (OpenSpec.upto flowStepsSpec)

/-- 'spillwaylaw14.FlowHolds', WHERE WHAT IT READS IS OF BULK AT MOST 1048576: true; the input reads as it did. -/
def flowHoldsUptoRow : OpenClaim := { program := "ytgeedlfnjneeiaa", sum := "8e66020bf7ebeb53c7312dd94af3bd1477723df25dc894afefd12c57ab04e2cc", func := "spillway/spillwaylaw14.FlowHolds", spec := "flowHolds", inPlace := ["math/bits.Add64"], unfollowed := true, recurses := true, named := ["math/bits.divideError", "math/bits.overflowError"], apart := false, narrowed := true }
def FlowHoldsUptoSaid : Prop := flowHoldsUptoRow.holds Try.pinned (OpenSpec.upto flowHoldsSpec)

end Rows
end Go.Proofs.Ytgeedlfnjneeiaa
