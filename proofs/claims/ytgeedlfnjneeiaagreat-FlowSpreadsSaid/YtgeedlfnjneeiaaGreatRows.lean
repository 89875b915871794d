/-
  No cell of these rows narrows 'for every input' (looked for: loops, veiled, ifaces, maps, wideKeys, modest, calm, conditions, laid).
  DERIVED. THE GIVEN ROWS OF THIS SEAT. 2 by the template 'for every input the law returns true; each argument reads behind the call as it read before'; 0 by the template 'total and deterministic' (their statements: YtgeedlfnjneeiaaGreatTotals.lean).
  GIVEN WITH THE SEED: the statements are not yours to turn. If you find one false, say at which input.
  Laid BY PROGRAM, IN A SANDBOX (cutbox-rows.mjs): the forced cells as the released guide's own fill.sh prints them over the translation 155f3d6ef42c6421… (all of the seat's roots in one cut). By AI agents, Wed Nov 11 2026. No macro, syntax, notation, axiom, sorry.
-/
import Derived.Test.YtgeedlfnjneeiaaGreatChecked
import GoSem.Claim
import GoSem.ClaimJoined
import GoSem.ClaimMapViews
import Derived.JoinedTies
import Derived.KernelRfl
namespace Go.Proofs.YtgeedlfnjneeiaaGreat
/- THE CELL 'sum', in the pinned program and in every row, IS THE sha256 OF THE DUMP (.gsa) THAT YtgeedlfnjneeiaaGreatProg.lean LOADS. Nothing in Lean hashes anything: it is a label: what it is worth is what the hold of that sum in a sandbox is worth. -/
noncomputable def Tryz.pinned : Pinned := { name := "ytgeedlfnjneeiaagreat", sum := "155f3d6ef42c6421494325f9ceeff7321c94fdcc8979fe6c92827e679ed92dba", checked := Tryz.checked }
namespace Rows
def none {H : Type} : Left H := { results := [], args := [] }

/-- 'spillwaylaw14.FlowOuts': WHATEVER THE INPUT: true; the input reads as it did. -/
def flowOutsSpec : ChangeSpec := { name := "flowOuts", fn := fun _ => fun
  | [d1, d2, d3] => { results := [.lit (.bool true)], args := [d1, d2, d3] }
  | _ => none }
def flowOutsRow : OpenClaim := { program := "ytgeedlfnjneeiaagreat", sum := "155f3d6ef42c6421494325f9ceeff7321c94fdcc8979fe6c92827e679ed92dba", func := "spillway/spillwaylaw14.FlowOuts", spec := "flowOuts", inPlace := ["math/bits.Add64"], unfollowed := true, recurses := true, named := ["math/bits.divideError", "math/bits.overflowError"], apart := false }
def FlowOutsSaid : Prop := flowOutsRow.holds Tryz.pinned (OpenSpec.ofChange flowOutsSpec)

/-- ITS FALSE NEIGHBOUR: 'it returns false'. Refute it at one input. -/
def flowOutsWrong : ChangeSpec := { name := "flowOuts", fn := fun _ => fun
  | [d1, d2, d3] => { results := [.lit (.bool false)], args := [d1, d2, d3] }
  | _ => none }
def FlowOutsWrongFalsely : Prop := flowOutsRow.holds Tryz.pinned (OpenSpec.ofChange flowOutsWrong)

/-- 'spillwaylaw14.FlowSpreads': WHATEVER THE INPUT: true; the input reads as it did. -/
def flowSpreadsSpec : ChangeSpec := { name := "flowSpreads", fn := fun _ => fun
  | [d] => { results := [.lit (.bool true)], args := [d] }
  | _ => none }
def flowSpreadsRow : OpenClaim := { program := "ytgeedlfnjneeiaagreat", sum := "155f3d6ef42c6421494325f9ceeff7321c94fdcc8979fe6c92827e679ed92dba", func := "spillway/spillwaylaw14.FlowSpreads", spec := "flowSpreads", inPlace := ["math/bits.Add64"], unfollowed := true, recurses := true, named := ["math/bits.divideError", "math/bits.overflowError"], apart := false }
def FlowSpreadsSaid : Prop := flowSpreadsRow.holds Tryz.pinned (OpenSpec.ofChange flowSpreadsSpec)

/-- ITS FALSE NEIGHBOUR: 'it returns false'. Refute it at one input. -/
def flowSpreadsWrong : ChangeSpec := { name := "flowSpreads", fn := fun _ => fun
  | [d] => { results := [.lit (.bool false)], args := [d] }
  | _ => none }
def FlowSpreadsWrongFalsely : Prop := flowSpreadsRow.holds Tryz.pinned (OpenSpec.ofChange flowSpreadsWrong)

/- THE SECOND FORM. 'bulk': how many values and letters a reading holds, each counted each time it is reached (what is shared counts as often as it is met; a slice's spare places count too). A statement '..UptoSaid' is the law's where the arguments, and the package variables that the reading takes, are together of bulk at most 1048576: NARROWER than '..Said'. Prove '..Said' where nothing that the law and all that it calls make is longer than what came in: it says more and counts as full. Else prove '..UptoSaid'. A law counts once. -/
mutual
def uptoBulk {H : Type} : DataW H → Nat
  | .lit (.string bytes) => bytes.length + 1
  | .lit _ => 1
  | .nil => 1
  | .ptr d => uptoBulk d + 1
  | .slice elems spare => uptoBulkAll elems + uptoBulkAll spare + 1
  | .agg parts => uptoBulkAll parts + 1
  | .iface _ d => uptoBulk d + 1
  | .map entries => uptoBulkEntries entries + 1
  | .held _ => 1
def uptoBulkAll {H : Type} : List (DataW H) → Nat
  | [] => 0
  | d :: r => uptoBulk d + uptoBulkAll r
def uptoBulkEntries {H : Type} : List (Lit × DataW H) → Nat
  | [] => 0
  | x :: r => uptoBulkEntry x + uptoBulkEntries r
def uptoBulkEntry {H : Type} : Lit × DataW H → Nat
  | (.string bytes, d) => bytes.length + uptoBulk d + 1
  | (_, d) => uptoBulk d + 1
 end
def uptoSmall : (H : Type) → List (DataW H) → Bool := fun _ ds => decide (uptoBulkAll ds ≤ 1048576)
def OpenSpec.upto (s : _root_.Go.ChangeSpec) : _root_.Go.OpenSpec := { _root_.Go.OpenSpec.ofChange s with cond := some uptoSmall }

/-- 'spillwaylaw14.FlowOuts', WHERE WHAT IT READS IS OF BULK AT MOST 1048576: true; the input reads as it did. -/
def flowOutsUptoRow : OpenClaim := { program := "ytgeedlfnjneeiaagreat", sum := "155f3d6ef42c6421494325f9ceeff7321c94fdcc8979fe6c92827e679ed92dba", func := "spillway/spillwaylaw14.FlowOuts", spec := "flowOuts", inPlace := ["math/bits.Add64"], unfollowed := true, recurses := true, named := ["math/bits.divideError", "math/bits.overflowError"], apart := false, narrowed := true }
def FlowOutsUptoSaid : Prop := flowOutsUptoRow.holds Tryz.pinned (OpenSpec.upto flowOutsSpec)

/-- 'spillwaylaw14.FlowSpreads', WHERE WHAT IT READS IS OF BULK AT MOST 1048576: true; the input reads as it did. -/
def flowSpreadsUptoRow : OpenClaim := { program := "ytgeedlfnjneeiaagreat", sum := "155f3d6ef42c6421494325f9ceeff7321c94fdcc8979fe6c92827e679ed92dba", func := "spillway/spillwaylaw14.FlowSpreads", spec := "flowSpreads", inPlace := ["math/bits.Add64"], unfollowed := true, recurses := true, named := ["math/bits.divideError", "math/bits.overflowError"], apart := false, narrowed := true }
def FlowSpreadsUptoSaid : Prop := flowSpreadsUptoRow.holds Tryz.pinned (OpenSpec.upto flowSpreadsSpec)

end Rows
end Go.Proofs.YtgeedlfnjneeiaaGreat
