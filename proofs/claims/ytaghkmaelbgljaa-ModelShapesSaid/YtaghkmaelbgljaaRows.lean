/-
  No cell of these rows narrows 'for every input' (looked for: loops, veiled, ifaces, maps, wideKeys, modest, calm, conditions, laid).
  DERIVED. THE GIVEN ROWS OF THIS SEAT. 4 by the template 'for every input the law returns true; each argument reads behind the call as it read before'; 0 by the template 'total and deterministic' (their statements: YtaghkmaelbgljaaTotals.lean).
  GIVEN WITH THE SEED: the statements are not yours to turn. If you find one false, say at which input.
  Laid BY PROGRAM, IN A SANDBOX (cutbox-rows.mjs): the forced cells as the released guide's own fill.sh prints them over the translation dc8b247813d03a85… (all of the seat's roots in one cut). By AI agents, Wed Nov 11 2026. No macro, syntax, notation, axiom, sorry.
-/
import Derived.Test.YtaghkmaelbgljaaChecked
import GoSem.Claim
import GoSem.ClaimJoined
import GoSem.ClaimMapViews
import Derived.JoinedTies
import Derived.KernelRfl
namespace Go.Proofs.Ytaghkmaelbgljaa
/- THE CELL 'sum', in the pinned program and in every row, IS THE sha256 OF THE DUMP (.gsa) THAT YtaghkmaelbgljaaProg.lean LOADS. Nothing in Lean hashes anything: it is a label: what it is worth is what the hold of that sum in a sandbox is worth. -/
noncomputable def Try.pinned : Pinned := { name := "ytaghkmaelbgljaa", sum := "dc8b247813d03a85273c6fff9d99164a34b7ad61b5f6c6d639de70934429fbb2", checked := Try.checked }
namespace Rows
def none {H : Type} : Left H := { results := [], args := [] }

/-- 'spillwaylaw08.ModelChecks': WHATEVER THE INPUT: true; the input reads as it did. -/
def modelChecksSpec : ChangeSpec := { name := "modelChecks", fn := fun _ => fun
  | [d] => { results := [.lit (.bool true)], args := [d] }
  | _ => none }
def modelChecksRow : OpenClaim := { program := "ytaghkmaelbgljaa", sum := "dc8b247813d03a85273c6fff9d99164a34b7ad61b5f6c6d639de70934429fbb2", func := "spillway/spillwaylaw08.ModelChecks", spec := "modelChecks", apart := false }
def ModelChecksSaid : Prop := modelChecksRow.holds Try.pinned (OpenSpec.ofChange modelChecksSpec)

/-- ITS FALSE NEIGHBOUR: 'it returns false'. Refute it at one input. -/
def modelChecksWrong : ChangeSpec := { name := "modelChecks", fn := fun _ => fun
  | [d] => { results := [.lit (.bool false)], args := [d] }
  | _ => none }
def ModelChecksWrongFalsely : Prop := modelChecksRow.holds Try.pinned (OpenSpec.ofChange modelChecksWrong)

/-- 'spillwaylaw08.ModelKinds': WHATEVER THE INPUT: true; the input reads as it did. -/
def modelKindsSpec : ChangeSpec := { name := "modelKinds", fn := fun _ => fun
  | [d] => { results := [.lit (.bool true)], args := [d] }
  | _ => none }
def modelKindsRow : OpenClaim := { program := "ytaghkmaelbgljaa", sum := "dc8b247813d03a85273c6fff9d99164a34b7ad61b5f6c6d639de70934429fbb2", func := "spillway/spillwaylaw08.ModelKinds", spec := "modelKinds", apart := false }
def ModelKindsSaid : Prop := modelKindsRow.holds Try.pinned (OpenSpec.ofChange modelKindsSpec)

/-- ITS FALSE NEIGHBOUR: 'it returns false'. Refute it at one input. -/
def modelKindsWrong : ChangeSpec := { name := "modelKinds", fn := fun _ => fun
  | [d] => { results := [.lit (.bool false)], args := [d] }
  | _ => none }
def ModelKindsWrongFalsely : Prop := modelKindsRow.holds Try.pinned (OpenSpec.ofChange modelKindsWrong)

/-- 'spillwaylaw08.ModelFronts': WHATEVER THE INPUT: true; the input reads as it did. -/
def modelFrontsSpec : ChangeSpec := { name := "modelFronts", fn := fun _ => fun
  | [d1, d2] => { results := [.lit (.bool true)], args := [d1, d2] }
  | _ => none }
def modelFrontsRow : OpenClaim := { program := "ytaghkmaelbgljaa", sum := "dc8b247813d03a85273c6fff9d99164a34b7ad61b5f6c6d639de70934429fbb2", func := "spillway/spillwaylaw08.ModelFronts", spec := "modelFronts", apart := false }
def ModelFrontsSaid : Prop := modelFrontsRow.holds Try.pinned (OpenSpec.ofChange modelFrontsSpec)

/-- ITS FALSE NEIGHBOUR: 'it returns false'. Refute it at one input. -/
def modelFrontsWrong : ChangeSpec := { name := "modelFronts", fn := fun _ => fun
  | [d1, d2] => { results := [.lit (.bool false)], args := [d1, d2] }
  | _ => none }
def ModelFrontsWrongFalsely : Prop := modelFrontsRow.holds Try.pinned (OpenSpec.ofChange modelFrontsWrong)

/-- 'spillwaylaw08.ModelShapes': WHATEVER THE INPUT: true; the input reads as it did. -/
def modelShapesSpec : ChangeSpec := { name := "modelShapes", fn := fun _ => fun
  | [d] => { results := [.lit (.bool true)], args := [d] }
  | _ => none }
def modelShapesRow : OpenClaim := { program := "ytaghkmaelbgljaa", sum := "dc8b247813d03a85273c6fff9d99164a34b7ad61b5f6c6d639de70934429fbb2", func := "spillway/spillwaylaw08.ModelShapes", spec := "modelShapes", apart := false }
def ModelShapesSaid : Prop := modelShapesRow.holds Try.pinned (OpenSpec.ofChange modelShapesSpec)

/-- ITS FALSE NEIGHBOUR: 'it returns false'. Refute it at one input. -/
def modelShapesWrong : ChangeSpec := { name := "modelShapes", fn := fun _ => fun
  | [d] => { results := [.lit (.bool false)], args := [d] }
  | _ => none }
def ModelShapesWrongFalsely : Prop := modelShapesRow.holds Try.pinned (OpenSpec.ofChange modelShapesWrong)

/- THE SECOND FORM. 'bulk': how many values and letters a reading holds, each counted each time it is reached (what is shared counts as often as it is met; a slice's spare places count too). A statement '..UptoSaid' is the law's where the arguments, and the package variables that the reading takes, are together of bulk at most 1048576: NARROWER than '..Said'. Prove '..Said' where nothing that the law and all that it calls make is longer than what came in: it says more and counts as full. Else prove '..UptoSaid'. A law counts once. -/
mutual
def uptoBulk {H : Type} : DataW H → Nat
  | .lit (.string bytes) => bytes.length + 1
  | .lit _ => 1
  | .nil => 1
  | .ptr d => uptoBulk d + 1
  | .slice elems spare => uptoBulkAll elems + uptoBulkAll spare + 1
  | .agg parts => uptoBulkAll parts + 1
  | .iface _ d => uptoBulk d + 1
  | .map entries => uptoBulkEntries entries + 1
  | .held _ => 1
def uptoBulkAll {H : Type} : List (DataW H) → Nat
  | [] => 0
  | d :: r => uptoBulk d + uptoBulkAll r
def uptoBulkEntries {H : Type} : List (Lit × DataW H) → Nat
  | [] => 0
  | x :: r => uptoBulkEntry x + uptoBulkEntries r
def uptoBulkEntry {H : Type} : Lit × DataW H → Nat
  | (.string bytes, d) => bytes.length + uptoBulk d + 1
  | (_, d) => uptoBulk d + 1
 end
def uptoSmall : (H : Type) → List (DataW H) → Bool := fun _ ds => decide (uptoBulkAll ds ≤ 1048576)
def OpenSpec.upto (s : _root_.Go.ChangeSpec) : _root_.Go.OpenSpec := { _root_.Go.OpenSpec.ofChange s with cond := some uptoSmall }

/-- 'spillwaylaw08.ModelChecks', WHERE WHAT IT READS IS OF BULK AT MOST 1048576: true; the input reads as it did. -/
def modelChecksUptoRow : OpenClaim := { program := "ytaghkmaelbgljaa", sum := "dc8b247813d03a85273c6fff9d99164a34b7ad61b5f6c6d639de70934429fbb2", func := "spillway/spillwaylaw08.ModelChecks", spec := "modelChecks", apart := false, narrowed := true }
def ModelChecksUptoSaid : Prop := modelChecksUptoRow.holds Try.pinned (OpenSpec.upto modelChecksSpec)

/-- 'spillwaylaw08.ModelKinds', WHERE WHAT IT READS IS OF BULK AT MOST 1048576: true; the input reads as it did. -/
def modelKindsUptoRow : OpenClaim := { program := "ytaghkmaelbgljaa", sum := "dc8b247813d03a85273c6fff9d99164a34b7ad61b5f6c6d639de70934429fbb2", func := "spillway/spillwaylaw08.ModelKinds", spec := "modelKinds", apart := false, narrowed := true }
def ModelKindsUptoSaid : Prop := modelKindsUptoRow.holds Try.pinned (OpenSpec.upto modelKindsSpec)

/-- 'spillwaylaw08.ModelFronts', WHERE WHAT IT READS IS OF BULK AT MOST 1048576: true; the input reads as it did. -/
def modelFrontsUptoRow : OpenClaim := { program := "ytaghkmaelbgljaa", sum := "dc8b247813d03a85273c6fff9d99164a34b7ad61b5f6c6d639de70934429fbb2", func := "spillway/spillwaylaw08.ModelFronts", spec := "modelFronts", apart := false, narrowed := true }
def ModelFrontsUptoSaid : Prop := modelFrontsUptoRow.holds Try.pinned (OpenSpec.upto modelFrontsSpec)

/-- 'spillwaylaw08.ModelShapes', WHERE WHAT IT READS IS OF BULK AT MOST 1048576: true; the input reads as it did. -/
def modelShapesUptoRow : OpenClaim := { program := "ytaghkmaelbgljaa", sum := "dc8b247813d03a85273c6fff9d99164a34b7ad61b5f6c6d639de70934429fbb2", func := "spillway/spillwaylaw08.ModelShapes", spec := "modelShapes", apart := false, narrowed := true }
def ModelShapesUptoSaid : Prop := modelShapesUptoRow.holds Try.pinned (OpenSpec.upto modelShapesSpec)

end Rows
end Go.Proofs.Ytaghkmaelbgljaa
