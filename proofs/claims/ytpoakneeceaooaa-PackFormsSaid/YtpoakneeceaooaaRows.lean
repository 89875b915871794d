/-
  No cell of these rows narrows 'for every input' (looked for: loops, veiled, ifaces, maps, wideKeys, modest, calm, conditions, laid).
  DERIVED. THE GIVEN ROWS OF THIS SEAT. 6 by the template 'for every input the law returns true; each argument reads behind the call as it read before'; 0 by the template 'total and deterministic' (their statements: YtpoakneeceaooaaTotals.lean).
  GIVEN WITH THE SEED: the statements are not yours to turn. If you find one false, say at which input.
  Laid BY PROGRAM, IN A SANDBOX (cutbox-rows.mjs): the forced cells as the released guide's own fill.sh prints them over the translation a98aa5a514b0f7ef… (all of the seat's roots in one cut). By AI agents, Wed Nov 11 2026. No macro, syntax, notation, axiom, sorry.
-/
import Derived.Test.YtpoakneeceaooaaChecked
import GoSem.Claim
import GoSem.ClaimJoined
import GoSem.ClaimMapViews
import Derived.JoinedTies
import Derived.KernelRfl
namespace Go.Proofs.Ytpoakneeceaooaa
/- THE CELL 'sum', in the pinned program and in every row, IS THE sha256 OF THE DUMP (.gsa) THAT YtpoakneeceaooaaProg.lean LOADS. Nothing in Lean hashes anything: it is a label: what it is worth is what the hold of that sum in a sandbox is worth. -/
noncomputable def Try.pinned : Pinned := { name := "ytpoakneeceaooaa", sum := "a98aa5a514b0f7efa6f23b7968c0f8b7062b0cac6e5bacebb57d94629c786cb6", checked := Try.checked }
namespace Rows
def none {H : Type} : Left H := { results := [], args := [] }

/-- 'spillwaylaw09.PackEncodes': WHATEVER THE INPUT: true; the input reads as it did. -/
def packEncodesSpec : ChangeSpec := { name := "packEncodes", fn := fun _ => fun
  | [d] => { results := [.lit (.bool true)], args := [d] }
  | _ => none }
def packEncodesRow : OpenClaim := { program := "ytpoakneeceaooaa", sum := "a98aa5a514b0f7efa6f23b7968c0f8b7062b0cac6e5bacebb57d94629c786cb6", func := "spillway/spillwaylaw09.PackEncodes", spec := "packEncodes", unfollowed := true, recurses := true, apart := false }
def PackEncodesSaid : Prop := packEncodesRow.holds Try.pinned (OpenSpec.ofChange packEncodesSpec)

/-- ITS FALSE NEIGHBOUR: 'it returns false'. Refute it at one input. -/
def packEncodesWrong : ChangeSpec := { name := "packEncodes", fn := fun _ => fun
  | [d] => { results := [.lit (.bool false)], args := [d] }
  | _ => none }
def PackEncodesWrongFalsely : Prop := packEncodesRow.holds Try.pinned (OpenSpec.ofChange packEncodesWrong)

/-- 'spillwaylaw09.PackDecodes': WHATEVER THE INPUT: true; the input reads as it did. -/
def packDecodesSpec : ChangeSpec := { name := "packDecodes", fn := fun _ => fun
  | [d] => { results := [.lit (.bool true)], args := [d] }
  | _ => none }
def packDecodesRow : OpenClaim := { program := "ytpoakneeceaooaa", sum := "a98aa5a514b0f7efa6f23b7968c0f8b7062b0cac6e5bacebb57d94629c786cb6", func := "spillway/spillwaylaw09.PackDecodes", spec := "packDecodes", unfollowed := true, recurses := true, apart := false }
def PackDecodesSaid : Prop := packDecodesRow.holds Try.pinned (OpenSpec.ofChange packDecodesSpec)

/-- ITS FALSE NEIGHBOUR: 'it returns false'. Refute it at one input. -/
def packDecodesWrong : ChangeSpec := { name := "packDecodes", fn := fun _ => fun
  | [d] => { results := [.lit (.bool false)], args := [d] }
  | _ => none }
def PackDecodesWrongFalsely : Prop := packDecodesRow.holds Try.pinned (OpenSpec.ofChange packDecodesWrong)

/-- 'spillwaylaw09.PackBack': WHATEVER THE INPUT: true; the input reads as it did. -/
def packBackSpec : ChangeSpec := { name := "packBack", fn := fun _ => fun
  | [d] => { results := [.lit (.bool true)], args := [d] }
  | _ => none }
def packBackRow : OpenClaim := { program := "ytpoakneeceaooaa", sum := "a98aa5a514b0f7efa6f23b7968c0f8b7062b0cac6e5bacebb57d94629c786cb6", func := "spillway/spillwaylaw09.PackBack", spec := "packBack", unfollowed := true, recurses := true, apart := false }
def PackBackSaid : Prop := packBackRow.holds Try.pinned (OpenSpec.ofChange packBackSpec)

/-- ITS FALSE NEIGHBOUR: 'it returns false'. Refute it at one input. -/
def packBackWrong : ChangeSpec := { name := "packBack", fn := fun _ => fun
  | [d] => { results := [.lit (.bool false)], args := [d] }
  | _ => none }
def PackBackWrongFalsely : Prop := packBackRow.holds Try.pinned (OpenSpec.ofChange packBackWrong)

/-- 'spillwaylaw09.PackForms': WHATEVER THE INPUT: true; the input reads as it did. -/
def packFormsSpec : ChangeSpec := { name := "packForms", fn := fun _ => fun
  | [d] => { results := [.lit (.bool true)], args := [d] }
  | _ => none }
def packFormsRow : OpenClaim := { program := "ytpoakneeceaooaa", sum := "a98aa5a514b0f7efa6f23b7968c0f8b7062b0cac6e5bacebb57d94629c786cb6", func := "spillway/spillwaylaw09.PackForms", spec := "packForms", unfollowed := true, recurses := true, apart := false }
def PackFormsSaid : Prop := packFormsRow.holds Try.pinned (OpenSpec.ofChange packFormsSpec)

/-- ITS FALSE NEIGHBOUR: 'it returns false'. Refute it at one input. -/
def packFormsWrong : ChangeSpec := { name := "packForms", fn := fun _ => fun
  | [d] => { results := [.lit (.bool false)], args := [d] }
  | _ => none }
def PackFormsWrongFalsely : Prop := packFormsRow.holds Try.pinned (OpenSpec.ofChange packFormsWrong)

/-- 'spillwaylaw09.PackCuts': WHATEVER THE INPUT: true; the input reads as it did. -/
def packCutsSpec : ChangeSpec := { name := "packCuts", fn := fun _ => fun
  | [d1, d2, d3] => { results := [.lit (.bool true)], args := [d1, d2, d3] }
  | _ => none }
def packCutsRow : OpenClaim := { program := "ytpoakneeceaooaa", sum := "a98aa5a514b0f7efa6f23b7968c0f8b7062b0cac6e5bacebb57d94629c786cb6", func := "spillway/spillwaylaw09.PackCuts", spec := "packCuts", unfollowed := true, recurses := true, apart := false }
def PackCutsSaid : Prop := packCutsRow.holds Try.pinned (OpenSpec.ofChange packCutsSpec)

/-- ITS FALSE NEIGHBOUR: 'it returns false'. Refute it at one input. -/
def packCutsWrong : ChangeSpec := { name := "packCuts", fn := fun _ => fun
  | [d1, d2, d3] => { results := [.lit (.bool false)], args := [d1, d2, d3] }
  | _ => none }
def PackCutsWrongFalsely : Prop := packCutsRow.holds Try.pinned (OpenSpec.ofChange packCutsWrong)

/-- 'spillwaylaw09.PackMemory': WHATEVER THE INPUT: true; the input reads as it did. -/
def packMemorySpec : ChangeSpec := { name := "packMemory", fn := fun _ => fun
  | [d] => { results := [.lit (.bool true)], args := [d] }
  | _ => none }
def packMemoryRow : OpenClaim := { program := "ytpoakneeceaooaa", sum := "a98aa5a514b0f7efa6f23b7968c0f8b7062b0cac6e5bacebb57d94629c786cb6", func := "spillway/spillwaylaw09.PackMemory", spec := "packMemory", unfollowed := true, recurses := true, apart := false }
def PackMemorySaid : Prop := packMemoryRow.holds Try.pinned (OpenSpec.ofChange packMemorySpec)

/-- ITS FALSE NEIGHBOUR: 'it returns false'. Refute it at one input. -/
def packMemoryWrong : ChangeSpec := { name := "packMemory", fn := fun _ => fun
  | [d] => { results := [.lit (.bool false)], args := [d] }
  | _ => none }
def PackMemoryWrongFalsely : Prop := packMemoryRow.holds Try.pinned (OpenSpec.ofChange packMemoryWrong)

/- THE SECOND FORM. 'bulk': how many values and letters a reading holds, each counted each time it is reached (what is shared counts as often as it is met; a slice's spare places count too). A statement '..UptoSaid' is the law's where the arguments, and the package variables that the reading takes, are together of bulk at most 1048576: NARROWER than '..Said'. Prove '..Said' where nothing that the law and all that it calls make is longer than what came in: it says more and counts as full. Else prove '..UptoSaid'. A law counts once. -/
mutual
def uptoBulk {H : Type} : DataW H → Nat
  | .lit (.string bytes) => bytes.length + 1
  | .lit _ => 1
  | .nil => 1
  | .ptr d => uptoBulk d + 1
  | .slice elems spare => uptoBulkAll elems + uptoBulkAll spare + 1
  | .agg parts => uptoBulkAll parts + 1
  | .iface _ d => uptoBulk d + 1
  | .map entries => uptoBulkEntries entries + 1
  | .held _ => 1
def uptoBulkAll {H : Type} : List (DataW H) → Nat
  | [] => 0
  | d :: r => uptoBulk d + uptoBulkAll r
def uptoBulkEntries {H : Type} : List (Lit × DataW H) → Nat
  | [] => 0
  | x :: r => uptoBulkEntry x + uptoBulkEntries r
def uptoBulkEntry {H : Type} : Lit × DataW H → Nat
  | (.string bytes, d) => bytes.length + uptoBulk d + 1
  | (_, d) => uptoBulk d + 1
 end
def uptoSmall : (H : Type) → List (DataW H) → Bool := fun _ ds => decide (uptoBulkAll ds ≤ 1048576)
def OpenSpec.upto (s : _root_.Go.ChangeSpec) : _root_.Go.OpenSpec := { _root_.Go.OpenSpec.ofChange s with cond := some uptoSmall }

/-- 'spillwaylaw09.PackEncodes', WHERE WHAT IT READS IS OF BULK AT MOST 1048576: true; the input reads as it did. -/
def packEncodesUptoRow : OpenClaim := { program := "ytpoakneeceaooaa", sum := "a98aa5a514b0f7efa6f23b7968c0f8b7062b0cac6e5bacebb57d94629c786cb6", func := "spillway/spillwaylaw09.PackEncodes", spec := "packEncodes", unfollowed := true, recurses := true, apart := false, narrowed := true }
def PackEncodesUptoSaid : Prop := packEncodesUptoRow.holds Try.pinned (OpenSpec.upto packEncodesSpec)

/-- 'spillwaylaw09.PackDecodes', WHERE WHAT IT READS IS OF BULK AT MOST 1048576: true; the input reads as it did. -/
def packDecodesUptoRow : OpenClaim := { program := "ytpoakneeceaooaa", sum := "a98aa5a514b0f7efa6f23b7968c0f8b7062b0cac6e5bacebb57d94629c786cb6", func := "spillway/spillwaylaw09.PackDecodes", spec := "packDecodes", unfollowed := true, recurses := true, apart := false, narrowed := true }
def PackDecodesUptoSaid : Prop := packDecodesUptoRow.holds Try.pinned (OpenSpec.upto packDecodesSpec)

/-- 'spillwaylaw09.PackBack', WHERE WHAT IT READS IS OF BULK AT MOST 1048576: true; the input reads as it did. -/
def packBackUptoRow : OpenClaim := { program := "ytpoakneeceaooaa", sum := "a98aa5a514b0f7efa6f23b7968c0f8b7062b0cac6e5bacebb57d94629c786cb6", func := "spillway/spillwaylaw09.PackBack", spec := "packBack", unfollowed := true, recurses := true, apart := false, narrowed := true }
def PackBackUptoSaid : Prop := packBackUptoRow.holds Try.pinned (OpenSpec.upto packBackSpec)

/-- 'spillwaylaw09.PackForms', WHERE WHAT IT READS IS OF BULK AT MOST 1048576: true; the input reads as it did. -/
def packFormsUptoRow : OpenClaim := { program := "ytpoakneeceaooaa", sum := "a98aa5a514b0f7efa6f23b7968c0f8b7062b0cac6e5bacebb57d94629c786cb6", func := "spillway/spillwaylaw09.PackForms", spec := "packForms", unfollowed := true, recurses := true, apart := false, narrowed := true }
def PackFormsUptoSaid : Prop := packFormsUptoRow.holds Try.pinned (OpenSpec.upto packFormsSpec)

/-- 'spillwaylaw09.PackCuts', WHERE WHAT IT READS IS OF BULK AT MOST 1048576: true; the input reads as it did. -/
def packCutsUptoRow : OpenClaim := { program := "ytpoakneeceaooaa", sum := "a98aa5a514b0f7efa6f23b7968c0f8b7062b0cac6e5bacebb57d94629c786cb6", func := "spillway/spillwaylaw09.PackCuts", spec := "packCuts", unfollowed := true, recurses := true, apart := false, narrowed := true }
def PackCutsUptoSaid : Prop := packCutsUptoRow.holds Try.pinned (OpenSpec.upto packCutsSpec)

/-- 'spillwaylaw09.PackMemory', WHERE WHAT IT READS IS OF BULK AT MOST 1048576: true; the input reads as it did. -/
def packMemoryUptoRow : OpenClaim := { program := "ytpoakneeceaooaa", sum := "a98aa5a514b0f7efa6f23b7968c0f8b7062b0cac6e5bacebb57d94629c786cb6", func := "spillway/spillwaylaw09.PackMemory", spec := "packMemory", unfollowed := true, recurses := true, apart := false, narrowed := true }
def PackMemoryUptoSaid : Prop := packMemoryUptoRow.holds Try.pinned (OpenSpec.upto packMemorySpec)

end Rows
end Go.Proofs.Ytpoakneeceaooaa
