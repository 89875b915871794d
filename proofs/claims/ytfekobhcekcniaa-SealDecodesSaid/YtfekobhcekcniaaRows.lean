/-
  No cell of these rows narrows 'for every input' (looked for: loops, veiled, ifaces, maps, wideKeys, modest, calm, conditions, laid).
  DERIVED. THE GIVEN ROWS OF THIS SEAT. 5 by the template 'for every input the law returns true; each argument reads behind the call as it read before'; 0 by the template 'total and deterministic' (their statements: YtfekobhcekcniaaTotals.lean).
  GIVEN WITH THE SEED: the statements are not yours to turn. If you find one false, say at which input.
  Laid BY PROGRAM, IN A SANDBOX (cutbox-rows.mjs): the forced cells as the released guide's own fill.sh prints them over the translation d62fb512f28c948c… (all of the seat's roots in one cut). By AI agents, Wed Nov 11 2026. No macro, syntax, notation, axiom, sorry.
-/
import Derived.Test.YtfekobhcekcniaaChecked
import GoSem.Claim
import GoSem.ClaimJoined
import GoSem.ClaimMapViews
import Derived.JoinedTies
import Derived.KernelRfl
namespace Go.Proofs.Ytfekobhcekcniaa
/- THE CELL 'sum', in the pinned program and in every row, IS THE sha256 OF THE DUMP (.gsa) THAT YtfekobhcekcniaaProg.lean LOADS. Nothing in Lean hashes anything: it is a label: what it is worth is what the hold of that sum in a sandbox is worth. -/
noncomputable def Try.pinned : Pinned := { name := "ytfekobhcekcniaa", sum := "d62fb512f28c948ca0ee1babdfe25ee6667784e78a29c579be1de8898d97ed44", checked := Try.checked }
namespace Rows
def none {H : Type} : Left H := { results := [], args := [] }

/-- 'spillwaylaw16.SealEncodes': WHATEVER THE INPUT: true; the input reads as it did. -/
def sealEncodesSpec : ChangeSpec := { name := "sealEncodes", fn := fun _ => fun
  | [d] => { results := [.lit (.bool true)], args := [d] }
  | _ => none }
def sealEncodesRow : OpenClaim := { program := "ytfekobhcekcniaa", sum := "d62fb512f28c948ca0ee1babdfe25ee6667784e78a29c579be1de8898d97ed44", func := "spillway/spillwaylaw16.SealEncodes", spec := "sealEncodes", unfollowed := true, recurses := true, apart := false }
def SealEncodesSaid : Prop := sealEncodesRow.holds Try.pinned (OpenSpec.ofChange sealEncodesSpec)

/-- ITS FALSE NEIGHBOUR: 'it returns false'. Refute it at one input. -/
def sealEncodesWrong : ChangeSpec := { name := "sealEncodes", fn := fun _ => fun
  | [d] => { results := [.lit (.bool false)], args := [d] }
  | _ => none }
def SealEncodesWrongFalsely : Prop := sealEncodesRow.holds Try.pinned (OpenSpec.ofChange sealEncodesWrong)

/-- 'spillwaylaw16.SealDecodes': WHATEVER THE INPUT: true; the input reads as it did. -/
def sealDecodesSpec : ChangeSpec := { name := "sealDecodes", fn := fun _ => fun
  | [d] => { results := [.lit (.bool true)], args := [d] }
  | _ => none }
def sealDecodesRow : OpenClaim := { program := "ytfekobhcekcniaa", sum := "d62fb512f28c948ca0ee1babdfe25ee6667784e78a29c579be1de8898d97ed44", func := "spillway/spillwaylaw16.SealDecodes", spec := "sealDecodes", unfollowed := true, recurses := true, apart := false }
def SealDecodesSaid : Prop := sealDecodesRow.holds Try.pinned (OpenSpec.ofChange sealDecodesSpec)

/-- ITS FALSE NEIGHBOUR: 'it returns false'. Refute it at one input. -/
def sealDecodesWrong : ChangeSpec := { name := "sealDecodes", fn := fun _ => fun
  | [d] => { results := [.lit (.bool false)], args := [d] }
  | _ => none }
def SealDecodesWrongFalsely : Prop := sealDecodesRow.holds Try.pinned (OpenSpec.ofChange sealDecodesWrong)

/-- 'spillwaylaw16.SealCuts': WHATEVER THE INPUT: true; the input reads as it did. -/
def sealCutsSpec : ChangeSpec := { name := "sealCuts", fn := fun _ => fun
  | [d1, d2, d3] => { results := [.lit (.bool true)], args := [d1, d2, d3] }
  | _ => none }
def sealCutsRow : OpenClaim := { program := "ytfekobhcekcniaa", sum := "d62fb512f28c948ca0ee1babdfe25ee6667784e78a29c579be1de8898d97ed44", func := "spillway/spillwaylaw16.SealCuts", spec := "sealCuts", unfollowed := true, recurses := true, apart := false }
def SealCutsSaid : Prop := sealCutsRow.holds Try.pinned (OpenSpec.ofChange sealCutsSpec)

/-- ITS FALSE NEIGHBOUR: 'it returns false'. Refute it at one input. -/
def sealCutsWrong : ChangeSpec := { name := "sealCuts", fn := fun _ => fun
  | [d1, d2, d3] => { results := [.lit (.bool false)], args := [d1, d2, d3] }
  | _ => none }
def SealCutsWrongFalsely : Prop := sealCutsRow.holds Try.pinned (OpenSpec.ofChange sealCutsWrong)

/-- 'spillwaylaw16.SealMemory': WHATEVER THE INPUT: true; the input reads as it did. -/
def sealMemorySpec : ChangeSpec := { name := "sealMemory", fn := fun _ => fun
  | [d] => { results := [.lit (.bool true)], args := [d] }
  | _ => none }
def sealMemoryRow : OpenClaim := { program := "ytfekobhcekcniaa", sum := "d62fb512f28c948ca0ee1babdfe25ee6667784e78a29c579be1de8898d97ed44", func := "spillway/spillwaylaw16.SealMemory", spec := "sealMemory", unfollowed := true, recurses := true, apart := false }
def SealMemorySaid : Prop := sealMemoryRow.holds Try.pinned (OpenSpec.ofChange sealMemorySpec)

/-- ITS FALSE NEIGHBOUR: 'it returns false'. Refute it at one input. -/
def sealMemoryWrong : ChangeSpec := { name := "sealMemory", fn := fun _ => fun
  | [d] => { results := [.lit (.bool false)], args := [d] }
  | _ => none }
def SealMemoryWrongFalsely : Prop := sealMemoryRow.holds Try.pinned (OpenSpec.ofChange sealMemoryWrong)

/-- 'spillwaylaw16.SealBack': WHATEVER THE INPUT: true; the input reads as it did. -/
def sealBackSpec : ChangeSpec := { name := "sealBack", fn := fun _ => fun
  | [d1, d2] => { results := [.lit (.bool true)], args := [d1, d2] }
  | _ => none }
def sealBackRow : OpenClaim := { program := "ytfekobhcekcniaa", sum := "d62fb512f28c948ca0ee1babdfe25ee6667784e78a29c579be1de8898d97ed44", func := "spillway/spillwaylaw16.SealBack", spec := "sealBack", unfollowed := true, recurses := true, apart := false }
def SealBackSaid : Prop := sealBackRow.holds Try.pinned (OpenSpec.ofChange sealBackSpec)

/-- ITS FALSE NEIGHBOUR: 'it returns false'. Refute it at one input. -/
def sealBackWrong : ChangeSpec := { name := "sealBack", fn := fun _ => fun
  | [d1, d2] => { results := [.lit (.bool false)], args := [d1, d2] }
  | _ => none }
def SealBackWrongFalsely : Prop := sealBackRow.holds Try.pinned (OpenSpec.ofChange sealBackWrong)

/- THE SECOND FORM. 'bulk': how many values and letters a reading holds, each counted each time it is reached (what is shared counts as often as it is met; a slice's spare places count too). A statement '..UptoSaid' is the law's where the arguments, and the package variables that the reading takes, are together of bulk at most 1048576: NARROWER than '..Said'. Prove '..Said' where nothing that the law and all that it calls make is longer than what came in: it says more and counts as full. Else prove '..UptoSaid'. A law counts once. -/
mutual
def uptoBulk {H : Type} : DataW H → Nat
  | .lit (.string bytes) => bytes.length + 1
  | .lit _ => 1
  | .nil => 1
  | .ptr d => uptoBulk d + 1
  | .slice elems spare => uptoBulkAll elems + uptoBulkAll spare + 1
  | .agg parts => uptoBulkAll parts + 1
  | .iface _ d => uptoBulk d + 1
  | .map entries => uptoBulkEntries entries + 1
  | .held _ => 1
def uptoBulkAll {H : Type} : List (DataW H) → Nat
  | [] => 0
  | d :: r => uptoBulk d + uptoBulkAll r
def uptoBulkEntries {H : Type} : List (Lit × DataW H) → Nat
  | [] => 0
  | x :: r => uptoBulkEntry x + uptoBulkEntries r
def uptoBulkEntry {H : Type} : Lit × DataW H → Nat
  | (.string bytes, d) => bytes.length + uptoBulk d + 1
  | (_, d) => uptoBulk d + 1
 end
def uptoSmall : (H : Type) → List (DataW H) → Bool := fun _ ds => decide (uptoBulkAll ds ≤ 1048576)
def OpenSpec.upto (s : _root_.Go.ChangeSpec) : _root_.Go.OpenSpec := { _root_.Go.OpenSpec.ofChange s with cond := some uptoSmall }

/-- 'spillwaylaw16.SealEncodes', WHERE WHAT IT READS IS OF BULK AT MOST 1048576: true; the input reads as it did. -/
def sealEncodesUptoRow : OpenClaim := { program := "ytfekobhcekcniaa", sum := "d62fb512f28c948ca0ee1babdfe25ee6667784e78a29c579be1de8898d97ed44", func := "spillway/spillwaylaw16.SealEncodes", spec := "sealEncodes", unfollowed := true, recurses := true, apart := false, narrowed := true }
def SealEncodesUptoSaid : Prop := sealEncodesUptoRow.holds Try.pinned (OpenSpec.upto sealEncodesSpec)

/-- 'spillwaylaw16.SealDecodes', WHERE WHAT IT READS IS OF BULK AT MOST 1048576: true; the input reads as it did. -/
def sealDecodesUptoRow : OpenClaim := { program := "ytfekobhcekcniaa", sum := "d62fb512f28c948ca0ee1babdfe25ee6667784e78a29c579be1de8898d97ed44", func := "spillway/spillwaylaw16.SealDecodes", spec := "sealDecodes", unfollowed := true, recurses := true, apart := false, narrowed := true }
def SealDecodesUptoSaid : Prop := sealDecodesUptoRow.holds Try.pinned (OpenSpec.upto sealDecodesSpec)

/-- 'spillwaylaw16.SealCuts', WHERE WHAT IT READS IS OF BULK AT MOST 1048576: true; the input reads as it did. -/
def sealCutsUptoRow : OpenClaim := { program := "ytfekobhcekcniaa", sum := "d62fb512f28c948ca0ee1babdfe25ee6667784e78a29c579be1de8898d97ed44", func := "spillway/spillwaylaw16.SealCuts", spec := "sealCuts", unfollowed := true, recurses := true, apart := false, narrowed := true }
def SealCutsUptoSaid : Prop := sealCutsUptoRow.holds Try.pinned (OpenSpec.upto sealCutsSpec)

/-- 'spillwaylaw16.SealMemory', WHERE WHAT IT READS IS OF BULK AT MOST 1048576: true; the input reads as it did. -/
def sealMemoryUptoRow : OpenClaim := { program := "ytfekobhcekcniaa", sum := "d62fb512f28c948ca0ee1babdfe25ee6667784e78a29c579be1de8898d97ed44", func := "spillway/spillwaylaw16.SealMemory", spec := "sealMemory", unfollowed := true, recurses := true, apart := false, narrowed := true }
def SealMemoryUptoSaid : Prop := sealMemoryUptoRow.holds Try.pinned (OpenSpec.upto sealMemorySpec)

/-- 'spillwaylaw16.SealBack', WHERE WHAT IT READS IS OF BULK AT MOST 1048576: true; the input reads as it did. -/
def sealBackUptoRow : OpenClaim := { program := "ytfekobhcekcniaa", sum := "d62fb512f28c948ca0ee1babdfe25ee6667784e78a29c579be1de8898d97ed44", func := "spillway/spillwaylaw16.SealBack", spec := "sealBack", unfollowed := true, recurses := true, apart := false, narrowed := true }
def SealBackUptoSaid : Prop := sealBackUptoRow.holds Try.pinned (OpenSpec.upto sealBackSpec)

end Rows
end Go.Proofs.Ytfekobhcekcniaa
