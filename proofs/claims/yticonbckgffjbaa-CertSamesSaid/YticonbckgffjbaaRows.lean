/-
  No cell of these rows narrows 'for every input' (looked for: loops, veiled, ifaces, maps, wideKeys, modest, calm, conditions, laid).
  DERIVED. THE GIVEN ROWS OF THIS SEAT. 4 by the template 'for every input the law returns true; each argument reads behind the call as it read before'; 0 by the template 'total and deterministic' (their statements: YticonbckgffjbaaTotals.lean).
  GIVEN WITH THE SEED: the statements are not yours to turn. If you find one false, say at which input.
  Laid BY PROGRAM, IN A SANDBOX (cutbox-rows.mjs): the forced cells as the released guide's own fill.sh prints them over the translation e007b83c2f1fc839… (all of the seat's roots in one cut). By AI agents, Wed Nov 11 2026. No macro, syntax, notation, axiom, sorry.
-/
import Derived.Test.YticonbckgffjbaaChecked
import GoSem.Claim
import GoSem.ClaimJoined
import GoSem.ClaimMapViews
import Derived.JoinedTies
import Derived.KernelRfl
namespace Go.Proofs.Yticonbckgffjbaa
/- THE CELL 'sum', in the pinned program and in every row, IS THE sha256 OF THE DUMP (.gsa) THAT YticonbckgffjbaaProg.lean LOADS. Nothing in Lean hashes anything: it is a label: what it is worth is what the hold of that sum in a sandbox is worth. -/
noncomputable def Try.pinned : Pinned := { name := "yticonbckgffjbaa", sum := "e007b83c2f1fc83986c9f8d47ddf68330c6f2f737a7edb223cf24fb8d33a12a4", checked := Try.checked }
namespace Rows
def none {H : Type} : Left H := { results := [], args := [] }

/-- 'spillwaylaw15.CertForms': WHATEVER THE INPUT: true; the input reads as it did. -/
def certFormsSpec : ChangeSpec := { name := "certForms", fn := fun _ => fun
  | [d] => { results := [.lit (.bool true)], args := [d] }
  | _ => none }
def certFormsRow : OpenClaim := { program := "yticonbckgffjbaa", sum := "e007b83c2f1fc83986c9f8d47ddf68330c6f2f737a7edb223cf24fb8d33a12a4", func := "spillway/spillwaylaw15.CertForms", spec := "certForms", unfollowed := true, recurses := true, apart := false }
def CertFormsSaid : Prop := certFormsRow.holds Try.pinned (OpenSpec.ofChange certFormsSpec)

/-- ITS FALSE NEIGHBOUR: 'it returns false'. Refute it at one input. -/
def certFormsWrong : ChangeSpec := { name := "certForms", fn := fun _ => fun
  | [d] => { results := [.lit (.bool false)], args := [d] }
  | _ => none }
def CertFormsWrongFalsely : Prop := certFormsRow.holds Try.pinned (OpenSpec.ofChange certFormsWrong)

/-- 'spillwaylaw15.CertSames': WHATEVER THE INPUT: true; the input reads as it did. -/
def certSamesSpec : ChangeSpec := { name := "certSames", fn := fun _ => fun
  | [d1, d2] => { results := [.lit (.bool true)], args := [d1, d2] }
  | _ => none }
def certSamesRow : OpenClaim := { program := "yticonbckgffjbaa", sum := "e007b83c2f1fc83986c9f8d47ddf68330c6f2f737a7edb223cf24fb8d33a12a4", func := "spillway/spillwaylaw15.CertSames", spec := "certSames", unfollowed := true, recurses := true, apart := false }
def CertSamesSaid : Prop := certSamesRow.holds Try.pinned (OpenSpec.ofChange certSamesSpec)

/-- ITS FALSE NEIGHBOUR: 'it returns false'. Refute it at one input. -/
def certSamesWrong : ChangeSpec := { name := "certSames", fn := fun _ => fun
  | [d1, d2] => { results := [.lit (.bool false)], args := [d1, d2] }
  | _ => none }
def CertSamesWrongFalsely : Prop := certSamesRow.holds Try.pinned (OpenSpec.ofChange certSamesWrong)

/-- 'spillwaylaw15.CertBlocks': WHATEVER THE INPUT: true; the input reads as it did. -/
def certBlocksSpec : ChangeSpec := { name := "certBlocks", fn := fun _ => fun
  | [d1, d2] => { results := [.lit (.bool true)], args := [d1, d2] }
  | _ => none }
def certBlocksRow : OpenClaim := { program := "yticonbckgffjbaa", sum := "e007b83c2f1fc83986c9f8d47ddf68330c6f2f737a7edb223cf24fb8d33a12a4", func := "spillway/spillwaylaw15.CertBlocks", spec := "certBlocks", unfollowed := true, recurses := true, apart := false }
def CertBlocksSaid : Prop := certBlocksRow.holds Try.pinned (OpenSpec.ofChange certBlocksSpec)

/-- ITS FALSE NEIGHBOUR: 'it returns false'. Refute it at one input. -/
def certBlocksWrong : ChangeSpec := { name := "certBlocks", fn := fun _ => fun
  | [d1, d2] => { results := [.lit (.bool false)], args := [d1, d2] }
  | _ => none }
def CertBlocksWrongFalsely : Prop := certBlocksRow.holds Try.pinned (OpenSpec.ofChange certBlocksWrong)

/-- 'spillwaylaw15.CertCheap': WHATEVER THE INPUT: true; the input reads as it did. -/
def certCheapSpec : ChangeSpec := { name := "certCheap", fn := fun _ => fun
  | [d] => { results := [.lit (.bool true)], args := [d] }
  | _ => none }
def certCheapRow : OpenClaim := { program := "yticonbckgffjbaa", sum := "e007b83c2f1fc83986c9f8d47ddf68330c6f2f737a7edb223cf24fb8d33a12a4", func := "spillway/spillwaylaw15.CertCheap", spec := "certCheap", unfollowed := true, recurses := true, apart := false }
def CertCheapSaid : Prop := certCheapRow.holds Try.pinned (OpenSpec.ofChange certCheapSpec)

/-- ITS FALSE NEIGHBOUR: 'it returns false'. Refute it at one input. -/
def certCheapWrong : ChangeSpec := { name := "certCheap", fn := fun _ => fun
  | [d] => { results := [.lit (.bool false)], args := [d] }
  | _ => none }
def CertCheapWrongFalsely : Prop := certCheapRow.holds Try.pinned (OpenSpec.ofChange certCheapWrong)

/- THE SECOND FORM. 'bulk': how many values and letters a reading holds, each counted each time it is reached (what is shared counts as often as it is met; a slice's spare places count too). A statement '..UptoSaid' is the law's where the arguments, and the package variables that the reading takes, are together of bulk at most 1048576: NARROWER than '..Said'. Prove '..Said' where nothing that the law and all that it calls make is longer than what came in: it says more and counts as full. Else prove '..UptoSaid'. A law counts once. -/
mutual
def uptoBulk {H : Type} : DataW H → Nat
  | .lit (.string bytes) => bytes.length + 1
  | .lit _ => 1
  | .nil => 1
  | .ptr d => uptoBulk d + 1
  | .slice elems spare => uptoBulkAll elems + uptoBulkAll spare + 1
  | .agg parts => uptoBulkAll parts + 1
  | .iface _ d => uptoBulk d + 1
  | .map entries => uptoBulkEntries entries + 1
  | .held _ => 1
def uptoBulkAll {H : Type} : List (DataW H) → Nat
  | [] => 0
  | d :: r => uptoBulk d + uptoBulkAll r
def uptoBulkEntries {H : Type} : List (Lit × DataW H) → Nat
  | [] => 0
  | x :: r => uptoBulkEntry x + uptoBulkEntries r
def uptoBulkEntry {H : Type} : Lit × DataW H → Nat
  | (.string bytes, d) => bytes.length + uptoBulk d + 1
  | (_, d) => uptoBulk d + 1
 end
def uptoSmall : (H : Type) → List (DataW H) → Bool := fun _ ds => decide (uptoBulkAll ds ≤ 1048576)
def OpenSpec.upto (s : _root_.Go.ChangeSpec) : _root_.Go.OpenSpec := { _root_.Go.OpenSpec.ofChange s with cond := some uptoSmall }

/-- 'spillwaylaw15.CertForms', WHERE WHAT IT READS IS OF BULK AT MOST 1048576: true; the input reads as it did. -/
def certFormsUptoRow : OpenClaim := { program := "yticonbckgffjbaa", sum := "e007b83c2f1fc83986c9f8d47ddf68330c6f2f737a7edb223cf24fb8d33a12a4", func := "spillway/spillwaylaw15.CertForms", spec := "certForms", unfollowed := true, recurses := true, apart := false, narrowed := true }
def CertFormsUptoSaid : Prop := certFormsUptoRow.holds Try.pinned (OpenSpec.upto certFormsSpec)

/-- 'spillwaylaw15.CertSames', WHERE WHAT IT READS IS OF BULK AT MOST 1048576: true; the input reads as it did. -/
def certSamesUptoRow : OpenClaim := { program := "yticonbckgffjbaa", sum := "e007b83c2f1fc83986c9f8d47ddf68330c6f2f737a7edb223cf24fb8d33a12a4", func := "spillway/spillwaylaw15.CertSames", spec := "certSames", unfollowed := true, recurses := true, apart := false, narrowed := true }
def CertSamesUptoSaid : Prop := certSamesUptoRow.holds Try.pinned (OpenSpec.upto certSamesSpec)

/-- 'spillwaylaw15.CertBlocks', WHERE WHAT IT READS IS OF BULK AT MOST 1048576: true; the input reads as it did. -/
def certBlocksUptoRow : OpenClaim := { program := "yticonbckgffjbaa", sum := "e007b83c2f1fc83986c9f8d47ddf68330c6f2f737a7edb223cf24fb8d33a12a4", func := "spillway/spillwaylaw15.CertBlocks", spec := "certBlocks", unfollowed := true, recurses := true, apart := false, narrowed := true }
def CertBlocksUptoSaid : Prop := certBlocksUptoRow.holds Try.pinned (OpenSpec.upto certBlocksSpec)

/-- 'spillwaylaw15.CertCheap', WHERE WHAT IT READS IS OF BULK AT MOST 1048576: true; the input reads as it did. -/
def certCheapUptoRow : OpenClaim := { program := "yticonbckgffjbaa", sum := "e007b83c2f1fc83986c9f8d47ddf68330c6f2f737a7edb223cf24fb8d33a12a4", func := "spillway/spillwaylaw15.CertCheap", spec := "certCheap", unfollowed := true, recurses := true, apart := false, narrowed := true }
def CertCheapUptoSaid : Prop := certCheapUptoRow.holds Try.pinned (OpenSpec.upto certCheapSpec)

end Rows
end Go.Proofs.Yticonbckgffjbaa
