/-
  No cell of these rows narrows 'for every input' (looked for: loops, veiled, ifaces, maps, wideKeys, modest, calm, conditions, laid).
  DERIVED. THE GIVEN ROWS OF THIS SEAT. 5 by the template 'for every input the law returns true; each argument reads behind the call as it read before'; 0 by the template 'total and deterministic' (their statements: YtalchibbmkhkpaaTotals.lean).
  GIVEN WITH THE SEED: the statements are not yours to turn. If you find one false, say at which input.
  Laid BY PROGRAM, IN A SANDBOX (cutbox-rows.mjs): the forced cells as the released guide's own fill.sh prints them over the translation cffe599615177b86… (all of the seat's roots in one cut). By AI agents, Wed Nov 11 2026. No macro, syntax, notation, axiom, sorry.
-/
import Derived.Test.YtalchibbmkhkpaaChecked
import GoSem.Claim
import GoSem.ClaimJoined
import GoSem.ClaimMapViews
import Derived.JoinedTies
import Derived.KernelRfl
namespace Go.Proofs.Ytalchibbmkhkpaa
/- THE CELL 'sum', in the pinned program and in every row, IS THE sha256 OF THE DUMP (.gsa) THAT YtalchibbmkhkpaaProg.lean LOADS. Nothing in Lean hashes anything: it is a label: what it is worth is what the hold of that sum in a sandbox is worth. -/
noncomputable def Try.pinned : Pinned := { name := "ytalchibbmkhkpaa", sum := "cffe599615177b86bbd51394809a55655654586e9d29e92c4c6fae49fe70540b", checked := Try.checked }
namespace Rows
def none {H : Type} : Left H := { results := [], args := [] }

/-- 'spillwaylaw24.TrimTrims': WHATEVER THE INPUT: true; the input reads as it did. -/
def trimTrimsSpec : ChangeSpec := { name := "trimTrims", fn := fun _ => fun
  | [d] => { results := [.lit (.bool true)], args := [d] }
  | _ => none }
def trimTrimsRow : OpenClaim := { program := "ytalchibbmkhkpaa", sum := "cffe599615177b86bbd51394809a55655654586e9d29e92c4c6fae49fe70540b", func := "spillway/spillwaylaw24.TrimTrims", spec := "trimTrims", apart := false }
def TrimTrimsSaid : Prop := trimTrimsRow.holds Try.pinned (OpenSpec.ofChange trimTrimsSpec)

/-- ITS FALSE NEIGHBOUR: 'it returns false'. Refute it at one input. -/
def trimTrimsWrong : ChangeSpec := { name := "trimTrims", fn := fun _ => fun
  | [d] => { results := [.lit (.bool false)], args := [d] }
  | _ => none }
def TrimTrimsWrongFalsely : Prop := trimTrimsRow.holds Try.pinned (OpenSpec.ofChange trimTrimsWrong)

/-- 'spillwaylaw24.TrimMemory': WHATEVER THE INPUT: true; the input reads as it did. -/
def trimMemorySpec : ChangeSpec := { name := "trimMemory", fn := fun _ => fun
  | [d] => { results := [.lit (.bool true)], args := [d] }
  | _ => none }
def trimMemoryRow : OpenClaim := { program := "ytalchibbmkhkpaa", sum := "cffe599615177b86bbd51394809a55655654586e9d29e92c4c6fae49fe70540b", func := "spillway/spillwaylaw24.TrimMemory", spec := "trimMemory", apart := false }
def TrimMemorySaid : Prop := trimMemoryRow.holds Try.pinned (OpenSpec.ofChange trimMemorySpec)

/-- ITS FALSE NEIGHBOUR: 'it returns false'. Refute it at one input. -/
def trimMemoryWrong : ChangeSpec := { name := "trimMemory", fn := fun _ => fun
  | [d] => { results := [.lit (.bool false)], args := [d] }
  | _ => none }
def TrimMemoryWrongFalsely : Prop := trimMemoryRow.holds Try.pinned (OpenSpec.ofChange trimMemoryWrong)

/-- 'spillwaylaw24.TrimTwice': WHATEVER THE INPUT: true; the input reads as it did. -/
def trimTwiceSpec : ChangeSpec := { name := "trimTwice", fn := fun _ => fun
  | [d] => { results := [.lit (.bool true)], args := [d] }
  | _ => none }
def trimTwiceRow : OpenClaim := { program := "ytalchibbmkhkpaa", sum := "cffe599615177b86bbd51394809a55655654586e9d29e92c4c6fae49fe70540b", func := "spillway/spillwaylaw24.TrimTwice", spec := "trimTwice", apart := false }
def TrimTwiceSaid : Prop := trimTwiceRow.holds Try.pinned (OpenSpec.ofChange trimTwiceSpec)

/-- ITS FALSE NEIGHBOUR: 'it returns false'. Refute it at one input. -/
def trimTwiceWrong : ChangeSpec := { name := "trimTwice", fn := fun _ => fun
  | [d] => { results := [.lit (.bool false)], args := [d] }
  | _ => none }
def TrimTwiceWrongFalsely : Prop := trimTwiceRow.holds Try.pinned (OpenSpec.ofChange trimTwiceWrong)

/-- 'spillwaylaw24.TrimSame': WHATEVER THE INPUT: true; the input reads as it did. -/
def trimSameSpec : ChangeSpec := { name := "trimSame", fn := fun _ => fun
  | [d1, d2] => { results := [.lit (.bool true)], args := [d1, d2] }
  | _ => none }
def trimSameRow : OpenClaim := { program := "ytalchibbmkhkpaa", sum := "cffe599615177b86bbd51394809a55655654586e9d29e92c4c6fae49fe70540b", func := "spillway/spillwaylaw24.TrimSame", spec := "trimSame", inPlace := ["math/bits.Add64"], unfollowed := true, recurses := true, named := ["math/bits.divideError", "math/bits.overflowError"], apart := false }
def TrimSameSaid : Prop := trimSameRow.holds Try.pinned (OpenSpec.ofChange trimSameSpec)

/-- ITS FALSE NEIGHBOUR: 'it returns false'. Refute it at one input. -/
def trimSameWrong : ChangeSpec := { name := "trimSame", fn := fun _ => fun
  | [d1, d2] => { results := [.lit (.bool false)], args := [d1, d2] }
  | _ => none }
def TrimSameWrongFalsely : Prop := trimSameRow.holds Try.pinned (OpenSpec.ofChange trimSameWrong)

/-- 'spillwaylaw24.TrimFits': WHATEVER THE INPUT: true; the input reads as it did. -/
def trimFitsSpec : ChangeSpec := { name := "trimFits", fn := fun _ => fun
  | [d] => { results := [.lit (.bool true)], args := [d] }
  | _ => none }
def trimFitsRow : OpenClaim := { program := "ytalchibbmkhkpaa", sum := "cffe599615177b86bbd51394809a55655654586e9d29e92c4c6fae49fe70540b", func := "spillway/spillwaylaw24.TrimFits", spec := "trimFits", inPlace := ["math/bits.Add64"], unfollowed := true, recurses := true, named := ["math/bits.divideError", "math/bits.overflowError"], apart := false }
def TrimFitsSaid : Prop := trimFitsRow.holds Try.pinned (OpenSpec.ofChange trimFitsSpec)

/-- ITS FALSE NEIGHBOUR: 'it returns false'. Refute it at one input. -/
def trimFitsWrong : ChangeSpec := { name := "trimFits", fn := fun _ => fun
  | [d] => { results := [.lit (.bool false)], args := [d] }
  | _ => none }
def TrimFitsWrongFalsely : Prop := trimFitsRow.holds Try.pinned (OpenSpec.ofChange trimFitsWrong)

/- THE SECOND FORM. 'bulk': how many values and letters a reading holds, each counted each time it is reached (what is shared counts as often as it is met; a slice's spare places count too). A statement '..UptoSaid' is the law's where the arguments, and the package variables that the reading takes, are together of bulk at most 1048576: NARROWER than '..Said'. Prove '..Said' where nothing that the law and all that it calls make is longer than what came in: it says more and counts as full. Else prove '..UptoSaid'. A law counts once. -/
mutual
def uptoBulk {H : Type} : DataW H → Nat
  | .lit (.string bytes) => bytes.length + 1
  | .lit _ => 1
  | .nil => 1
  | .ptr d => uptoBulk d + 1
  | .slice elems spare => uptoBulkAll elems + uptoBulkAll spare + 1
  | .agg parts => uptoBulkAll parts + 1
  | .iface _ d => uptoBulk d + 1
  | .map entries => uptoBulkEntries entries + 1
  | .held _ => 1
def uptoBulkAll {H : Type} : List (DataW H) → Nat
  | [] => 0
  | d :: r => uptoBulk d + uptoBulkAll r
def uptoBulkEntries {H : Type} : List (Lit × DataW H) → Nat
  | [] => 0
  | x :: r => uptoBulkEntry x + uptoBulkEntries r
def uptoBulkEntry {H : Type} : Lit × DataW H → Nat
  | (.string bytes, d) => bytes.length + uptoBulk d + 1
  | (_, d) => uptoBulk d + 1
 end
def uptoSmall : (H : Type) → List (DataW H) → Bool := fun _ ds => decide (uptoBulkAll ds ≤ 1048576)
def OpenSpec.upto (s : _root_.Go.ChangeSpec) : _root_.Go.OpenSpec := { _root_.Go.OpenSpec.ofChange s with cond := some uptoSmall }

/-- 'spillwaylaw24.TrimTrims', WHERE WHAT IT READS IS OF BULK AT MOST 1048576: true; the input reads as it did. -/
def trimTrimsUptoRow : OpenClaim := { program := "ytalchibbmkhkpaa", sum := "cffe599615177b86bbd51394809a55655654586e9d29e92c4c6fae49fe70540b", func := "spillway/spillwaylaw24.TrimTrims", spec := "trimTrims", apart := false, narrowed := true }
def TrimTrimsUptoSaid : Prop := trimTrimsUptoRow.holds Try.pinned (OpenSpec.upto trimTrimsSpec)

/-- 'spillwaylaw24.TrimMemory', WHERE WHAT IT READS IS OF BULK AT MOST 1048576: true; the input reads as it did. -/
def trimMemoryUptoRow : OpenClaim := { program := "ytalchibbmkhkpaa", sum := "cffe599615177b86bbd51394809a55655654586e9d29e92c4c6fae49fe70540b", func := "spillway/spillwaylaw24.TrimMemory", spec := "trimMemory", apart := false, narrowed := true }
def TrimMemoryUptoSaid : Prop := trimMemoryUptoRow.holds Try.pinned (OpenSpec.upto trimMemorySpec)

/-- 'spillwaylaw24.TrimTwice', WHERE WHAT IT READS IS OF BULK AT MOST 1048576: true; the input reads as it did. -/
def trimTwiceUptoRow : OpenClaim := { program := "ytalchibbmkhkpaa", sum := "cffe599615177b86bbd51394809a55655654586e9d29e92c4c6fae49fe70540b", func := "spillway/spillwaylaw24.TrimTwice", spec := "trimTwice", apart := false, narrowed := true }
def TrimTwiceUptoSaid : Prop := trimTwiceUptoRow.holds Try.pinned (OpenSpec.upto trimTwiceSpec)

/-- 'spillwaylaw24.TrimSame', WHERE WHAT IT READS IS OF BULK AT MOST 1048576: true; the input reads as it did. -/
def trimSameUptoRow : OpenClaim := { program := "ytalchibbmkhkpaa", sum := "cffe599615177b86bbd51394809a55655654586e9d29e92c4c6fae49fe70540b", func := "spillway/spillwaylaw24.TrimSame", spec := "trimSame", inPlace := ["math/bits.Add64"], unfollowed := true, recurses := true, named := ["math/bits.divideError", "math/bits.overflowError"], apart := false, narrowed := true }
def TrimSameUptoSaid : Prop := trimSameUptoRow.holds Try.pinned (OpenSpec.upto trimSameSpec)

/-- 'spillwaylaw24.TrimFits', WHERE WHAT IT READS IS OF BULK AT MOST 1048576: true; the input reads as it did. -/
def trimFitsUptoRow : OpenClaim := { program := "ytalchibbmkhkpaa", sum := "cffe599615177b86bbd51394809a55655654586e9d29e92c4c6fae49fe70540b", func := "spillway/spillwaylaw24.TrimFits", spec := "trimFits", inPlace := ["math/bits.Add64"], unfollowed := true, recurses := true, named := ["math/bits.divideError", "math/bits.overflowError"], apart := false, narrowed := true }
def TrimFitsUptoSaid : Prop := trimFitsUptoRow.holds Try.pinned (OpenSpec.upto trimFitsSpec)

end Rows
end Go.Proofs.Ytalchibbmkhkpaa
