/- The law WireBack answers true for every two lists of at most 2^20 numbers: the plain statement, from the walk's own function. -/
import Derived.Test.YtbepmlgpapdnpaaUptWireBack
import Derived.OpenShut
namespace Go.Proofs.Ytbepmlgpapdnpaa.Pure
open Go.RowKit Go.Proofs.Ytbepmlgpapdnpaa.PX Go.Proofs.YtbepmlgpapdnpaaW.PrintWords Go.Proofs.YtbepmlgpapdnpaaW.PrintLast

theorem WireBackU : spillwaylaw04_WireBack.PureU := by
  intro l0 l1 _ h0 hw0 _ h1 hw1
  have hA : ∀ x ∈ l0, 0 ≤ x ∧ x < 18446744073709551616 := fun x hx => by have := bounds_u64 (hw0 x hx); omega
  have hB : ∀ x ∈ l1, -9223372036854775808 ≤ x ∧ x ≤ 9223372036854775807 := fun x hx => by have := bounds_i64 (hw1 x hx); omega
  unfold spillwaylaw04_WireBack.f
  rw [if_pos ⟨h0, h1, hA, hB⟩]

end Go.Proofs.Ytbepmlgpapdnpaa.Pure
