/- The law WireForms answers true for every byte list of fewer than 2^47 bytes and every 64-bit number: the plain statement, from the walk's own function. -/
import Derived.Test.YtbepmlgpapdnpaaPXFspillwaylaw04WireForms
import Derived.OpenShut
namespace Go.Proofs.Ytbepmlgpapdnpaa.Pure
open Go.RowKit Go.Proofs.Ytbepmlgpapdnpaa.PX Go.Proofs.YtbepmlgpapdnpaaW.PrintWords Go.Proofs.YtbepmlgpapdnpaaW.PrintLast

theorem WireForms : spillwaylaw04_WireForms.Pure := by
  intro l0 a1 h1 h2 h3 h4
  have hb := bounds_u64 h4
  have h5 : ∀ x ∈ l0, 0 ≤ x ∧ x < 256 := fun x hx => by
    have := bounds_u8 (h3 x hx)
    omega
  unfold spillwaylaw04_WireForms.f
  rw [if_pos ⟨by omega, h5, hb.1, by omega⟩]

end Go.Proofs.Ytbepmlgpapdnpaa.Pure
