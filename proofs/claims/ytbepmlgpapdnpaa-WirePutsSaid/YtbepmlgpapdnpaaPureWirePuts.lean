/- The law WirePuts answers true for every byte list of fewer than 2^47 - 20 bytes and every two 64-bit numbers: the plain statement, from the walk's own function. -/
import Derived.Test.YtbepmlgpapdnpaaPXFspillwaylaw04WirePuts
import Derived.OpenShut
namespace Go.Proofs.Ytbepmlgpapdnpaa.Pure
open Go.RowKit Go.Proofs.Ytbepmlgpapdnpaa.PX Go.Proofs.YtbepmlgpapdnpaaW.PrintWords Go.Proofs.YtbepmlgpapdnpaaW.PrintLast

theorem WirePuts : spillwaylaw04_WirePuts.Pure := by
  intro l0 a1 a2 h1 h2 h3 h4 h5
  have hb := bounds_u64 h4
  have hc := bounds_i64 h5
  unfold spillwaylaw04_WirePuts.f
  rw [if_pos ⟨by omega, hb.1, by omega, by omega, by omega⟩]

end Go.Proofs.Ytbepmlgpapdnpaa.Pure
