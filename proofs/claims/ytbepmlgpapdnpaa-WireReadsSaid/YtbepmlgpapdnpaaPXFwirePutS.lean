-- by this session's xprint.py over the kit's print
import Derived.Test.YtbepmlgpapdnpaaPX0
import Derived.Test.YtbepmlgpapdnpaaPXFwirePutU
namespace Go.Proofs.Ytbepmlgpapdnpaa.PX
open Go.RowKit Go.Proofs.YtbepmlgpapdnpaaW.PrintWords Go.Proofs.YtbepmlgpapdnpaaW.PrintLast Go.Proofs.YtbepmlgpapdnpaaW.PrintMore
attribute [local go_sem] max2_int min2_int max_two min_two max_three min_three max_four min_four   -- for this text's walks alone
set_option linter.unusedVariables false
set_option linter.unusedSimpArgs false

/-! ### wire_PutS: function 10 -/
def sfold (x : Int) : Int := if 0 ≤ x then 2 * x else -2 * x - 1
def wire_PutS.f (l0 : List Int) (a1 : Int) : Option (List Int) := if -9223372036854775808 ≤ a1 ∧ a1 ≤ 9223372036854775807 ∧ l0.length + 20 < 140737488355328 then some (l0 ++ uform (sfold a1).toNat) else none
theorem xor64_ones {x : Int} (h0 : 0 ≤ x) (h1 : x < 18446744073709551616) : Go.bits .xor .u64 x 18446744073709551615 = 18446744073709551615 - x := by
  obtain ⟨a, rfl⟩ := Int.eq_ofNat_of_zero_le h0
  have ha : a < 2 ^ 64 := by omega
  simp only [Go.bits]
  rw [show BitVec.ofInt IntKind.u64.bits 18446744073709551615 = BitVec.allOnes IntKind.u64.bits from by decide, BitVec.xor_allOnes, BitVec.toNat_not, BitVec.ofInt_natCast, BitVec.toNat_ofNat]
  rw [show a % 2 ^ IntKind.u64.bits = a from Nat.mod_eq_of_lt ha, show (2 ^ IntKind.u64.bits - 1 - a : Nat) = 18446744073709551615 - a from rfl]
  rw [IntWalk.u64_in _ (by omega)]
  omega
theorem xor64u_zero {x : Int} (h0 : 0 ≤ x) (h1 : x < 18446744073709551616) : Go.bits .xor .u64 x 0 = x := by
  obtain ⟨a, rfl⟩ := Int.eq_ofNat_of_zero_le h0
  have ha : a < 2 ^ 64 := by omega
  simp only [Go.bits]
  rw [show BitVec.ofInt IntKind.u64.bits 0 = 0#IntKind.u64.bits from rfl, BitVec.xor_zero, BitVec.ofInt_natCast, BitVec.toNat_ofNat]
  rw [show a % 2 ^ IntKind.u64.bits = a from Nat.mod_eq_of_lt ha, IntWalk.u64_in _ (by omega)]
set_option maxHeartbeats 8000000 in
set_option maxRecDepth 100000 in
theorem wire_PutS.calls (A0 : Option Addr) (c0 : Nat) (l0 : List Int) (a1 : Int) (r : List Int) (w : World) (hr0 : Kd.C (Kd.int .u8) w A0 l0.length l0) (hc0 : l0.length ≤ c0) (h : wire_PutS.f l0 a1 = some r) :
    Calls Try.prog 10 #[.slice A0 l0.length c0, .int .i64 a1] w fun e w' => ∃ v0_ : Value, e = .returned (v0_) ∧ Kd.R (Kd.int .u8) 5 w' w.heap.size (fun _ => True) v0_ r ∧ Below w.heap.size w w' := by
  unfold wire_PutS.f at h
  split at h
  case isFalse => cases h
  rename_i hh
  obtain ⟨h0, h1, hL⟩ := hh
  obtain rfl := Option.some.inj h
  clear h
  by_cases hx : 0 ≤ a1
  · have hs : sfold a1 = 2 * a1 := if_pos hx
    rw [hs]
    have PU := Aside0.mk (fun v (hv : v = 2 * a1) => wire_PutU.calls A0 c0 l0 v (l0 ++ uform (2 * a1).toNat) w hr0 hc0 (by rw [wire_PutU.f, if_pos ⟨by omega, by omega, hL⟩, hv]))
    clear hr0 hc0 hL hs
    go_enter Try.func10, Try.ntmps10
    go_wp2_with (go_at_call 9; (with_reducible refine (PU.out _ ?hv).mono ?_); (case hv => rw [show a1 / 9223372036854775808 = 0 by omega, xor64u_zero (by omega) (by omega)]; omega); rintro e w1 ⟨v, rfl, hR, hB⟩; replace hR := Aside0.mk hR; replace hB := Aside0.mk hB)
    go_ret
    exact ⟨_, rfl, hR.out, hB.out⟩
  · have hs : sfold a1 = -2 * a1 - 1 := if_neg hx
    rw [hs]
    have PU := Aside0.mk (fun v (hv : v = -2 * a1 - 1) => wire_PutU.calls A0 c0 l0 v (l0 ++ uform (-2 * a1 - 1).toNat) w hr0 hc0 (by rw [wire_PutU.f, if_pos ⟨by omega, by omega, hL⟩, hv]))
    clear hr0 hc0 hL hs
    go_enter Try.func10, Try.ntmps10
    go_wp2_with (go_at_call 9; (with_reducible refine (PU.out _ ?hv2).mono ?_); (case hv2 => rw [show a1 / 9223372036854775808 = -1 by omega]; simp only [IntKind.wrap_u64]; rw [show (-1 : Int) % 18446744073709551616 = 18446744073709551615 by decide, xor64_ones (by omega) (by omega)]; omega); rintro e w1 ⟨v, rfl, hR, hB⟩; replace hR := Aside0.mk hR; replace hB := Aside0.mk hB)
    go_ret
    exact ⟨_, rfl, hR.out, hB.out⟩

end Go.Proofs.Ytbepmlgpapdnpaa.PX
