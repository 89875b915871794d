-- by this session's xprint.py over the kit's print
import Derived.Test.YtbepmlgpapdnpaaPX0
import Derived.Test.YtbepmlgpapdnpaaPXFvplain
namespace Go.Proofs.Ytbepmlgpapdnpaa.PX
open Go.RowKit Go.Proofs.YtbepmlgpapdnpaaW.PrintWords Go.Proofs.YtbepmlgpapdnpaaW.PrintLast Go.Proofs.YtbepmlgpapdnpaaW.PrintMore
attribute [local go_sem] max2_int min2_int max_two min_two max_three min_three max_four min_four   -- for this text's walks alone
set_option linter.unusedVariables false
set_option linter.unusedSimpArgs false

/-! ### vgetzero: function 28 -/
theorem vgo_zero : ∀ (l : List Int) (n : Nat) (x : Int), (∀ v ∈ l, 0 ≤ v ∧ v < 256) → 0 ≤ x → (vgo l n x).2.2 = 0 → x ≤ (vgo l n x).1 ∧ (1 ≤ n → x < (vgo l n x).1) ∧ ((vgo l n x).1 ≤ 0 → (vgo l n x).2.1 = (n : Int) + 1)
  | [], n, x, _, _, h => by simp [vgo] at h
  | v :: r, n, x, hv, h0, h => by
    obtain ⟨v0, v1⟩ := hv v List.mem_cons_self
    have hp : (0 : Int) < 128 ^ n := Int.pow_pos (by decide)
    rw [vgo] at h ⊢
    by_cases a : n = 9 ∧ 1 < v
    · rw [if_pos a] at h; exact absurd h (by decide)
    · rw [if_neg a] at h ⊢
      by_cases b : v < 128
      · rw [if_pos b] at h ⊢
        by_cases c : 0 < n ∧ v = 0
        · rw [if_pos c] at h; exact absurd h (by decide)
        · rw [if_neg c] at h ⊢
          have : 0 ≤ v * 128 ^ n := Int.mul_nonneg v0 (Int.le_of_lt hp)
          refine ⟨?_, fun hn => ?_, fun _ => rfl⟩
          · show x ≤ x + v * 128 ^ n
            omega
          · show x < x + v * 128 ^ n
            have : 0 < v * 128 ^ n := Int.mul_pos (by omega) hp
            omega
      · rw [if_neg b] at h ⊢
        have hq : 0 ≤ (v - 128) * 128 ^ n := Int.mul_nonneg (by omega) (Int.le_of_lt hp)
        obtain ⟨i1, i2, i3⟩ := vgo_zero r (n + 1) (x + (v - 128) * 128 ^ n) (fun u hu => hv u (List.mem_cons_of_mem _ hu)) (by omega) h
        have i4 := i2 (by omega)
        exact ⟨by omega, fun _ => by omega, fun h5 => by omega⟩
theorem vget_zero (l : List Int) (hv : ∀ v ∈ l, 0 ≤ v ∧ v < 256) (he : (vget l).2.2 = 0) (hx : (vget l).1 ≤ 0) : (vget l).2.1 = 1 := by
  obtain ⟨_, _, h3⟩ := vgo_zero l 0 0 hv (Int.le_refl _) he
  exact h3 hx

end Go.Proofs.Ytbepmlgpapdnpaa.PX
