-- by this session's xprint.py over the kit's print
import Derived.Test.YtbepmlgpapdnpaaPX0
namespace Go.Proofs.Ytbepmlgpapdnpaa.PX
open Go.RowKit Go.Proofs.YtbepmlgpapdnpaaW.PrintWords Go.Proofs.YtbepmlgpapdnpaaW.PrintLast Go.Proofs.YtbepmlgpapdnpaaW.PrintMore
attribute [local go_sem] max2_int min2_int max_two min_two max_three min_three max_four min_four   -- for this text's walks alone
set_option linter.unusedVariables false
set_option linter.unusedSimpArgs false

/-! ### vplain: function 28 -/
def vgo : List Int → Nat → Int → Int × Int × Int
  | [], _, _ => (0, 0, 40)
  | v :: rest, n, x => if n = 9 ∧ 1 < v then (0, 0, 41) else if v < 128 then (if 0 < n ∧ v = 0 then (0, 0, 41) else (x + v * 128 ^ n, (n : Int) + 1, 0)) else vgo rest (n + 1) (x + (v - 128) * 128 ^ n)
def vget (bs : List Int) : Int × Int × Int := vgo bs 0 0
theorem wraps_u64' (m : Int) (h0 : 0 ≤ m) (h1 : m < 2 ^ 64) : IntKind.u64.wrap m = m := IntWalk.u64_in m ⟨h0, by omega⟩
theorem or64_zero {a : Int} (h0 : 0 ≤ a) (h1 : a < 18446744073709551616) : Go.bits .or .u64 a 0 = a := by
  obtain ⟨b, rfl⟩ := Int.eq_ofNat_of_zero_le h0
  have h := (bits_nat .u64 64 (by decide) wraps_u64' b 0 (by omega) (by decide)).2
  simpa using h
theorem or64 {x y : Int} {n : Nat} (hn : n ≤ 9) (hx0 : 0 ≤ x) (hx : x < 128 ^ n) (hy0 : 0 ≤ y) (hy : y * 128 ^ n < 18446744073709551616) : Go.bits .or .u64 x (y * 128 ^ n) = x + y * 128 ^ n := by
  have e : (128 : Int) ^ n = 2 ^ (7 * n) := by rw [Int.pow_mul]; rfl
  obtain ⟨a, rfl⟩ := Int.eq_ofNat_of_zero_le hx0
  obtain ⟨b, rfl⟩ := Int.eq_ofNat_of_zero_le hy0
  have ha : a < 2 ^ (7 * n) := by
    rw [e] at hx
    have h : ((a : Nat) : Int) < ((2 ^ (7 * n) : Nat) : Int) := by rw [Int.natCast_pow]; exact hx
    exact Int.ofNat_lt.1 h
  have hb : b * 2 ^ (7 * n) < 18446744073709551616 := by
    rw [e] at hy
    have h : (((b * 2 ^ (7 * n)) : Nat) : Int) < ((18446744073709551616 : Nat) : Int) := by rw [Int.natCast_mul, Int.natCast_pow]; exact hy
    exact Int.ofNat_lt.1 h
  have ha2 : a < 2 ^ 64 := Nat.lt_of_lt_of_le ha (Nat.pow_le_pow_right (by decide) (by omega))
  have h := (bits_nat .u64 64 (by decide) wraps_u64' a (b * 2 ^ (7 * n)) ha2 hb).2
  rw [e]
  have h2 : (((b * 2 ^ (7 * n) : Nat)) : Int) = (b : Int) * 2 ^ (7 * n) := by rw [Int.natCast_mul, Int.natCast_pow]; rfl
  rw [← h2, h, Nat.mul_comm, Nat.or_comm, ← Nat.two_pow_add_eq_or_of_lt ha]
  simp
  omega
theorem pow128_le {n m : Nat} (h : n ≤ m) : (128 : Int) ^ n ≤ 128 ^ m := by
  have h2 : ((128 ^ n : Nat) : Int) ≤ ((128 ^ m : Nat) : Int) := Int.ofNat_le.2 (Nat.pow_le_pow_right (by decide) h)
  rw [Int.natCast_pow, Int.natCast_pow] at h2
  exact h2
theorem and127 {v : Int} (h0 : 0 ≤ v) (h1 : v < 256) : Go.bits .and .u8 v 127 = v % 128 :=
  bits_mask .u8 8 (by decide) (fun n h0 h1 => by rw [IntKind.wrap_u8]; omega) 7 (by decide) v h0 (by omega)

end Go.Proofs.Ytbepmlgpapdnpaa.PX
