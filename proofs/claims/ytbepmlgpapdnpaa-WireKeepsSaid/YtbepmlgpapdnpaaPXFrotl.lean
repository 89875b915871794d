-- by this session's xprint.py over the kit's print
import Derived.Test.YtbepmlgpapdnpaaPX0
import Derived.Test.YtbepmlgpapdnpaaPXFvplain
namespace Go.Proofs.Ytbepmlgpapdnpaa.PX
open Go.RowKit Go.Proofs.YtbepmlgpapdnpaaW.PrintWords Go.Proofs.YtbepmlgpapdnpaaW.PrintLast Go.Proofs.YtbepmlgpapdnpaaW.PrintMore
attribute [local go_sem] max2_int min2_int max_two min_two max_three min_three max_four min_four   -- for this text's walks alone
set_option linter.unusedVariables false
set_option linter.unusedSimpArgs false

/-! ### rotl: function 28 -/
set_option maxHeartbeats 8000000 in
theorem rotl_calls (n : Nat) (hn : n ≤ 9) (y : Int) (h0 : 0 ≤ y) (h1 : y ≤ 127) (h2 : y * 128 ^ n < 18446744073709551616) (w : World) :
    Calls Try.prog 37 #[.int .u64 y, .int .i64 (7 * (n : Int))] w fun e w' => e = .returned (.int .u64 (y * 128 ^ n)) ∧ w = w' := by
  have hc : n = 0 ∨ n = 1 ∨ n = 2 ∨ n = 3 ∨ n = 4 ∨ n = 5 ∨ n = 6 ∨ n = 7 ∨ n = 8 ∨ n = 9 := by omega
  rcases hc with rfl | rfl | rfl | rfl | rfl | rfl | rfl | rfl | rfl | rfl
  · have hb : Go.bits .and .u64 0 63 = 0 := by decide
    have e : (7 * ((0 : Nat) : Int)) = 0 := by decide
    have hy : y * 1 < 18446744073709551616 := h2
    have hz : y / 18446744073709551616 = 0 := Int.ediv_eq_zero_of_lt h0 (by omega)
    have HH := Aside0.mk (or64_zero (a := y * 1) (by omega) hy)
    rw [e]
    clear h2 e
    go_enter Try.func37, Try.ntmps37
    go_wp2
    go_ret
    exact ⟨ret_int (by first | exact HH.out | (have := HH.out; simpa using this)), rfl⟩
  · have hb : Go.bits .and .u64 7 63 = 7 := by decide
    have e : (7 * ((1 : Nat) : Int)) = 7 := by decide
    have hy : y * 128 < 18446744073709551616 := h2
    have hz : y / 144115188075855872 = 0 := Int.ediv_eq_zero_of_lt h0 (by omega)
    have HH := Aside0.mk (or64_zero (a := y * 128) (by omega) hy)
    rw [e]
    clear h2 e
    go_enter Try.func37, Try.ntmps37
    go_wp2
    go_ret
    exact ⟨ret_int (by first | exact HH.out | (have := HH.out; simpa using this)), rfl⟩
  · have hb : Go.bits .and .u64 14 63 = 14 := by decide
    have e : (7 * ((2 : Nat) : Int)) = 14 := by decide
    have hy : y * 16384 < 18446744073709551616 := h2
    have hz : y / 1125899906842624 = 0 := Int.ediv_eq_zero_of_lt h0 (by omega)
    have HH := Aside0.mk (or64_zero (a := y * 16384) (by omega) hy)
    rw [e]
    clear h2 e
    go_enter Try.func37, Try.ntmps37
    go_wp2
    go_ret
    exact ⟨ret_int (by first | exact HH.out | (have := HH.out; simpa using this)), rfl⟩
  · have hb : Go.bits .and .u64 21 63 = 21 := by decide
    have e : (7 * ((3 : Nat) : Int)) = 21 := by decide
    have hy : y * 2097152 < 18446744073709551616 := h2
    have hz : y / 8796093022208 = 0 := Int.ediv_eq_zero_of_lt h0 (by omega)
    have HH := Aside0.mk (or64_zero (a := y * 2097152) (by omega) hy)
    rw [e]
    clear h2 e
    go_enter Try.func37, Try.ntmps37
    go_wp2
    go_ret
    exact ⟨ret_int (by first | exact HH.out | (have := HH.out; simpa using this)), rfl⟩
  · have hb : Go.bits .and .u64 28 63 = 28 := by decide
    have e : (7 * ((4 : Nat) : Int)) = 28 := by decide
    have hy : y * 268435456 < 18446744073709551616 := h2
    have hz : y / 68719476736 = 0 := Int.ediv_eq_zero_of_lt h0 (by omega)
    have HH := Aside0.mk (or64_zero (a := y * 268435456) (by omega) hy)
    rw [e]
    clear h2 e
    go_enter Try.func37, Try.ntmps37
    go_wp2
    go_ret
    exact ⟨ret_int (by first | exact HH.out | (have := HH.out; simpa using this)), rfl⟩
  · have hb : Go.bits .and .u64 35 63 = 35 := by decide
    have e : (7 * ((5 : Nat) : Int)) = 35 := by decide
    have hy : y * 34359738368 < 18446744073709551616 := h2
    have hz : y / 536870912 = 0 := Int.ediv_eq_zero_of_lt h0 (by omega)
    have HH := Aside0.mk (or64_zero (a := y * 34359738368) (by omega) hy)
    rw [e]
    clear h2 e
    go_enter Try.func37, Try.ntmps37
    go_wp2
    go_ret
    exact ⟨ret_int (by first | exact HH.out | (have := HH.out; simpa using this)), rfl⟩
  · have hb : Go.bits .and .u64 42 63 = 42 := by decide
    have e : (7 * ((6 : Nat) : Int)) = 42 := by decide
    have hy : y * 4398046511104 < 18446744073709551616 := h2
    have hz : y / 4194304 = 0 := Int.ediv_eq_zero_of_lt h0 (by omega)
    have HH := Aside0.mk (or64_zero (a := y * 4398046511104) (by omega) hy)
    rw [e]
    clear h2 e
    go_enter Try.func37, Try.ntmps37
    go_wp2
    go_ret
    exact ⟨ret_int (by first | exact HH.out | (have := HH.out; simpa using this)), rfl⟩
  · have hb : Go.bits .and .u64 49 63 = 49 := by decide
    have e : (7 * ((7 : Nat) : Int)) = 49 := by decide
    have hy : y * 562949953421312 < 18446744073709551616 := h2
    have hz : y / 32768 = 0 := Int.ediv_eq_zero_of_lt h0 (by omega)
    have HH := Aside0.mk (or64_zero (a := y * 562949953421312) (by omega) hy)
    rw [e]
    clear h2 e
    go_enter Try.func37, Try.ntmps37
    go_wp2
    go_ret
    exact ⟨ret_int (by first | exact HH.out | (have := HH.out; simpa using this)), rfl⟩
  · have hb : Go.bits .and .u64 56 63 = 56 := by decide
    have e : (7 * ((8 : Nat) : Int)) = 56 := by decide
    have hy : y * 72057594037927936 < 18446744073709551616 := h2
    have hz : y / 256 = 0 := Int.ediv_eq_zero_of_lt h0 (by omega)
    have HH := Aside0.mk (or64_zero (a := y * 72057594037927936) (by omega) hy)
    rw [e]
    clear h2 e
    go_enter Try.func37, Try.ntmps37
    go_wp2
    go_ret
    exact ⟨ret_int (by first | exact HH.out | (have := HH.out; simpa using this)), rfl⟩
  · have hb : Go.bits .and .u64 63 63 = 63 := by decide
    have e : (7 * ((9 : Nat) : Int)) = 63 := by decide
    have hy : y * 9223372036854775808 < 18446744073709551616 := h2
    have hz : y / 2 = 0 := Int.ediv_eq_zero_of_lt h0 (by omega)
    have HH := Aside0.mk (or64_zero (a := y * 9223372036854775808) (by omega) hy)
    rw [e]
    clear h2 e
    go_enter Try.func37, Try.ntmps37
    go_wp2
    go_ret
    exact ⟨ret_int (by first | exact HH.out | (have := HH.out; simpa using this)), rfl⟩

end Go.Proofs.Ytbepmlgpapdnpaa.PX
