/- The list that window.Positions gives. -/
import Derived.Test.YtalchibbmkhkpaaVX2
import Derived.RangeFuncRecord
import Derived.TacticsIn
import Derived.BigFrameIn
import Derived.WalkKit
set_option linter.unusedVariables false
set_option linter.unusedSimpArgs false
namespace Go.Proofs.Ytalchibbmkhkpaa.VX
def posL (r c : Nat) : List (Int × Int) := (List.range r).flatMap fun (y : Nat) => (List.range c).map fun (x : Nat) => ((y : Int), (x : Int))
theorem posL_succ (r c : Nat) : posL (r + 1) c = posL r c ++ (List.range c).map fun (x : Nat) => ((r : Int), (x : Int)) := by
  unfold posL
  rw [List.range_succ, List.flatMap_append]
  simp
theorem posL_len : ∀ (r c : Nat), (posL r c).length = r * c
  | 0, c => by simp [posL]
  | r + 1, c => by rw [posL_succ, List.length_append, posL_len r c, List.length_map, List.length_range, Nat.succ_mul]
theorem posL_get : ∀ (r c y x : Nat), y < r → x < c → (posL r c)[y * c + x]? = some ((y : Int), (x : Int))
  | r + 1, c, y, x, hy, hx => by
    rw [posL_succ]
    by_cases e : y = r
    · subst e
      rw [List.getElem?_append_right (by rw [posL_len]; omega), posL_len, Nat.add_sub_cancel_left, List.getElem?_map, List.getElem?_range hx]
      rfl
    · have hlt : y * c + x < r * c := by
        have : (y + 1) * c ≤ r * c := Nat.mul_le_mul_right c (by omega)
        rw [Nat.succ_mul] at this
        omega
      rw [List.getElem?_append_left (by rw [posL_len]; exact hlt)]
      exact posL_get r c y x (by omega) hx
def posW (r c : Int) : List (W (Int × Int)) := (posL r.toNat c.toNat).map W.ret
def posOK (r c : Int) : Prop := r ≤ 1000000 ∧ c ≤ 1000000
def vI : Value → Nat
  | .int _ n => n.toNat
  | _ => 0
end Go.Proofs.Ytalchibbmkhkpaa.VX
