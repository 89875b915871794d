-- by this session's xprint.py over the kit's print
import Derived.Test.YtbepmlgpapdnpaaPX0
import Derived.Test.YtbepmlgpapdnpaaPXFvplain
import Derived.Test.YtbepmlgpapdnpaaPXFrdstate
namespace Go.Proofs.Ytbepmlgpapdnpaa.PX
open Go.RowKit Go.Proofs.YtbepmlgpapdnpaaW.PrintWords Go.Proofs.YtbepmlgpapdnpaaW.PrintLast Go.Proofs.YtbepmlgpapdnpaaW.PrintMore
attribute [local go_sem] max2_int min2_int max_two min_two max_three min_three max_four min_four   -- for this text's walks alone
set_option linter.unusedVariables false
set_option linter.unusedSimpArgs false

/-! ### vgetok: function 28 -/
theorem vgo_ok : ∀ (l : List Int) (n : Nat) (x : Int), (∀ v ∈ l, 0 ≤ v ∧ v < 256) → n ≤ 9 → 0 ≤ x → x < 128 ^ n → ((vgo l n x).2.2 = 0 → ∃ m : Nat, (vgo l n x).2.1 = (n : Int) + m ∧ 1 ≤ m ∧ m ≤ l.length ∧ 0 ≤ (vgo l n x).1 ∧ (vgo l n x).1 < 18446744073709551616) ∧ ((vgo l n x).2.2 = 0 ∨ (vgo l n x).2.2 = 40 ∨ (vgo l n x).2.2 = 41)
  | [], n, x, _, _, _, _ => by simp [vgo]
  | v :: r, n, x, hv, hn, h0, h1 => by
    obtain ⟨v0, v1⟩ := hv v List.mem_cons_self
    rw [vgo]
    by_cases a : n = 9 ∧ 1 < v
    · rw [if_pos a]; simp
    · rw [if_neg a]
      by_cases b : v < 128
      · rw [if_pos b]
        by_cases c : 0 < n ∧ v = 0
        · rw [if_pos c]; simp
        · rw [if_neg c]
          refine ⟨fun _ => ⟨1, rfl, by omega, by simp, ?_, ?_⟩, .inl rfl⟩
          · have : 0 ≤ v * 128 ^ n := Int.mul_nonneg v0 (Int.le_of_lt (Int.pow_pos (by decide)))
            show 0 ≤ x + v * 128 ^ n
            omega
          · show x + v * 128 ^ n < 18446744073709551616
            by_cases h9 : n = 9
            · subst h9
              have h5 : (128 : Int) ^ 9 = 9223372036854775808 := by decide
              rw [h5] at h1 ⊢
              omega
            · have h6 : (128 : Int) ^ n ≤ 128 ^ 8 := pow128_le (by omega)
              have h5 : (128 : Int) ^ 8 = 72057594037927936 := by decide
              rw [h5] at h6
              have h7 : v * 128 ^ n ≤ 127 * 72057594037927936 := Int.le_trans (Int.mul_le_mul_of_nonneg_right (by omega) (Int.le_of_lt (Int.pow_pos (by decide)))) (Int.mul_le_mul_of_nonneg_left h6 (by omega))
              omega
      · rw [if_neg b]
        have hn8 : n ≤ 8 := by omega
        have hq : 0 ≤ (v - 128) * 128 ^ n := Int.mul_nonneg (by omega) (Int.le_of_lt (Int.pow_pos (by decide)))
        have hq2 : (v - 128) * 128 ^ n ≤ 127 * 128 ^ n := Int.mul_le_mul_of_nonneg_right (by omega) (Int.le_of_lt (Int.pow_pos (by decide)))
        obtain ⟨i1, i2⟩ := vgo_ok r (n + 1) (x + (v - 128) * 128 ^ n) (fun u hu => hv u (List.mem_cons_of_mem _ hu)) (by omega) (by omega) (by rw [Int.pow_succ]; omega)
        refine ⟨fun he => ?_, i2⟩
        obtain ⟨m, e1, e2, e3, e4⟩ := i1 he
        exact ⟨m + 1, by rw [e1]; omega, by omega, by simp; omega, e4⟩
theorem vget_ok (l : List Int) (hv : ∀ v ∈ l, 0 ≤ v ∧ v < 256) : ((vget l).2.2 = 0 → ∃ m : Nat, (vget l).2.1 = m ∧ 1 ≤ m ∧ m ≤ l.length ∧ 0 ≤ (vget l).1 ∧ (vget l).1 < 18446744073709551616) ∧ ((vget l).2.2 = 0 ∨ (vget l).2.2 = 40 ∨ (vget l).2.2 = 41) := by
  obtain ⟨h1, h2⟩ := vgo_ok l 0 0 hv (by omega) (by omega) (by decide)
  refine ⟨fun he => ?_, h2⟩
  obtain ⟨m, e1, e2, e3, e4⟩ := h1 he
  exact ⟨m, by rw [vget, e1]; omega, e2, e3, e4⟩
/-- What a taking call answers, where the reader is then, its fault. -/
def rtake (bs : List Int) (at_ : Nat) (bad top : Int) : Int × Nat × Int :=
  if bad ≠ 0 then (0, at_, bad) else if (vget (bs.drop at_)).2.2 ≠ 0 then (0, at_, (vget (bs.drop at_)).2.2) else
  if (vget (bs.drop at_)).1 > top then (0, at_, 42) else ((vget (bs.drop at_)).1, at_ + (vget (bs.drop at_)).2.1.toNat, 0)
/-- All but the blocks g and h is as it was. -/
structure KP (g h : Nat) (w w' : World) : Prop where
  os : w'.os = w.os
  tape : w'.tape = w.tape
  output : w'.output = w.output
  size : w.heap.size ≤ w'.heap.size
  block : ∀ k, k < w.heap.size → k ≠ g → k ≠ h → w'.heap[k]? = w.heap[k]?
theorem KP.refl (g h : Nat) (w : World) : KP g h w w := ⟨rfl, rfl, rfl, Nat.le_refl _, fun _ _ _ _ => rfl⟩
theorem KP.trans {g h : Nat} {a b c : World} (x : KP g h a b) (y : KP g h b c) : KP g h a c :=
  ⟨y.os.trans x.os, y.tape.trans x.tape, y.output.trans x.output, Nat.le_trans x.size y.size, fun k hk h1 h2 => (y.block k (Nat.lt_of_lt_of_le hk x.size) h1 h2).trans (x.block k hk h1 h2)⟩
theorem KP.drewN {g h : Nat} {a b : World} (x : KP g h a b) (n : Nat) : KP g h a (b.drewN n) := ⟨x.os, x.tape, x.output, x.size, x.block⟩
theorem KP.set_g {g h : Nat} {a b : World} (x : KP g h a b) (j : Nat) (u : Value) : KP g h a (b.setCell ⟨g, j, none⟩ u) :=
  ⟨x.os, x.tape, x.output, by simpa [World.setCell] using x.size, fun k hk h1 h2 => (Below.heap_setCell b ⟨g, j, none⟩ u k h1).trans (x.block k hk h1 h2)⟩
theorem KP.set_h {g h : Nat} {a b : World} (x : KP g h a b) (j : Nat) (u : Value) : KP g h a (b.setCell ⟨h, j, none⟩ u) :=
  ⟨x.os, x.tape, x.output, by simpa [World.setCell] using x.size, fun k hk h1 h2 => (Below.heap_setCell b ⟨h, j, none⟩ u k h2).trans (x.block k hk h1 h2)⟩
theorem RD.drewN {w : World} {g h : Nat} {A : Option Addr} {c : Nat} {bs : List Int} {at_ : Nat} {bad : Int} (r : RD w g h A c bs at_ bad) (n : Nat) : RD (w.drewN n) g h A c bs at_ bad := r.keep fun _ _ => rfl
theorem RD.bad_ {w : World} {g h : Nat} {A : Option Addr} {c : Nat} {bs : List Int} {at_ : Nat} {bad : Int} (r : RD w g h A c bs at_ bad) (bad' : Int) : RD (w.setCell ⟨g, 1, none⟩ (.int .i64 bad')) g h A c bs at_ bad' :=
  ⟨by have := blk_set r.hg 1 (.int .i64 bad'); simpa using this, blk_far r.hh r.hne.symm _, r.hc, C_block_same r.hr (fun ad e hn => Below.heap_setCell _ _ _ _ (r.ha ad e hn).1), r.ha, r.hat, r.hb⟩
theorem RD.at_to {w : World} {g h : Nat} {A : Option Addr} {c : Nat} {bs : List Int} {at_ : Nat} {bad : Int} (r : RD w g h A c bs at_ bad) (m : Nat) (hm : m ≤ bs.length) : RD (w.setCell ⟨h, 1, none⟩ (.int .i64 (m : Int))) g h A c bs m bad :=
  ⟨blk_far r.hg r.hne _, by have := blk_set r.hh 1 (.int .i64 (m : Int)); simpa using this, r.hc, C_block_same r.hr (fun ad e hn => Below.heap_setCell _ _ _ _ (r.ha ad e hn).2), r.ha, hm, r.hb⟩

end Go.Proofs.Ytbepmlgpapdnpaa.PX
