-- by this session's xprint.py over the kit's print
import Derived.Test.YtbepmlgpapdnpaaPX0
import Derived.Test.YtbepmlgpapdnpaaPXFvplain
import Derived.Test.YtbepmlgpapdnpaaPXFrdstate
import Derived.Test.YtbepmlgpapdnpaaPXFvgetok
import Derived.Test.YtbepmlgpapdnpaaPXFtake
namespace Go.Proofs.Ytbepmlgpapdnpaa.PX
open Go.RowKit Go.Proofs.YtbepmlgpapdnpaaW.PrintWords Go.Proofs.YtbepmlgpapdnpaaW.PrintLast Go.Proofs.YtbepmlgpapdnpaaW.PrintMore
attribute [local go_sem] max2_int min2_int max_two min_two max_three min_three max_four min_four   -- for this text's walks alone
set_option linter.unusedVariables false
set_option linter.unusedSimpArgs false

/-! ### readerus: function 28 -/
def rU (bs : List Int) (at_ : Nat) (bad : Int) : Int × Nat × Int := rtake bs at_ bad 18446744073709551615
def sunfold (u : Int) : Int := if u % 2 = 0 then u / 2 else -(u / 2) - 1
theorem rtake_range {w : World} {g h : Nat} {A : Option Addr} {c : Nat} {bs : List Int} {at_ : Nat} {bad : Int} (R : RD w g h A c bs at_ bad) (top : Int) (h0 : 0 ≤ top) : 0 ≤ (rtake bs at_ bad top).1 ∧ (rtake bs at_ bad top).1 < 18446744073709551616 ∧ (rtake bs at_ bad top).1 ≤ top ∧ (rtake bs at_ bad top).2.1 ≤ bs.length ∧ at_ ≤ (rtake bs at_ bad top).2.1 := by
  have ok := (vget_ok (bs.drop at_) (fun v hv => R.hb v (List.mem_of_mem_drop hv))).1
  have hat := R.hat
  have hld : (bs.drop at_).length = bs.length - at_ := List.length_drop
  rw [hld] at ok
  unfold rtake
  split
  · exact ⟨Int.le_refl _, by show (0 : Int) < _; omega, h0, hat, Nat.le_refl _⟩
  · split
    · exact ⟨Int.le_refl _, by show (0 : Int) < _; omega, h0, hat, Nat.le_refl _⟩
    · split
      · exact ⟨Int.le_refl _, by show (0 : Int) < _; omega, h0, hat, Nat.le_refl _⟩
      · rename_i h1 h2
        obtain ⟨m, e1, e2, e3, e4, e5⟩ := ok (by omega)
        refine ⟨e4, e5, by omega, ?_, ?_⟩
        · show at_ + (vget (bs.drop at_)).2.1.toNat ≤ _
          rw [e1]; omega
        · show at_ ≤ at_ + _
          omega
theorem xor_comm64 (x y : Int) : Go.bits .xor .i64 x y = Go.bits .xor .i64 y x := by
  simp only [Go.bits, BitVec.xor_comm]
theorem xor64_zero {x : Int} (h0 : 0 ≤ x) (h1 : x < 9223372036854775808) : Go.bits .xor .i64 x 0 = x := by
  obtain ⟨a, rfl⟩ := Int.eq_ofNat_of_zero_le h0
  have ha : a < 2 ^ 64 := by omega
  simp only [Go.bits]
  rw [show BitVec.ofInt IntKind.i64.bits 0 = 0#IntKind.i64.bits from rfl, BitVec.xor_zero, BitVec.ofInt_natCast, BitVec.toNat_ofNat]
  rw [show a % 2 ^ IntKind.i64.bits = a from Nat.mod_eq_of_lt ha, IntKind.wrap_i64]
  omega
theorem sunfold_walk {u : Int} (h0 : 0 ≤ u) (h1 : u < 18446744073709551616) : Go.bits .and .u64 u 1 = u % 2 ∧ Go.bits .xor .i64 (u / 2) (-(u % 2)) = sunfold u := by
  refine ⟨bits_mask .u64 64 (by decide) wraps_u64' 1 (by decide) u h0 (by omega), ?_⟩
  unfold sunfold
  split
  · rename_i h; rw [h]; exact xor64_zero (by omega) (by omega)
  · have h2 : u % 2 = 1 := by omega
    rw [h2, xor_comm64]
    obtain ⟨a, ha⟩ := Int.eq_ofNat_of_zero_le (show 0 ≤ u / 2 by omega)
    rw [ha, i64_not a (by omega)]
    omega
set_option maxHeartbeats 8000000 in
set_option maxRecDepth 100000 in
theorem readerU_calls (w : World) (g h : Nat) (A : Option Addr) (c : Nat) (bs : List Int) (at_ : Nat) (bad : Int) (R : RD w g h A c bs at_ bad) :
    Calls Try.prog 17 #[.pointer (some ⟨g, 0, none⟩)] w fun e w' => e = .returned (.int .u64 (rU bs at_ bad).1) ∧ RD w' g h A c bs (rU bs at_ bad).2.1 (rU bs at_ bad).2.2 ∧ KP g h w w' := by
  have TK := Aside0.mk (take_calls w g h A c bs at_ bad 18446744073709551615 R (by omega))
  clear R
  go_enter Try.func17, Try.ntmps17
  go_wp2_with (go_at_call 28; (with_reducible refine TK.out.mono ?_); rintro e w1 ⟨rfl, hR, hK⟩; replace hR := Aside0.mk hR; replace hK := Aside0.mk hK)
  go_ret
  exact ⟨rfl, hR.out, hK.out⟩
set_option maxHeartbeats 8000000 in
set_option maxRecDepth 100000 in
theorem readerS_calls (w : World) (g h : Nat) (A : Option Addr) (c : Nat) (bs : List Int) (at_ : Nat) (bad : Int) (R : RD w g h A c bs at_ bad) :
    Calls Try.prog 18 #[.pointer (some ⟨g, 0, none⟩)] w fun e w' => e = .returned (.int .i64 (sunfold (rU bs at_ bad).1)) ∧ RD w' g h A c bs (rU bs at_ bad).2.1 (rU bs at_ bad).2.2 ∧ KP g h w w' := by
  have TK := take_calls w g h A c bs at_ bad 18446744073709551615 R (by omega)
  obtain ⟨r0, r1, _, _, _⟩ := rtake_range R 18446744073709551615 (by omega)
  unfold rU
  generalize rtake bs at_ bad 18446744073709551615 = t3 at TK r0 r1 ⊢
  obtain ⟨u, at2, bad2⟩ := t3
  simp only at TK r0 r1 ⊢
  replace TK := Aside0.mk TK
  obtain ⟨s1, s2⟩ := sunfold_walk r0 r1
  have b0 : 0 ≤ u % 2 := by omega
  have b1 : u % 2 ≤ 1 := by omega
  obtain ⟨b, hb⟩ : ∃ b, u % 2 = b := ⟨_, rfl⟩
  rw [hb] at s1 s2 b0 b1
  have d0 : 0 ≤ u / 2 := by omega
  have d1 : u / 2 ≤ 9223372036854775807 := by omega
  replace s2 := Aside0.mk s2
  clear R hb
  go_enter Try.func18, Try.ntmps18
  go_wp2_with (go_at_call 28; (with_reducible refine TK.out.mono ?_); rintro e w1 ⟨rfl, hR, hK⟩; replace hR := Aside0.mk hR; replace hK := Aside0.mk hK)
  go_ret
  exact ⟨ret_int s2.out, hR.out, hK.out⟩

end Go.Proofs.Ytbepmlgpapdnpaa.PX
