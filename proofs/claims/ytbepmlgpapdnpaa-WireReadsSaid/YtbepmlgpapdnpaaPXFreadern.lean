-- by this session's xprint.py over the kit's print
import Derived.Test.YtbepmlgpapdnpaaPX0
import Derived.Test.YtbepmlgpapdnpaaPXFvplain
import Derived.Test.YtbepmlgpapdnpaaPXFrdstate
import Derived.Test.YtbepmlgpapdnpaaPXFvgetok
import Derived.Test.YtbepmlgpapdnpaaPXFtake
import Derived.Test.YtbepmlgpapdnpaaPXFreaderus
import Derived.Test.YtbepmlgpapdnpaaPXFvgetzero
namespace Go.Proofs.Ytbepmlgpapdnpaa.PX
open Go.RowKit Go.Proofs.YtbepmlgpapdnpaaW.PrintWords Go.Proofs.YtbepmlgpapdnpaaW.PrintLast Go.Proofs.YtbepmlgpapdnpaaW.PrintMore
attribute [local go_sem] max2_int min2_int max_two min_two max_three min_three max_four min_four   -- for this text's walks alone
set_option linter.unusedVariables false
set_option linter.unusedSimpArgs false

/-! ### readern: function 28 -/
/-- N: a number, at most most. -/
def rN (bs : List Int) (at_ : Nat) (bad most : Int) : Int × Nat × Int := if 0 ≤ most then rtake bs at_ bad most else (0, (rtake bs at_ bad (-1)).2.1, (rtake bs at_ bad (-1)).2.2)
theorem rtake_zero {w : World} {g h : Nat} {A : Option Addr} {c : Nat} {bs : List Int} {at_ : Nat} {bad : Int} (R : RD w g h A c bs at_ bad) : ((rtake bs at_ bad 0).2.2 = 0 → (rtake bs at_ bad 0).2.1 = at_ + 1 ∧ at_ + 1 ≤ bs.length ∧ rtake bs at_ bad (-1) = (0, at_, 42)) ∧ ((rtake bs at_ bad 0).2.2 ≠ 0 → rtake bs at_ bad (-1) = rtake bs at_ bad 0) := by
  have ok := (vget_ok (bs.drop at_) (fun v hv => R.hb v (List.mem_of_mem_drop hv))).1
  have hz := vget_zero (bs.drop at_) (fun v hv => R.hb v (List.mem_of_mem_drop hv))
  have hld : (bs.drop at_).length = bs.length - at_ := List.length_drop
  rw [hld] at ok
  unfold rtake
  split
  · rename_i h; exact ⟨fun h2 => absurd h2 h, fun _ => rfl⟩
  · split
    · rename_i h; exact ⟨fun h2 => absurd h2 h, fun _ => rfl⟩
    · rename_i h1 h2
      obtain ⟨m, e1, e2, e3, e4, e5⟩ := ok (by omega)
      split
      · rename_i h3
        refine ⟨fun h4 => ?_, fun _ => ?_⟩
        · exact absurd (show (42 : Int) = 0 from h4) (by decide)
        · rw [if_pos (by omega)]
      · rename_i h3
        refine ⟨fun _ => ?_, fun h4 => absurd rfl h4⟩
        have h5 := hz (by omega) (by omega)
        refine ⟨?_, by omega, by rw [if_pos (by omega)]⟩
        show at_ + (vget (bs.drop at_)).2.1.toNat = _
        rw [h5]; rfl
set_option maxHeartbeats 8000000 in
set_option maxRecDepth 100000 in
theorem readerN_calls (w : World) (g h : Nat) (A : Option Addr) (c : Nat) (bs : List Int) (at_ : Nat) (bad most : Int) (R : RD w g h A c bs at_ bad) (hm : most ≤ 9223372036854775807) :
    Calls Try.prog 24 #[.pointer (some ⟨g, 0, none⟩), .int .i64 most] w fun e w' => e = .returned (.int .i64 (rN bs at_ bad most).1) ∧ RD w' g h A c bs (rN bs at_ bad most).2.1 (rN bs at_ bad most).2.2 ∧ KP g h w w' := by
  by_cases h0 : 0 ≤ most
  · have TK := take_calls w g h A c bs at_ bad most R h0
    obtain ⟨r0, r1, r2, _, _⟩ := rtake_range R most h0
    rw [rN, if_pos h0]
    generalize rtake bs at_ bad most = t3 at TK r0 r1 r2 ⊢
    obtain ⟨u, at2, bad2⟩ := t3
    simp only at TK r0 r1 r2 ⊢
    replace TK := Aside0.mk TK
    clear R r1
    go_enter Try.func24, Try.ntmps24
    go_wp2_with (go_at_call 28; (with_reducible refine TK.out.mono ?_); rintro e w1 ⟨rfl, hR, hK⟩; replace hR := Aside0.mk hR; replace hK := Aside0.mk hK)
    go_ret
    exact ⟨rfl, hR.out, hK.out⟩
  · have TK := take_calls w g h A c bs at_ bad 0 R (by omega)
    obtain ⟨z1, z2⟩ := rtake_zero R
    rw [rN, if_neg h0]
    have hpn := fun (W : World) (p : Option Addr) => ptr_nnil W p
    have hat := R.hat
    have hlen := R.hlen
    generalize rtake bs at_ bad 0 = t3 at TK z1 z2
    obtain ⟨u, at2, bad2⟩ := t3
    simp only at TK z1 z2
    replace TK := Aside0.mk TK
    clear R
    by_cases hb : bad2 = 0
    · subst hb
      obtain ⟨rfl, hle, hz⟩ := z1 rfl
      rw [hz]
      clear z1 z2 hz
      go_enter Try.func24, Try.ntmps24
      go_wp2_with (go_at_call 28; (with_reducible refine TK.out.mono ?_); rintro e w1 ⟨rfl, hR, hK⟩; have hc0 := blk_cell hR.hg 0; have hc1 := blk_cell hR.hg 1; have hc2 := blk_cell hR.hh 1; have hf1 := blk_frozen hR.hg 1; have hf2 := blk_frozen hR.hh 1; have hgh := hR.hne; simp only [List.getElem?_toArray, List.getElem?_cons_zero, List.getElem?_cons_succ] at hc0 hc1 hc2; replace hR := Aside0.mk hR; replace hK := Aside0.mk hK)
      go_ret
      refine ⟨rfl, ?_, ?_⟩
      · have := ((hR.out.at_to at_ (by omega)).bad_ 42)
        simpa using this
      · exact (hK.out.set_h _ _).set_g _ _
    · rw [z2 hb]
      have hb1 : (bad2 == 0) = false := beq_eq_false_iff_ne.2 hb
      clear z1 z2
      replace hb := Aside0.mk hb
      go_enter Try.func24, Try.ntmps24
      go_wp2_with (go_at_call 28; (with_reducible refine TK.out.mono ?_); rintro e w1 ⟨rfl, hR, hK⟩; have hc0 := blk_cell hR.hg 0; have hc1 := blk_cell hR.hg 1; simp only [List.getElem?_toArray, List.getElem?_cons_zero, List.getElem?_cons_succ] at hc0 hc1; replace hR := Aside0.mk hR; replace hK := Aside0.mk hK)
      go_ret
      exact ⟨rfl, hR.out, hK.out⟩

end Go.Proofs.Ytbepmlgpapdnpaa.PX
