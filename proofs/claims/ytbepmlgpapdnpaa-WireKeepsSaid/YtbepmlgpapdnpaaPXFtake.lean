-- by this session's xprint.py over the kit's print
import Derived.Test.YtbepmlgpapdnpaaPX0
import Derived.Test.YtbepmlgpapdnpaaPXFvplain
import Derived.Test.YtbepmlgpapdnpaaPXFrdstate
import Derived.Test.YtbepmlgpapdnpaaPXFpeek
import Derived.Test.YtbepmlgpapdnpaaPXFvgetok
namespace Go.Proofs.Ytbepmlgpapdnpaa.PX
open Go.RowKit Go.Proofs.YtbepmlgpapdnpaaW.PrintWords Go.Proofs.YtbepmlgpapdnpaaW.PrintLast Go.Proofs.YtbepmlgpapdnpaaW.PrintMore
attribute [local go_sem] max2_int min2_int max_two min_two max_three min_three max_four min_four   -- for this text's walks alone
set_option linter.unusedVariables false
set_option linter.unusedSimpArgs false

/-! ### take: function 28 -/
theorem ptr_nil (W : World) (p : Option Addr) : (binOp .eql 36 (.pointer p) (.pointer none)).run Try.prog W = .ok (.bool p.isNone) W := run_eql_pointer_nil W 36 p (by kernel_rfl)
theorem ptr_nnil (W : World) (p : Option Addr) : (binOp .neq 36 (.pointer p) (.pointer none)).run Try.prog W = .ok (.bool (!p.isNone)) W := run_neq_pointer_nil W 36 p (by kernel_rfl)
set_option maxHeartbeats 8000000 in
set_option maxRecDepth 100000 in
theorem take_calls (w : World) (g h : Nat) (A : Option Addr) (c : Nat) (bs : List Int) (at_ : Nat) (bad top : Int) (R : RD w g h A c bs at_ bad) (h0 : 0 ≤ top) :
    Calls Try.prog 28 #[.pointer (some ⟨g, 0, none⟩), .int .u64 top] w fun e w' => e = .returned (.int .u64 (rtake bs at_ bad top).1) ∧ RD w' g h A c bs (rtake bs at_ bad top).2.1 (rtake bs at_ bad top).2.2 ∧ KP g h w w' := by
  have hc0 := blk_cell R.hg 0
  have hc1 := blk_cell R.hg 1
  have hc2 := blk_cell R.hh 1
  have hf1 := blk_frozen R.hg 1
  have hf2 := blk_frozen R.hh 1
  simp only [List.getElem?_toArray, List.getElem?_cons_zero, List.getElem?_cons_succ] at hc0 hc1 hc2
  have hpn := fun (W : World) (p : Option Addr) => ptr_nil W p
  by_cases hb : bad = 0
  · subst hb
    obtain ⟨ok1, ok2⟩ := vget_ok (bs.drop at_) (fun v hv => R.hb v (List.mem_of_mem_drop hv))
    have PK := peek_calls w g h A c bs at_ 0 R
    have hrt : rtake bs at_ 0 top = if (vget (bs.drop at_)).2.2 ≠ 0 then (0, at_, (vget (bs.drop at_)).2.2) else if (vget (bs.drop at_)).1 > top then (0, at_, 42) else ((vget (bs.drop at_)).1, at_ + (vget (bs.drop at_)).2.1.toNat, 0) := by rw [rtake, if_neg (by simp)]
    rw [hrt]
    have hld : (bs.drop at_).length = bs.length - at_ := List.length_drop
    rw [hld] at ok1
    generalize vget (bs.drop at_) = t3 at ok1 ok2 PK ⊢
    obtain ⟨x, n, e⟩ := t3
    simp only at ok1 ok2 PK ⊢
    replace PK := Aside0.mk PK
    have hat := R.hat
    have hlen := R.hlen
    have RR := Aside0.mk R
    clear R hrt hld
    by_cases he : e = 0
    · subst he
      obtain ⟨m, rfl, m1, m2, x0, x1⟩ := ok1 rfl
      clear ok1 ok2
      by_cases ht : x > top
      · rw [if_neg (by simp), if_pos ht]
        go_enter Try.func28, Try.ntmps28
        go_wp2_with (go_at_call 34; (with_reducible refine PK.out.mono ?_); rintro e w1 ⟨rfl, ⟨⟨nq, rfl⟩⟩⟩)
        go_ret
        exact ⟨rfl, (RR.out.bad_ 42).drewN nq, ((KP.refl g h w).set_g _ _).drewN nq⟩
      · rw [if_neg (by simp), if_neg ht]
        have ht2 : x ≤ top := by omega
        clear ht
        go_enter Try.func28, Try.ntmps28
        go_wp2_with (go_at_call 34; (with_reducible refine PK.out.mono ?_); rintro e w1 ⟨rfl, ⟨⟨nq, rfl⟩⟩⟩)
        go_ret
        exact ⟨rfl, (RR.out.at_to (at_ + m) (by omega)).drewN nq, ((KP.refl g h w).set_h _ _).drewN nq⟩
    · rw [if_pos he]
      have he1 : (e == 0) = false := beq_eq_false_iff_ne.2 he
      have he2 : (e != 0) = true := bne_iff_ne.2 he
      clear ok1 ok2
      replace he := Aside0.mk he
      go_enter Try.func28, Try.ntmps28
      go_wp2_with (go_at_call 34; (with_reducible refine PK.out.mono ?_); rintro e w1 ⟨rfl, ⟨⟨nq, rfl⟩⟩⟩)
      go_ret
      exact ⟨rfl, (RR.out.bad_ e).drewN nq, ((KP.refl g h w).set_g _ _).drewN nq⟩
  · have hr : rtake bs at_ bad top = (0, at_, bad) := by rw [rtake, if_pos hb]
    rw [hr]
    have hb0 : (bad != 0) = true := bne_iff_ne.2 hb
    have RR := Aside0.mk R
    clear R hr
    go_enter Try.func28, Try.ntmps28
    go_wp2
    go_ret
    exact ⟨rfl, RR.out, KP.refl _ _ _⟩

end Go.Proofs.Ytbepmlgpapdnpaa.PX
