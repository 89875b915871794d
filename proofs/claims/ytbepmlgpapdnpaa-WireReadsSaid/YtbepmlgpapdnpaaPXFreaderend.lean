-- by this session's xprint.py over the kit's print
import Derived.Test.YtbepmlgpapdnpaaPX0
import Derived.Test.YtbepmlgpapdnpaaPXFrdstate
import Derived.Test.YtbepmlgpapdnpaaPXFtake
namespace Go.Proofs.Ytbepmlgpapdnpaa.PX
open Go.RowKit Go.Proofs.YtbepmlgpapdnpaaW.PrintWords Go.Proofs.YtbepmlgpapdnpaaW.PrintLast Go.Proofs.YtbepmlgpapdnpaaW.PrintMore
attribute [local go_sem] max2_int min2_int max_two min_two max_three min_three max_four min_four   -- for this text's walks alone
set_option linter.unusedVariables false
set_option linter.unusedSimpArgs false

/-! ### readerend: function 28 -/
set_option maxHeartbeats 8000000 in
set_option maxRecDepth 100000 in
theorem cursorLeft_calls (w : World) (g h : Nat) (A : Option Addr) (c : Nat) (bs : List Int) (at_ : Nat) (bad : Int) (R : RD w g h A c bs at_ bad) :
    Calls Try.prog 29 #[.pointer (some ⟨h, 0, none⟩)] w fun e w' => e = .returned (.int .i64 ((bs.length : Int) - at_)) ∧ Drawn0 w w' := by
  have hc1 := blk_cell R.hh 0
  have hc2 := blk_cell R.hh 1
  have hat := R.hat
  have hlen := R.hlen
  have hpn := fun (W : World) (p : Option Addr) => run_eql_pointer_nil (P := Try.prog) W 58 p (by kernel_rfl)
  simp only [List.getElem?_toArray, List.getElem?_cons_zero, List.getElem?_cons_succ] at hc1 hc2
  clear R
  go_enter Try.func29, Try.ntmps29
  go_wp2
  go_quiet (fail)
  go_wp2
  go_ret
  exact ⟨rfl, by repeat (first | exact Drawn0.refl _ | apply Drawn0.step)⟩
set_option maxHeartbeats 8000000 in
set_option maxRecDepth 100000 in
theorem readerLeft_calls (w : World) (g h : Nat) (A : Option Addr) (c : Nat) (bs : List Int) (at_ : Nat) (bad : Int) (R : RD w g h A c bs at_ bad) :
    Calls Try.prog 19 #[.pointer (some ⟨g, 0, none⟩)] w fun e w' => e = .returned (.int .i64 ((bs.length : Int) - at_)) ∧ Drawn0 w w' := by
  have hc0 := blk_cell R.hg 0
  have hpn := fun (W : World) (p : Option Addr) => ptr_nil W p
  have CL := Aside0.mk (cursorLeft_calls w g h A c bs at_ bad R)
  simp only [List.getElem?_toArray, List.getElem?_cons_zero, List.getElem?_cons_succ] at hc0
  clear R
  go_enter Try.func19, Try.ntmps19
  go_wp2_with (go_at_call 29; (with_reducible refine CL.out.mono ?_); rintro e w1 ⟨rfl, ⟨⟨nq, rfl⟩⟩⟩)
  go_ret
  exact ⟨rfl, by repeat (first | exact Drawn0.refl _ | apply Drawn0.step)⟩
set_option maxHeartbeats 8000000 in
set_option maxRecDepth 100000 in
theorem readerErr_calls (w : World) (g h : Nat) (A : Option Addr) (c : Nat) (bs : List Int) (at_ : Nat) (bad : Int) (R : RD w g h A c bs at_ bad) :
    Calls Try.prog 23 #[.pointer (some ⟨g, 0, none⟩)] w fun e w' => e = .returned (.int .i64 bad) ∧ w = w' := by
  have hc1 := blk_cell R.hg 1
  have hpn := fun (W : World) (p : Option Addr) => ptr_nil W p
  simp only [List.getElem?_toArray, List.getElem?_cons_zero, List.getElem?_cons_succ] at hc1
  clear R
  go_enter Try.func23, Try.ntmps23
  go_wp2
  go_ret
  exact ⟨rfl, rfl⟩
def rEnd (bs : List Int) (at_ : Nat) (bad : Int) : Int := if bad ≠ 0 then bad else if bs.length = at_ then 0 else 43
set_option maxHeartbeats 8000000 in
set_option maxRecDepth 100000 in
theorem readerEnd_calls (w : World) (g h : Nat) (A : Option Addr) (c : Nat) (bs : List Int) (at_ : Nat) (bad : Int) (R : RD w g h A c bs at_ bad) :
    Calls Try.prog 20 #[.pointer (some ⟨g, 0, none⟩)] w fun e w' => e = .returned (.int .i64 (rEnd bs at_ bad)) ∧ Drawn0 w w' := by
  have CE := Aside0.mk (readerErr_calls w g h A c bs at_ bad R)
  have CL := Aside0.mk (readerLeft_calls w g h A c bs at_ bad R)
  have hat := R.hat
  unfold rEnd
  by_cases hb : bad = 0
  · subst hb
    rw [if_neg (by simp)]
    clear R
    by_cases hl : bs.length = at_
    · rw [if_pos hl]
      have h1 : (((bs.length : Int) - at_) == 0) = true := beq_iff_eq.2 (by omega)
      replace hl := Aside0.mk hl
      go_enter Try.func20, Try.ntmps20
      go_wp2_with (first | (go_at_call 23; (with_reducible refine CE.out.mono ?_); rintro e w1 ⟨rfl, rfl⟩) | (go_at_call 19; (with_reducible refine CL.out.mono ?_); rintro e w1 ⟨rfl, ⟨⟨nq, rfl⟩⟩⟩))
      go_ret
      exact ⟨rfl, by repeat (first | exact Drawn0.refl _ | apply Drawn0.step)⟩
    · rw [if_neg hl]
      have h1 : (((bs.length : Int) - at_) == 0) = false := beq_eq_false_iff_ne.2 (by omega)
      replace hl := Aside0.mk hl
      go_enter Try.func20, Try.ntmps20
      go_wp2_with (first | (go_at_call 23; (with_reducible refine CE.out.mono ?_); rintro e w1 ⟨rfl, rfl⟩) | (go_at_call 19; (with_reducible refine CL.out.mono ?_); rintro e w1 ⟨rfl, ⟨⟨nq, rfl⟩⟩⟩))
      go_ret
      exact ⟨rfl, by repeat (first | exact Drawn0.refl _ | apply Drawn0.step)⟩
  · rw [if_pos hb]
    have hb1 : (bad != 0) = true := bne_iff_ne.2 hb
    replace hb := Aside0.mk hb
    clear R CL
    go_enter Try.func20, Try.ntmps20
    go_wp2_with (go_at_call 23; (with_reducible refine CE.out.mono ?_); rintro e w1 ⟨rfl, rfl⟩)
    go_ret
    exact ⟨rfl, by repeat (first | exact Drawn0.refl _ | apply Drawn0.step)⟩

end Go.Proofs.Ytbepmlgpapdnpaa.PX
