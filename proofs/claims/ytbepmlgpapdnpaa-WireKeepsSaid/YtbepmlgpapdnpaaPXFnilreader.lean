-- by this session's xprint.py over the kit's print
import Derived.Test.YtbepmlgpapdnpaaPX0
import Derived.Test.YtbepmlgpapdnpaaPXFtake
namespace Go.Proofs.Ytbepmlgpapdnpaa.PX
open Go.RowKit Go.Proofs.YtbepmlgpapdnpaaW.PrintWords Go.Proofs.YtbepmlgpapdnpaaW.PrintLast Go.Proofs.YtbepmlgpapdnpaaW.PrintMore
attribute [local go_sem] max2_int min2_int max_two min_two max_three min_three max_four min_four   -- for this text's walks alone
set_option linter.unusedVariables false
set_option linter.unusedSimpArgs false

/-! ### nilreader: function 21 -/
set_option maxHeartbeats 8000000 in
set_option maxRecDepth 100000 in
theorem takeNil_calls (w : World) (top : Int) :
    Calls Try.prog 28 #[.pointer none, .int .u64 top] w fun e w' => e = .returned (.int .u64 0) ∧ Drawn0 w w' := by
  have hpn := fun (W : World) (p : Option Addr) => ptr_nil W p
  go_enter Try.func28, Try.ntmps28
  go_wp2
  go_ret
  exact ⟨rfl, by repeat (first | exact Drawn0.refl _ | apply Drawn0.step)⟩
set_option maxHeartbeats 8000000 in
set_option maxRecDepth 100000 in
theorem readerUNil_calls (w : World) :
    Calls Try.prog 17 #[.pointer none] w fun e w' => e = .returned (.int .u64 0) ∧ Drawn0 w w' := by
  go_enter Try.func17, Try.ntmps17
  go_wp2_with (go_at_call 28; (with_reducible refine (takeNil_calls _ _).mono ?_); rintro e w1 ⟨rfl, ⟨⟨nq, rfl⟩⟩⟩)
  go_ret
  exact ⟨rfl, by repeat (first | exact Drawn0.refl _ | apply Drawn0.step)⟩
set_option maxHeartbeats 8000000 in
set_option maxRecDepth 100000 in
theorem readerSNil_calls (w : World) :
    Calls Try.prog 18 #[.pointer none] w fun e w' => e = .returned (.int .i64 0) ∧ Drawn0 w w' := by
  go_enter Try.func18, Try.ntmps18
  go_wp2_with (go_at_call 28; (with_reducible refine (takeNil_calls _ _).mono ?_); rintro e w1 ⟨rfl, ⟨⟨nq, rfl⟩⟩⟩)
  go_ret
  exact ⟨ret_int (by first | rfl | kernel_rfl), by repeat (first | exact Drawn0.refl _ | apply Drawn0.step)⟩
set_option maxHeartbeats 8000000 in
set_option maxRecDepth 100000 in
theorem readerN5Nil_calls (w : World) :
    Calls Try.prog 24 #[.pointer none, .int .i64 5] w fun e w' => e = .returned (.int .i64 0) ∧ Drawn0 w w' := by
  go_enter Try.func24, Try.ntmps24
  go_wp2_with (go_at_call 28; (with_reducible refine (takeNil_calls _ _).mono ?_); rintro e w1 ⟨rfl, ⟨⟨nq, rfl⟩⟩⟩)
  go_ret
  exact ⟨rfl, by repeat (first | exact Drawn0.refl _ | apply Drawn0.step)⟩
set_option maxHeartbeats 8000000 in
set_option maxRecDepth 100000 in
theorem readerLeftNil_calls (w : World) :
    Calls Try.prog 19 #[.pointer none] w fun e w' => e = .returned (.int .i64 0) ∧ Drawn0 w w' := by
  have hpn := fun (W : World) (p : Option Addr) => ptr_nil W p
  go_enter Try.func19, Try.ntmps19
  go_wp2
  go_ret
  exact ⟨rfl, by repeat (first | exact Drawn0.refl _ | apply Drawn0.step)⟩
set_option maxHeartbeats 8000000 in
set_option maxRecDepth 100000 in
theorem readerErrNil_calls (w : World) :
    Calls Try.prog 23 #[.pointer none] w fun e w' => e = .returned (.int .i64 1) ∧ Drawn0 w w' := by
  have hpn := fun (W : World) (p : Option Addr) => ptr_nil W p
  go_enter Try.func23, Try.ntmps23
  go_wp2
  go_ret
  exact ⟨rfl, by repeat (first | exact Drawn0.refl _ | apply Drawn0.step)⟩
set_option maxHeartbeats 8000000 in
set_option maxRecDepth 100000 in
theorem readerEndNil_calls (w : World) :
    Calls Try.prog 20 #[.pointer none] w fun e w' => e = .returned (.int .i64 1) ∧ Drawn0 w w' := by
  go_enter Try.func20, Try.ntmps20
  go_wp2_with (go_at_call 23; (with_reducible refine (readerErrNil_calls _).mono ?_); rintro e w1 ⟨rfl, ⟨⟨nq, rfl⟩⟩⟩)
  go_ret
  exact ⟨rfl, by repeat (first | exact Drawn0.refl _ | apply Drawn0.step)⟩

end Go.Proofs.Ytbepmlgpapdnpaa.PX
