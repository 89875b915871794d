-- by this session's xprint.py over the kit's print
import Derived.Test.YtbepmlgpapdnpaaPX0
namespace Go.Proofs.Ytbepmlgpapdnpaa.PX
open Go.RowKit Go.Proofs.YtbepmlgpapdnpaaW.PrintWords Go.Proofs.YtbepmlgpapdnpaaW.PrintLast Go.Proofs.YtbepmlgpapdnpaaW.PrintMore
attribute [local go_sem] max2_int min2_int max_two min_two max_three min_three max_four min_four   -- for this text's walks alone
set_option linter.unusedVariables false
set_option linter.unusedSimpArgs false

/-! ### groww: function 33 -/
theorem own_slice' {α : Type} {d : Kd α} {e : Nat} {w : World} {base : Nat} {ok : Nat → Prop} {v : Value} {xs : List α} (h : d.R e w base ok v xs) : ∃ A c, v = .slice A xs.length c ∧ xs.length ≤ c := by
  obtain ⟨A, c, h1, h2, _⟩ := Kd.R_reads h
  exact ⟨A, c, h1, h2⟩

set_option maxHeartbeats 8000000 in
set_option maxRecDepth 100000 in
theorem grow0_u8 (n : Int) (w : World) (h0 : 0 ≤ n) (h1 : n ≤ 140737488355327) :
    Calls Try.prog 33 #[.slice none 0 0, .int .i64 n] w fun e w' => ∃ v : Value, e = .returned v ∧ Kd.R (Kd.int .u8) 5 w' w.heap.size (fun _ => True) v [] ∧ Below w.heap.size w w' := by
  by_cases hn : 0 < n
  · have HB := Aside0.mk (Below.refl w.heap.size w)
    have H1 := Aside0.mk h1
    obtain ⟨i0, hi0, hi1⟩ := Option.map_eq_some_iff.1 info5
    have hi2 : i0.size = 1 := by simp only [Prod.mk.injEq] at hi1; exact hi1.2.1
    replace hi0 := Aside0.mk hi0
    replace hi2 := Aside0.mk hi2
    clear hi1
    go_enter Try.func33, Try.ntmps33
    go_wp2_with (at_builtin; (refine Kd.R_append_zeros (Kd.int .u8) (w0 := w) w.heap.size rfl (.tmp 20) (.tmp 21) 22 3 5 (.int .u8 0) 1 rfl Try.underlying22 Try.underlying3 info5 rfl (by decide) (by omega) (.slice none 0 0) [] 0 n (fun _ => True) rfl rfl rfl ?aF ?aO h0 ?aB ?aS ?aL ?_); (case aF => exact fun _ _ => trivial); (case aO => exact Kd.R_nil _ _ _ _ _); (case aB => exact HB.out); (case aS => exact Nat.le_refl _); (case aL => have := H1.out; simp; omega); intro v w2 ho hb hg hat; obtain ⟨A, c, rfl, hc⟩ := own_slice' ho; have hz := cut_to (P := Try.prog) 22 5 .i64 Try.underlying22 hi0.out A _ c 0 (Int.le_refl _) (by omega) hc; replace ho := Aside0.mk ho; replace hb := Aside0.mk hb; clear hg hat hc)
    go_ret
    refine ⟨_, rfl, ?_, hb.out⟩
    have := Kd.R_take ho.out (m := 0) (by omega)
    simpa using this
  · obtain rfl : n = 0 := by omega
    go_enter Try.func33, Try.ntmps33
    go_wp2
    go_ret
    exact ⟨_, rfl, Kd.R_nil _ _ _ _ _, Below.refl _ _⟩

end Go.Proofs.Ytbepmlgpapdnpaa.PX
