-- by this session's xprint.py over the kit's print
import Derived.Test.YtbepmlgpapdnpaaPX0
import Derived.Test.YtbepmlgpapdnpaaPXFgroww
import Derived.Test.YtbepmlgpapdnpaaPXFspillwaylaw04fixed
import Derived.Test.YtbepmlgpapdnpaaPXFjoinedn
namespace Go.Proofs.Ytbepmlgpapdnpaa.PX
open Go.RowKit Go.Proofs.YtbepmlgpapdnpaaW.PrintWords Go.Proofs.YtbepmlgpapdnpaaW.PrintLast Go.Proofs.YtbepmlgpapdnpaaW.PrintMore
attribute [local go_sem] max2_int min2_int max_two min_two max_three min_three max_four min_four   -- for this text's walks alone
set_option linter.unusedVariables false
set_option linter.unusedSimpArgs false

/-! ### roomy: function 8 -/
def marks : List Int := [91, 92, 93, 94, 95, 96, 97, 98, 99, 90, 91, 92]
theorem C_pre {α : Type} {d : Kd α} {w : World} {A : Option Addr} {n : Nat} {l m : List α} (h : d.C w A n (l ++ m)) : d.C w A l.length l := by
  have h1 := h.1
  rw [List.length_append] at h1
  refine ⟨rfl, by have := h.2.1; omega, fun hn => ?_⟩
  obtain ⟨ad, e, hc⟩ := h.2.2 (by omega)
  exact ⟨ad, e, fun j p hj => hc j p (by rw [List.getElem?_append_left (List.getElem?_eq_some_iff.1 hj).1]; exact hj)⟩
set_option maxHeartbeats 8000000 in
set_option maxRecDepth 100000 in
theorem roomy_calls (w : World) (A0 : Option Addr) (c0 : Nat) (l0 : List Int) (hr0 : (Kd.int .u8).C w A0 l0.length l0) (hc0 : l0.length ≤ c0) (hL : l0.length + 12 < 140737488355328) :
    Calls Try.prog 8 #[.slice A0 l0.length c0] w fun e w' => ∃ g c, e = .returned (.tuple #[.slice (some ⟨g, 0, none⟩) (l0.length + 12) c, .slice (some ⟨g, 0, none⟩) l0.length c]) ∧ Kd.R (Kd.int .u8) 5 w' w.heap.size (fun _ => True) (.slice (some ⟨g, 0, none⟩) (l0.length + 12) c) (l0 ++ marks) ∧ l0.length + 12 ≤ c ∧ Below w.heap.size w w' := by
  obtain ⟨i0, hi0, hi1⟩ := Option.map_eq_some_iff.1 info5
  have hi2 : i0.size = 1 := by simp only [Prod.mk.injEq] at hi1; exact hi1.2.1
  have HI0 := Aside0.mk hi0
  have HI2 := Aside0.mk hi2
  have HR0 := Aside0.mk hr0
  have HC0 := Aside0.mk hc0
  have HL := Aside0.mk hL
  have HB := Aside0.mk (Below.refl w.heap.size w)
  have hlen : (l0 ++ marks).length = l0.length + 12 := by rw [List.length_append]; rfl
  clear hr0 hc0 hi0 hi1 hi2
  go_enter Try.func8, Try.ntmps8
  go_wp2_with (first
    | ((with_reducible refine gate_dst (N := 5) rfl ?_); refine Kd.R_lit (Kd.int .u8) _ 5 ?hg (N := 5) ?hd (xs := ([] : List Int)) (inner := []) (ok := fun _ => True) (okp := fun _ => True) ?hr ?hp (fun _ hk => hk) trivial (Below.refl _ _) (Nat.le_refl _) (by simp) ?_; (case hd => rfl); (case hg => rfl); (case hr => first | (go_simp; done) | (go_simp; rfl)); (case hp => exact (Reps.none _ _)); intro v117 w5 ho6 hb hg_ hnew_; clear hg_ hnew_; have R5 := Aside0.mk (Kd.R_lower ho6 (below_size HB.out)); have B5 := Aside0.mk (below_step HB.out hb); clear HB hb ho6)
    | ((with_reducible refine gate_builtin (b := .append) (xs := #[.tmp 5, .tmp 6]) rfl ?_); at_builtin; refine Kd.R_append_rows (Kd.int .u8) (w0 := w) w.heap.size rfl (.tmp 5) (.tmp 6) 22 5 (.int .u8 0) 1 rfl Try.underlying22 info5 rfl (by decide) (by omega) v117 [] l0 _ _ _ (fun _ => True) (fun _ => False) rfl rfl ?aO ?aR (fun _ _ h => h) (fun _ h => h.elim) ?aF ?aB ?aS ?aL ?_; (case aR => exact Kd.C_below HR0.out B5.out); (case aB => exact B5.out); (case aF => exact (fun _ _ => trivial)); (case aO => exact R5.out); (case aS => exact below_size B5.out); (case aL => have := HL.out; simp; omega); intro v120 w7 ho hb hg hat; rw [List.nil_append] at ho; have R7 := Aside0.mk ho; have B7 := Aside0.mk hb; clear R5 B5 ho hb hg hat)
    | ((with_reducible refine gate_builtin (b := .append) (xs := #[.tmp 7, .tmp 8]) rfl ?_); at_builtin; refine Kd.R_append_rows (Kd.int .u8) (w0 := w) w.heap.size rfl (.tmp 7) (.tmp 8) 22 5 (.int .u8 0) 1 rfl Try.underlying22 info5 rfl (by decide) (by omega) v120 l0 marks _ 12 12 (fun _ => True) (fun _ => False) rfl rfl ?bO ?bR (fun _ _ h => h) (fun _ h => h.elim) ?bF ?bB ?bS ?bL ?_; (case bR => exact lit_u8 _ marks (by decide)); (case bB => exact below_alloc B7.out _); (case bF => exact (fun _ _ => trivial)); (case bO => exact Kd.R_alloc R7.out _); (case bS => exact below_size (below_alloc B7.out _)); (case bL => have := HL.out; omega); intro v123 w8 ho hb hg hat; obtain ⟨A8, c8, rfl, hc8⟩ := own_slice' ho; rw [hlen] at ho hc8 ⊢; have R8 := Aside0.mk ho; have B8 := Aside0.mk hb; clear R7 B7 ho hb hg hat))
  obtain ⟨hk1, _, _⟩ := print_take_int (P := Try.prog) (k := .u8) 22 5 Try.underlying22 HI0.out HI2.out A8 c8 (l0 ++ marks) (l0.length : Int) (by omega) (by omega) (by omega)
  rw [Int.toNat_natCast, List.take_left, hlen] at hk1
  clear hlen
  go_quiet (fail)
  go_wp2_with fail
  go_ret2
  obtain ⟨g, rfl, _, _⟩ := R_addr R8.out (by omega)
  exact ⟨g, c8, rfl, by (with_reducible repeat (first | apply Kd.R_drewN | apply Kd.R_drew)); exact R8.out, hc8, by repeat (first | exact B8.out | apply pw_below_drewN)⟩

end Go.Proofs.Ytbepmlgpapdnpaa.PX
