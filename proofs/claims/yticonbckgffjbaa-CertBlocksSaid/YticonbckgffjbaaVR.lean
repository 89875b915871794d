/- The law CertBlocks returns, and answers true, for every call. -/
import Derived.Test.YticonbckgffjbaaVC0
import Derived.Test.YticonbckgffjbaaVP0
import Derived.Test.YticonbckgffjbaaVX2
import Derived.Test.YticonbckgffjbaaRows
import Derived.WalkKit
import Derived.ProofKit
import Derived.OpenShut
import Derived.ChangeOld
import Derived.Carry
import Derived.Below
import Derived.SizedLaws
import Derived.Deep.CondSized
set_option linter.unusedVariables false
set_option linter.unusedSimpArgs false
namespace Go.Proofs.Yticonbckgffjbaa.certBlocks
open Go.ChangeShapes Go.WideShapes Go.ChangeAt Go.RowKit Go.Proofs.Yticonbckgffjbaa.VX
set_option linter.unusedVariables false
set_option maxRecDepth 100000
theorem own : ownKnob Try.prog.godebug = none := by kernel_rfl
theorem laidOut : laidOutB Try.prog = true := by kernel_rfl
theorem bds {n : Int} (h : (Lit.int .i64 n).wf = true) : -9223372036854775808 ≤ n ∧ n ≤ 9223372036854775807 := by
  simp only [Lit.wf, Bool.and_eq_true, decide_eq_true_eq] at h
  have h2 := h
  exact ⟨h2.1, h2.2⟩
theorem bdy {n : Int} (h : (Lit.int .u8 n).wf = true) : 0 ≤ n ∧ n ≤ 255 := by
  simp only [Lit.wf, Bool.and_eq_true, decide_eq_true_eq] at h
  have h2 := h
  exact ⟨h2.1, h2.2⟩
theorem struct_agg {W : World} {base : Nat} {t : TypeId} {v : Value} {fs : Array Field} (hu : Try.prog.underlying t = some (.struct fs)) (h : Value.okWide Try.prog W .any base t v) : ∃ cs, v = .agg cs := by
  unfold Value.okWide at h
  rw [hu] at h
  obtain ⟨cs, h, _⟩ := h
  exact ⟨cs, h⟩
theorem slice_val {W : World} {base : Nat} {t e : TypeId} {v : Value} (hu : Try.prog.underlying t = some (.slice e)) (h : Value.okWide Try.prog W .any base t v) : v.cells = #[v] := by
  unfold Value.okWide at h
  rw [hu] at h
  unfold Cell.okWide Cell.ok at h
  rw [hu] at h
  cases v <;> first | rfl | (simp at h; done)
theorem lifted (os : Os) (started : os.Started) (H : Type) (enc : TypeId × Value → H) :
    ReturnsInHanded {} Try.checked os 5 .any (Rows.certBlocksSpec.pre6 enc Try.prog Try.f5 Rows.certBlocksRow.domain false) (Rows.certBlocksSpec.post enc Try.prog Try.f5 false true false false) := by
  refine returnsInHanded_of_change_sized (C := Try.checked) own started (by kernel_rfl) Try.func5
    (ChangeSpec.witness6 (enc := enc) (C := Try.checked) false ⟨#[], #[.int .i64 0, .int .i64 0], []⟩ 8 (by kernel_rfl) (by kernel_rfl) (by kernel_rfl) (by kernel_rfl)) ?_
  intro W base args ds gs before hval0 hW hcnd hsz0 _
  have hval : ∀ (j : Nat) t v, Try.f5.params[j]? = some t → args[j]? = some v → Value.okWide Try.prog W .any base t v := hval0
  have hW' := hW
  obtain ⟨p, q, hA0, hV, rfl, hfz, hnd⟩ := hW
  have hA : DataW.TrodAll enc Try.prog W 0 (fun _ => true) true Try.f5.params.toList args.toList ds p := hA0
  rw [Try.params5] at hA hval
  obtain ⟨v0, vs0, d0, ds0, p0, q0, hargs0, rfl, rfl, g0, r0⟩ := trodAll_cons hA
  obtain ⟨v1, vs1, d1, ds1, p1, q1, hargs1, rfl, rfl, g1, r1⟩ := trodAll_cons r0
  obtain ⟨rfl, rfl, rfl⟩ := trodAll_nil r1
  subst hargs1
  obtain rfl : args = #[v0, v1] := by cases args; simp_all
  obtain ⟨rfl, rfl⟩ := trodVars_none hV
  obtain ⟨a_0_0, rfl, rfl, rfl, wf_0⟩ := open_int Try.underlying3 (hval 0 3 v0 rfl rfl) g0
  have h_0_0 := bds wf_0
  obtain ⟨a_1_0, rfl, rfl, rfl, wf_1⟩ := open_int Try.underlying3 (hval 1 3 v1 rfl rfl) g1
  have h_1_0 := bds wf_1
  clear hA0 hval0
  refine (ACalls.run (b := true) (vals := [.int .i64 a_0_0, .int .i64 a_1_0]) (Go.Proofs.Yticonbckgffjbaa.V15.c_law15_CertBlocks (Q := fun b => b = true) (g_law15_CertBlocks_ok a_0_0 a_1_0 h_0_0.2 rfl) (fun r q => by rw [q])) (fun C hF => ⟨rfl, rfl, trivial⟩)).mono fun e W' ⟨he, bel⟩ => ?_
  subst he
  exact ⟨_, rfl, _, _, _, [], _, [], hW', trodAll_mk1 (shut_bool Try.underlying4 _), (trodAll_cons_mk (shut_int Try.underlying3 wf_0) (trodAll_cons_mk (shut_int Try.underlying3 wf_1) trodAll_mk0)), rfl, bel.frame _, fun h => by cases h⟩
theorem over : Rows.certBlocksRow.holds Try.pinned (OpenSpec.ofChange Rows.certBlocksSpec) :=
  OpenClaim.holds_of_wide 5 Try.f5 rfl rfl rfl rfl rfl rfl rfl ⟨rfl, rfl, rfl, rfl, rfl⟩ rfl rfl rfl rfl rfl (by kernel_rfl) Try.func5 (by kernel_rfl)
    (of_decide_eq_true (by kernel_rfl)) (by unfold Func.isWrapper; first | (rw [if_pos (by decide +kernel)]; kernel_rfl) | (rw [if_neg (by decide +kernel)]; exact ⟨rfl, rfl⟩))
    (fun os started H enc _ => lifted os started H enc)
theorem proved : Rows.CertBlocksSaid := over
#print axioms proved
end Go.Proofs.Yticonbckgffjbaa.certBlocks
namespace Go.Proofs.Yticonbckgffjbaa
/-- The row, under a short name, for the claim. -/
theorem certBlocks_holds : Rows.CertBlocksSaid := certBlocks.proved
end Go.Proofs.Yticonbckgffjbaa
