/- The law PackForms returns, and answers true, for every call. -/
import Derived.Test.YtpoakneeceaooaaVC1
import Derived.Test.YtpoakneeceaooaaVP1
import Derived.Test.YtpoakneeceaooaaVX2
import Derived.Test.YtpoakneeceaooaaRows
import Derived.WalkKit
import Derived.ProofKit
import Derived.OpenShut
import Derived.ChangeOld
import Derived.Carry
import Derived.Below
import Derived.SizedLaws
import Derived.Deep.CondSized
set_option linter.unusedVariables false
set_option linter.unusedSimpArgs false
namespace Go.Proofs.Ytpoakneeceaooaa.packForms
open Go.ChangeShapes Go.WideShapes Go.ChangeAt Go.RowKit Go.Proofs.Ytpoakneeceaooaa.VX
set_option linter.unusedVariables false
set_option maxRecDepth 100000
theorem own : ownKnob Try.prog.godebug = none := by kernel_rfl
theorem laidOut : laidOutB Try.prog = true := by kernel_rfl
theorem bds {n : Int} (h : (Lit.int .i64 n).wf = true) : -9223372036854775808 ≤ n ∧ n ≤ 9223372036854775807 := by
  simp only [Lit.wf, Bool.and_eq_true, decide_eq_true_eq] at h
  have h2 := h
  exact ⟨h2.1, h2.2⟩
theorem bdy {n : Int} (h : (Lit.int .u8 n).wf = true) : 0 ≤ n ∧ n ≤ 255 := by
  simp only [Lit.wf, Bool.and_eq_true, decide_eq_true_eq] at h
  have h2 := h
  exact ⟨h2.1, h2.2⟩
theorem struct_agg {W : World} {base : Nat} {t : TypeId} {v : Value} {fs : Array Field} (hu : Try.prog.underlying t = some (.struct fs)) (h : Value.okWide Try.prog W .any base t v) : ∃ cs, v = .agg cs := by
  unfold Value.okWide at h
  rw [hu] at h
  obtain ⟨cs, h, _⟩ := h
  exact ⟨cs, h⟩
theorem slice_val {W : World} {base : Nat} {t e : TypeId} {v : Value} (hu : Try.prog.underlying t = some (.slice e)) (h : Value.okWide Try.prog W .any base t v) : v.cells = #[v] := by
  unfold Value.okWide at h
  rw [hu] at h
  unfold Cell.okWide Cell.ok at h
  rw [hu] at h
  cases v <;> first | rfl | (simp at h; done)
/-- Parameter 0, opened. -/
theorem open_0 {W : World} {v : Value} (hv : v.cells = #[v]) (h : ∃ ck, ckOf Go.Proofs.Ytpoakneeceaooaa.V09.tab 28 = some ck ∧ Opens Go.Proofs.Ytpoakneeceaooaa.V09.tab W (fun e => 140737488351232 / Try.prog.bytesOf e) ck v.cells.toList) :
    ∃ (n_0_0 : Bool) (l_0_0 : Rws), fmF (bytesF) (.sl n_0_0 0 l_0_0) ∧ ∀ C : Cx, (∀ b, ¬ C.F b) → RpS Go.Proofs.Ytpoakneeceaooaa.V09.tab C (stOf []) W (.sl n_0_0 5 l_0_0) v := by
  obtain ⟨ck, hck, hop⟩ := h
  have e : ckOf Go.Proofs.Ytpoakneeceaooaa.V09.tab 28 = some [.sl 5] := rfl
  rw [e] at hck
  injection hck with hck
  subst hck
  obtain ⟨xs, hl, hw, hrep⟩ := hop.args
  match xs, hl with
  | [x0], _ =>
    have w_0_0 := hw 0 _ _ rfl rfl
    obtain ⟨n_0_0, l_0_0, _, rfl, _⟩ := wf_sl w_0_0
    have h_0_0 := wf_fmF (bytesF) (by kernel_rfl) w_0_0
    refine ⟨n_0_0, l_0_0, h_0_0, fun C hF => ?_⟩
    · have := hrep C hF
      rw [hv] at this
      exact this.1
theorem lifted (os : Os) (started : os.Started) (H : Type) (enc : TypeId × Value → H) :
    ReturnsInHanded {} Try.checked os 6 .any (Rows.packFormsSpec.pre6 enc Try.prog Try.f6 Rows.packFormsRow.domain false) (Rows.packFormsSpec.post enc Try.prog Try.f6 false true false false) := by
  refine returnsInHanded_of_change_sized (C := Try.checked) own started (by kernel_rfl) Try.func6
    (ChangeSpec.witness6 (enc := enc) (C := Try.checked) false ⟨#[], #[.slice none 0 0], []⟩ 8 (by kernel_rfl) (by kernel_rfl) (by kernel_rfl) (by kernel_rfl)) ?_
  intro W base args ds gs before hval0 hW hcnd hsz0 _
  have hval : ∀ (j : Nat) t v, Try.f6.params[j]? = some t → args[j]? = some v → Value.okWide Try.prog W .any base t v := hval0
  have hW' := hW
  obtain ⟨p, q, hA0, hV, rfl, hfz, hnd⟩ := hW
  have hA : DataW.TrodAll enc Try.prog W 0 (fun _ => true) true Try.f6.params.toList args.toList ds p := hA0
  rw [Try.params6] at hA hval
  obtain ⟨v0, vs0, d0, ds0, p0, q0, hargs0, rfl, rfl, g0, r0⟩ := trodAll_cons hA
  obtain ⟨rfl, rfl, rfl⟩ := trodAll_nil r0
  obtain rfl : args = #[v0] := by cases args; simp_all
  obtain ⟨rfl, rfl⟩ := trodVars_none hV
  have k0 := g0
  have lt0 : ∀ x ∈ p0, x.block < W.heap.size := by obtain ⟨m, hm⟩ := k0; exact DataW.trod_lt m _ _ _ hm
  obtain ⟨n_0_0, l_0_0, h_0_0, hrep0⟩ := open_0 (slice_val Try.underlying28 (hval 0 28 v0 rfl rfl)) (open_arg (reachSz Try.prog) (D := 6) (T := Go.Proofs.Ytpoakneeceaooaa.V09.tab) (by kernel_rfl) g0 (fun x hx => by
    have hz := List.all_eq_true.1 hsz0 x
    exact of_decide_eq_true (hz (weightsEach_get (i := 0) (t := 28) (d := d0) (by rw [Try.params6]; rfl) rfl x hx))))
  clear hA0 hval0
  refine (ACalls.run (b := true) (vals := [v0]) (Go.Proofs.Ytpoakneeceaooaa.V09.c_law09_PackForms (Q := fun b => b = true) (g_law09_PackForms_ok' h_0_0 rfl) (fun r q => by rw [q])) (fun C hF => ⟨hrep0 C hF, trivial⟩)).mono fun e W' ⟨he, bel⟩ => ?_
  subst he
  exact ⟨_, rfl, _, _, _, [], _, [], hW', trodAll_mk1 (shut_bool Try.underlying4 _), (trodAll_cons_mk (Below.trod laidOut (by kernel_rfl) (of_decide_eq_true (by kernel_rfl)) k0 bel lt0) trodAll_mk0), rfl, bel.frame _, fun h => by cases h⟩
theorem over : Rows.packFormsRow.holds Try.pinned (OpenSpec.ofChange Rows.packFormsSpec) :=
  OpenClaim.holds_of_wide 6 Try.f6 rfl rfl rfl rfl rfl rfl rfl ⟨rfl, rfl, rfl, rfl, rfl⟩ rfl rfl rfl rfl rfl (by kernel_rfl) Try.func6 (by kernel_rfl)
    (of_decide_eq_true (by kernel_rfl)) (by unfold Func.isWrapper; first | (rw [if_pos (by decide +kernel)]; kernel_rfl) | (rw [if_neg (by decide +kernel)]; exact ⟨rfl, rfl⟩))
    (fun os started H enc _ => lifted os started H enc)
theorem proved : Rows.PackFormsSaid := over
#print axioms proved
end Go.Proofs.Ytpoakneeceaooaa.packForms
namespace Go.Proofs.Ytpoakneeceaooaa
/-- The row, under a short name, for the claim. -/
theorem packForms_holds : Rows.PackFormsSaid := packForms.proved
end Go.Proofs.Ytpoakneeceaooaa
