/- The law TrimSame returns, and answers true, for every call. -/
import Derived.Test.YtalchibbmkhkpaaVC0
import Derived.Test.YtalchibbmkhkpaaVP0
import Derived.Test.YtalchibbmkhkpaaVX2
import Derived.Test.YtalchibbmkhkpaaRows
import Derived.WalkKit
import Derived.ProofKit
import Derived.OpenShut
import Derived.ChangeOld
import Derived.Carry
import Derived.Below
import Derived.SizedLaws
import Derived.Deep.CondSized
set_option linter.unusedVariables false
set_option linter.unusedSimpArgs false
namespace Go.Proofs.Ytalchibbmkhkpaa.trimSame
open Go.ChangeShapes Go.WideShapes Go.ChangeAt Go.RowKit Go.Proofs.Ytalchibbmkhkpaa.VX
set_option maxRecDepth 100000
theorem own : ownKnob Try.prog.godebug = none := by kernel_rfl
theorem laidOut : laidOutB Try.prog = true := by kernel_rfl
theorem bds {n : Int} (h : (Lit.int .i64 n).wf = true) : -9223372036854775808 ≤ n ∧ n ≤ 9223372036854775807 := by
  simp only [Lit.wf, Bool.and_eq_true, decide_eq_true_eq] at h
  have h2 := h
  exact ⟨h2.1, h2.2⟩
theorem bdy {n : Int} (h : (Lit.int .u8 n).wf = true) : 0 ≤ n ∧ n ≤ 255 := by
  simp only [Lit.wf, Bool.and_eq_true, decide_eq_true_eq] at h
  have h2 := h
  exact ⟨h2.1, h2.2⟩
theorem struct_agg {W : World} {base : Nat} {t : TypeId} {v : Value} {fs : Array Field} (hu : Try.prog.underlying t = some (.struct fs)) (h : Value.okWide Try.prog W .any base t v) : ∃ cs, v = .agg cs := by
  unfold Value.okWide at h
  rw [hu] at h
  obtain ⟨cs, h, _⟩ := h
  exact ⟨cs, h⟩
theorem slice_val {W : World} {base : Nat} {t e : TypeId} {v : Value} (hu : Try.prog.underlying t = some (.slice e)) (h : Value.okWide Try.prog W .any base t v) : v.cells = #[v] := by
  unfold Value.okWide at h
  rw [hu] at h
  unfold Cell.okWide Cell.ok at h
  rw [hu] at h
  cases v <;> first | rfl | (simp at h; done)
theorem open_0 {W : World} {v : Value} {cs : Array Value} (hv : v = .agg cs) (h : ∃ ck, ckOf Go.Proofs.Ytalchibbmkhkpaa.V24.tab 26 = some ck ∧ Opens Go.Proofs.Ytalchibbmkhkpaa.V24.tab W (fun e => 140737488351232 / Try.prog.bytesOf e) ck v.cells.toList) :
    ∃ (a_0_0 : Int) (a_0_1 : Int) (a_0_2 : Int) (a_0_3 : Int) (a_0_4 : Int) (n_0_5 : Bool) (l_0_5 : Rws) (a_0_6 : Int), (-9223372036854775808 ≤ a_0_0 ∧ a_0_0 ≤ 9223372036854775807) ∧ (-9223372036854775808 ≤ a_0_1 ∧ a_0_1 ≤ 9223372036854775807) ∧ (-9223372036854775808 ≤ a_0_2 ∧ a_0_2 ≤ 9223372036854775807) ∧ (-9223372036854775808 ≤ a_0_3 ∧ a_0_3 ≤ 9223372036854775807) ∧ (-9223372036854775808 ≤ a_0_4 ∧ a_0_4 ≤ 9223372036854775807) ∧ fmF (opsF) (.sl n_0_5 0 l_0_5) ∧ (-9223372036854775808 ≤ a_0_6 ∧ a_0_6 ≤ 9223372036854775807) ∧ ∀ C : Cx, (∀ b, ¬ C.F b) → RpS Go.Proofs.Ytalchibbmkhkpaa.V24.tab C (stOf []) W (.agg [.int .i64 a_0_0, .int .i64 a_0_1, .int .i64 a_0_2, .int .i64 a_0_3, .int .i64 a_0_4, .sl n_0_5 47 l_0_5, .int .i64 a_0_6]) v := by
  obtain ⟨ck, hck, hop⟩ := h
  have e : ckOf Go.Proofs.Ytalchibbmkhkpaa.V24.tab 26 = some [.int .i64, .int .i64, .int .i64, .int .i64, .int .i64, .sl 47, .int .i64] := rfl
  rw [e] at hck
  injection hck with hck
  subst hck
  obtain ⟨xs, hl, hw, hrep⟩ := hop.args
  match xs, hl with
  | [x0, x1, x2, x3, x4, x5, x6], _ =>
    obtain ⟨a_0_0, rfl, h_0_0⟩ := wf_int (hw 0 _ _ rfl rfl)
    obtain ⟨a_0_1, rfl, h_0_1⟩ := wf_int (hw 1 _ _ rfl rfl)
    obtain ⟨a_0_2, rfl, h_0_2⟩ := wf_int (hw 2 _ _ rfl rfl)
    obtain ⟨a_0_3, rfl, h_0_3⟩ := wf_int (hw 3 _ _ rfl rfl)
    obtain ⟨a_0_4, rfl, h_0_4⟩ := wf_int (hw 4 _ _ rfl rfl)
    have w_0_5 := hw 5 _ _ rfl rfl
    obtain ⟨n_0_5, l_0_5, _, rfl, _⟩ := wf_sl w_0_5
    have h_0_5 := wf_fmF (opsF) (by kernel_rfl) w_0_5
    obtain ⟨a_0_6, rfl, h_0_6⟩ := wf_int (hw 6 _ _ rfl rfl)
    refine ⟨a_0_0, a_0_1, a_0_2, a_0_3, a_0_4, n_0_5, l_0_5, a_0_6, h_0_0, h_0_1, h_0_2, h_0_3, h_0_4, h_0_5, h_0_6, fun C hF => ?_⟩
    · subst hv
      exact ⟨cs, rfl, hrep C hF⟩
theorem open_1 {W : World} {v : Value} (hv : v.cells = #[v]) (h : ∃ ck, ckOf Go.Proofs.Ytalchibbmkhkpaa.V24.tab 52 = some ck ∧ Opens Go.Proofs.Ytalchibbmkhkpaa.V24.tab W (fun e => 140737488351232 / Try.prog.bytesOf e) ck v.cells.toList) :
    ∃ (n_1_0 : Bool) (l_1_0 : Rws), fmF (i8sF) (.sl n_1_0 0 l_1_0) ∧ ∀ C : Cx, (∀ b, ¬ C.F b) → RpS Go.Proofs.Ytalchibbmkhkpaa.V24.tab C (stOf []) W (.sl n_1_0 81 l_1_0) v := by
  obtain ⟨ck, hck, hop⟩ := h
  have e : ckOf Go.Proofs.Ytalchibbmkhkpaa.V24.tab 52 = some [.sl 81] := rfl
  rw [e] at hck
  injection hck with hck
  subst hck
  obtain ⟨xs, hl, hw, hrep⟩ := hop.args
  match xs, hl with
  | [x0], _ =>
    have w_1_0 := hw 0 _ _ rfl rfl
    obtain ⟨n_1_0, l_1_0, _, rfl, _⟩ := wf_sl w_1_0
    have h_1_0 := wf_fmF (i8sF) (by kernel_rfl) w_1_0
    refine ⟨n_1_0, l_1_0, h_1_0, fun C hF => ?_⟩
    · have := hrep C hF
      rw [hv] at this
      exact this.1
theorem lifted (os : Os) (started : os.Started) (H : Type) (enc : TypeId × Value → H) :
    ReturnsInHanded {} Try.checked os 6 .any (Rows.trimSameSpec.pre6 enc Try.prog Try.f6 Rows.trimSameRow.domain false) (Rows.trimSameSpec.post enc Try.prog Try.f6 false true false false) := by
  refine returnsInHanded_of_change_sized (C := Try.checked) own started (by kernel_rfl) Try.func6
    (ChangeSpec.witness6 (enc := enc) (C := Try.checked) false ⟨#[], #[.agg #[.int .i64 0, .int .i64 0, .int .i64 0, .int .i64 0, .int .i64 0, .slice none 0 0, .int .i64 0], .slice none 0 0], []⟩ 8 (by kernel_rfl) (by kernel_rfl) (by kernel_rfl) (by kernel_rfl)) ?_
  intro W base args ds gs before hval0 hW hcnd hsz0 _
  have hval : ∀ (j : Nat) t v, Try.f6.params[j]? = some t → args[j]? = some v → Value.okWide Try.prog W .any base t v := hval0
  have hW' := hW
  obtain ⟨p, q, hA0, hV, rfl, hfz, hnd⟩ := hW
  have hA : DataW.TrodAll enc Try.prog W 0 (fun _ => true) true Try.f6.params.toList args.toList ds p := hA0
  rw [Try.params6] at hA hval
  obtain ⟨v0, vs0, d0, ds0, p0, q0, hargs0, rfl, rfl, g0, r0⟩ := trodAll_cons hA
  obtain ⟨v1, vs1, d1, ds1, p1, q1, hargs1, rfl, rfl, g1, r1⟩ := trodAll_cons r0
  obtain ⟨rfl, rfl, rfl⟩ := trodAll_nil r1
  subst hargs1
  obtain rfl : args = #[v0, v1] := by cases args; simp_all
  obtain ⟨rfl, rfl⟩ := trodVars_none hV
  have k0 := g0
  have lt0 : ∀ x ∈ p0, x.block < W.heap.size := by obtain ⟨m, hm⟩ := k0; exact DataW.trod_lt m _ _ _ hm
  obtain ⟨cs0, hcs0⟩ := struct_agg Try.underlying26 (hval 0 26 v0 rfl rfl)
  obtain ⟨a_0_0, a_0_1, a_0_2, a_0_3, a_0_4, n_0_5, l_0_5, a_0_6, h_0_0, h_0_1, h_0_2, h_0_3, h_0_4, h_0_5, h_0_6, hrep0⟩ := open_0 hcs0 (open_arg (reachSz Try.prog) (D := 6) (T := Go.Proofs.Ytalchibbmkhkpaa.V24.tab) (by kernel_rfl) g0 (fun x hx => by
    have hz := List.all_eq_true.1 hsz0 x
    exact of_decide_eq_true (hz (weightsEach_get (i := 0) (t := 26) (d := d0) (by rw [Try.params6]; rfl) rfl x hx))))
  have k1 := g1
  have lt1 : ∀ x ∈ p1, x.block < W.heap.size := by obtain ⟨m, hm⟩ := k1; exact DataW.trod_lt m _ _ _ hm
  obtain ⟨n_1_0, l_1_0, h_1_0, hrep1⟩ := open_1 (slice_val Try.underlying52 (hval 1 52 v1 rfl rfl)) (open_arg (reachSz Try.prog) (D := 6) (T := Go.Proofs.Ytalchibbmkhkpaa.V24.tab) (by kernel_rfl) g1 (fun x hx => by
    have hz := List.all_eq_true.1 hsz0 x
    exact of_decide_eq_true (hz (weightsEach_get (i := 1) (t := 52) (d := d1) (by rw [Try.params6]; rfl) rfl x hx))))
  clear hA0 hval0
  refine (ACalls.run (b := true) (vals := [v0, v1]) (Go.Proofs.Ytalchibbmkhkpaa.V24.c_law24_TrimSame (Q := fun b => b = true) (g_law24_TrimSame_ok (fm_nums h_0_5).1 (fm_nums h_0_5).2.1 (fm_nil h_0_5) (fm_nums h_0_5).2.2 (fun i => fm_ri (by decide) (fm_sl h_1_0).2.2 i) (fm_sl h_1_0).2.1 (fm_sl h_1_0).1 rfl) (fun r q => by rw [q])) (fun C hF => ⟨hrep0 C hF, hrep1 C hF, trivial⟩)).mono fun e W' ⟨he, bel⟩ => ?_
  subst he
  exact ⟨_, rfl, _, _, _, [], _, [], hW', trodAll_mk1 (shut_bool Try.underlying4 _), (trodAll_cons_mk (Below.trod laidOut (by kernel_rfl) (of_decide_eq_true (by kernel_rfl)) k0 bel lt0) (trodAll_cons_mk (Below.trod laidOut (by kernel_rfl) (of_decide_eq_true (by kernel_rfl)) k1 bel lt1) trodAll_mk0)), rfl, bel.frame _, fun h => by cases h⟩
theorem over : Rows.trimSameRow.holds Try.pinned (OpenSpec.ofChange Rows.trimSameSpec) :=
  OpenClaim.holds_of_wide 6 Try.f6 rfl rfl rfl rfl rfl rfl rfl ⟨rfl, rfl, rfl, rfl, rfl⟩ rfl rfl rfl rfl rfl (by kernel_rfl) Try.func6 (by kernel_rfl)
    (of_decide_eq_true (by kernel_rfl)) (by unfold Func.isWrapper; first | (rw [if_pos (by decide +kernel)]; kernel_rfl) | (rw [if_neg (by decide +kernel)]; exact ⟨rfl, rfl⟩))
    (fun os started H enc _ => lifted os started H enc)
theorem proved : Rows.TrimSameSaid := over
#print axioms proved
end Go.Proofs.Ytalchibbmkhkpaa.trimSame
namespace Go.Proofs.Ytalchibbmkhkpaa
theorem trimSame_holds : Rows.TrimSameSaid := trimSame.proved
end Go.Proofs.Ytalchibbmkhkpaa
