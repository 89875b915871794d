/- The law TrimTwice returns, and answers true, for every call. -/
import Derived.Test.YtalchibbmkhkpaaVC0
import Derived.Test.YtalchibbmkhkpaaVP0
import Derived.Test.YtalchibbmkhkpaaVX2
import Derived.Test.YtalchibbmkhkpaaRows
import Derived.WalkKit
import Derived.ProofKit
import Derived.OpenShut
import Derived.ChangeOld
import Derived.Carry
import Derived.Below
import Derived.SizedLaws
import Derived.Deep.CondSized
set_option linter.unusedVariables false
set_option linter.unusedSimpArgs false
namespace Go.Proofs.Ytalchibbmkhkpaa.trimTwice
open Go.ChangeShapes Go.WideShapes Go.ChangeAt Go.RowKit Go.Proofs.Ytalchibbmkhkpaa.VX
set_option linter.unusedVariables false
set_option maxRecDepth 100000
theorem own : ownKnob Try.prog.godebug = none := by kernel_rfl
theorem laidOut : laidOutB Try.prog = true := by kernel_rfl
theorem by47 : 140737488351232 / Try.prog.bytesOf 47 = 676622540150 := by kernel_rfl
theorem by48 : 140737488351232 / Try.prog.bytesOf 48 = 70368744175616 := by kernel_rfl
theorem by21 : 140737488351232 / Try.prog.bytesOf 21 = 35184372087808 := by kernel_rfl
theorem struct_agg {W : World} {base : Nat} {t : TypeId} {v : Value} {fs : Array Field} (hu : Try.prog.underlying t = some (.struct fs)) (h : Value.okWide Try.prog W .any base t v) : ∃ cs, v = .agg cs := by
  unfold Value.okWide at h
  rw [hu] at h
  obtain ⟨cs, h, _⟩ := h
  exact ⟨cs, h⟩
/-- A model, opened. -/
theorem open_model {W : World} {v : Value} {cs : Array Value} (hv : v = .agg cs) (h : ∃ ck, ckOf Go.Proofs.Ytalchibbmkhkpaa.V24.tab 26 = some ck ∧ Opens Go.Proofs.Ytalchibbmkhkpaa.V24.tab W (fun e => 140737488351232 / Try.prog.bytesOf e) ck v.cells.toList) :
    ∃ (a b c lo hi : Int) (nl : Bool) (l : Rws) (out : Int), l.length ≤ 676622540150 ∧ short l ∧ nilOK l ∧ ∀ C : Cx, (∀ b, ¬ C.F b) → RpS Go.Proofs.Ytalchibbmkhkpaa.V24.tab C (stOf []) W (.agg [.int .i64 a, .int .i64 b, .int .i64 c, .int .i64 lo, .int .i64 hi, .sl nl 47 l, .int .i64 out]) v := by
  obtain ⟨ck, hck, hop⟩ := h
  have e : ckOf Go.Proofs.Ytalchibbmkhkpaa.V24.tab 26 = some [.int .i64, .int .i64, .int .i64, .int .i64, .int .i64, .sl 47, .int .i64] := rfl
  rw [e] at hck
  injection hck with hck
  subst hck
  obtain ⟨xs, hl, hw, hrep⟩ := hop.args
  match xs, hl with
  | [x0, x1, x2, x3, x4, x5, x6], _ =>
    obtain ⟨a, rfl, _⟩ := wf_int (hw 0 _ _ rfl rfl)
    obtain ⟨b, rfl, _⟩ := wf_int (hw 1 _ _ rfl rfl)
    obtain ⟨c, rfl, _⟩ := wf_int (hw 2 _ _ rfl rfl)
    obtain ⟨lo, rfl, _⟩ := wf_int (hw 3 _ _ rfl rfl)
    obtain ⟨hi, rfl, _⟩ := wf_int (hw 4 _ _ rfl rfl)
    have h5 := hw 5 _ _ rfl rfl
    obtain ⟨nl, l, cks, rfl, hk, _, hN, hlen, hval⟩ := wf_sl h5
    obtain ⟨out, rfl, _⟩ := wf_int (hw 6 _ _ rfl rfl)
    refine ⟨a, b, c, lo, hi, nl, l, out, (by rw [by47] at hN; exact hN), fun r hr => ⟨?_, ?_⟩, fun r hr => ?_, fun C hF => ?_⟩
    · rw [← by48]; exact wf_row (T := Go.Proofs.Ytalchibbmkhkpaa.V24.tab) (t := 47) (t2 := 48) (j := 12) hk (.inr ⟨nl, h5⟩) (by have : cks = _ := Option.some.inj (hk.symm.trans (rfl : ckOf Go.Proofs.Ytalchibbmkhkpaa.V24.tab 47 = some _)); subst this; rfl) hr
    · rw [← by21]; exact wf_row (T := Go.Proofs.Ytalchibbmkhkpaa.V24.tab) (t := 47) (t2 := 21) (j := 13) hk (.inr ⟨nl, h5⟩) (by have : cks = _ := Option.some.inj (hk.symm.trans (rfl : ckOf Go.Proofs.Ytalchibbmkhkpaa.V24.tab 47 = some _)); subst this; rfl) hr
    · have e1 : cks = _ := Option.some.inj (hk.symm.trans (rfl : ckOf Go.Proofs.Ytalchibbmkhkpaa.V24.tab 47 = some _))
      subst e1
      have hl := hlen r hr
      have g : ∀ (j : Nat) (t2 : TypeId), j < r.length → (some (CK.sl t2) = (Option.getD (ckOf Go.Proofs.Ytalchibbmkhkpaa.V24.tab 47) [])[j]?) → ((r.getD j .dead).toNil = true → (r.getD j .dead).toRows = []) := fun j t2 hj hc => by
        have q := hval r hr j _ _ (List.getElem?_eq_getElem hj) hc.symm
        obtain ⟨b, l', cks', e, _, hb, _⟩ := wf_sl q
        rw [List.getD_eq_getElem?_getD, List.getElem?_eq_getElem hj]
        simp only [Option.getD_some, e]
        exact hb
      exact ⟨g 12 48 (by rw [hl]; decide) rfl, g 13 21 (by rw [hl]; decide) rfl⟩
    · subst hv
      exact ⟨cs, rfl, hrep C hF⟩
set_option maxRecDepth 100000 in
theorem lifted (os : Os) (started : os.Started) (H : Type) (enc : TypeId × Value → H) :
    ReturnsInHanded {} Try.checked os 5 .any (Rows.trimTwiceSpec.pre6 enc Try.prog Try.f5 Rows.trimTwiceRow.domain false) (Rows.trimTwiceSpec.post enc Try.prog Try.f5 false true false false) := by
  refine returnsInHanded_of_change_sized (C := Try.checked) own started (by kernel_rfl) Try.func5
    (ChangeSpec.witness6 (enc := enc) (C := Try.checked) false ⟨#[], #[.agg #[.int .i64 0, .int .i64 0, .int .i64 0, .int .i64 0, .int .i64 0, .slice none 0 0, .int .i64 0]], []⟩ 8 (by kernel_rfl) (by kernel_rfl) (by kernel_rfl) (by kernel_rfl)) ?_
  intro W base args ds gs before hval0 hW hcnd hsz0 _
  have hval : ∀ (j : Nat) t v, Try.f5.params[j]? = some t → args[j]? = some v → Value.okWide Try.prog W .any base t v := hval0
  have hW' := hW
  obtain ⟨p, q, hA0, hV, rfl, hfz, hnd⟩ := hW
  have hA : DataW.TrodAll enc Try.prog W 0 (fun _ => true) true Try.f5.params.toList args.toList ds p := hA0
  rw [Try.params5] at hA hval
  obtain ⟨v0, vs0, d0, ds0, p0, q0, hargs, rfl, rfl, h0, r0⟩ := trodAll_cons hA
  obtain ⟨rfl, rfl, rfl⟩ := trodAll_nil r0
  obtain rfl : args = #[v0] := by cases args; simp_all
  obtain ⟨rfl, rfl⟩ := trodVars_none hV
  have k0 := h0
  have lt0 : ∀ x ∈ p0, x.block < W.heap.size := by obtain ⟨m, hm⟩ := k0; exact DataW.trod_lt m _ _ _ hm
  obtain ⟨cs, hcs⟩ := struct_agg Try.underlying26 (hval 0 26 v0 rfl rfl)
  obtain ⟨a, b, c, lo, hi, nl, l, out, hl, hsh, hni, hrep⟩ := open_model hcs (open_arg (reachSz Try.prog) (D := 4) (T := Go.Proofs.Ytalchibbmkhkpaa.V24.tab) (by kernel_rfl) h0 (fun x hx => by
    have hz := List.all_eq_true.1 hsz0 x
    exact of_decide_eq_true (hz (weightsEach_get (i := 0) (t := 26) (d := d0) (by rw [Try.params5]; rfl) rfl x hx))))
  clear hA0 hval0
  refine (ACalls.run (b := true) (vals := [v0]) (Go.Proofs.Ytalchibbmkhkpaa.V24.c_law24_TrimTwice (Q := fun b => b = true) (g_law24_TrimTwice_ok a b c lo hi nl l out hl hsh hni rfl) (fun r q => by rw [q])) (fun C hF => ⟨hrep C hF, trivial⟩)).mono fun e W' ⟨he, bel⟩ => ?_
  subst he
  exact ⟨_, rfl, _, _, _, [], _, [], hW', trodAll_mk1 (shut_bool Try.underlying4 _), (trodAll_cons_mk (Below.trod laidOut (by kernel_rfl) (of_decide_eq_true (by kernel_rfl)) k0 bel lt0) trodAll_mk0), rfl, bel.frame _, fun h => by cases h⟩
theorem over : Rows.trimTwiceRow.holds Try.pinned (OpenSpec.ofChange Rows.trimTwiceSpec) :=
  OpenClaim.holds_of_wide 5 Try.f5 rfl rfl rfl rfl rfl rfl rfl ⟨rfl, rfl, rfl, rfl, rfl⟩ rfl rfl rfl rfl rfl (by kernel_rfl) Try.func5 (by kernel_rfl)
    (of_decide_eq_true (by kernel_rfl)) (by unfold Func.isWrapper; first | (rw [if_pos (by decide +kernel)]; kernel_rfl) | (rw [if_neg (by decide +kernel)]; exact ⟨rfl, rfl⟩))
    (fun os started H enc _ => lifted os started H enc)
theorem proved : Rows.TrimTwiceSaid := over
#print axioms proved
end Go.Proofs.Ytalchibbmkhkpaa.trimTwice
namespace Go.Proofs.Ytalchibbmkhkpaa
/-- The row, under a short name, for the claim. -/
theorem trimTwice_holds : Rows.TrimTwiceSaid := trimTwice.proved
end Go.Proofs.Ytalchibbmkhkpaa
