/- The law SealDecodes returns, and answers true, for every call. -/
import Derived.Test.YtfekobhcekcniaaVC0
import Derived.Test.YtfekobhcekcniaaVP0
import Derived.Test.YtfekobhcekcniaaVX2
import Derived.Test.YtfekobhcekcniaaRows
import Derived.WalkKit
import Derived.ProofKit
import Derived.OpenShut
import Derived.ChangeOld
import Derived.Carry
import Derived.Below
import Derived.SizedLaws
import Derived.Deep.CondSized
set_option linter.unusedVariables false
set_option linter.unusedSimpArgs false
namespace Go.Proofs.Ytfekobhcekcniaa.sealDecodes
open Go.ChangeShapes Go.WideShapes Go.ChangeAt Go.RowKit Go.Proofs.Ytfekobhcekcniaa.VX
set_option linter.unusedVariables false
theorem own : ownKnob Try.prog.godebug = none := by kernel_rfl
theorem laidOut : laidOutB Try.prog = true := by kernel_rfl
theorem by43 : 140737488351232 / Try.prog.bytesOf 43 = 8796093021952 := by kernel_rfl
theorem by44 : 140737488351232 / Try.prog.bytesOf 44 = 5864062014634 := by kernel_rfl
theorem by46 : 140737488351232 / Try.prog.bytesOf 46 = 2932031007317 := by kernel_rfl
theorem num_of {n : Nat} {l : Rws} {N : TypeId → Nat} (hlen : ∀ e ∈ l, e.length = n) (h : ∀ e ∈ l, ∀ (j : Nat) (x : AV), e[j]? = some x → j < n → Wf Go.Proofs.Ytfekobhcekcniaa.V16.tab N (.int .i64) x) : num l := fun r hr j => by
  unfold cI
  by_cases hj : j < r.length
  · rw [List.getD_eq_getElem?_getD, List.getElem?_eq_getElem hj, Option.getD_some]
    obtain ⟨n, e, h1, h2⟩ := wf_int (h r hr j r[j] (List.getElem?_eq_getElem hj) (by rw [← hlen r hr]; exact hj))
    rw [e]
    exact ⟨h1, h2⟩
  · rw [List.getD_eq_getElem?_getD, List.getElem?_eq_none (Nat.le_of_not_lt hj)]
    simp [in64, AV.toInt]
theorem struct_agg {W : World} {base : Nat} {t : TypeId} {v : Value} {fs : Array Field} (hu : Try.prog.underlying t = some (.struct fs)) (h : Value.okWide Try.prog W .any base t v) : ∃ cs, v = .agg cs := by
  unfold Value.okWide at h
  rw [hu] at h
  obtain ⟨cs, h, _⟩ := h
  exact ⟨cs, h⟩
/-- A certificate, opened. -/
theorem open_cert {W : World} {v : Value} {cs : Array Value} (hv : v = .agg cs) (h : ∃ ck, ckOf Go.Proofs.Ytfekobhcekcniaa.V16.tab 25 = some ck ∧ Opens Go.Proofs.Ytfekobhcekcniaa.V16.tab W (fun e => 140737488351232 / Try.prog.bytesOf e) ck v.cells.toList) :
    ∃ (n1 : Bool) (sp : Rws) (n2 : Bool) (pl : Rws), num sp ∧ (∀ r ∈ pl, num (cR r 0)) ∧ sp.length * 16 ≤ 140737488355328 ∧ pl.length * 24 ≤ 140737488355328 ∧ (∀ r ∈ pl, (cR r 0).length * 48 ≤ 140737488355328) ∧
      ∀ C : Cx, (∀ b, ¬ C.F b) → RpS Go.Proofs.Ytfekobhcekcniaa.V16.tab C (stOf []) W (.agg [.sl n1 43 sp, .sl n2 44 pl]) v := by
  obtain ⟨ck, hck, hop⟩ := h
  have e : ckOf Go.Proofs.Ytfekobhcekcniaa.V16.tab 25 = some [.sl 43, .sl 44] := rfl
  rw [e] at hck
  injection hck with hck
  subst hck
  obtain ⟨xs, hl, hw, hrep⟩ := hop.args
  match xs, hl with
  | [x0, x1], _ =>
    obtain ⟨n1, sp, cks, rfl, hk, _, hN, hlen, hval⟩ := wf_sl (hw 0 _ _ rfl rfl)
    obtain ⟨n2, pl, cks2, rfl, hk2, _, hN2, hlen2, hval2⟩ := wf_sl (hw 1 _ _ rfl rfl)
    have hk : cks = [.int .i64, .int .i64] := Option.some.inj (hk.symm.trans rfl)
    have hk2 : cks2 = [.sl 46] := Option.some.inj (hk2.symm.trans rfl)
    subst hk hk2
    rw [by43] at hN
    rw [by44] at hN2
    have row : ∀ r ∈ pl, ∃ n3 l, r = [.sl n3 0 l] ∧ l.length ≤ 2932031007317 ∧ num l := fun r hr => by
      have h1 := hlen2 r hr
      match r, h1 with
      | [x], _ =>
        obtain ⟨n3, l, cks3, rfl, hk3, _, hN3, hlen3, hval3⟩ := wf_sl (hval2 _ hr 0 _ _ rfl rfl)
        have hk3 : cks3 = [.int .i64, .int .i64, .int .i64, .int .i64, .int .i64, .int .i64] := Option.some.inj (hk3.symm.trans rfl)
        subst hk3
        rw [by46] at hN3
        exact ⟨n3, l, rfl, hN3, num_of (fun e he => hlen3 e he) (fun e he j x hx hj => hval3 e he j x (.int .i64) hx (by match j, hj with | 0, _ => rfl | 1, _ => rfl | 2, _ => rfl | 3, _ => rfl | 4, _ => rfl | 5, _ => rfl))⟩
    refine ⟨n1, sp, n2, pl, num_of (fun e he => hlen e he) (fun e he j x hx hj => hval e he j x (.int .i64) hx (by match j, hj with | 0, _ => rfl | 1, _ => rfl)), fun r hr => ?_, by omega, by omega, fun r hr => ?_, fun C hF => ?_⟩
    · obtain ⟨n3, l, rfl, _, h⟩ := row r hr
      exact h
    · obtain ⟨n3, l, rfl, h, _⟩ := row r hr
      show l.length * 48 ≤ _
      omega
    · subst hv
      exact ⟨cs, rfl, hrep C hF⟩
theorem by5 : 140737488351232 / Try.prog.bytesOf 5 = 140737488351232 := by kernel_rfl
theorem slice_val {W : World} {base : Nat} {t e : TypeId} {v : Value} (hu : Try.prog.underlying t = some (.slice e)) (h : Value.okWide Try.prog W .any base t v) : v.cells = #[v] := by
  unfold Value.okWide at h
  rw [hu] at h
  unfold Cell.okWide Cell.ok at h
  rw [hu] at h
  cases v <;> first | rfl | (simp at h; done)
/-- Bytes, opened. -/
theorem open_bytes {W : World} {v : Value} (hv : v.cells = #[v]) (h : ∃ ck, ckOf Go.Proofs.Ytfekobhcekcniaa.V16.tab 27 = some ck ∧ Opens Go.Proofs.Ytfekobhcekcniaa.V16.tab W (fun e => 140737488351232 / Try.prog.bytesOf e) ck v.cells.toList) :
    ∃ (nl : Bool) (l : Rws), (nl = true → l = []) ∧ byr l ∧ l.length ≤ 140737488351232 ∧ ∀ C : Cx, (∀ b, ¬ C.F b) → RpS Go.Proofs.Ytfekobhcekcniaa.V16.tab C (stOf []) W (.sl nl 5 l) v := by
  obtain ⟨ck, hck, hop⟩ := h
  have e : ckOf Go.Proofs.Ytfekobhcekcniaa.V16.tab 27 = some [.sl 5] := rfl
  rw [e] at hck
  injection hck with hck
  subst hck
  obtain ⟨xs, hl, hw, hrep⟩ := hop.args
  match xs, hl with
  | [x0], _ =>
    obtain ⟨nl, l, cks, rfl, hk, hnil, hN, hlen, hval⟩ := wf_sl (hw 0 _ _ rfl rfl)
    have hk : cks = [.int .u8] := Option.some.inj (hk.symm.trans rfl)
    subst hk
    rw [by5] at hN
    refine ⟨nl, l, hnil, fun r hr => ?_, hN, fun C hF => ?_⟩
    · have h1 := hlen r hr
      match r, h1 with
      | [x], _ =>
        obtain ⟨n, rfl, h2, h3⟩ := wf_int (hval _ hr 0 _ _ rfl rfl)
        exact ⟨rfl, h2, h3⟩
    · have := hrep C hF
      rw [hv] at this
      exact this.1
set_option maxRecDepth 100000 in
theorem lifted (os : Os) (started : os.Started) (H : Type) (enc : TypeId × Value → H) :
    ReturnsInHanded {} Try.checked os 4 .any (Rows.sealDecodesSpec.pre6 enc Try.prog Try.f4 Rows.sealDecodesRow.domain false) (Rows.sealDecodesSpec.post enc Try.prog Try.f4 false true false false) := by
  refine returnsInHanded_of_change_sized (C := Try.checked) own started (by kernel_rfl) Try.func4
    (ChangeSpec.witness6 (enc := enc) (C := Try.checked) false ⟨#[], #[.slice none 0 0], []⟩ 8 (by kernel_rfl) (by kernel_rfl) (by kernel_rfl) (by kernel_rfl)) ?_
  intro W base args ds gs before hval0 hW hcnd hsz0 _
  have hval : ∀ (j : Nat) t v, Try.f4.params[j]? = some t → args[j]? = some v → Value.okWide Try.prog W .any base t v := hval0
  have hW' := hW
  obtain ⟨p, q, hA0, hV, rfl, hfz, hnd⟩ := hW
  have hA : DataW.TrodAll enc Try.prog W 0 (fun _ => true) true Try.f4.params.toList args.toList ds p := hA0
  rw [Try.params4] at hA hval
  obtain ⟨v0, vs0, d0, ds0, p0, q0, hargs, rfl, rfl, h0, r0⟩ := trodAll_cons hA
  obtain ⟨rfl, rfl, rfl⟩ := trodAll_nil r0
  obtain rfl : args = #[v0] := by cases args; simp_all
  obtain ⟨rfl, rfl⟩ := trodVars_none hV
  have k0 := h0
  have lt0 : ∀ x ∈ p0, x.block < W.heap.size := by obtain ⟨m, hm⟩ := k0; exact DataW.trod_lt m _ _ _ hm
  obtain ⟨n3, l, hnil, hbr, hln, hrep1⟩ := open_bytes (slice_val Try.underlying27 (hval 0 27 v0 rfl rfl)) (open_arg (reachSz Try.prog) (D := 4) (T := Go.Proofs.Ytfekobhcekcniaa.V16.tab) (by kernel_rfl) h0 (fun x hx => by
    have hz := List.all_eq_true.1 hsz0 x
    exact of_decide_eq_true (hz (weightsEach_get (i := 0) (t := 27) (d := d0) (by rw [Try.params4]; rfl) rfl x hx))))
  clear hA0 hval0
  refine (ACalls.run (b := true) (vals := [v0]) (Go.Proofs.Ytfekobhcekcniaa.V16.c_law16_SealDecodes (Q := fun b => b = true) (g_law16_SealDecodes_ok n3 l hbr.byt hln hnil) (fun r q => by rw [q])) (fun C hF => ⟨hrep1 C hF, trivial⟩)).mono fun e W' ⟨he, bel⟩ => ?_
  subst he
  exact ⟨_, rfl, _, _, _, [], _, [], hW', trodAll_mk1 (shut_bool Try.underlying4 _), (trodAll_cons_mk (Below.trod laidOut (by kernel_rfl) (of_decide_eq_true (by kernel_rfl)) k0 bel lt0) trodAll_mk0), rfl, bel.frame _, fun h => by cases h⟩
theorem over : Rows.sealDecodesRow.holds Try.pinned (OpenSpec.ofChange Rows.sealDecodesSpec) :=
  OpenClaim.holds_of_wide 4 Try.f4 rfl rfl rfl rfl rfl rfl rfl ⟨rfl, rfl, rfl, rfl, rfl⟩ rfl rfl rfl rfl rfl (by kernel_rfl) Try.func4 (by kernel_rfl)
    (of_decide_eq_true (by kernel_rfl)) (by unfold Func.isWrapper; first | (rw [if_pos (by decide +kernel)]; kernel_rfl) | (rw [if_neg (by decide +kernel)]; exact ⟨rfl, rfl⟩))
    (fun os started H enc _ => lifted os started H enc)
theorem proved : Rows.SealDecodesSaid := over
#print axioms proved
end Go.Proofs.Ytfekobhcekcniaa.sealDecodes
namespace Go.Proofs.Ytfekobhcekcniaa
/-- The row, under a short name, for the claim. -/
theorem sealDecodes_holds : Rows.SealDecodesSaid := sealDecodes.proved
end Go.Proofs.Ytfekobhcekcniaa
