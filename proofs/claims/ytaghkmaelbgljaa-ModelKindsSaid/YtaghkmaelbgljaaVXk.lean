/- One operation with an effect; a region's operations. -/
import Derived.Test.YtaghkmaelbgljaaVXj
namespace Go.Proofs.Ytaghkmaelbgljaa.VX
section
variable {P : Program} {T : Tab} {C C' : Cx} {s s' : St} {a : Act} {w w' : World}

theorem all2_app3 {xs1 xs2 xs3 : List AV} {vs1 vs2 vs3 : List Value} (h1 : all2 (RpS T C s w) xs1 vs1) (h2 : all2 (RpS T C s w) xs2 vs2) (h3 : all2 (RpS T C s w) xs3 vs3) : all2 (RpS T C s w) (xs1 ++ (xs2 ++ xs3)) (vs1 ++ (vs2 ++ vs3)) :=
  all2_append h1 (all2_append h2 h3)

theorem callop_sound (hc : CS T C s a w) {c : Call} {g : Operand} {o : Oper} (ho : o.op = .call c) (hcal : c.callee = .value g) {ev : Operand → Value} {ρ : Operand → AV} (hρ : ∀ x, RpS T C s w (ρ x) (ev x)) {k : KE}
    (h : xeff T (ACalls P T) ρ o.op s.env s.heap s.nx k) : AnsC P T C s a w (execOp ev o) k := by
  rw [ho] at h
  simp only [xeff, hcal] at h
  split at h
  · rename_i f first cap hg
    simp only [mapK_eq, appK_eq] at h
    have hgv := hρ g
    rw [hg] at hgv
    obtain ⟨fs, cs, hfn, h1, h2⟩ := hgv
    have hv : all2 (RpS T C s w) (first ++ (c.args.toList.map ρ ++ cap)) (fs.toList ++ (c.args.toList.map ev ++ cs.toList)) :=
      all2_app3 (all2_mono (fun _ _ q => RpS_of_RpK (RpF_K q)) h1) (all2_map hρ _) (all2_mono (fun _ _ q => RpS_of_RpK (RpF_K q)) h2)
    obtain ⟨⟨fn, q1, q2, q3⟩, hcalls⟩ := xcall_sound hc hv h
    refine ⟨f, (fs.toList ++ (c.args.toList.map ev ++ cs.toList)).toArray, ?_, hcalls⟩
    have e : (fs ++ c.args.map ev ++ cs) = (fs.toList ++ (c.args.toList.map ev ++ cs.toList)).toArray := by apply Array.ext'; simp
    have q4 : fn.body.isNone = false := by cases hb : fn.body <;> simp [hb] at q2 ⊢
    simp only [execOp, ho, resolve, hcal, hfn, Deferred.ofValue, pure_bind, invoke, e, callFunc, Sem.run_bind, run_program, Result.andThen_ok, q1, q3, q4, Bool.false_eq_true, if_false, Sem.run_pure]
  · exact h.elim

/-- An operation with an effect, whichever. -/
theorem xeff_sound (HT : tabOK P T = true) (hc : CS T C s a w) {o : Oper} {ev : Operand → Value} {ρ : Operand → AV} (hρ : ∀ x, RpS T C s w (ρ x) (ev x)) {k : KE}
    (h : xeff T (ACalls P T) ρ o.op s.env s.heap s.nx k) : AnsE P T C s a w (execOp ev o) k ∨ AnsC P T C s a w (execOp ev o) k := by
  cases ho : o.op with
  | alloc t => exact .inl (alloc_sound HT hc ho h)
  | box t x => exact .inl (box_sound hc ho hρ h)
  | buildSlice t n ps => exact .inl (buildSlice_sound HT hc ho hρ h)
  | store t x y => exact .inl (store_sound HT hc ho hρ h)
  | makeSlice t x y => exact .inl (makeSlice_sound HT hc ho hρ h)
  | call c =>
    cases hcal : c.callee with
    | value g => exact .inr (callop_sound hc ho hcal hρ h)
    | invoke _ _ => rw [ho] at h; simp [xeff, hcal] at h
    | builtin b =>
      cases b
      case append => exact .inl (append_sound HT hc ho hcal hρ h)
      all_goals (rw [ho] at h; simp [xeff, hcal] at h)
  | _ => rw [ho] at h; exact h.elim

/-- From an effect to the operation's rule. -/
theorem eff_wp {o : Oper} {k : KE} {next : Act → World → Prop} {Q : Exit → Act → World → Prop} (h : AnsE P T C s a w (execOp a.eval o) k ∨ AnsC P T C s a w (execOp a.eval o) k)
    (hd : ∀ d, o.dst = some d → d < C.N) (hnext : ∀ v h' nx' C' val w', k v s.env h' nx' → KeepC C C' → CS T C' ⟨putE s.env o.dst v, h', nx', s.gs, s.kn⟩ (a.put o.dst val) w' → next (a.put o.dst val) w') : o.wp P a w next Q := by
  have ent : ∀ {C' : Cx} {h' : Hp} {nx' : Nat} {w' : World} {v : AV} {val : Value}, KeepC C C' → CS T C' ⟨s.env, h', nx', s.gs, s.kn⟩ a w' → RpS T C' ⟨s.env, h', nx', s.gs, s.kn⟩ w' v val → (∀ ch y, v ≠ .opt ch y) → CS T C' ⟨putE s.env o.dst v, h', nx', s.gs, s.kn⟩ (a.put o.dst val) w' := fun {C' h' nx' w' v val} hk hcs hrp hno => by
    have hN : C'.N = C.N := hk.2.2.2.2
    refine hcs.put o.dst (fun d hd' => by rw [hN]; exact hd d hd') ?_
    cases v
    case opt ch y => exact absurd rfl (hno ch y)
    all_goals exact hrp
  unfold Oper.wp
  rcases h with ⟨v, h', nx', hk, C', val, w', hkc, hrun, hcs, hrp⟩ | ⟨f, args, hrun, hcalls⟩
  · have hno : ∀ ch y, v ≠ .opt ch y := fun ch y e => by subst e; exact hrp.elim
    rcases hrun with hrun | ⟨hrun, rfl⟩
    · rw [hrun]; exact hnext _ _ _ _ _ _ hk hkc (ent hkc hcs hrp hno)
    · rw [hrun]; exact hnext _ _ _ _ _ _ hk hkc (ent hkc hcs hrp hno)
  · rw [hrun]
    refine Calls.mono hcalls ?_
    rintro e w' ⟨v, h', nx', C', val, rfl, hk, hkc, hcs, hrp, _⟩
    have hno : ∀ ch y, v ≠ .opt ch y := fun ch y e => by subst e; exact hrp.elim
    exact hnext _ _ _ _ _ _ hk hkc (ent hkc hcs hrp hno)

/-! ### Guards -/
theorem nth_some {α : Type} {l : List α} {i : Nat} {x : α} (h : nth l i = some x) : l[i]? = some x := by rw [← nth_eq]; exact h
theorem dstOf_eq {all : List Oper} {j d : Nat} (h : dstOf all j = some d) : ∃ o, all[j]? = some o ∧ o.dst = some d := by
  unfold dstOf at h
  cases ho : nth all j with
  | none => simp [ho] at h
  | some o => exact ⟨o, nth_some ho, by simpa [ho] using h⟩
theorem yielded_eq {ops : Array Oper} {all : List Oper} (hall : ops.toList = all) {j d : Nat} (h : dstOf all j = some d) (a : Act) : yielded ops a.tmps j = (match a.tmps.getD d undef with | .bool b => some b | _ => none) := by
  obtain ⟨o, h1, h2⟩ := dstOf_eq h
  have h3 : ops[j]? = some o := by rw [← hall] at h1; simpa using h1
  simp only [yielded, h3, Option.bind_some, h2, Array.getD_eq_getD_getElem?]
  cases hd : a.tmps[d]? with
  | none => rfl
  | some v => cases v <;> rfl

/-- The guards that were looked at yield what was noted. -/
def GI (ops : Array Oper) (s : St) (a : Act) : Prop := ∀ j b, gsGet s.gs j = some b → yielded ops a.tmps j = some b

theorem chProp_iff {gs : List (Nat × Bool)} : ∀ {ch : List (Nat × Bool)}, chProp gs ch ↔ ∀ p ∈ ch, gsGet gs p.1 = some p.2
  | [] => by simp [chProp]
  | (j, w) :: r => by
    simp only [chProp, chProp_iff (ch := r), List.mem_cons, forall_eq_or_imp]
    cases gsGet gs j <;> simp
theorem inCh_mem {ch : List (Nat × Bool)} {j : Nat} {w : Bool} (h : inCh ch j w = true) : (j, w) ∈ ch := by
  induction ch with
  | nil => simp [inCh] at h
  | cons p r ih =>
    obtain ⟨i, v⟩ := p
    simp only [inCh, Bool.or_eq_true, Bool.and_eq_true] at h
    rcases h with ⟨h1, h2⟩ | h
    · have := beq_nat h1
      subst this
      have : v = w := by cases v <;> cases w <;> simp_all
      subst this
      simp
    · exact List.mem_cons_of_mem _ (ih h)
theorem subCh_mem {ch ch' : List (Nat × Bool)} (h : subCh ch ch' = true) : ∀ p ∈ ch', p ∈ ch := by
  induction ch' with
  | nil => simp
  | cons p r ih =>
    obtain ⟨i, v⟩ := p
    simp only [subCh, Bool.and_eq_true] at h
    intro q hq
    rcases List.mem_cons.1 hq with rfl | hq
    · exact inCh_mem h.1
    · exact ih h.2 q hq

theorem strip_rep {x : AV} {v : Value} (h : RpE T C s w x v) {ch : List (Nat × Bool)} (hch : ∀ p ∈ ch, gsGet s.gs p.1 = some p.2 ∨ gsGet s.gs p.1 = none) : RpS T C s w (strip ch x) v := by
  cases x
  case opt ch' y =>
    simp only [strip]
    cases hs : subCh ch ch' with
    | false => exact trivial
    | true =>
      obtain ⟨h0, h⟩ := h
      have hp : chProp s.gs ch' := chProp_iff.2 fun p hp => by
        rcases hch p (subCh_mem hs p hp) with h | h
        · exact h
        · exact absurd h (h0 p hp)
      rcases h with ⟨_, h⟩ | ⟨hn, _⟩
      · exact h
      · exact absurd hp hn
  all_goals exact h
theorem ofC_rep (v : Value) : RpK T C s w (ofC v) v := by
  unfold ofC
  split <;> first | rfl | trivial
theorem ofV_rep (v : Value) : RpS T C s w (ofV v) v := by
  cases v
  case agg cs =>
    refine ⟨cs, rfl, ?_⟩
    have key : ∀ l : List Value, all2 (RpK T C s w) (l.map ofC) l := by
      intro l
      induction l with
      | nil => trivial
      | cons x r ih => exact ⟨ofC_rep x, ih⟩
    exact key _
  all_goals (simp only [ofV]; exact RpS_of_RpK (ofC_rep _))
theorem opr_rep (hc : CS T C s a w) (x : Operand) : RpE T C s w (opr s.env x) (a.eval x) := by
  cases x with
  | tmp t => exact hc.env t
  | const v =>
    have := ofV_rep (T := T) (C := C) (s := s) (w := w) v
    simp only [opr, Act.eval]
    revert this
    cases ofV v <;> intro this <;> first | exact this | exact this.elim
  | global g => exact trivial
  | func f => exact ⟨#[], #[], rfl, trivial, trivial⟩
theorem opd_eq (env : List (Nat × AV)) (ch : List (Nat × Bool)) (x : Operand) : opd env ch x = strip ch (opr env x) := by
  cases x with
  | tmp t => rfl
  | const v =>
    simp only [opd, opr]
    cases v <;> (try rfl)
    all_goals (simp only [ofV]; unfold ofC; split <;> rfl)
  | global g => rfl
  | func f => rfl
theorem opd_rep (hc : CS T C s a w) {ch : List (Nat × Bool)} (hch : ∀ p ∈ ch, gsGet s.gs p.1 = some p.2) (x : Operand) : RpS T C s w (opd s.env ch x) (a.eval x) := by
  rw [opd_eq]; exact strip_rep (opr_rep hc x) (fun p hp => .inl (hch p hp))
end
end Go.Proofs.Ytaghkmaelbgljaa.VX
