/- The operations of a region, one after the other. -/
import Derived.Test.YtaghkmaelbgljaaVXk
namespace Go.Proofs.Ytaghkmaelbgljaa.VX
section
variable {P : Program} {T : Tab} {C C' : Cx} {s s' : St} {a : Act} {w w' : World}

theorem noDst_spec {l : List Oper} {t : Nat} (h : noDst l t = true) : ∀ o ∈ l, o.dst ≠ some t := by
  induction l with
  | nil => simp
  | cons o r ih =>
    simp only [noDst, Bool.and_eq_true] at h
    intro o' ho'
    rcases List.mem_cons.1 ho' with rfl | ho'
    · intro e
      rw [e] at h
      simp [Nat.beq_refl] at h
    · exact ih h.2 o' ho'
theorem noDst_tail {o : Oper} {l : List Oper} {t : Nat} (h : noDst (o :: l) t = true) : noDst l t = true := by
  simp only [noDst, Bool.and_eq_true] at h; exact h.2

def boolOf : AV → Option Bool
  | .bool b => some b
  | .opt _ (.bool b) => some b
  | .opt _ (.opt _ (.bool b)) => some b
  | _ => none

structure GInv (all l : List Oper) (s : St) : Prop where
  gi : ∀ j b d b', gsGet s.gs j = some b → dstOf all j = some d → boolOf (getE s.env d) = some b' → b' = b
  nd : ∀ j d, gsGet s.gs j ≠ none → dstOf all j = some d → noDst l d = true
  dm : ∀ j, gsGet s.gs j ≠ none → dstOf all j ≠ none

theorem CS.gsx (hc : CS T C s a w) {gs' kn' : List (Nat × Bool)} (hext : ∀ j b, gsGet s.gs j = some b → gsGet gs' j = some b) (hkn : ∀ p ∈ kn', gsGet gs' p.1 = some p.2) : CS T C ⟨s.env, s.heap, s.nx, gs', kn'⟩ a w := by
  refine ⟨fun t => ?_, hc.blk, hc.nx, hc.inj, hc.own, hc.g, hc.ge, hc.pin, hkn, hc.defers, hc.sz, hc.f, hc.io⟩
  have h := hc.env t
  revert h
  show RpE T C s w (getE s.env t) _ → RpE T C ⟨s.env, s.heap, s.nx, gs', kn'⟩ w (getE s.env t) _
  cases getE s.env t
  case opt ch y =>
    intro ⟨h0, h⟩
    have hh : ∀ p ∈ ch, ∃ b, gsGet s.gs p.1 = some b ∧ gsGet gs' p.1 = some b := fun p hp => by
      cases hb : gsGet s.gs p.1 with
      | none => exact absurd hb (h0 p hp)
      | some b => exact ⟨b, rfl, hext _ _ hb⟩
    have e : chProp gs' ch ↔ chProp s.gs ch := by
      rw [chProp_iff, chProp_iff]
      refine ⟨fun q p hp => ?_, fun q p hp => ?_⟩
      · obtain ⟨b, h1, h2⟩ := hh p hp; have := q p hp; rw [h2] at this; rw [h1]; exact this
      · obtain ⟨b, h1, h2⟩ := hh p hp; have := q p hp; rw [h1] at this; rw [h2]; exact this
    refine ⟨fun p hp => ?_, ?_⟩
    · obtain ⟨b, h1, h2⟩ := hh p hp; simp [h2]
    · rcases h with ⟨h1, h2⟩ | ⟨h1, h2⟩
      · exact .inl ⟨e.2 h1, h2⟩
      · exact .inr ⟨fun q => h1 (e.1 q), h2⟩
  all_goals exact id

theorem CS.ref (hc : CS T C s a w) {d : Nat} {v : AV} (hv : RpE T C s w v (a.tmps.getD d undef)) : CS T C ⟨(d, v) :: s.env, s.heap, s.nx, s.gs, s.kn⟩ a w := by
  refine ⟨fun t => ?_, hc.blk, hc.nx, hc.inj, hc.own, hc.g, hc.ge, hc.pin, hc.kn, hc.defers, hc.sz, hc.f, hc.io⟩
  simp only [getE_cons]
  split
  · rename_i e; subst e; exact hv
  · exact hc.env t

theorem stripKn_rep {x : AV} {v : Value} (h : RpE T C s w x v) (hch : ∀ p ∈ s.kn, gsGet s.gs p.1 = some p.2) : RpE T C s w (stripKn s.kn x) v := by
  cases x
  case opt ch y =>
    simp only [stripKn]
    cases hs : subCh s.kn ch with
    | false => exact h
    | true =>
      have hp : chProp s.gs ch := chProp_iff.2 fun p hp => hch p (subCh_mem hs p hp)
      rcases h.2 with ⟨_, h⟩ | ⟨hn, _⟩
      · rw [cond_true]
        cases y <;> first | exact h | exact h.elim
      · exact absurd hp hn
  all_goals exact h
theorem boolOf_strip {kn : List (Nat × Bool)} {x : AV} {b : Bool} : stripKn kn x = .bool b → boolOf x = some b := by
  intro h
  cases x <;> simp only [stripKn] at h <;> try (cases h; done)
  case bool b' => cases h; rfl
  case opt ch y => cases hs : subCh kn ch <;> simp only [hs, cond_true, cond_false] at h <;> cases h; rfl
theorem boolOf_strip' {kn ch : List (Nat × Bool)} {x : AV} {b : Bool} : stripKn kn x = .opt ch (.bool b) → boolOf x = some b := by
  intro h
  cases x <;> simp only [stripKn] at h <;> try (cases h; done)
  case opt ch y => cases hs : subCh kn ch <;> simp only [hs, cond_true, cond_false] at h <;> cases h <;> rfl

theorem GInv.gs' {all l : List Oper} (x : GInv all l s) {j d : Nat} {b : Bool} (hd : dstOf all j = some d) (hb : boolOf (getE s.env d) = some b) (hn : noDst l d = true) : GInv all l ⟨s.env, s.heap, s.nx, (j, b) :: s.gs, s.kn⟩ ∧ ∀ i b0, gsGet s.gs i = some b0 → gsGet ((j, b) :: s.gs) i = some b0 := by
  have hext : ∀ i b0, gsGet s.gs i = some b0 → gsGet ((j, b) :: s.gs) i = some b0 := fun i b0 hi => by
    simp only [gsGet]
    cases hji : Nat.beq j i with
    | false => exact hi
    | true => have := beq_nat hji; subst this; rw [cond_true, x.gi j b0 d b hi hd hb]
  have hcase : ∀ i, gsGet ((j, b) :: s.gs) i ≠ none → i = j ∨ gsGet s.gs i ≠ none := fun i hi => by
    simp only [gsGet] at hi
    cases hji : Nat.beq j i with
    | false => rw [hji] at hi; exact .inr hi
    | true => exact .inl (beq_nat hji).symm
  refine ⟨⟨fun i b0 d0 b' hi hd0 hb' => ?_, fun i d0 hi hd0 => ?_, fun i hi => ?_⟩, hext⟩
  · simp only [gsGet] at hi
    cases hji : Nat.beq j i with
    | false => rw [hji] at hi; exact x.gi i b0 d0 b' hi hd0 hb'
    | true =>
      rw [hji] at hi
      have := beq_nat hji
      subst this
      rw [hd] at hd0; cases hd0
      change boolOf (getE s.env d) = some b' at hb'
      rw [hb] at hb'; cases hb'; cases hi; rfl
  · rcases hcase i hi with rfl | hi
    · rw [hd] at hd0; cases hd0; exact hn
    · exact x.nd i d0 hi hd0
  · rcases hcase i hi with rfl | hi
    · simp [hd]
    · exact x.dm i hi

theorem eqb_prop {b w0 : Bool} : (bif b then w0 else !w0) = true ↔ b = w0 := by cases b <;> cases w0 <;> simp

theorem guard_sound (hc : CS T C s a w) {all l : List Oper} (x : GInv all l s) {ops : Array Oper} (hall : ops.toList = all) (o : Oper) :
    match guardOf all l o s.env s.gs s.kn with
    | .bad => True
    | .skip => Region.wanted o (yielded ops a.tmps) = false
    | .run ch gs' => CS T C ⟨s.env, s.heap, s.nx, gs', s.kn⟩ a w ∧ GInv all l ⟨s.env, s.heap, s.nx, gs', s.kn⟩ ∧ (∀ p ∈ ch, gsGet gs' p.1 ≠ none) ∧ (chProp gs' ch ↔ Region.wanted o (yielded ops a.tmps) = true) := by
  unfold guardOf
  cases hg : o.guard with
  | none => exact ⟨hc, x, by simp, by simp [chProp, Region.wanted, hg]⟩
  | some p =>
    obtain ⟨j, w0⟩ := p
    dsimp only
    cases hd : dstOf all j with
    | none => exact trivial
    | some d =>
      dsimp only
      have hw : Region.wanted o (yielded ops a.tmps) = ((match a.tmps.getD d undef with | .bool b => some b | _ => none) == some w0) := by
        simp only [Region.wanted, hg]; rw [yielded_eq hall hd a]; rfl
      have he := stripKn_rep (hc.env d) hc.kn
      have hb1 := fun b => @boolOf_strip s.kn (getE s.env d) b
      have hb2 := fun ch b => @boolOf_strip' s.kn ch (getE s.env d) b
      simp only [hw]
      generalize a.tmps.getD d undef = v at he
      generalize stripKn s.kn (getE s.env d) = y at he hb1 hb2
      cases y
      case kb b =>
        have he : v = .bool b := he
        subst he
        simp only
        cases hq : (bif b then w0 else !w0) with
        | true =>
          have := eqb_prop.1 hq
          subst this
          exact ⟨hc, x, by simp, by simp [chProp]⟩
        | false =>
          have : b ≠ w0 := fun e => by rw [eqb_prop.2 e] at hq; cases hq
          simpa using this
      case undef =>
        have he : v = undef := he
        subst he
        rfl
      case bool b =>
        have he : v = .bool b := he
        subst he
        simp only
        cases hn : noDst l d with
        | false => exact trivial
        | true =>
          obtain ⟨q1, q2⟩ := x.gs' hd (hb1 b rfl) hn
          refine ⟨hc.gsx q2 (fun p hp => q2 _ _ (hc.kn p hp)), q1, by simp [gsGet, Nat.beq_refl], ?_⟩
          simp [chProp, gsGet, Nat.beq_refl]
      case opt ch y =>
        obtain ⟨h0, he⟩ := he
        cases y
        case bool b =>
          simp only
          cases hn : noDst l d with
          | false => exact trivial
          | true =>
            obtain ⟨q1, q2⟩ := x.gs' hd (hb2 ch b rfl) hn
            have hdom : ∀ p ∈ ch, gsGet ((j, b) :: s.gs) p.1 ≠ none := fun p hp => by
              cases hh : gsGet s.gs p.1 with
              | none => exact absurd hh (h0 p hp)
              | some b0 => rw [q2 _ _ hh]; simp
            have hiff : chProp ((j, b) :: s.gs) ch ↔ chProp s.gs ch := by
              rw [chProp_iff, chProp_iff]
              refine ⟨fun q p hp => ?_, fun q p hp => q2 _ _ (q p hp)⟩
              cases hh : gsGet s.gs p.1 with
              | none => exact absurd hh (h0 p hp)
              | some b0 => have := q p hp; rw [q2 _ _ hh] at this; exact this
            refine ⟨hc.gsx q2 (fun p hp => q2 _ _ (hc.kn p hp)), q1, ?_, ?_⟩
            · intro p hp
              rcases List.mem_cons.1 hp with rfl | hp
              · simp [gsGet, Nat.beq_refl]
              · exact hdom p hp
            · simp only [chProp, hiff]
              rcases he with ⟨h1, he⟩ | ⟨h1, he⟩
              · have he : v = .bool b := he
                subst he
                simp [gsGet, Nat.beq_refl, h1]
              · subst he
                simp [h1, undef]
        case kb b =>
          simp only
          cases hq : (bif b then w0 else !w0) with
          | true =>
            have := eqb_prop.1 hq
            subst this
            refine ⟨hc, x, h0, ?_⟩
            rcases he with ⟨h1, he⟩ | ⟨h1, he⟩
            · have he : v = .bool b := he
              subst he
              simp [h1]
            · subst he
              simp [h1, undef]
          | false =>
            have : b ≠ w0 := fun e => by rw [eqb_prop.2 e] at hq; cases hq
            rcases he with ⟨h1, he⟩ | ⟨h1, he⟩
            · have he : v = .bool b := he
              subst he
              simpa using this
            · subst he
              simp [undef]
        all_goals exact trivial
      all_goals exact trivial
end
end Go.Proofs.Ytaghkmaelbgljaa.VX
