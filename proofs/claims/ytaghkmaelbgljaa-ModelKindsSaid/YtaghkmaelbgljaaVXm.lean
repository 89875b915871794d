/- One operation of a region, with its guard. -/
import Derived.Test.YtaghkmaelbgljaaVXl
namespace Go.Proofs.Ytaghkmaelbgljaa.VX
section
variable {P : Program} {T : Tab} {C C' : Cx} {s s' : St} {a : Act} {w w' : World}

theorem undefs_sound {all l : List Oper} {j : Nat} {w0 b : Bool} {h : Hp} {nx : Nat} {gs kn : List (Nat × Bool)} (hgs : gsGet gs j = some b) (hb : b ≠ w0) {K : List (Nat × AV) → Prop} : ∀ (r : List (Nat × Bool)) (env : List (Nat × AV)),
    CS T C ⟨env, h, nx, gs, kn⟩ a w → GInv all l ⟨env, h, nx, gs, kn⟩ → undefs all j w0 r env K → ∃ env', CS T C ⟨env', h, nx, gs, kn⟩ a w ∧ GInv all l ⟨env', h, nx, gs, kn⟩ ∧ K env' ∧ (∀ d, getE env d = getE env' d ∨ getE env' d = .undef) := by
  intro r
  induction r with
  | nil => exact fun env hc x h => ⟨env, hc, x, h, fun d => .inl rfl⟩
  | cons p r ih =>
    obtain ⟨i, w1⟩ := p
    intro env hc x hu
    simp only [undefs] at hu
    split at hu
    · rename_i d hd
      split at hu
      · rename_i ch y he
        cases hin : inCh ch j w0 with
        | false => simp [hin] at hu
        | true =>
          rw [hin, cond_true] at hu
          have hm := inCh_mem hin
          have hv := hc.env d
          dsimp only at hv
          rw [he] at hv
          have hn : ¬ chProp gs ch := fun q => by
            have := chProp_iff.1 q _ hm
            rw [hgs] at this
            cases this; exact hb rfl
          have hval : a.tmps.getD d undef = undef := by
            rcases hv.2 with ⟨q, _⟩ | ⟨_, q⟩
            · exact absurd q hn
            · exact q
          have hc' : CS T C ⟨(d, .undef) :: env, h, nx, gs, kn⟩ a w := hc.ref (show RpE T C _ w .undef _ from hval)
          have x' : GInv all l ⟨(d, .undef) :: env, h, nx, gs, kn⟩ := ⟨fun i' b1 d1 b' q1 q2 q3 => by
            dsimp only at q3
            rw [getE_cons] at q3
            split at q3
            · cases q3
            · exact x.gi i' b1 d1 b' q1 q2 q3, x.nd, x.dm⟩
          obtain ⟨env', r1, r2, r3, r4⟩ := ih _ hc' x' hu
          refine ⟨env', r1, r2, r3, fun d' => ?_⟩
          rcases r4 d' with q | q
          · rw [getE_cons] at q
            split at q
            · exact .inr q.symm
            · exact .inl q
          · exact .inr q
      · exact hu.elim
    · exact hu.elim

theorem xsplit_sound {all l : List Oper} {h : Hp} {nx : Nat} {gs : List (Nat × Bool)} {run skip : List (Nat × AV) → List (Nat × Bool) → Prop} : ∀ (c : List (Nat × Bool)) (env : List (Nat × AV)) (kn : List (Nat × Bool)),
    CS T C ⟨env, h, nx, gs, kn⟩ a w → GInv all l ⟨env, h, nx, gs, kn⟩ → (∀ p ∈ c, gsGet gs p.1 ≠ none) → xsplit all run skip c env kn →
    ∃ env' kn', CS T C ⟨env', h, nx, gs, kn'⟩ a w ∧ GInv all l ⟨env', h, nx, gs, kn'⟩ ∧ ((chProp gs c ∧ run env' kn') ∨ (¬ chProp gs c ∧ skip env' kn')) := by
  intro c
  induction c with
  | nil => exact fun env kn hc x _ h => ⟨env, kn, hc, x, .inl ⟨trivial, h⟩⟩
  | cons p r ih =>
    obtain ⟨j, w0⟩ := p
    intro env kn hc x hdom hs
    simp only [xsplit] at hs
    split at hs
    · rename_i d hd
      split at hs
      · rename_i b he
        have hbo : boolOf (getE env d) = some b := boolOf_strip he
        obtain ⟨b0, hb0⟩ : ∃ b0, gsGet gs j = some b0 := Option.ne_none_iff_exists'.1 (hdom (j, w0) (by simp))
        have : b = b0 := x.gi j b0 d b hb0 hd hbo
        subst this
        have hval : a.tmps.getD d undef = .bool b := by
          have := stripKn_rep (hc.env d) hc.kn
          dsimp only at this
          rw [he] at this
          exact this
        have href : ∀ {env1 : List (Nat × AV)} {kn1 : List (Nat × Bool)} (b1 : Bool), b1 = b → CS T C ⟨env1, h, nx, gs, kn1⟩ a w → CS T C ⟨(d, .kb b1) :: env1, h, nx, gs, kn1⟩ a w := fun b1 e hc1 => by
          subst e
          exact hc1.ref (show RpE T C _ w (.kb b1) _ from hval)
        have hkn : ∀ {env1 : List (Nat × AV)} {kn1 : List (Nat × Bool)}, CS T C ⟨env1, h, nx, gs, kn1⟩ a w → CS T C ⟨env1, h, nx, gs, (j, b) :: kn1⟩ a w := fun hc1 => ⟨hc1.env, hc1.blk, hc1.nx, hc1.inj, hc1.own, hc1.g, hc1.ge, hc1.pin, fun p hp => by
          rcases List.mem_cons.1 hp with rfl | hp
          · exact hb0
          · exact hc1.kn p hp, hc1.defers, hc1.sz, hc1.f, hc1.io⟩
        have hgi : ∀ {env1 : List (Nat × AV)} {kn1 kn2 : List (Nat × Bool)} (b1 : Bool), GInv all l ⟨env1, h, nx, gs, kn1⟩ → GInv all l ⟨(d, .kb b1) :: env1, h, nx, gs, kn2⟩ := fun b1 x1 => ⟨fun i' b1 d1 b' q1 q2 q3 => by
            dsimp only at q3
            rw [getE_cons] at q3
            split at q3
            · cases q3
            · exact x1.gi i' b1 d1 b' q1 q2 q3, x1.nd, x1.dm⟩
        have hpos : ∀ (e : b = w0), xsplit all run skip r ((d, .kb b) :: env) ((j, b) :: kn) → ∃ env' kn', CS T C ⟨env', h, nx, gs, kn'⟩ a w ∧ GInv all l ⟨env', h, nx, gs, kn'⟩ ∧ ((chProp gs ((j, w0) :: r) ∧ run env' kn') ∨ (¬ chProp gs ((j, w0) :: r) ∧ skip env' kn')) := fun e q => by
          obtain ⟨env', kn', r1, r2, r3⟩ := ih _ _ (hkn (href b rfl hc)) (hgi b x) (fun p hp => hdom p (List.mem_cons_of_mem _ hp)) q
          refine ⟨env', kn', r1, r2, ?_⟩
          simp only [chProp, hb0, e, true_and]
          exact r3
        have hneg : ∀ (e : b ≠ w0), (undefs all j w0 r env fun env' => skip ((d, .kb b) :: env') kn) → ∃ env' kn', CS T C ⟨env', h, nx, gs, kn'⟩ a w ∧ GInv all l ⟨env', h, nx, gs, kn'⟩ ∧ ((chProp gs ((j, w0) :: r) ∧ run env' kn') ∨ (¬ chProp gs ((j, w0) :: r) ∧ skip env' kn')) := fun e q => by
          obtain ⟨env', r1, r2, r3, _⟩ := undefs_sound hb0 e r env hc x q
          refine ⟨_, _, href b rfl r1, hgi b r2, .inr ⟨?_, r3⟩⟩
          simp only [chProp, hb0]
          exact fun q => e q.1
        cases w0 <;> simp only [cond_true, cond_false] at hs
        · cases b
          · exact hpos rfl (hs.f rfl)
          · exact hneg (by decide) (hs.t rfl)
        · cases b
          · exact hneg (by decide) (hs.f rfl)
          · exact hpos rfl (hs.t rfl)
      · exact hs.elim
    · exact hs.elim

/-- What holds between two operations. -/
structure XAt (P : Program) (T : Tab) (C : Cx) (all l : List Oper) (k : St → Prop) (s : St) (a : Act) (w : World) : Prop where
  cs : CS T C s a w
  gi : GInv all l s
  go : xops T (ACalls P T) all l s.env s.heap s.nx s.gs s.kn k

theorem GInv.put {all r : List Oper} {o : Oper} (x : GInv all (o :: r) s) (v : AV) (h' : Hp) (nx' : Nat) : GInv all r ⟨putE s.env o.dst v, h', nx', s.gs, s.kn⟩ := by
  refine ⟨fun j b d b' h1 h2 h3 => ?_, fun j d h1 h2 => noDst_tail (x.nd j d h1 h2), x.dm⟩
  have hne := noDst_spec (x.nd j d (by rw [h1]; simp) h2) o (by simp)
  refine x.gi j b d b' h1 h2 ?_
  revert h3
  cases hd : o.dst with
  | none => exact id
  | some d' =>
    simp only [putE, getE_cons]
    rw [if_neg (fun e => hne (by rw [hd, e]))]
    exact id

theorem whose_spec : ∀ (l : List Oper) (n t : Nat), (∃ i, whoseIn l n t = n + i ∧ dstOf l i = some t) ∨ whoseIn l n t = n + l.length
  | [], n, t => .inr (by simp [whoseIn])
  | o :: r, n, t => by
    have hrec := whose_spec r (n + 1) t
    have lift : ∀ i, dstOf (o :: r) (i + 1) = dstOf r i := fun i => by simp [dstOf, nth]
    have h2 : (∃ i, whoseIn r (n + 1) t = n + i ∧ dstOf (o :: r) i = some t) ∨ whoseIn r (n + 1) t = n + (r.length + 1) := by
      rcases hrec with ⟨i, h1, h2⟩ | h1
      · exact .inl ⟨i + 1, by omega, by rw [lift]; exact h2⟩
      · exact .inr (by omega)
    simp only [whoseIn]
    cases hd : o.dst with
    | none => exact h2
    | some d =>
      dsimp only
      cases hdt : Nat.beq d t with
      | false => rw [cond_false]; exact h2
      | true => rw [cond_true]; exact .inl ⟨0, rfl, by simp [dstOf, nth, hd, beq_nat hdt]⟩
theorem dstOf_len (l : List Oper) : dstOf l l.length = none := by simp [dstOf, nth_eq]

/-- A reading under the condition that is being picked. -/
theorem pick_rep (hc : CS T C s a w) {all l : List Oper} (x : GInv all l s) {ch : List (Nat × Bool)} (hch : ∀ p ∈ ch, gsGet s.gs p.1 = some p.2) :
    ∀ t b, opd s.env ch (.tmp t) = .bool b → a.eval (.tmp t) = .bool b → ∀ y, RpS T C s w (strip ((whoseIn all 0 t, b) :: ch) (opr s.env y)) (a.eval y) := by
  intro t b h1 _ y
  refine strip_rep (opr_rep hc y) fun p hp => ?_
  rcases List.mem_cons.1 hp with rfl | hp
  · dsimp only
    cases hg : gsGet s.gs (whoseIn all 0 t) with
    | none => exact .inr rfl
    | some b0 =>
      left
      rcases whose_spec all 0 t with ⟨i, q1, q2⟩ | q
      · rw [Nat.zero_add] at q1
        rw [q1] at hg
        have hb : boolOf (getE s.env t) = some b := by
          simp only [opd] at h1
          cases hx : getE s.env t <;> rw [hx] at h1 <;> simp only [strip] at h1 <;> try (cases h1; done)
          case bool b' => cases h1; rfl
          case opt ch' y =>
            cases hs : subCh ch ch' <;> simp only [hs, cond_true, cond_false] at h1 <;> cases h1; rfl
        rw [x.gi i b0 t b hg q2 hb]
      · rw [Nat.zero_add] at q
        rw [q] at hg
        exact absurd (dstOf_len all) (x.dm _ (by rw [hg]; simp))
  · exact .inl (hch p hp)
end
end Go.Proofs.Ytaghkmaelbgljaa.VX
