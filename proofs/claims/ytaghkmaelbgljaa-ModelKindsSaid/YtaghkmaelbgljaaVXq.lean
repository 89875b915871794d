/- A function by its body. -/
import Derived.Test.YtaghkmaelbgljaaVXp
namespace Go.Proofs.Ytaghkmaelbgljaa.VX
section
variable {P : Program} {T : Tab} {C C' : Cx} {s s' : St} {a : Act} {w w' : World}

def envOf : Nat → List AV → List (Nat × AV)
  | _, [] => []
  | i, v :: r => (i, v) :: envOf (i + 1) r
theorem getE_envOf : ∀ (l : List AV) (i t : Nat), getE (envOf i l) t = if i ≤ t then (l[t - i]?).getD .dead else .dead
  | [], i, t => by simp [envOf, getE]
  | v :: r, i, t => by
    simp only [envOf, getE_cons, getE_envOf r (i + 1) t]
    by_cases e : t = i
    · subst e; simp
    · rw [if_neg e]
      by_cases h1 : i ≤ t
      · rw [if_pos (by omega), if_pos h1, show t - i = (t - (i + 1)) + 1 by omega, List.getElem?_cons_succ]
      · rw [if_neg (by omega), if_neg h1]

theorem RpE_of_RpS {x : AV} {v : Value} (h : RpS T C s w x v) : RpE T C s w x v := by
  cases x <;> first | exact h | exact h.elim

/-- Where the code of a body may end. -/
def keOf (E : St → Prop) : Exit → St → Prop
  | .ret, st => E st
  | _, _ => False

theorem xend_sound (HT : tabOK P T = true) (hc : CS T C s a w) (hpin : ∀ id, C.pin id = none) {fn : Func} {R : AV → List AB → Prop} (h : xend T fn.results.toList R s) :
    ∃ v r, (results fn a.tmps).run P w = .ok v w ∧ R r [] ∧ HS T (outCx C 0) [] w ∧ RpS T (outCx C 0) (stOf []) w r v ∧ ∀ t y, r ≠ .iface t y := by
  obtain ⟨env, hp, nx, gs, kn⟩ := s
  unfold xend at h
  obtain ⟨l, vs, h1, h2, h3⟩ := xres_sound HT hc _ h
  have hrun := results_eq fn a.tmps h2
  cases hal : allRes l with
  | false => rw [hal] at h1; exact h1.elim
  | true =>
    rw [hal, cond_true] at h1
    have hHS := outHS hc hpin
    have key : ∀ (l : List AV) (vs : List Value), allRes l = true → all2 (RpS T C ⟨env, hp, nx, gs, kn⟩ w) l vs → all2 (RpA T (outCx C 0) (stOf []) w) (l.map (outA' hp)) vs := by
      intro l
      induction l with
      | nil => intro vs _ h; cases vs with | nil => trivial | cons _ _ => exact h.elim
      | cons x r ih =>
        intro vs ha h
        cases vs with
        | nil => exact h.elim
        | cons v vs =>
          simp only [allRes, Bool.and_eq_true] at ha
          exact ⟨out_rep hc ha.1 h.1, ih vs ha.2 h.2⟩
    have hk := key l vs hal h3
    have hA : ∀ {r : AV} {v : Value}, RpA T (outCx C 0) (stOf []) w r v → ∀ t y, r ≠ .iface t y := fun {r v} h t y e => by subst e; exact h.elim
    match l, vs, h1, h3, hrun, hk with
    | [x], [v], h1, _, hrun, hk =>
      dsimp only at h1
      rw [outA_eq] at h1
      exact ⟨v, _, hrun, h1, hHS, resA hk.1, hA hk.1⟩
    | [], [], h1, _, hrun, hk =>
      dsimp only at h1
      rw [outL_eq] at h1
      exact ⟨_, _, hrun, h1, hHS, ⟨_, rfl, hk⟩, fun t y => by simp⟩
    | x :: y :: l, u :: v :: vs, h1, _, hrun, hk =>
      dsimp only at h1
      rw [outL_eq] at h1
      exact ⟨_, _, hrun, h1, hHS, ⟨_, rfl, hk⟩, fun t y => by simp⟩
    | [x], [], _, h3, _, _ => exact h3.elim
    | [x], _ :: _ :: _, _, h3, _, _ => exact h3.2.elim
    | [], _ :: _, _, h3, _, _ => exact h3.elim
    | _ :: _ :: _, [], _, h3, _, _ => exact h3.elim
    | _ :: _ :: _, [_], _, h3, _, _ => exact h3.2.elim

theorem ACalls.intro (HT : tabOK P T = true) (hm : P.follows .mixedOrders = true) {f : FuncId} {fn : Func} {c : Code} {args : List AV} {R : AV → List AB → Prop} (hf : P.funcs[f]? = some fn) (hb : fn.body = some c) (hname : (fn.name == "runtime.NumGoroutine") = false)
    (hN : codeOK fn.ntmps c = true) (hlen : args.length ≤ fn.ntmps)
    (h : xcode T (ACalls P T) (ALoop P T) c ⟨envOf 0 args, [], 0, [], []⟩ (xend T fn.results.toList R) (keOf (xend T fn.results.toList R))) : ACalls P T f args [] R := by
  refine ⟨⟨fn, hf, by rw [hb]; rfl, hname⟩, fun C w vals hs ha => ?_⟩
  have hl := all2_len ha
  have hC0 : C.N = 0 := hs.sz.symm
  have hpin : ∀ id, C.pin id = none := fun id => by
    cases hp : C.pin id with
    | none => rfl
    | some b => exact absurd (hs.pin id b hp).2 (Nat.not_lt_zero _)
  have hno : ∀ id, ownB (outCx C fn.ntmps) ([] : Hp) id = none := fun id => rfl
  have hc : CS T (outCx C fn.ntmps) ⟨envOf 0 args, [], 0, [], []⟩ { tmps := vals.toArray ++ Array.replicate (fn.ntmps - vals.toArray.size) undef, defers := [] } w := by
    refine ⟨fun t => ?_, fun id => trivial, fun id _ => rfl, (fun id id' b h => by rw [hno] at h; cases h), (fun id b h => by rw [hno] at h; cases h), hs.g, hs.ge, (fun id b h => by have := hpin id; simp only [outCx] at h; rw [this] at h; cases h), (fun p hp => by cases hp), rfl, ?_, hs.f, hs.io⟩
    · dsimp only
      rw [getE_envOf, if_pos (Nat.zero_le _), Nat.sub_zero]
      cases hx : args[t]? with
      | none => exact trivial
      | some x =>
        obtain ⟨v, hv, hr⟩ := all2_get ha hx
        have hlt : t < vals.length := (List.getElem?_eq_some_iff.1 hv).1
        have e : (vals.toArray ++ Array.replicate (fn.ntmps - vals.toArray.size) undef).getD t undef = v := by
          rw [Array.getD_eq_getD_getElem?, Array.getElem?_append_left (by simpa using hlt)]
          simp [hv]
        rw [e]
        exact RpE_of_RpS hr
    · simp only [outCx, Array.size_append, List.size_toArray, Array.size_replicate]
      omega
  refine calls_of_wp hf hb (wp_mono (xcode_sound HT hm c (C0 := outCx C fn.ntmps) hN (KeepC.refl _) hc rfl rfl h) ?_)
  have fin : ∀ (C' : Cx) (s' : St) (a' : Act) (w' : World), KeepC (outCx C fn.ntmps) C' → CS T C' s' a' w' → xend T fn.results.toList R s' →
      a'.defers = [] ∧ ∃ v, (results fn a'.tmps).run P w' = .ok v w' ∧ ∃ r h' v' C'', Ending.returned v = .returned v' ∧ R r h' ∧ KeepC C C'' ∧ HS T C'' h' w' ∧ RpS T C'' (stOf h') w' r v' ∧ ([] : List AB).length ≤ h'.length ∧ ∀ t y, r ≠ .iface t y := by
    intro C' s' a' w' hk hc' he
    have hp' : ∀ id, C'.pin id = none := fun id => by rw [hk.2.2.2.1]; exact hpin id
    obtain ⟨v, r, q1, q2, q3, q4, q5⟩ := xend_sound HT hc' hp' he
    exact ⟨hc'.defers, v, q1, r, [], v, outCx C' 0, rfl, q2, ⟨hk.1, hk.2.1, hk.2.2.1, hk.2.2.2.1, hC0.symm⟩, q3, q4, Nat.le_refl _, q5⟩
  rintro e a' w' ⟨C', s', hk, hc', h1, h2, h3⟩
  cases e with
  | normal => exact fin C' s' a' w' hk hc' h3
  | ret => exact fin C' s' a' w' hk hc' h3
  | exit i => exact h3.elim
  | goto l => exact h3.elim
  | panic c => exact h3.elim
  | outgrown => exact h3.elim
end
end Go.Proofs.Ytaghkmaelbgljaa.VX
