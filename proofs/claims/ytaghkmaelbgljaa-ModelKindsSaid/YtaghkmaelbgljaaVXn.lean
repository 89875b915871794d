/- One operation of a region: quiet, or with an effect. -/
import Derived.Test.YtaghkmaelbgljaaVXm
import Derived.OrdersHeld
namespace Go.Proofs.Ytaghkmaelbgljaa.VX
section
variable {P : Program} {T : Tab} {C C' : Cx} {s s' : St} {a : Act} {w w' : World}

theorem xop_quiet (HT : tabOK P T = true) {ops : Array Oper} {o : Oper} {r : List Oper} {k : St → Prop} (hN : ∀ d, o.dst = some d → d < C.N) (hq : isQuiet T o.op = true) (x : XAt P T C ops.toList (o :: r) k s a w) :
    ∃ val, YieldsIf P ops (Same C w) o val a ∧ ∃ s', XAt P T C ops.toList r k s' (a.put o.dst val) w := by
  obtain ⟨hc, hi, hgo⟩ := x
  simp only [xops] at hgo
  have hg := guard_sound hc hi rfl o
  generalize guardOf ops.toList (o :: r) o s.env s.gs s.kn = gv at hgo hg
  cases gv with
  | bad => exact hgo.elim
  | skip =>
    rw [putK_eq] at hgo
    exact ⟨undef, .inr ⟨hg, rfl⟩, _, hc.put o.dst hN (show RpE T C s w .undef undef from rfl), hi.put .undef s.heap s.nx, hgo⟩
  | run ch gs' =>
    obtain ⟨hc1, hi1, hdom, hch⟩ := hg
    dsimp only at hgo
    rw [hq] at hgo
    cases ch with
    | nil =>
      dsimp only at hgo
      have hw : Region.wanted o (yielded ops a.tmps) = true := hch.1 trivial
      obtain ⟨v, hv, hval⟩ := xquiet_sound (P := P) (Hyp := True) (nd := XNeed) HT hc1 (fun c X h => ⟨h.x, fun _ => h.c⟩) (fun _ => opd_rep hc1 hc1.kn)
        (fun _ y => strip_rep (opr_rep hc1 y) (fun p hp => .inl (hc1.kn p hp))) (fun _ => pick_rep hc1 hi1 hc1.kn) hgo
      obtain ⟨val, h1, h2⟩ := hval trivial
      rw [putK_eq] at hv
      have hno : ∀ ch y, v ≠ .opt ch y := fun ch y e => by subst e; exact h2.elim
      refine ⟨val, .inl ⟨hw, fun w' e => h1 w' e⟩, _, hc1.put o.dst hN ?_, hi1.put v s.heap s.nx, hv⟩
      cases v
      case opt ch y => exact absurd rfl (hno ch y)
      all_goals exact h2
    | cons c cs =>
      dsimp only at hgo
      have hall : chProp gs' (c :: cs) → ∀ p ∈ (c :: cs) ++ s.kn, gsGet gs' p.1 = some p.2 := fun hh p hp => by
        rcases List.mem_append.1 hp with hp | hp
        · exact chProp_iff.1 hh p hp
        · exact hc1.kn p hp
      obtain ⟨v, hv, hval⟩ := xquiet_sound (P := P) (Hyp := chProp gs' (c :: cs)) (nd := ndOf gs' (c :: cs)) HT hc1 (fun c' X h => ⟨XNeed.x h, XNeed.c h⟩) (fun hh => opd_rep hc1 (hall hh))
        (fun hh y => strip_rep (opr_rep hc1 y) (fun p hp => .inl (hall hh p hp))) (fun hh => pick_rep hc1 hi1 (hall hh)) hgo
      rw [putK_eq] at hv
      by_cases hp : chProp gs' (c :: cs)
      · obtain ⟨val, h1, h2⟩ := hval hp
        exact ⟨val, .inl ⟨hch.1 hp, fun w' e => h1 w' e⟩, _, hc1.put o.dst hN (show RpE T C _ w (.opt (c :: cs) v) val from ⟨hdom, .inl ⟨hp, h2⟩⟩), hi1.put _ s.heap s.nx, hv⟩
      · have hw : Region.wanted o (yielded ops a.tmps) = false := by
          cases hh : Region.wanted o (yielded ops a.tmps) with
          | false => rfl
          | true => exact absurd (hch.2 hh) hp
        exact ⟨undef, .inr ⟨hw, rfl⟩, _, hc1.put o.dst hN (show RpE T C _ w (.opt (c :: cs) v) undef from ⟨hdom, .inr ⟨hp, rfl⟩⟩), hi1.put _ s.heap s.nx, hv⟩

theorem xop_eff (HT : tabOK P T = true) {ops : Array Oper} {i : Nat} {o : Oper} {r : List Oper} {k : St → Prop} {Q : Exit → Act → World → Prop} (hi : ops[i]? = some o) (hN : ∀ d, o.dst = some d → d < C.N) (hq : isQuiet T o.op = false) (x : XAt P T C ops.toList (o :: r) k s a w) :
    wpOp P ops Q i (fun a' w' => ∃ C' s', KeepC C C' ∧ XAt P T C' ops.toList r k s' a' w') a w := by
  obtain ⟨hc, hgi, hgo⟩ := x
  simp only [xops] at hgo
  have hg := guard_sound hc hgi rfl o
  generalize guardOf ops.toList (o :: r) o s.env s.gs s.kn = gv at hgo hg
  unfold wpOp
  simp only [hi]
  have skip : ∀ {s1 : St}, CS T C s1 a w → GInv ops.toList (o :: r) s1 → Region.wanted o (yielded ops a.tmps) = false → xops T (ACalls P T) ops.toList r (putE s1.env o.dst .undef) s1.heap s1.nx s1.gs s1.kn k →
      ∃ C' s', KeepC C C' ∧ XAt P T C' ops.toList r k s' (a.put o.dst undef) w := fun {s1} q1 q2 q3 q4 =>
    ⟨C, _, KeepC.refl C, q1.put o.dst hN (show RpE T C s1 w .undef undef from rfl), q2.put .undef s1.heap s1.nx, q4⟩
  have run : ∀ {s1 : St}, CS T C s1 a w → GInv ops.toList (o :: r) s1 → (xeff T (ACalls P T) (opd s1.env s1.kn) o.op s1.env s1.heap s1.nx fun v env1 h' nx' => putK env1 o.dst v fun env' => xops T (ACalls P T) ops.toList r env' h' nx' s1.gs s1.kn k) →
      o.wp P a w (fun a' w' => ∃ C' s', KeepC C C' ∧ XAt P T C' ops.toList r k s' a' w') Q := fun {s1} q1 q2 q3 => by
    refine eff_wp (xeff_sound HT q1 (opd_rep q1 q1.kn) q3) hN ?_
    intro v h' nx' C' val w' hk hkc hcs
    rw [putK_eq] at hk
    exact ⟨C', _, hkc, hcs, q2.put v h' nx', hk⟩
  cases gv with
  | bad => exact hgo.elim
  | skip =>
    rw [putK_eq] at hgo
    simp only [hg, Bool.false_eq_true, if_false]
    exact skip hc hgi hg hgo
  | run ch gs' =>
    obtain ⟨hc1, hi1, hdom, hch⟩ := hg
    dsimp only at hgo
    rw [hq] at hgo
    cases ch with
    | nil =>
      dsimp only at hgo
      have hw : Region.wanted o (yielded ops a.tmps) = true := hch.1 trivial
      simp only [hw, if_true]
      exact .inl (run hc1 hi1 hgo)
    | cons c cs =>
      dsimp only at hgo
      have hrev : ∀ (gs : List (Nat × Bool)), chProp gs (c :: cs).reverse ↔ chProp gs (c :: cs) := fun gs => by simp only [chProp_iff, List.mem_reverse]
      obtain ⟨env', kn', q1, q2, q3⟩ := xsplit_sound _ _ _ hc1 hi1 (fun p hp => hdom p (List.mem_reverse.1 hp)) hgo
      rcases q3 with ⟨q3, q4⟩ | ⟨q3, q4⟩
      · have hw : Region.wanted o (yielded ops a.tmps) = true := hch.1 ((hrev _).1 q3)
        simp only [hw, if_true]
        exact .inl (run q1 q2 q4)
      · have hw : Region.wanted o (yielded ops a.tmps) = false := by
          cases hh : Region.wanted o (yielded ops a.tmps) with
          | false => rfl
          | true => exact absurd ((hrev _).2 (hch.2 hh)) q3
        simp only [hw, Bool.false_eq_true, if_false]
        rw [putK_eq] at q4
        exact skip q1 q2 hw q4

theorem wpOp_of_yields {ops : Array Oper} {Q : Exit → Act → World → Prop} {i : Nat} {o : Oper} {v : Value} (hi : ops[i]? = some o) (hy : YieldsIf P ops (Same C w) o v a) {K : Act → World → Prop} (h : K (a.put o.dst v) w) : wpOp P ops Q i K a w :=
  hy.wpOp hi (Same.refl C w) h

/-- The operations in their order. -/
theorem xops_sound (HT : tabOK P T = true) {ops : Array Oper} {k : St → Prop} {Q : Exit → Act → World → Prop} : ∀ (l : List Oper) (is : List Nat), all2 (fun o i => ops[i]? = some o) l is → (∀ o ∈ l, ∀ d, o.dst = some d → d < C.N) →
    ∀ (C' : Cx) (s : St) (a : Act) (w : World), KeepC C C' → XAt P T C' ops.toList l k s a w → (∀ C' s' a' w', KeepC C C' → CS T C' s' a' w' → k s' → Q .normal a' w') → wpOps P ops Q is a w := by
  intro l
  induction l with
  | nil =>
    intro is hall _ C' s a w hk x hQ
    cases is with
    | nil =>
      have := x.go
      simp only [xops] at this
      exact hQ C' s a w hk x.cs this
    | cons _ _ => exact hall.elim
  | cons o r ih =>
    intro is hall hN C' s a w hk x hQ
    cases is with
    | nil => exact hall.elim
    | cons i is =>
      rw [wpOps_cons]
      have hN' : ∀ d, o.dst = some d → d < C'.N := fun d hd => by rw [hk.2.2.2.2]; exact hN o (by simp) d hd
      cases hq : isQuiet T o.op with
      | true =>
        obtain ⟨val, h1, s', h2⟩ := xop_quiet HT hN' hq x
        exact wpOp_of_yields hall.1 h1 (ih is hall.2 (fun o' ho' => hN o' (List.mem_cons_of_mem _ ho')) C' s' _ w hk h2 hQ)
      | false =>
        refine wpOp_mono ?_ (xop_eff HT hall.1 hN' hq x)
        rintro a' w' ⟨C2, s', hk2, h2⟩
        exact ih is hall.2 (fun o' ho' => hN o' (List.mem_cons_of_mem _ ho')) C2 s' a' w' (hk.trans hk2) h2 hQ
end
end Go.Proofs.Ytaghkmaelbgljaa.VX
