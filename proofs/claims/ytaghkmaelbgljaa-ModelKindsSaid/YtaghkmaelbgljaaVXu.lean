/- Regions that draw their order and have effects. -/
import Derived.Test.YtaghkmaelbgljaaVXs
namespace Go.Proofs.Ytaghkmaelbgljaa.VX
section
variable {P : Program} {T : Tab} {C C' : Cx} {s s' : St} {a : Act} {w w' : World}

theorem memN_iff {l : List Nat} {i : Nat} : memN l i = true ↔ i ∈ l := by
  induction l with
  | nil => simp [memN]
  | cons x r ih =>
    simp only [memN, Bool.or_eq_true, ih, List.mem_cons]
    constructor
    · rintro (h | h)
      · exact .inl (beq_nat h).symm
      · exact .inr h
    · rintro (rfl | h)
      · exact .inl (Nat.beq_refl _)
      · exact .inr h
theorem era_eq (Wr : List Nat) : ∀ {h : Hp} {K : Hp → Prop}, era Wr h K → ∃ hq, K hq ∧ ∀ id, getB hq id = if id ∈ Wr then .gone else getB h id
  | [], K, h => ⟨[], h, fun id => by simp [getB]⟩
  | (i, b) :: r, K, h => by
    simp only [era] at h
    cases hm : memN Wr i with
    | true =>
      rw [hm] at h
      obtain ⟨hq, h1, h2⟩ := era_eq Wr h
      refine ⟨hq, h1, fun id => ?_⟩
      rw [h2, getB_cons]
      split
      · rfl
      · rename_i hn
        rw [if_neg (fun e => hn (by rw [e]; exact memN_iff.1 hm))]
    | false =>
      rw [hm] at h
      obtain ⟨hq, h1, h2⟩ := era_eq Wr h
      have hni : i ∉ Wr := fun hn => by rw [memN_iff.2 hn] at hm; cases hm
      refine ⟨_, h1, fun id => ?_⟩
      rw [getB_cons, getB_cons, h2]
      by_cases e : id = i
      · subst e; rw [if_pos rfl, if_neg hni, if_pos rfl]
      · rw [if_neg e, if_neg e]
theorem boxes_spec {h : Hp} : ∀ {Wr : List Nat}, boxes h Wr = true → ∀ id ∈ Wr, ∃ t cs, getB h id = .box t cs
  | [], _ => by simp
  | i :: r, hb => by
    simp only [boxes, Bool.and_eq_true] at hb
    intro id hid
    rcases List.mem_cons.1 hid with rfl | hid
    · cases hg : getB h id with
      | box t cs => exact ⟨t, cs, rfl⟩
      | arr _ _ _ _ => rw [hg] at hb; cases hb.1
      | gone => rw [hg] at hb; cases hb.1
    · exact boxes_spec hb.2 id hid

/-- The written ones are others'. -/
def eraCx (C : Cx) (Wr : List Nat) : Cx := { C with F := fun b => C.F b ∨ ∃ id, id ∈ Wr ∧ b = C.β id }

theorem ownB_era {Wr : List Nat} {h hq : Hp} (hg : ∀ id, getB hq id = if id ∈ Wr then .gone else getB h id) {id b : Nat} (ho : ownB (eraCx C Wr) hq id = some b) : id ∉ Wr ∧ ownB C h id = some b := by
  unfold ownB at ho
  rw [hg] at ho
  by_cases hm : id ∈ Wr
  · rw [if_pos hm] at ho; cases ho
  · rw [if_neg hm] at ho; exact ⟨hm, ho⟩
theorem XB_era {Wr : List Nat} {h hq : Hp} (hg : ∀ id, getB hq id = if id ∈ Wr then .gone else getB h id) (hb : ∀ id ∈ Wr, ∃ t cs, getB h id = .box t cs) (b : Nat) : XB (eraCx C Wr) hq b ↔ XB C h b := by
  constructor
  · rintro ((hF | ⟨id, hid, rfl⟩) | ⟨id, ho⟩)
    · exact .inl hF
    · obtain ⟨t, cs, hg⟩ := hb id hid
      exact .inr ⟨id, by simp [ownB, hg]⟩
    · exact .inr ⟨id, (ownB_era hg ho).2⟩
  · rintro (hF | ⟨id, ho⟩)
    · exact .inl (.inl hF)
    · by_cases hm : id ∈ Wr
      · obtain ⟨t, cs, hgb⟩ := hb id hm
        have : b = C.β id := by simp [ownB, hgb] at ho; exact ho.symm
        exact .inl (.inr ⟨id, hm, this⟩)
      · refine .inr ⟨id, ?_⟩
        unfold ownB
        rw [hg, if_neg hm]
        exact ho

theorem ext_era {Wr : List Nat} {hq : Hp} (hg : ∀ id, getB hq id = if id ∈ Wr then .gone else getB s.heap id) (hb : ∀ id ∈ Wr, ∃ t cs, getB s.heap id = .box t cs) :
    Ext C s w (eraCx C Wr) ⟨s.env, hq, s.nx, s.gs, s.kn⟩ w ∧ Ext (eraCx C Wr) ⟨s.env, hq, s.nx, s.gs, s.kn⟩ w C s w := by
  refine ⟨⟨fun _ _ _ => rfl, fun b _ h => (XB_era hg hb b).1 h, Nat.le_refl _, fun _ _ => ⟨rfl, rfl, rfl⟩, fun id _ wr' t' b' l' h => ?_⟩, ⟨fun _ _ _ => rfl, fun b _ h => (XB_era hg hb b).2 h, Nat.le_refl _, fun _ _ => ⟨rfl, rfl, rfl⟩, fun id _ wr' t' b' l' h => ?_⟩⟩
  · change getB hq id = _ at h
    rw [hg] at h
    split at h
    · cases h
    · exact ⟨wr', b', l', h, rfl⟩
  · refine ⟨wr', b', l', ?_, rfl⟩
    show getB hq id = _
    rw [hg, if_neg]
    · exact h
    · intro hm
      obtain ⟨t, cs, hgb⟩ := hb id hm
      rw [hgb] at h; cases h

theorem CS.era (hc : CS T C s a w) {Wr : List Nat} {hq : Hp} (hg : ∀ id, getB hq id = if id ∈ Wr then .gone else getB s.heap id) (hb : ∀ id ∈ Wr, ∃ t cs, getB s.heap id = .box t cs) :
    CS T (eraCx C Wr) ⟨s.env, hq, s.nx, s.gs, s.kn⟩ a w := by
  obtain ⟨E, _⟩ := ext_era (C := C) (w := w) hg hb
  have hbo : ∀ id ∈ Wr, ownB C s.heap id = some (C.β id) := fun id hid => by obtain ⟨t, cs, h⟩ := hb id hid; simp [ownB, h]
  refine ⟨fun t => (hc.env t).ext E rfl, fun id => ?_, fun id hid => ?_, fun i j b h1 h2 => hc.inj i j b (ownB_era hg h1).2 (ownB_era hg h2).2, fun id b ho => ?_, hc.g, hc.ge, hc.pin, hc.kn, hc.defers, hc.sz, fun b hF => ?_, hc.io⟩
  · show RepB T _ _ w id (getB hq id)
    rw [hg]
    split
    · exact trivial
    · by_cases hid : id < s.nx
      · exact (hc.blk id).ext E hid rfl (fun _ _ => rfl)
      · rw [hc.nx id (by omega)]; exact trivial
  · show getB hq id = _
    rw [hg]
    split
    · rfl
    · exact hc.nx id hid
  · obtain ⟨hn, ho⟩ := ownB_era hg ho
    obtain ⟨h1, h2, h3⟩ := hc.own id b ho
    refine ⟨h1, h2, ?_⟩
    rintro (hF | ⟨i, hi, rfl⟩)
    · exact h3 hF
    · have := hc.inj id i _ ho (hbo i hi)
      subst this
      exact hn hi
  · rcases hF with hF | ⟨i, hi, rfl⟩
    · exact hc.f b hF
    · exact (hc.own i _ (hbo i hi)).1

theorem RpE_of_S {x : AV} {v : Value} (h : RpS T C s w x v) : RpE T C s w x v := by
  cases x <;> first | exact h | exact h.elim

/-- What holds between two operations. -/
structure XAtD (P : Program) (T : Tab) (C : Cx) (Wr : List Nat) (all l : List Oper) (k : St → Prop) (s : St) (a : Act) (w : World) : Prop where
  cs : CS T C s a w
  gi : GInv all l s
  go : xopsD T (ACalls P T) Wr all l s.env s.heap s.nx s.gs s.kn k

theorem xopD_quiet (HT : tabOK P T = true) {Wr : List Nat} {ops : Array Oper} {o : Oper} {r : List Oper} {k : St → Prop} (hN : ∀ d, o.dst = some d → d < C.N) (hq : isQuiet T o.op = true) (x : XAtD P T C Wr ops.toList (o :: r) k s a w) :
    ∃ val, YieldsIf P ops (Same (eraCx C Wr) w) o val a ∧ ∃ s', XAtD P T C Wr ops.toList r k s' (a.put o.dst val) w := by
  obtain ⟨hc, hi, hgo⟩ := x
  simp only [xopsD] at hgo
  cases hbx : boxes s.heap Wr with
  | false => rw [hbx] at hgo; exact hgo.elim
  | true =>
  rw [hbx, cond_true] at hgo
  have hbs := boxes_spec hbx
  have hg := guard_sound hc hi rfl o
  generalize guardOf ops.toList (o :: r) o s.env s.gs s.kn = gv at hgo hg
  cases gv with
  | bad => exact hgo.elim
  | skip =>
    rw [putK_eq] at hgo
    exact ⟨undef, .inr ⟨hg, rfl⟩, _, hc.put o.dst hN (show RpE T C s w .undef undef from rfl), hi.put .undef s.heap s.nx, hgo⟩
  | run ch gs' =>
    obtain ⟨hc1, hi1, hdom, hch⟩ := hg
    dsimp only at hgo
    rw [hq] at hgo
    cases ch with
    | nil =>
      dsimp only at hgo
      obtain ⟨hh, hgo, hget⟩ := era_eq Wr hgo
      have hcq := hc1.era (hq := hh) hget hbs
      obtain ⟨_, E⟩ := ext_era (C := C) (w := w) (s := ⟨s.env, s.heap, s.nx, gs', s.kn⟩) (hq := hh) hget hbs
      have hiq : GInv ops.toList (o :: r) ⟨s.env, hh, s.nx, gs', s.kn⟩ := ⟨hi1.gi, hi1.nd, hi1.dm⟩
      have hw : Region.wanted o (yielded ops a.tmps) = true := hch.1 trivial
      obtain ⟨v, hv, hval⟩ := xquiet_sound (P := P) (Hyp := True) (nd := XNeed) HT hcq (fun c X h => ⟨h.x, fun _ => h.c⟩) (fun _ => opd_rep hcq hcq.kn)
        (fun _ y => strip_rep (opr_rep hcq y) (fun p hp => .inl (hcq.kn p hp))) (fun _ => pick_rep hcq hiq hcq.kn) hgo
      obtain ⟨val, h1, h2⟩ := hval trivial
      rw [putK_eq] at hv
      have hno : ∀ ch y, v ≠ .opt ch y := fun ch y e => by subst e; exact h2.elim
      refine ⟨val, .inl ⟨hw, h1⟩, _, hc1.put o.dst hN ?_, hi1.put v s.heap s.nx, hv⟩
      exact RpE_of_S (RpS.ext E h2)
    | cons c cs =>
      dsimp only at hgo
      obtain ⟨hh, hgo, hget⟩ := era_eq Wr hgo
      have hcq := hc1.era (hq := hh) hget hbs
      obtain ⟨_, E⟩ := ext_era (C := C) (w := w) (s := ⟨s.env, s.heap, s.nx, gs', s.kn⟩) (hq := hh) hget hbs
      have hiq : GInv ops.toList (o :: r) ⟨s.env, hh, s.nx, gs', s.kn⟩ := ⟨hi1.gi, hi1.nd, hi1.dm⟩
      have hall : chProp gs' (c :: cs) → ∀ p ∈ (c :: cs) ++ s.kn, gsGet gs' p.1 = some p.2 := fun hp p hpm => by
        rcases List.mem_append.1 hpm with hm | hm
        · exact chProp_iff.1 hp p hm
        · exact hc1.kn p hm
      obtain ⟨v, hv, hval⟩ := xquiet_sound (P := P) (Hyp := chProp gs' (c :: cs)) (nd := ndOf gs' (c :: cs)) HT hcq (fun c' X h => ⟨XNeed.x h, XNeed.c h⟩) (fun hp => opd_rep hcq (hall hp))
        (fun hp y => strip_rep (opr_rep hcq y) (fun p hpm => .inl (hall hp p hpm))) (fun hp => pick_rep hcq hiq (hall hp)) hgo
      rw [putK_eq] at hv
      by_cases hp : chProp gs' (c :: cs)
      · obtain ⟨val, h1, h2⟩ := hval hp
        exact ⟨val, .inl ⟨hch.1 hp, h1⟩, _, hc1.put o.dst hN (show RpE T C _ w (.opt (c :: cs) v) val from ⟨hdom, .inl ⟨hp, RpS.ext E h2⟩⟩), hi1.put _ s.heap s.nx, hv⟩
      · have hw : Region.wanted o (yielded ops a.tmps) = false := by
          cases hh : Region.wanted o (yielded ops a.tmps) with
          | false => rfl
          | true => exact absurd (hch.2 hh) hp
        exact ⟨undef, .inr ⟨hw, rfl⟩, _, hc1.put o.dst hN (show RpE T C _ w (.opt (c :: cs) v) undef from ⟨hdom, .inr ⟨hp, rfl⟩⟩), hi1.put _ s.heap s.nx, hv⟩
end
end Go.Proofs.Ytaghkmaelbgljaa.VX
