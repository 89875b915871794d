/- Slices that are made, written and appended to. -/
import Derived.Test.YtaghkmaelbgljaaVXb
namespace Go.Proofs.Ytaghkmaelbgljaa.VX
section
variable {P : Program} {T : Tab} {C : Cx} {s : St} {a : Act} {w w' : World}

theorem freezeK_eq : ∀ (ids : List Nat) (h : Hp) (K : Hp → Prop), freezeK h ids K = K (Go.Proofs.Ytaghkmaelbgljaa.VX.freeze h ids)
  | [], _, _ => rfl
  | id :: r, h, K => by
    simp only [freezeK, Go.Proofs.Ytaghkmaelbgljaa.VX.freeze]
    cases getB h id <;> exact freezeK_eq r _ K

theorem rows_repC {X : Nat → Prop} {t : TypeId} {cks : List CK} {l : List (List AV)} {g o cap : Nat} (hk : ckOf T t = some cks) (hp : 0 < cks.length) (hne : l ≠ []) (hX : ¬ X g) (hle : l.length ≤ cap) (h : RowsRep T w X g o cks l) :
    RepC T w X (.sl t) (.sl false t l) (.slice (some ⟨g, o, none⟩) l.length cap) := by
  have key : ∀ i j, ∃ v, (i < l.length → j < cks.length → w.cell? ⟨g, o + (i * cks.length + j), none⟩ = some v) ∧ ∀ e x c, l[i]? = some e → e[j]? = some x → cks[j]? = some c → RepC T w X c x v := by
    intro i j
    by_cases hi : i < l.length
    · by_cases hj : j < cks.length
      · obtain ⟨hl, hr⟩ := h i _ (List.getElem?_eq_getElem hi)
        obtain ⟨v, hv, hc⟩ := hr j _ _ (List.getElem?_eq_getElem (by omega)) (List.getElem?_eq_getElem hj)
        refine ⟨v, fun _ _ => hv, fun e x c he hx hcc => ?_⟩
        rw [List.getElem?_eq_getElem hi] at he
        injection he with he
        subst he
        rw [List.getElem?_eq_getElem (by omega)] at hx
        injection hx with hx
        rw [List.getElem?_eq_getElem hj] at hcc
        injection hcc with hcc
        rw [← hx, ← hcc]; exact hc
      · exact ⟨undef, fun _ h' => absurd h' hj, fun e x c _ _ hcc => by rw [List.getElem?_eq_none (by omega)] at hcc; cases hcc⟩
    · exact ⟨undef, fun h' => absurd h' hi, fun e x c he => by rw [List.getElem?_eq_none (by omega)] at he; cases he⟩
  refine .sl t cks l g o cap (fun i j => Classical.choose (key i j)) hk hp hne hX hle (fun i e he => (h i e he).1) (fun i j hi hj => (Classical.choose_spec (key i j)).1 hi hj) (fun i e j x c he hx hc => (Classical.choose_spec (key i j)).2 e x c he hx hc)

/-- A value as the cell of an element: nobody writes to what it lends. -/
theorem fitC_sound (hc : CS T C s a w) {c : CK} {x y : AV} (h : fitC s.heap c x = some y) {v : Value} (hv : RpK T C s w x v) (hfr : ∀ id ∈ lendC x, ∀ wr t b l, getB s.heap id = .arr wr t b l → wr = false) :
    RepC T w (XB C s.heap) c y v := by
  unfold fitC at h
  split at h
  case h_1 k k' n =>
    split at h
    · rename_i e; subst e; injection h with h; subst h
      have e : v = .int k n := hv
      subst e; exact .int k n
    · cases h
  case h_2 b => injection h with h; subst h; have e : v = .bool b := hv; subst e; exact .bool b
  case h_3 b => injection h with h; subst h; have e : v = .bool b := hv; subst e; exact .bool b
  case h_4 b => injection h with h; subst h; have e : v = .string b := hv; subst e; exact .str b
  case h_5 t => injection h with h; subst h; have e : v = .slice none 0 0 := hv; subst e; exact .em t true none 0 rfl
  case h_6 t b => injection h with h; subst h; obtain ⟨ad, rfl, e⟩ := hv; exact .em t b ad 0 e
  case h_7 t q1 q2 =>
    clear q1 q2
    cases hr : rowsOf s.heap x with
    | none => simp [hr] at h
    | some q =>
      obtain ⟨b, t', l⟩ := q
      rw [hr] at h
      simp only at h
      cases ht : Nat.beq t t' with
      | false => simp [ht] at h
      | true =>
        simp only [ht, cond_true] at h
        injection h with h
        subst h
        have ht := beq_nat ht
        subst ht
        cases x <;> simp only [rowsOf] at hr
        all_goals try (cases hr; done)
        case sl b' t' l' => injection hr with hr; injection hr with e1 e2; injection e2 with e2 e3; subst e1 e2 e3; exact hv
        case own id =>
          cases hb : getB s.heap id with
          | gone => simp [hb] at hr
          | box _ _ => simp [hb] at hr
          | arr wr t' b' l' =>
            rw [hb] at hr
            injection hr with hr; injection hr with e1 e2; injection e2 with e2 e3; subst e1 e2 e3
            have hw := hfr id (by simp [lendC]) wr t' b' l' hb
            subst hw
            obtain ⟨_, rfl⟩ := rp_own (RpS_of_RpK hv) hb
            have hblk := hc.blk id
            rw [hb] at hblk
            obtain ⟨cks, hk, hp, hblk⟩ := hblk
            rcases hblk with ⟨rfl, hcap, hn⟩ | ⟨hn, hcap, g, o, hbase, hle, hrow, _, hX⟩
            · exact .em _ _ _ _ hn
            · by_cases hne : l' = []
              · subst hne; rw [hn]; exact .em _ _ _ _ (by rw [hbase]; rfl)
              · rw [hn]
                simp only [hdr, hbase]
                exact rows_repC hk hp hne (hX rfl hne) hle hrow
        case vw id lo n =>
          cases hb : getB s.heap id with
          | gone => simp [hb] at hr
          | box _ _ => simp [hb] at hr
          | arr wr t' b' l' =>
            rw [hb] at hr
            injection hr with hr; injection hr with e1 e2; injection e2 with e2 e3; subst e1 e2 e3
            have hw := hfr id (by simp [lendC]) wr t' b' l' hb
            subst hw
            obtain ⟨_, ad, cc, rfl, hnc, hlen, hnn, hz, hpos⟩ := rp_vw (RpS_of_RpK hv) hb
            have hblk := hc.blk id
            rw [hb] at hblk
            obtain ⟨cks, hk, hp, hblk⟩ := hblk
            have hl' : ((l'.drop lo).take n).length = n := by simp; omega
            by_cases hn0 : n = 0
            · subst hn0
              simp only [List.take_zero]
              refine .em _ _ _ _ ?_
              rw [hnn]
              rcases hblk with ⟨_, _, hn⟩ | ⟨hn, _, g, o, hbase, _⟩
              · exact hn
              · rw [hn, hbase]; rfl
            · obtain ⟨g, o, cks', hbase, hk', rfl⟩ := hpos (by omega)
              rw [hk] at hk'
              injection hk' with hk'
              subst hk'
              rcases hblk with ⟨rfl, _, _⟩ | ⟨hn, hcap, g', o', hbase', hle, hrow, _, hX⟩
              · simp at hlen; omega
              · rw [hbase] at hbase'
                injection hbase' with hbase'
                injection hbase' with e1 e2 _
                subst e1 e2
                have hne : l' ≠ [] := fun e => by subst e; simp at hlen; omega
                rw [hn]
                have hrow' : RowsRep T w (XB C s.heap) g (o + lo * cks.length) cks ((l'.drop lo).take n) := by
                  intro i e he
                  rw [List.getElem?_take] at he
                  split at he
                  · rw [List.getElem?_drop] at he
                    obtain ⟨h1, h2⟩ := hrow (lo + i) e he
                    refine ⟨h1, fun j x c hx hcc => ?_⟩
                    obtain ⟨v, hv, hr⟩ := h2 j x c hx hcc
                    refine ⟨v, ?_, hr⟩
                    rw [← hv]
                    congr 2
                    rw [Nat.add_mul]; omega
                  · cases he
                have := rows_repC (cap := cc) hk hp (l := (l'.drop lo).take n) (fun e => by rw [e] at hl'; simp at hl'; omega) (hX rfl hne) (by rw [hl']; exact hnc) hrow'
                rw [hl'] at this
                exact this
  case h_8 => cases h
theorem fitCs_sound (hc : CS T C s a w) : ∀ (cks : List CK) (xs : List AV) (K : List AV → Prop), fitCs s.heap cks xs K → (∀ x ∈ xs, ∀ id ∈ lendC x, ∀ wr t b l, getB s.heap id = .arr wr t b l → wr = false) →
    ∃ ys, K ys ∧ ys.length = cks.length ∧ xs.length = cks.length ∧ ∀ vs : List Value, all2 (RpK T C s w) xs vs → ∀ (j : Nat) (y : AV) (c : CK), ys[j]? = some y → cks[j]? = some c → ∃ v, vs[j]? = some v ∧ RepC T w (XB C s.heap) c y v := by
  intro cks
  induction cks with
  | nil =>
    intro xs K h hfr
    cases xs with
    | nil => exact ⟨[], h, rfl, rfl, fun vs _ j y c hy => by simp at hy⟩
    | cons _ _ => exact h.elim
  | cons c cks ih =>
    intro xs K h hfr
    cases xs with
    | nil => exact h.elim
    | cons x xs =>
      simp only [fitCs] at h
      cases hf : fitC s.heap c x with
      | none => simp [hf] at h
      | some y =>
        rw [hf] at h
        obtain ⟨ys, hK, h1, h2, h3⟩ := ih xs _ h (fun x hx => hfr x (List.mem_cons_of_mem _ hx))
        refine ⟨y :: ys, hK, by simp [h1], by simp [h2], fun vs hvs j y' c' hy hc' => ?_⟩
        cases vs with
        | nil => exact hvs.elim
        | cons v vs =>
          cases j with
          | zero =>
            simp at hy hc'
            subst hy hc'
            exact ⟨v, rfl, fitC_sound hc hf hvs.1 (hfr x (by simp))⟩
          | succ j =>
            simpa using h3 vs hvs.2 j y' c' (by simpa using hy) (by simpa using hc')
end
end Go.Proofs.Ytaghkmaelbgljaa.VX
