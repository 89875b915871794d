/- Slices that are made, written and appended to. -/
import Derived.Test.YtalchibbmkhkpaaVX0
import Derived.Deep.Upon
import Derived.Lib.AppendZeros
import Derived.OrdersHeld
import Derived.OrdersIn
import Derived.RangeFuncIn
set_option linter.unusedVariables false
set_option linter.unusedSimpArgs false
namespace Go.Proofs.Ytalchibbmkhkpaa.VX
section
variable {P : Program} {T : Tab} {C : Cx} {s : St} {a : Act} {w w' : World}
theorem freezeK_eq : ∀ (ids : List Nat) (h : Hp) (K : Hp → Prop), freezeK h ids K = K (Go.Proofs.Ytalchibbmkhkpaa.VX.freeze h ids)
  | [], _, _ => rfl
  | id :: r, h, K => by
    simp only [freezeK, Go.Proofs.Ytalchibbmkhkpaa.VX.freeze]
    cases getB h id <;> exact freezeK_eq r _ K
theorem rows_repC {X : Nat → Prop} {t : TypeId} {cks : List CK} {l : List (List AV)} {g o cap : Nat} (hk : ckOf T t = some cks) (hp : 0 < cks.length) (hne : l ≠ []) (hX : ¬ X g) (hle : l.length ≤ cap) (h : RowsRep T w X g o cks l) :
    RepC T w X (.sl t) (.sl false 0 l) (.slice (some ⟨g, o, none⟩) l.length cap) := by
  have key : ∀ i j, ∃ v, (i < l.length → j < cks.length → w.cell? ⟨g, o + (i * cks.length + j), none⟩ = some v) ∧ ∀ e x c, l[i]? = some e → e[j]? = some x → cks[j]? = some c → RepC T w X c x v := by
    intro i j
    by_cases hi : i < l.length
    · by_cases hj : j < cks.length
      · obtain ⟨hl, hr⟩ := h i _ (List.getElem?_eq_getElem hi)
        obtain ⟨v, hv, hc⟩ := hr j _ _ (List.getElem?_eq_getElem (by omega)) (List.getElem?_eq_getElem hj)
        refine ⟨v, fun _ _ => hv, fun e x c he hx hcc => ?_⟩
        rw [List.getElem?_eq_getElem hi] at he
        injection he with he
        subst he
        rw [List.getElem?_eq_getElem (by omega)] at hx
        injection hx with hx
        rw [List.getElem?_eq_getElem hj] at hcc
        injection hcc with hcc
        rw [← hx, ← hcc]; exact hc
      · exact ⟨undef, fun _ h' => absurd h' hj, fun e x c _ _ hcc => by rw [List.getElem?_eq_none (by omega)] at hcc; cases hcc⟩
    · exact ⟨undef, fun h' => absurd h' hi, fun e x c he => by rw [List.getElem?_eq_none (by omega)] at he; cases he⟩
  refine .sl t cks l g o cap (fun i j => Classical.choose (key i j)) hk hp hne hX hle (fun i e he => (h i e he).1) (fun i j hi hj => (Classical.choose_spec (key i j)).1 hi hj) (fun i e j x c he hx hc => (Classical.choose_spec (key i j)).2 e x c he hx hc)
theorem fitC_sound (hc : CS T C s a w) {c : CK} {x y : AV} (h : fitC s.heap c x = some y) {v : Value} (hv : RpK T C s w x v) (hfr : ∀ id ∈ lendC x, ∀ wr t b l, getB s.heap id = .arr wr t b l → wr = false) :
    RepC T w (XB C s.heap) c y v := by
  unfold fitC at h
  split at h
  case h_1 k k' n =>
    split at h
    · rename_i e; subst e; injection h with h; subst h
      have e : v = .int k n := hv
      subst e; exact .int k n
    · cases h
  case h_2 b => injection h with h; subst h; have e : v = .bool b := hv; subst e; exact .bool b
  case h_3 b => injection h with h; subst h; have e : v = .bool b := hv; subst e; exact .bool b
  case h_4 b => injection h with h; subst h; have e : v = .string b := hv; subst e; exact .str b
  case h_5 t => injection h with h; subst h; have e : v = .slice none 0 0 := hv; subst e; exact .em t true none 0 rfl
  case h_6 t b => injection h with h; subst h; obtain ⟨ad, rfl, e⟩ := hv; exact .em t b ad 0 e
  case h_7 t q1 q2 =>
    clear q1 q2
    cases hr : rowsOf s.heap x with
    | none => simp [hr] at h
    | some q =>
      obtain ⟨b, t', l⟩ := q
      rw [hr] at h
      simp only at h
      cases ht : Nat.beq t t' with
      | false => simp [ht] at h
      | true =>
        simp only [ht, cond_true] at h
        injection h with h
        subst h
        have ht := beq_nat ht
        subst ht
        cases x <;> simp only [rowsOf] at hr
        all_goals try (cases hr; done)
        case sl b' t' l' => injection hr with hr; injection hr with e1 e2; injection e2 with e2 e3; subst e1 e2 e3; exact hv
        case own id =>
          cases hb : getB s.heap id with
          | gone => simp [hb] at hr
          | box _ _ => simp [hb] at hr
          | arr wr t' b' l' =>
            rw [hb] at hr
            injection hr with hr; injection hr with e1 e2; injection e2 with e2 e3; subst e1 e2 e3
            have hw := hfr id (by simp [lendC]) wr t' b' l' hb
            subst hw
            obtain ⟨_, rfl⟩ := rp_own (RpS_of_RpK hv) hb
            have hblk := hc.blk id
            rw [hb] at hblk
            obtain ⟨cks, hk, hp, hblk⟩ := hblk
            rcases hblk with ⟨rfl, hcap, hn⟩ | ⟨hn, hcap, g, o, hbase, hle, hrow, _, hX⟩
            · exact .em _ _ _ _ hn
            · by_cases hne : l' = []
              · subst hne; rw [hn]; exact .em _ _ _ _ (by rw [hbase]; rfl)
              · rw [hn]
                simp only [hdr, hbase]
                exact rows_repC hk hp hne (hX rfl hne) hle hrow
        case vw id lo n =>
          cases hb : getB s.heap id with
          | gone => simp [hb] at hr
          | box _ _ => simp [hb] at hr
          | arr wr t' b' l' =>
            rw [hb] at hr
            injection hr with hr; injection hr with e1 e2; injection e2 with e2 e3; subst e1 e2 e3
            have hw := hfr id (by simp [lendC]) wr t' b' l' hb
            subst hw
            obtain ⟨_, ad, cc, rfl, hnc, hlen, hnn, hz, hpos⟩ := rp_vw (RpS_of_RpK hv) hb
            have hblk := hc.blk id
            rw [hb] at hblk
            obtain ⟨cks, hk, hp, hblk⟩ := hblk
            have hl' : ((l'.drop lo).take n).length = n := by simp; omega
            by_cases hn0 : n = 0
            · subst hn0
              simp only [List.take_zero]
              refine .em _ _ _ _ ?_
              rw [hnn]
              rcases hblk with ⟨_, _, hn⟩ | ⟨hn, _, g, o, hbase, _⟩
              · exact hn
              · rw [hn, hbase]; rfl
            · obtain ⟨g, o, cks', hbase, hk', rfl⟩ := hpos (by omega)
              rw [hk] at hk'
              injection hk' with hk'
              subst hk'
              rcases hblk with ⟨rfl, _, _⟩ | ⟨hn, hcap, g', o', hbase', hle, hrow, _, hX⟩
              · simp at hlen; omega
              · rw [hbase] at hbase'
                injection hbase' with hbase'
                injection hbase' with e1 e2 _
                subst e1 e2
                have hne : l' ≠ [] := fun e => by subst e; simp at hlen; omega
                rw [hn]
                have hrow' : RowsRep T w (XB C s.heap) g (o + lo * cks.length) cks ((l'.drop lo).take n) := by
                  intro i e he
                  rw [List.getElem?_take] at he
                  split at he
                  · rw [List.getElem?_drop] at he
                    obtain ⟨h1, h2⟩ := hrow (lo + i) e he
                    refine ⟨h1, fun j x c hx hcc => ?_⟩
                    obtain ⟨v, hv, hr⟩ := h2 j x c hx hcc
                    refine ⟨v, ?_, hr⟩
                    rw [← hv]
                    congr 2
                    rw [Nat.add_mul]; omega
                  · cases he
                have := rows_repC (cap := cc) hk hp (l := (l'.drop lo).take n) (fun e => by rw [e] at hl'; simp at hl'; omega) (hX rfl hne) (by rw [hl']; exact hnc) hrow'
                rw [hl'] at this
                exact this
  case h_8 => cases h
theorem fitCs_sound (hc : CS T C s a w) : ∀ (cks : List CK) (xs : List AV) (K : List AV → Prop), fitCs s.heap cks xs K → (∀ x ∈ xs, ∀ id ∈ lendC x, ∀ wr t b l, getB s.heap id = .arr wr t b l → wr = false) →
    ∃ ys, K ys ∧ ys.length = cks.length ∧ xs.length = cks.length ∧ ∀ vs : List Value, all2 (RpK T C s w) xs vs → ∀ (j : Nat) (y : AV) (c : CK), ys[j]? = some y → cks[j]? = some c → ∃ v, vs[j]? = some v ∧ RepC T w (XB C s.heap) c y v := by
  intro cks
  induction cks with
  | nil =>
    intro xs K h hfr
    cases xs with
    | nil => exact ⟨[], h, rfl, rfl, fun vs _ j y c hy => by simp at hy⟩
    | cons _ _ => exact h.elim
  | cons c cks ih =>
    intro xs K h hfr
    cases xs with
    | nil => exact h.elim
    | cons x xs =>
      simp only [fitCs] at h
      cases hf : fitC s.heap c x with
      | none => simp [hf] at h
      | some y =>
        rw [hf] at h
        obtain ⟨ys, hK, h1, h2, h3⟩ := ih xs _ h (fun x hx => hfr x (List.mem_cons_of_mem _ hx))
        refine ⟨y :: ys, hK, by simp [h1], by simp [h2], fun vs hvs j y' c' hy hc' => ?_⟩
        cases vs with
        | nil => exact hvs.elim
        | cons v vs =>
          cases j with
          | zero =>
            simp at hy hc'
            subst hy hc'
            exact ⟨v, rfl, fitC_sound hc hf hvs.1 (hfr x (by simp))⟩
          | succ j =>
            simpa using h3 vs hvs.2 j y' c' (by simpa using hy) (by simpa using hc')
end
section
variable {P : Program} {T : Tab} {C : Cx} {s : St} {a : Act} {w w' : World}
theorem splice_get {α : Type} (old : List α) (off : Nat) (new : List α) (h : off + new.length ≤ old.length) (j : Nat) :
    (old.take off ++ new ++ old.drop (off + new.length))[j]? = if off ≤ j ∧ j < off + new.length then new[j - off]? else old[j]? := by
  by_cases h1 : j < off
  · rw [List.append_assoc, List.getElem?_append_left (by simp; omega), List.getElem?_take, if_pos h1, if_neg (by omega)]
  · by_cases h2 : j < off + new.length
    · rw [List.getElem?_append_left (by simp; omega), List.getElem?_append_right (by simp; omega), if_pos (by omega)]
      congr 1
      simp; omega
    · rw [List.getElem?_append_right (by simp; omega), List.getElem?_drop, if_neg (by omega)]
      congr 1
      simp; omega
theorem row_at {i i' n j off m : Nat} (hj : j < n) (hoff : off + m ≤ n) (hne : i' ≠ i) : i' * n + j < i * n + off ∨ i * n + off + m ≤ i' * n + j := by
  rcases Nat.lt_or_gt_of_ne hne with h | h
  · left
    have : (i' + 1) * n ≤ i * n := Nat.mul_le_mul_right n h
    rw [Nat.add_mul] at this
    omega
  · right
    have : (i + 1) * n ≤ i' * n := Nat.mul_le_mul_right n h
    rw [Nat.add_mul] at this
    omega
theorem storeElt_sound (HT : tabOK P T = true) (hc : CS T C s a w) {t : TypeId} {xi : XI} (hx : T.get t = some xi) {id i off : Nat} {e : TypeId} {b : Bool} {l : List (List AV)} (hb : getB s.heap id = .arr true e b l) {cks : List CK} (hk : ckOf T e = some cks)
    {g o : Nat} (hbase : C.base id = some ⟨g, o, none⟩) (hi : i < l.length) {val : Value} (hn : val.cells.size = xi.size) (hle : off + xi.size ≤ cks.length) (h1 : ∀ u ∈ val.cells.toList, u.oneCell' = true)
    {ys : List AV} (hl : ys.length = xi.size) (hys : ∀ (j : Nat) (y : AV) (c : CK), ys[j]? = some y → cks[off + j]? = some c → ∃ v, val.cells.toList[j]? = some v ∧ RepC T w (XB C s.heap) c y v)
    {row : List AV} (hrl : row.length = cks.length) (hrow : ∀ j, j < cks.length → row[j]? = if off ≤ j ∧ j < off + ys.length then ys[j - off]? else (cks[j]?).map fun c => mkz c (cellOf l i j)) :
    (Instr.storeAt t (.pointer (some ⟨g, o + (i * cks.length + off), none⟩)) val).run P w = .ok () (w.setCells g (o + (i * cks.length + off)) val.cells.toList) ∧
    CS T C (s.set id (.arr true e b (l.set i row))) a (w.setCells g (o + (i * cks.length + off)) val.cells.toList) ∧
    Fr (· = id) C s w C (s.set id (.arr true e b (l.set i row))) (w.setCells g (o + (i * cks.length + off)) val.cells.toList) := by
  have R := tab_get HT hx
  have hblk := hc.blk id
  rw [hb] at hblk
  obtain ⟨cks', hk', hp, hblk⟩ := hblk
  rw [hk] at hk'
  injection hk' with hk'
  subst hk'
  rcases hblk with ⟨rfl, _, _⟩ | ⟨hnil, hcap, g', o', hbase', hlen, hrows, hthere, hX⟩
  · simp at hi
  · rw [hbase] at hbase'
    injection hbase' with hbase'
    injection hbase' with e1 e2 _
    subst e1 e2
    have ho : ownB C s.heap id = some g := by simp [ownB, hb, hbase, Nat.ne_of_gt hcap]
    have hthA := hthere rfl
    have hth := hthA.1
    have hbound : i * cks.length + off + xi.size ≤ C.cap id * cks.length := by
      have : (i + 1) * cks.length ≤ C.cap id * cks.length := Nat.mul_le_mul_right _ (by omega)
      rw [Nat.add_mul] at this
      omega
    have hsome : ∀ j, j < val.cells.toList.length → (w.cell? ⟨g, o + (i * cks.length + off) + j, none⟩).isSome = true := fun j hj => by
      have := (hth (i * cks.length + off + j) (by simp at hj; omega)).1
      rwa [← Nat.add_assoc] at this
    refine ⟨?_, ?_, Fr.set ho (by simp [ownB, St.set, getB_cons, hbase, Nat.ne_of_gt hcap]) (setCells_size _ _ _ _) (fun q hq => setCells_same _ _ _ _ q hq)⟩
    · refine run_storeAt w (R.size w) hn (fun j hj => ?_) h1
      have := hth (i * cks.length + off + j) (by omega)
      rwa [← Nat.add_assoc] at this
    · refine hc.set (gone_lt hc hb (by simp)) ho (by simp [ownB, St.set, getB_cons, hbase, Nat.ne_of_gt hcap]) (fun wr' t' b' l' e => by injection e with e1 e2 e3 e4; subst e2 e4; exact ⟨true, b, l, hb, by simp⟩)
        (setCells_size _ _ _ _) (fun q hq => setCells_same _ _ _ _ q hq) (fun E => ?_) (setCells_io _ _ _ _)
      refine ⟨cks, hk, hp, .inr ⟨hnil, hcap, g, o, hbase, by simpa using hlen, ?_, fun _ => thA_setCells hthA _ _ _, fun h => by cases h⟩⟩
      intro i' e' he'
      rw [List.getElem?_set] at he'
      by_cases hii : i = i'
      · subst hii
        rw [if_pos rfl, if_pos hi] at he'
        injection he' with he'
        subst he'
        refine ⟨hrl, fun j x c hx hc' => ?_⟩
        have hj : j < cks.length := (List.getElem?_eq_some_iff.1 hc').1
        rw [hrow j hj] at hx
        split at hx
        · rename_i hin
          obtain ⟨v, hv, hr⟩ := hys (j - off) x c hx (by rw [← hc']; congr 1; omega)
          refine ⟨v, ?_, hr.keep E.h1 E.h2⟩
          have hjl : j - off < val.cells.toList.length := (List.getElem?_eq_some_iff.1 hv).1
          have := World.cell?_setCells_in g val.cells.toList (o + (i * cks.length + off)) w hsome (j - off) hjl
          rw [show o + (i * cks.length + j) = o + (i * cks.length + off) + (j - off) by omega, this, ← hv, List.getElem?_eq_getElem hjl]
        · rename_i hout
          rw [hc'] at hx
          simp only [Option.map_some] at hx
          injection hx with hx
          obtain ⟨hll, hold⟩ := hrows i _ (List.getElem?_eq_getElem hi)
          have hj' : j < (l[i]).length := by omega
          obtain ⟨v, hv, hr⟩ := hold j _ c (List.getElem?_eq_getElem hj') hc'
          have e1 : cellOf l i j = (l[i])[j] := by simp [cellOf, List.getD, List.getElem?_eq_getElem hi, List.getElem?_eq_getElem hj']
          refine ⟨v, ?_, ?_⟩
          · rw [World.cell?_setCells_out g _ _ w _ (fun _ _ => by simp; omega)]
            exact hv
          · rw [← hx, e1, hr.mk]
            exact hr.keep E.h1 E.h2
      · rw [if_neg hii] at he'
        obtain ⟨hll, hold⟩ := hrows i' e' he'
        refine ⟨hll, fun j x c hx hc' => ?_⟩
        have hj : j < cks.length := (List.getElem?_eq_some_iff.1 hc').1
        obtain ⟨v, hv, hr⟩ := hold j x c hx hc'
        refine ⟨v, ?_, hr.keep E.h1 E.h2⟩
        rw [World.cell?_setCells_out g _ _ w _ (fun _ _ => by
          have := row_at (i := i) (i' := i') (n := cks.length) (j := j) (off := off) (m := xi.size) hj hle (fun e => hii e.symm)
          simp; omega)]
        exact hv
theorem lend_mem {v : AV} {x : AV} (hx : x ∈ v.cells) {id : Nat} (h : id ∈ lendC x) : id ∈ lend v := by
  have key : ∀ l : List AV, x ∈ l → id ∈ lendL l := by
    intro l
    induction l with
    | nil => intro h; cases h
    | cons y r ih =>
      intro hm
      simp only [lendL, List.mem_append]
      rcases List.mem_cons.1 hm with rfl | hm
      · exact .inl h
      · exact .inr (ih hm)
  cases v
  case agg l => exact key l hx
  all_goals (simp only [AV.cells, List.mem_singleton] at hx; subst hx; exact h)
theorem store_sound (HT : tabOK P T = true) (hc : CS T C s a w) {t : TypeId} {x y : Operand} {o : Oper} (ho : o.op = .store t x y) {ev : Operand → Value} {ρ : Operand → AV} (hρ : ∀ x, RpS T C s w (ρ x) (ev x)) {call : CR} {k : KE}
    {ok : Nat → Bool} (h : xeff T call ok ρ o.op s.env s.heap s.nx k) : AnsE P T C s a w (execOp ev o) k (fun id => wrOf ρ o.op = some id) := by
  have hwr : ∀ id, wrOf ρ o.op = some id ↔ (match ρ x with | .ptr id _ => some id | .elt id _ _ => some id | _ => none) = some id := fun id => by rw [ho]; exact Iff.rfl
  rw [ho] at h
  simp only [xeff, xstore] at h
  cases hx : T.get t with
  | none => simp [hx] at h
  | some xi =>
    rw [hx] at h
    simp only [cellsK_eq] at h
    cases hb : (okV (ρ y) && okCells s.heap (ρ y).cells && Nat.beq (len (ρ y).cells) xi.size) with
    | false => simp [hb] at h
    | true =>
      simp only [hb, cond_true] at h
      simp only [Bool.and_eq_true] at hb
      obtain ⟨⟨_, hok⟩, hn⟩ := hb
      have hn := beq_nat hn
      rw [len_eq] at hn
      have done : ∀ {wt : World}, (Instr.storeAt t (ev x) (ev y)).run P w = .ok () wt → (execOp ev o).run P w = .ok .skip wt := fun hr => by
        simp only [execOp, ho, Sem.run_bind, hr, Result.andThen_ok, Sem.run_pure]
      cases hrx : ρ x <;> rw [hrx] at h <;> simp only at h
      case ptr id off =>
        cases hbk : getB s.heap id with
        | gone => simp [hbk] at h
        | arr _ _ _ _ => simp [hbk] at h
        | box bt cs =>
          rw [hbk] at h
          simp only at h
          cases hle : Nat.ble (off + xi.size) (len cs) with
          | false => simp [hle] at h
          | true =>
            simp only [hle, cond_true] at h
            have hle := Nat.le_of_ble_eq_true hle
            rw [len_eq] at hle
            rw [spliceK_eq cs off _ _ (by omega)] at h
            have hpx := hρ x
            rw [hrx] at hpx
            obtain ⟨h1, h2⟩ := storeBox_sound HT hc hx hbk (hρ y) hok hn hle
            refine ⟨_, _, _, h, C, undef, _, KeepC.refl C, .inr ⟨done (by rw [hpx.1]; exact h1), rfl⟩, h2, rfl, ?_⟩
            refine (Fr.set (id := id) (by simp [ownB, hbk]) (by simp [ownB, St.set, getB_cons]) (setCells_size _ _ _ _) (fun g hg => setCells_same _ _ _ _ g hg)).mono (fun i e => ?_)
            rw [hwr, hrx, e]
      case elt id i off =>
        rw [freezeK_eq] at h
        obtain ⟨hc1, E1, hfz⟩ := hc.freeze (lend (ρ y))
        cases hbk : getB (Go.Proofs.Ytalchibbmkhkpaa.VX.freeze s.heap (lend (ρ y))) id with
        | gone => simp [hbk] at h
        | box _ _ => simp [hbk] at h
        | arr wr e b l =>
          cases wr with
          | false => simp [hbk] at h
          | true =>
            rw [hbk] at h
            simp only at h
            cases hk : ckOf T e with
            | none => simp [hk] at h
            | some cks =>
              rw [hk] at h
              simp only at h
              cases hle : Nat.ble (off + xi.size) (len cks) with
              | false => simp [hle] at h
              | true =>
                simp only [hle, cond_true, subK_eq] at h
                have hle := Nat.le_of_ble_eq_true hle
                rw [len_eq] at hle
                have hpx := (hρ x)
                rw [hrx] at hpx
                have hpx := RpS.ext E1 hpx
                obtain ⟨_, hpx⟩ := hpx
                have hbk' : getB (frzs s (lend (ρ y))).heap id = .arr true e b l := hbk
                rw [hbk'] at hpx
                obtain ⟨hi, g, og, cks', hbase, hk', hvx⟩ := hpx
                rw [hk] at hk'
                injection hk' with hk'
                subst hk'
                obtain ⟨hr, h1⟩ := cells_rep (hρ y) hok
                have hlen : (ev y).cells.size = xi.size := by have := all2_len hr; simp at this; omega
                obtain ⟨ys, hK, hl1, hl2, hys⟩ := fitCs_sound (s := frzs s (lend (ρ y))) hc1 ((cks.drop off).take xi.size) (ρ y).cells _ h (fun z hz id' hid' wr t' b' l' hb' => by
                  have hm := lend_mem hz hid'
                  cases hb0 : getB s.heap id' with
                  | arr wr0 t0 b0 l0 =>
                    obtain ⟨wr1, h4, h5⟩ := (hfz id').1 _ _ _ _ hb0
                    rw [hb'] at h4
                    injection h4 with h4
                    rw [h4]; exact h5 hm
                  | box t0 cs0 => have := (hfz id').2 (by simp [hb0]); rw [hb', hb0] at this; cases this
                  | gone => have := (hfz id').2 (by simp [hb0]); rw [hb', hb0] at this; cases this)
                have hys' : ∀ (j : Nat) (y' : AV) (c : CK), ys[j]? = some y' → cks[off + j]? = some c → ∃ v, (ev y).cells.toList[j]? = some v ∧ RepC T w (XB C (frzs s (lend (ρ y))).heap) c y' v := fun j y' c hy hc' => by
                  have hj : j < ys.length := (List.getElem?_eq_some_iff.1 hy).1
                  refine hys _ (all2_mono (fun _ _ => RpK.ext E1) hr) j y' c hy ?_
                  rw [List.getElem?_take, if_pos (by rw [hl1] at hj; simp at hj; omega), List.getElem?_drop]
                  exact hc'
                have hyl : ys.length = xi.size := by rw [hl1]; simp; omega
                have hmk : (mkCellsZ l i 0 cks).length = cks.length := mkCellsZ_len _ _ _ _
                cases hw : (Nat.beq off 0 && Nat.beq xi.size (len cks)) with
                | true =>
                  simp only [hw, cond_true] at hK
                  simp only [Bool.and_eq_true] at hw
                  have e1 := beq_nat hw.1
                  have e2 := beq_nat hw.2
                  rw [len_eq] at e2
                  subst e1
                  obtain ⟨r1, r2, r3⟩ := storeElt_sound (P := P) HT hc1 hx hbk' hk hbase hi hlen hle h1 hyl hys' (row := ys) (by omega) (fun j hj => by rw [if_pos (by omega)]; rfl)
                  exact ⟨_, _, _, hK, C, undef, _, KeepC.refl C, .inr ⟨done (by rw [hvx]; exact r1), rfl⟩, r2, rfl, (r3.shr (fun _ _ => own_frz hc)).mono (fun i e => by rw [hwr, hrx, e])⟩
                | false =>
                  simp only [hw, cond_false, mkCellsZK_eq] at hK
                  rw [spliceK_eq _ off ys _ (by omega)] at hK
                  obtain ⟨r1, r2, r3⟩ := storeElt_sound (P := P) HT hc1 hx hbk' hk hbase hi hlen hle h1 hyl hys' (row := (mkCellsZ l i 0 cks).take off ++ ys ++ (mkCellsZ l i 0 cks).drop (off + ys.length)) (by simp; omega) (fun j hj => by
                    rw [splice_get _ off ys (by omega) j, mkCellsZ_get]
                    simp)
                  exact ⟨_, _, _, hK, C, undef, _, KeepC.refl C, .inr ⟨done (by rw [hvx]; exact r1), rfl⟩, r2, rfl, (r3.shr (fun _ _ => own_frz hc)).mono (fun i e => by rw [hwr, hrx, e])⟩
end
section
variable {P : Program} {T : Tab} {C : Cx} {s : St} {a : Act} {w w' : World}
theorem arr_new (hc : CS T C s a w) (hge : w.heap.size < w'.heap.size) (hsame : ∀ b, b < w.heap.size → w'.heap[b]? = w.heap[b]?) {e : TypeId} {cks : List CK} (hk : ckOf T e = some cks) (hp : 0 < cks.length) {l : List (List AV)} {cap : Nat} (hle : l.length ≤ cap)
    (hrows : ∀ (i : Nat) (r : List AV), l[i]? = some r → r.length = cks.length ∧ ∀ (j : Nat) (x : AV) (c : CK), r[j]? = some x → cks[j]? = some c → ∃ v, w'.cell? ⟨w.heap.size, i * cks.length + j, none⟩ = some v ∧ RepC T w (XB C s.heap) c x v)
    (hth : thA w' w.heap.size 0 (cap * cks.length)) (hio : w'.os = w.os ∧ w'.tape = w.tape ∧ w'.output = w.output := by exact ⟨rfl, rfl, rfl⟩) :
    ∃ C', KeepC C C' ∧ CS T C' ⟨s.env, (s.nx, .arr true e false l) :: s.heap, s.nx + 1, s.gs, s.kn⟩ a w' ∧
      RpS T C' ⟨s.env, (s.nx, .arr true e false l) :: s.heap, s.nx + 1, s.gs, s.kn⟩ w' (.own s.nx) (.slice (some ⟨w.heap.size, 0, none⟩) l.length cap) ∧
      Fr (fun _ => False) C s w C' ⟨s.env, (s.nx, .arr true e false l) :: s.heap, s.nx + 1, s.gs, s.kn⟩ w' := by
  have hnew : ∀ g, ownB (C.at s.nx 0 (some ⟨w.heap.size, 0, none⟩) cap) (s.add (.arr true e false l)).heap s.nx = some g → w.heap.size ≤ g ∧ g < w'.heap.size := fun g h => by
    simp only [ownB, St.add, getB_cons, Cx.at, upd_same, if_true] at h
    split at h
    · cases h
    · simp only [Option.map_some, Option.some.injEq] at h
      subst h
      exact ⟨Nat.le_refl _, hge⟩
  have E := Ext.add (C := C) (s := s) (w := w) (w' := w') hsame (β := 0) (base := some ⟨w.heap.size, 0, none⟩) (cap := cap) (b := .arr true e false l) (fun g h => (hnew g h).1)
  refine ⟨C.at s.nx 0 (some ⟨w.heap.size, 0, none⟩) cap, KeepC.at _ _ _ _ _, hc.add (by omega) hsame hnew ⟨cks, hk, hp, ?_⟩ hio, ⟨Nat.lt_succ_self _, ?_⟩, Fr.add _ (by omega) hsame fun g h => (hnew g h).1⟩
  · simp only [Cx.at, upd_same]
    by_cases h0 : cap = 0
    · left
      exact ⟨List.length_eq_zero_iff.1 (by omega), h0, by simp⟩
    · right
      refine ⟨trivial, by omega, w.heap.size, 0, rfl, hle, fun i r hr => ?_, fun _ => hth, fun h => by cases h⟩
      obtain ⟨h1, h2⟩ := hrows i r hr
      refine ⟨h1, fun j x c hx hcc => ?_⟩
      obtain ⟨v, hv, hrep⟩ := h2 j x c hx hcc
      exact ⟨v, by rw [Nat.zero_add]; exact hv, hrep.keep E.h1 E.h2⟩
  · simp only [getB_cons, if_true, hdr, Cx.at, upd_same]
theorem ck_zero {cks : List CK} {vs : List Value} (h : ckOK cks vs = true) : vs.length = cks.length ∧ (∀ (j : Nat) (c : CK) (v : Value), cks[j]? = some c → vs[j]? = some v → RepC T w (fun _ => True) c (zeroCk c) v) ∧ ∀ u ∈ vs, u.oneCell' = true := by
  induction cks generalizing vs with
  | nil => cases vs <;> simp [ckOK] at h ⊢
  | cons c cks ih =>
    cases vs with
    | nil => simp [ckOK] at h
    | cons v vs =>
      simp only [ckOK, Bool.and_eq_true] at h
      obtain ⟨h1, h2, h3⟩ := ih h.2
      have hv := vIs_eq h.1
      subst hv
      have hz : RepC T w (fun _ => True) c (zeroCk c) (ckV c) := by
        cases c with
        | int k => exact .int k 0
        | bool => exact .bool false
        | str => exact .str .empty
        | sl t => exact .em t true none 0 rfl
      refine ⟨by simp [h1], fun j c' v' hc hv => ?_, fun u hu => ?_⟩
      · cases j with
        | zero => simp at hc hv; subst hc hv; exact hz
        | succ j => exact h2 j c' v' (by simpa using hc) (by simpa using hv)
      · rcases List.mem_cons.1 hu with rfl | hu
        · exact hz.one
        · exact h3 u hu
theorem RepC.weak {X X' : Nat → Prop} {c : CK} {x : AV} {v : Value} (h : RepC T w X c x v) (hx : ∀ b, X' b → X b) : RepC T w X' c x v := by
  induction h with
  | int k n => exact .int k n
  | bool b => exact .bool b
  | str s => exact .str s
  | em t b a cap hb => exact .em t b a cap hb
  | sl t cks l g o cap vals hk hc hne hX hle hlen hcell hval ih => exact .sl t cks l g o cap vals hk hc hne (fun h => hX (hx g h)) hle hlen hcell ih
theorem elem_zero (HT : tabOK P T = true) {e : TypeId} {cks : List CK} (hk : ckOf T e = some cks) : ∃ i z, P.info? e = some i ∧ i.zero = some z ∧ i.size = cks.length ∧ i.bytes = bytesOf T e ∧ 0 < cks.length ∧ ckOK cks z.cells.toList = true ∧ 0 < i.bytes := by
  obtain ⟨x, hx, hcx⟩ := ckOf_some hk
  obtain ⟨i, z, hi, hs, hb, hz, _, _, hck⟩ := (tab_get HT hx).info
  obtain ⟨h1, h2, h3, h4⟩ := hck cks hcx
  exact ⟨i, z, hi, hz, by omega, by rw [hb]; simp [bytesOf, hx], h2, h1, by omega⟩
def Flat (T : Tab) (w : World) (X : Nat → Prop) (cks : List CK) (l : List (List AV)) (cells : List Value) : Prop :=
  ∀ (i : Nat) (r : List AV), l[i]? = some r → r.length = cks.length ∧ ∀ (j : Nat) (x : AV) (c : CK), r[j]? = some x → cks[j]? = some c → ∃ v, cells[i * cks.length + j]? = some v ∧ RepC T w X c x v
theorem rep_get {α : Type} : ∀ (n : Nat) (x : α) (i : Nat), (rep n x)[i]? = if i < n then some x else none
  | 0, _, i => by simp [rep]
  | n + 1, x, 0 => by simp [rep]
  | n + 1, x, i + 1 => by simp [rep, rep_get n x i]
theorem zero_flat {X : Nat → Prop} {cks : List CK} {z : Value} (hz : ckOK cks z.cells.toList = true) (n : Nat) {l : List (List AV)} (hl : ∀ i r, l[i]? = some r → r = cks.map zeroCk ∧ i < n) :
    Flat T w X cks l (((Array.range (n * cks.length)).map (z.cells[· % z.cells.size]!)).toList) := by
  obtain ⟨h1, h2, _⟩ := ck_zero (T := T) (w := w) hz
  intro i r hr
  obtain ⟨rfl, hi⟩ := hl i r hr
  refine ⟨by simp, fun j x c hx hc => ?_⟩
  have hj : j < cks.length := (List.getElem?_eq_some_iff.1 hc).1
  rw [List.getElem?_map, hc] at hx
  simp only [Option.map_some, Option.some.injEq] at hx
  subst hx
  have hb : i * cks.length + j < n * cks.length := by
    have : (i + 1) * cks.length ≤ n * cks.length := Nat.mul_le_mul_right _ hi
    rw [Nat.add_mul] at this
    omega
  have hs : z.cells.size = cks.length := by simpa using h1
  have hjz : j < z.cells.size := by omega
  refine ⟨z.cells[j], ?_, (h2 j c _ hc (by simp [hjz])).weak (fun _ _ => trivial)⟩
  have hmod : (i * cks.length + j) % z.cells.size = j := by rw [hs, Nat.mul_comm, Nat.mul_add_mod]; exact Nat.mod_eq_of_lt hj
  simp [hb, hmod, hjz]
theorem zero_one {cks : List CK} {z : Value} (hz : ckOK cks z.cells.toList = true) (hp : 0 < cks.length) (n : Nat) : ∀ u ∈ ((Array.range n).map (z.cells[· % z.cells.size]!)).toList, u.oneCell' = true := by
  obtain ⟨h1, _, h3⟩ := ck_zero (T := []) (w := default) hz
  intro u hu
  simp only [Array.toList_map, Array.toList_range, List.mem_map, List.mem_range] at hu
  obtain ⟨j, _, rfl⟩ := hu
  have hs : z.cells.size = cks.length := by simpa using h1
  have hm : j % z.cells.size < z.cells.size := Nat.mod_lt _ (by omega)
  simp only [hm, getElem!_pos]
  exact h3 _ (by simp)
theorem wrap_id {n : Int} (h0 : 0 ≤ n) (h1 : n ≤ 9223372036854775807) : IntKind.i64.wrap n = n := by
  have e : n % (2 ^ 64 : Int) = n := Int.emod_eq_of_lt h0 (by omega)
  simp only [IntKind.wrap, IntKind.bits, IntKind.signed, e]
  rw [if_neg]
  simp
  omega
theorem run_makeSlice (w : World) {t e : TypeId} (hu : P.underlying t = some (.slice e)) {i : TypeInfo} (hi : P.info? e = some i) {z : Value} (hz : i.zero = some z) {k k' : IntKind} {n c : Int} (h0 : 0 ≤ n) (h1 : n ≤ c) (h2 : c * i.bytes ≤ 140737488355328) (h3 : c ≤ 9223372036854775807) :
    (Instr.makeSlice t (.int k n) (.int k' c)).run P w = .ok (.slice (some ⟨w.heap.size, 0, none⟩) n.toNat c.toNat) (w.alloc (.cells ((Array.range (c.toNat * i.size)).map (z.cells[· % z.cells.size]!)) e)) := by
  have wn : IntKind.i64.wrap n = n := wrap_id h0 (by omega)
  have wc : IntKind.i64.wrap c = c := wrap_id (by omega) h3
  have b1 : ¬ (c < 0) := by omega
  have b2 : ¬ (281474976710656 < (i.bytes : Int) * c) := by rw [Int.mul_comm]; omega
  have b3 : ¬ (n < 0) := by omega
  have b4 : ¬ (c < n) := by omega
  simp only [Instr.makeSlice, Sem.run_bind, run_underlying hu, Result.andThen_ok, asInt, asIntOf, Sem.run_pure, typeInfo, run_program, hi, wn, wc]
  have hcond : ((decide (c < 0) || decide ((i.bytes : Int) * c > 2 ^ 48)) || decide (n < 0) || decide (n > c)) = false := by simp [b1, b3, b4]; omega
  simp only [hcond, Bool.false_eq_true, if_false, Sem.run_bind, run_askRoom, Result.andThen_ok, sizeOf, typeInfo, run_program, hi, Sem.run_pure]
  by_cases hz0 : c.toNat * i.size = 0
  · have e1 : ∀ f : Nat → Value, (Array.range 0).map f = #[] := fun f => by simp
    simp [hz0, newRow, e1]
  · simp [hz0, zeroValue, typeInfo, hi, hz, newRow]
theorem makeSlice_sound (HT : tabOK P T = true) (hc : CS T C s a w) {t : TypeId} {x y : Operand} {o : Oper} (ho : o.op = .makeSlice t x y) {ev : Operand → Value} {ρ : Operand → AV} (hρ : ∀ x, RpS T C s w (ρ x) (ev x)) {call : CR} {k : KE}
    {ok : Nat → Bool} (h : xeff T call ok ρ o.op s.env s.heap s.nx k) : AnsE P T C s a w (execOp ev o) k (fun _ => False) := by
  rw [ho] at h
  simp only [xeff] at h
  cases he : elemOf T t with
  | none => simp [he] at h
  | some e =>
    rw [he] at h
    simp only at h
    split at h
    · rename_i k1 n k2 c e1 e2
      cases hk : ckOf T e with
      | none => simp [hk] at h
      | some cks =>
        rw [hk] at h
        simp only at h
        obtain ⟨⟨h0, h1, h2, h3⟩, h⟩ := h
        obtain ⟨i, z, hi, hz, hs, hb, hp, hck, _⟩ := elem_zero (P := P) HT hk
        obtain ⟨xi, hx, hd⟩ := elemOf_some he
        have hu := (tab_get HT hx).slice hd
        have v1 : ev x = .int k1 n := by have := hρ x; rw [e1] at this; exact this
        have v2 : ev y = .int k2 c := by have := hρ y; rw [e2] at this; exact this
        have hrun := run_makeSlice w hu hi hz (k := k1) (k' := k2) h0 h1 (by rw [hb]; exact h2) h3
        have hflat := zero_flat (T := T) (w := w) (X := XB C s.heap) hck c.toNat (l := List.replicate n.toNat (cks.map zeroCk)) (fun i r hr => by
          rw [List.getElem?_replicate] at hr
          split at hr
          · injection hr with hr; exact ⟨hr.symm, by omega⟩
          · cases hr)
        obtain ⟨C', hkp, hcs, hrp, hfr⟩ := arr_new (w' := w.alloc (.cells ((Array.range (c.toNat * i.size)).map (z.cells[· % z.cells.size]!)) e)) hc (by rw [alloc_size]; omega) (alloc_same w _) hk hp (l := List.replicate n.toNat (cks.map zeroCk)) (cap := c.toNat) (by simp; omega)
          (fun i' r hr => by
            obtain ⟨q1, q2⟩ := hflat i' r hr
            refine ⟨q1, fun j x' c' hx' hc' => ?_⟩
            obtain ⟨v, hv, hrep⟩ := q2 j x' c' hx' hc'
            refine ⟨v, ?_, hrep⟩
            have := rangeAt_new w ((Array.range (c.toNat * i.size)).map (z.cells[· % z.cells.size]!)) e (0, 0) (i' * cks.length + j) v (by rw [hs]; exact hv)
            simpa using this)
          (by
            have := thA_new w ((Array.range (c.toNat * i.size)).map (z.cells[· % z.cells.size]!)) e
            simpa [hs] using this)
        refine ⟨_, _, _, h, C', .slice (some ⟨w.heap.size, 0, none⟩) n.toNat c.toNat, _, hkp, .inl ?_, hcs, ?_, hfr⟩
        · simp only [execOp, ho, Sem.run_bind, v1, v2, hrun, Result.andThen_ok, Sem.run_pure]
        · simpa using hrp
    · exact h.elim
end
section
variable {P : Program} {T : Tab} {C : Cx} {s : St} {a : Act} {w w' : World}
theorem Flat.set {X : Nat → Prop} {cks : List CK} {l : List (List AV)} {cells : List Value} (h : Flat T w X cks l cells) {i : Nat} {ys : List AV} {us : List Value} (hu : us.length = cks.length) (hy : ys.length = cks.length)
    (hys : ∀ (j : Nat) (y : AV) (c : CK), ys[j]? = some y → cks[j]? = some c → ∃ v, us[j]? = some v ∧ RepC T w X c y v) (hle : i * cks.length + us.length ≤ cells.length) :
    Flat T w X cks (l.set i ys) (cells.take (i * cks.length) ++ us ++ cells.drop (i * cks.length + us.length)) := by
  intro i' r hr
  rw [List.getElem?_set] at hr
  by_cases hii : i = i'
  · subst hii
    rw [if_pos rfl] at hr
    split at hr
    · injection hr with hr
      subst hr
      refine ⟨hy, fun j x c hx hc => ?_⟩
      obtain ⟨v, hv, hrep⟩ := hys j x c hx hc
      refine ⟨v, ?_, hrep⟩
      have hj : j < us.length := (List.getElem?_eq_some_iff.1 hv).1
      rw [splice_get _ _ _ hle, if_pos (by omega), ← hv]
      congr 1
      omega
    · cases hr
  · rw [if_neg hii] at hr
    obtain ⟨h1, h2⟩ := h i' r hr
    refine ⟨h1, fun j x c hx hc => ?_⟩
    obtain ⟨v, hv, hrep⟩ := h2 j x c hx hc
    refine ⟨v, ?_, hrep⟩
    have hj : j < cks.length := (List.getElem?_eq_some_iff.1 hc).1
    have := row_at (i := i) (i' := i') (n := cks.length) (j := j) (off := 0) (m := cks.length) hj (by omega) (fun e => hii e.symm)
    rw [splice_get _ _ _ hle, if_neg (by omega), ← hv]
theorem splice_one {α : Type} (l : List α) (i : Nat) (x : α) (h : i < l.length) : l.take i ++ [x] ++ l.drop (i + [x].length) = l.set i x := by
  apply List.ext_getElem?
  intro j
  rw [splice_get l i [x] (by simp; omega), List.getElem?_set]
  by_cases e : i = j
  · subst e; simp [h]
  · rw [if_neg (by simp; omega), if_neg e]
theorem placeRows_sound (hc : CS T C s a w) {cks : List CK} {n : Nat} (hp : 0 < cks.length) : ∀ (ps : List (Nat × AV)) (rows : List (List AV)) (K : List (List AV) → Prop), placeRows s.heap cks n rows ps K → rows.length = n →
    (∀ p ∈ ps, ∀ x ∈ p.2.cells, ∀ id ∈ lendC x, ∀ wr t b l, getB s.heap id = .arr wr t b l → wr = false) →
    ∃ r, K r ∧ r.length = n ∧ ∀ (us : List (Nat × Value)) (cells : Array Value), all2 (fun p u => p.1 = u.1 ∧ RpS T C s w p.2 u.2) ps us → cells.size = n * cks.length → Flat T w (XB C s.heap) cks rows cells.toList → (∀ u ∈ cells.toList, u.oneCell' = true) →
      ∃ cells', Instr.fill (fun i => some (i * cks.length, cks.length)) cells us = some cells' ∧ cells'.size = n * cks.length ∧ Flat T w (XB C s.heap) cks r cells'.toList ∧ ∀ u ∈ cells'.toList, u.oneCell' = true := by
  intro ps
  induction ps with
  | nil =>
    intro rows K h hl _
    refine ⟨rows, h, hl, fun us cells hu hs hf h1 => ?_⟩
    cases us with
    | nil => exact ⟨cells, rfl, hs, hf, h1⟩
    | cons _ _ => exact hu.elim
  | cons p ps ih =>
    intro rows K h hl hfr
    obtain ⟨i, v⟩ := p
    simp only [placeRows, cellsK_eq] at h
    cases hb : (okCells s.heap v.cells && Nat.blt i n) with
    | false => simp [hb] at h
    | true =>
      simp only [hb, cond_true] at h
      simp only [Bool.and_eq_true] at hb
      have hi : i < n := Nat.lt_of_lt_of_le (Nat.lt_succ_self i) (Nat.le_of_ble_eq_true hb.2)
      obtain ⟨ys, hK, hl1, hl2, hys⟩ := fitCs_sound hc cks v.cells _ h (fun x hx => hfr (i, v) (by simp) x hx)
      rw [spliceK_eq rows i [ys] _ (by simp; omega), splice_one rows i ys (by omega)] at hK
      obtain ⟨r, hK2, hlr, hans⟩ := ih (rows.set i ys) K hK (by simpa using hl) (fun p hp => hfr p (List.mem_cons_of_mem _ hp))
      refine ⟨r, hK2, hlr, fun us cells hu hs hf h1 => ?_⟩
      cases us with
      | nil => exact hu.elim
      | cons u us =>
        obtain ⟨⟨rfl, hrep⟩, hu⟩ := hu
        have hok := hb.1
        obtain ⟨ui, uv⟩ := u
        simp only at hi hrep hans hl
        obtain ⟨hr, hone⟩ := cells_rep hrep hok
        have hlv := all2_len hr
        have hlu : uv.cells.size = cks.length := by simp at hlv; omega
        have hbound : ui * cks.length + uv.cells.size ≤ cells.size := by
          have : (ui + 1) * cks.length ≤ n * cks.length := Nat.mul_le_mul_right _ hi
          rw [Nat.add_mul] at this
          omega
        have hst := fill_step cells uv.cells (ui * cks.length) hbound
        have hset := Flat.set (i := ui) hf (us := uv.cells.toList) (by simpa using hlu) hl1 (fun j y c hy hc' => hys _ hr j y c hy hc') (by simpa using hbound)
        obtain ⟨cells', e1, e2, e3, e4⟩ := hans us (uv.cells.zipIdx.foldl (fun cs (x : Value × Nat) => cs.setIfInBounds (ui * cks.length + x.2) x.1) cells) hu (by
          have e := congrArg List.length hst
          rw [Array.length_toList] at e
          rw [e]
          simp only [List.length_append, List.length_take, List.length_drop, Array.length_toList]
          omega) (by rw [hst]; simpa using hset) (by
          rw [hst]
          intro q hq
          rcases List.mem_append.1 hq with hq | hq
          · rcases List.mem_append.1 hq with hq | hq
            · exact h1 q (List.mem_of_mem_take hq)
            · exact hone q hq
          · exact h1 q (List.mem_of_mem_drop hq))
        refine ⟨cells', ?_, e2, e3, e4⟩
        simp only [Instr.fill]
        rw [if_neg (by simp [hlu]; omega)]
        simpa using e1
theorem run_buildSlice (w : World) {t e : TypeId} (hu : P.underlying t = some (.slice e)) {i : TypeInfo} (hi : P.info? e = some i) {z : Value} (hz : i.zero = some z) {n : Nat} (hn : n * i.size ≤ 65536) {us : Array (Nat × Value)} {cells : Array Value}
    (hf : Instr.fill (fun j => some (j * i.size, i.size)) ((Array.range (n * i.size)).map (z.cells[· % z.cells.size]!)) us.toList = some cells) :
    (Instr.buildSlice t n us).run P w = .ok (.slice (some ⟨w.heap.size, 0, none⟩) n n) (w.alloc (.cells cells e)) := by
  have b1 : ¬ (n * i.size > 2 ^ 24) := by omega
  simp only [Instr.buildSlice, Sem.run_bind, run_underlying hu, Result.andThen_ok, sizeOf, typeInfo, run_program, hi, Sem.run_pure, if_neg b1]
  by_cases hz0 : n * i.size = 0
  · have e1 : ∀ f : Nat → Value, (Array.range 0).map f = #[] := fun f => by simp
    rw [hz0] at hf ⊢
    rw [e1] at hf
    simp [e1, hf, newRow]
  · simp [hz0, zeroValue, typeInfo, hi, hz, hf, newRow]
theorem avsOf_mem : ∀ {ps : List (Nat × AV)} {p : Nat × AV}, p ∈ ps → ∀ {x : AV}, x ∈ p.2.cells → ∀ {id : Nat}, id ∈ lendC x → id ∈ lendAll (avsOf ps)
  | [], _, h, _, _, _, _ => by cases h
  | (i, v) :: r, p, h, x, hx, id, hid => by
    simp only [avsOf, lendAll, List.mem_append]
    rcases List.mem_cons.1 h with rfl | h
    · exact .inl (lend_mem hx hid)
    · exact .inr (avsOf_mem h hx hid)
theorem repL_rep {xs : List AV} {z : Value} (h : all2 (RpK T C s w) xs z.cells.toList) (hz : z.cells.size = 1) {m : Nat} (hm : m = 1) {n : Nat} : all2 (RpK T C s w) (repL n xs) ((Array.range (n * m)).map (z.cells[· % z.cells.size]!)).toList := by
  subst hm
  have e : ((Array.range (n * 1)).map (z.cells[· % z.cells.size]!)).toList = List.replicate n (z.cells[0]!) := by
    apply List.ext_getElem?
    intro i
    rw [hz]
    by_cases hi : i < n
    · simp [hi, Nat.mod_one]
    · simp [hi]
  rw [e]
  have h1 : ∃ x, xs = [x] ∧ RpK T C s w x (z.cells[0]!) := by
    have hl := all2_len h
    cases xs with
    | nil => simp [hz] at hl
    | cons x r =>
      cases r with
      | cons _ _ => simp [hz] at hl
      | nil =>
        refine ⟨x, rfl, ?_⟩
        obtain ⟨y, h1, h2⟩ := all2_get h (i := 0) rfl
        have h1 : z.cells[0]? = some y := by simpa using h1
        have : z.cells[0]! = y := by rw [getElem!_def, h1]
        rw [this]; exact h2
  obtain ⟨x, rfl, hx⟩ := h1
  induction n with
  | zero => trivial
  | succ n ih => exact ⟨hx, ih (by
      apply List.ext_getElem?
      intro i
      rw [hz]
      by_cases hi : i < n
      · simp [hi, Nat.mod_one]
      · simp [hi])⟩
theorem buildSlice_sound (HT : tabOK P T = true) (hc : CS T C s a w) {t : TypeId} {n : Nat} {parts : Array (Nat × Operand)} {o : Oper} (ho : o.op = .buildSlice t n parts) {ev : Operand → Value} {ρ : Operand → AV} (hρ : ∀ x, RpS T C s w (ρ x) (ev x)) {call : CR} {k : KE}
    {ok : Nat → Bool} (h : xeff T call ok ρ o.op s.env s.heap s.nx k) : AnsE P T C s a w (execOp ev o) k (fun _ => False) := by
  rw [ho] at h
  simp only [xeff] at h
  cases he : elemOf T t with
  | none => simp [he] at h
  | some e =>
    rw [he] at h
    simp only at h
    cases hk : ckOf T e with
    | none =>
      rw [hk] at h
      simp only at h
      cases hg : T.get e with
      | none => simp [hg] at h
      | some ei =>
        rw [hg] at h
        simp only at h
        cases hle : (Nat.beq ei.size 1 && Nat.ble n 65536) with
        | false => simp [hle] at h
        | true =>
          simp only [hle, cond_true, mapK2_eq] at h
          simp only [Bool.and_eq_true] at hle
          have h1 := Nat.eq_of_beq_eq_true hle.1
          have h2 := Nat.le_of_ble_eq_true hle.2
          obtain ⟨xi, hx, hd⟩ := elemOf_some he
          have hu := (tab_get HT hx).slice hd
          obtain ⟨i, z, hi, hsz, _, hz, hzz, hzl, _⟩ := (tab_get HT hg).info
          have hsz := hsz.symm
          have hps := all2_map2 hρ parts.toList
          generalize (parts.toList.map fun (p : Nat × Operand) => (p.1, ρ p.2)) = ps at h hps
          have hz1 : z.cells.size = 1 := by
            have := all2_len (zeros_rep (C := C) (s := s) (w := w) (T := T) hzz)
            rw [hzl, h1] at this
            simpa using this.symm
          obtain ⟨r, hK, hans⟩ := fill_sound (C := C) (s := s) (w := w) (T := T) (pl := fun i => some (i * ei.size, ei.size)) (pl' := fun j => some (j * i.size, i.size)) (fun _ => by rw [hsz]) ps _ h (parts.toList.map fun p => (p.1, ev p.2)) ((Array.range (n * i.size)).map (z.cells[· % z.cells.size]!))
          obtain ⟨cells, f1, f2⟩ := hans (repL_rep (zeros_rep hzz) hz1 (by rw [← hsz, h1])) hps
          cases hok : okCells s.heap r with
          | false => simp [hok] at hK
          | true =>
            simp only [hok, cond_true] at hK
            have hrun := run_buildSlice w hu hi hz (n := n) (us := (parts.toList.map fun p => (p.1, ev p.2)).toArray) (cells := cells) (by rw [← hsz, h1]; omega) (by simpa using f1)
            obtain ⟨C', hkp, hcs, hrp, hfr⟩ := box_new hc e f2 (cells_oneC hok f2)
            refine ⟨_, _, _, hK, C', .slice (some ⟨w.heap.size, 0, none⟩) n n, _, hkp, .inl ?_, hcs, ?_, hfr⟩
            · have ea : parts.map (fun (i, x) => (i, ev x)) = (parts.toList.map fun p => (p.1, ev p.2)).toArray := by apply Array.ext'; simp
              simp only [execOp, ho, Sem.run_bind]
              rw [ea, hrun]
              rfl
            · obtain ⟨hb1, hb2⟩ := hrp
              injection hb1 with hb1
              injection hb1 with hb1
              injection hb1 with hb1
              exact ⟨⟨n, by rw [hb1]⟩, hb2⟩
    | some cks =>
      rw [hk] at h
      simp only at h
      cases hle : Nat.ble (n * len cks) 65536 with
      | false => simp [hle] at h
      | true =>
        simp only [hle, cond_true, mapK2_eq, freezeK_eq] at h
        have hle := Nat.le_of_ble_eq_true hle
        rw [len_eq] at hle
        obtain ⟨i, z, hi, hz, hs, hb, hp, hck, _⟩ := elem_zero (P := P) HT hk
        obtain ⟨xi, hx, hd⟩ := elemOf_some he
        have hu := (tab_get HT hx).slice hd
        have hps := all2_map2 hρ parts.toList
        generalize (parts.toList.map fun (p : Nat × Operand) => (p.1, ρ p.2)) = ps at h hps
        obtain ⟨hc1, E1, hfz⟩ := hc.freeze (lendAll (avsOf ps))
        obtain ⟨r, hKr, hlr, hans⟩ := placeRows_sound (s := frzs s (lendAll (avsOf ps))) hc1 (n := n) hp ps (rep n (cks.map zeroCk)) _ h (by
          have : ∀ n, (rep n (cks.map zeroCk)).length = n := fun n => by induction n with | zero => rfl | succ n ih => simp [rep, ih]
          exact this n) (fun p hp' x hx' id' hid' wr t' b' l' hb' => by
            have hm := avsOf_mem hp' hx' hid'
            cases hb0 : getB s.heap id' with
            | arr wr0 t0 b0 l0 =>
              obtain ⟨wr1, h4, h5⟩ := (hfz id').1 _ _ _ _ hb0
              rw [hb'] at h4
              injection h4 with h4
              rw [h4]; exact h5 hm
            | box t0 cs0 => have := (hfz id').2 (by simp [hb0]); rw [hb', hb0] at this; cases this
            | gone => have := (hfz id').2 (by simp [hb0]); rw [hb', hb0] at this; cases this)
        obtain ⟨cells, f1, f2, f3, f4⟩ := hans (parts.toList.map fun p => (p.1, ev p.2)) ((Array.range (n * cks.length)).map (z.cells[· % z.cells.size]!)) (all2_mono (fun _ _ h => ⟨h.1, RpS.ext E1 h.2⟩) hps) (by simp)
          (zero_flat hck n (fun i r hr => by rw [rep_get] at hr; split at hr; injection hr with hr; exact ⟨hr.symm, by assumption⟩; cases hr)) (zero_one hck hp _)
        have hrun := run_buildSlice w hu hi hz (n := n) (us := (parts.toList.map fun p => (p.1, ev p.2)).toArray) (cells := cells) (by rw [hs]; exact hle) (by simpa [hs] using f1)
        obtain ⟨C', hkp, hcs, hrp, hfr⟩ := arr_new (w' := w.alloc (.cells cells e)) hc1 (by rw [alloc_size]; omega) (alloc_same w _) hk hp (l := r) (cap := n) (by omega)
          (fun i' r' hr' => by
            obtain ⟨q1, q2⟩ := f3 i' r' hr'
            refine ⟨q1, fun j x' c' hx' hc' => ?_⟩
            obtain ⟨v, hv, hrep⟩ := q2 j x' c' hx' hc'
            refine ⟨v, ?_, hrep⟩
            have := rangeAt_new w cells e (0, 0) (i' * cks.length + j) v hv
            simpa using this)
          (by
            have := thA_new w cells e
            rwa [f2] at this)
        refine ⟨_, _, _, hKr, C', .slice (some ⟨w.heap.size, 0, none⟩) n n, _, hkp, .inl ?_, hcs, by rw [hlr] at hrp; exact hrp, hfr.shr (fun _ _ => own_frz hc)⟩
        have ea : parts.map (fun (i, x) => (i, ev x)) = (parts.toList.map fun p => (p.1, ev p.2)).toArray := by apply Array.ext'; simp
        simp only [execOp, ho, Sem.run_bind]
        rw [ea, hrun]
        rfl
end
section
variable {P : Program} {T : Tab} {C : Cx} {s : St} {a : Act} {w w' : World}
theorem flat_of_rows {X : Nat → Prop} {g o : Nat} {cks : List CK} (hp : 0 < cks.length) {l : List (List AV)} (h : RowsRep T w X g o cks l) :
    ∃ us : List Value, us.length = l.length * cks.length ∧ w.rangeAt g o us ∧ Flat T w X cks l us ∧ ∀ u ∈ us, u.oneCell' = true := by
  have key : ∀ i j, i < l.length → j < cks.length → ∃ v x c, w.cell? ⟨g, o + (i * cks.length + j), none⟩ = some v ∧ (l[i]?.getD [])[j]? = some x ∧ cks[j]? = some c ∧ RepC T w X c x v := fun i j hi hj => by
    obtain ⟨hl, hr⟩ := h i _ (List.getElem?_eq_getElem hi)
    obtain ⟨v, hv, hrep⟩ := hr j _ _ (List.getElem?_eq_getElem (by omega)) (List.getElem?_eq_getElem hj)
    exact ⟨v, _, _, hv, by rw [List.getElem?_eq_getElem hi]; simp [hl, hj], List.getElem?_eq_getElem hj, hrep⟩
  refine ⟨(List.range (l.length * cks.length)).map fun k => (w.cell? ⟨g, o + k, none⟩).getD undef, by simp, fun j v hv => ?_, fun i r hr => ?_, fun u hu => ?_⟩
  · rw [List.getElem?_map] at hv
    cases hj : (List.range (l.length * cks.length))[j]? with
    | none => simp [hj] at hv
    | some j' =>
      have hj2 := List.getElem?_eq_some_iff.1 hj
      obtain ⟨hlt, he⟩ := hj2
      simp at he hlt
      subst he
      rw [hj] at hv
      simp only [Option.map_some, Option.some.injEq] at hv
      have hdiv : j / cks.length < l.length := Nat.div_lt_of_lt_mul (by rw [Nat.mul_comm]; exact hlt)
      obtain ⟨v', _, _, hv', _⟩ := key (j / cks.length) (j % cks.length) hdiv (Nat.mod_lt _ hp)
      rw [Nat.mul_comm, Nat.div_add_mod] at hv'
      rw [hv'] at hv ⊢
      simpa using hv
  · have hi : i < l.length := (List.getElem?_eq_some_iff.1 hr).1
    refine ⟨(h i r hr).1, fun j x c hx hc => ?_⟩
    have hj : j < cks.length := (List.getElem?_eq_some_iff.1 hc).1
    obtain ⟨v, x', c', hv, hx', hc', hrep⟩ := key i j hi hj
    rw [hr] at hx'
    simp only [Option.getD_some] at hx'
    rw [hx] at hx'
    rw [hc] at hc'
    injection hx' with hx'
    injection hc' with hc'
    subst hx' hc'
    have hb : i * cks.length + j < l.length * cks.length := by
      have : (i + 1) * cks.length ≤ l.length * cks.length := Nat.mul_le_mul_right _ hi
      rw [Nat.add_mul] at this
      omega
    exact ⟨v, by simp [hb, hv], hrep⟩
  · simp only [List.mem_map, List.mem_range] at hu
    obtain ⟨k, hk, rfl⟩ := hu
    have hdiv : k / cks.length < l.length := Nat.div_lt_of_lt_mul (by rw [Nat.mul_comm]; exact hk)
    obtain ⟨v', _, _, hv', _, _, hrep⟩ := key (k / cks.length) (k % cks.length) hdiv (Nat.mod_lt _ hp)
    rw [Nat.mul_comm, Nat.div_add_mod] at hv'
    rw [hv']
    exact hrep.one
structure SrcOK (P : Program) (T : Tab) (C : Cx) (s : St) (w : World) (cks : List CK) (tx : TypeId) (v : Value) (l : List (List AV)) (us : List Value) : Prop where
  src : Src P cks.length tx v l.length us w
  flat : Flat T w (XB C s.heap) cks l us
theorem src_slice {tx e' : TypeId} (hu : P.underlying tx = some (.slice e')) {cks : List CK} {g o n c : Nat} {l : List (List AV)} {us : List Value} (hn : n = l.length) (h1 : us.length = l.length * cks.length) (h2 : w.rangeAt g o us) (h3 : Flat T w (XB C s.heap) cks l us) (h4 : ∀ u ∈ us, u.oneCell' = true) :
    SrcOK P T C s w cks tx (.slice (some ⟨g, o, none⟩) n c) l us := by
  subst hn
  exact ⟨Src.ofSlice w hu ⟨g, o, none⟩ l.length c us h1 (fun j u hj => by rw [add_mk]; exact h2 j u hj) h4, h3⟩
theorem src_empty {tx e' : TypeId} (hu : P.underlying tx = some (.slice e')) {cks : List CK} {ad : Option Addr} {c : Nat} : SrcOK P T C s w cks tx (.slice ad 0 c) [] [] := by
  refine ⟨?_, fun i r h => by simp at h⟩
  cases ad with
  | none => exact Src.ofNil w hu c
  | some ad => exact Src.ofSlice w hu ad 0 c [] (by simp) (fun j u h => by simp at h) (fun u h => by cases h)
theorem newRows_sound (HT : tabOK P T = true) (hc : CS T C s a w) {e tx : TypeId} {cks : List CK} (hk : ckOf T e = some cks) (hp : 0 < cks.length) {x : AV} {l : List (List AV)} (h : newRows T e s.heap x = some l) (hf : fitsT T tx x = true) {v : Value} (hv : RpS T C s w x v) :
    ∃ us, SrcOK P T C s w cks tx v l us := by
  have rows : ∀ {b t' l'}, rowsOf s.heap x = some (b, t', l') → (∀ q, x ≠ .str q) → (bif Nat.beq t' e then some l' else none) = some l → ∃ us, SrcOK P T C s w cks tx v l us := fun {b t' l'} hr hns hl => by
    obtain ⟨e', hu⟩ := fitsT_sl (P := P) HT hns hf
    cases ht : Nat.beq t' e with
    | false => simp [ht] at hl
    | true =>
      simp only [ht, cond_true] at hl
      injection hl with hl
      subst hl
      have ht := beq_nat ht
      subst ht
      cases x <;> simp only [rowsOf] at hr
      all_goals try (cases hr; done)
      case sl b' t2 l2 =>
        injection hr with hr; injection hr with e1 e2; injection e2 with e2 e3; subst e1 e2 e3
        have hrp := rp_sl hv
        cases hrp with
        | em _ _ ad cap hb => exact ⟨[], src_empty hu⟩
        | sl _ cks' _ g o cap vals hk' hp' hne hX hle hlen hcell hval =>
          obtain ⟨us, h1, h2, h3, h4⟩ := flat_of_rows hp (RepC.rows (RepC.sl t2 cks' l2 g o cap vals hk' hp' hne hX hle hlen hcell hval) hk)
          exact ⟨us, src_slice hu rfl h1 h2 h3 h4⟩
      case own id =>
        cases hb : getB s.heap id with
        | gone => simp [hb] at hr
        | box _ _ => simp [hb] at hr
        | arr wr t2 b2 l2 =>
          rw [hb] at hr
          injection hr with hr; injection hr with e1 e2; injection e2 with e2 e3; subst e1 e2 e3
          obtain ⟨_, rfl⟩ := rp_own hv hb
          obtain ⟨cks', hk', _, _, _, hrow⟩ := arr_facts hc hb
          rw [hk] at hk'
          injection hk' with hk'
          subst hk'
          by_cases hne : l2 = []
          · subst hne; exact ⟨[], src_empty hu⟩
          · obtain ⟨g, o, hbase, hrow⟩ := hrow hne
            obtain ⟨us, h1, h2, h3, h4⟩ := flat_of_rows hp hrow
            simp only [hdr, hbase]
            exact ⟨us, src_slice hu rfl h1 h2 h3 h4⟩
      case vw id lo n =>
        cases hb : getB s.heap id with
        | gone => simp [hb] at hr
        | box _ _ => simp [hb] at hr
        | arr wr t2 b2 l2 =>
          rw [hb] at hr
          injection hr with hr; injection hr with e1 e2; injection e2 with e2 e3; subst e1 e2 e3
          obtain ⟨_, ad, c, rfl, hnc, hlen, hnn, hz, hpos⟩ := rp_vw hv hb
          obtain ⟨cks', hk', _, _, _, hrow⟩ := arr_facts hc hb
          rw [hk] at hk'
          injection hk' with hk'
          subst hk'
          by_cases hn0 : n = 0
          · subst hn0
            simp only [List.take_zero]
            exact ⟨[], src_empty hu⟩
          · obtain ⟨g, o, cks', hbase, hk', rfl⟩ := hpos (by omega)
            rw [hk] at hk'
            injection hk' with hk'
            subst hk'
            obtain ⟨g', o', hbase', hrow⟩ := hrow (fun e => by subst e; simp at hlen; omega)
            rw [hbase] at hbase'
            injection hbase' with hbase'
            injection hbase' with e1 e2 _
            subst e1 e2
            have hl' : ((l2.drop lo).take n).length = n := by simp; omega
            have hrow' : RowsRep T w (XB C s.heap) g (o + lo * cks.length) cks ((l2.drop lo).take n) := by
              intro i r he
              rw [List.getElem?_take] at he
              split at he
              · rw [List.getElem?_drop] at he
                obtain ⟨h1, h2⟩ := hrow (lo + i) r he
                refine ⟨h1, fun j x c hx hcc => ?_⟩
                obtain ⟨v, hv, hr⟩ := h2 j x c hx hcc
                refine ⟨v, ?_, hr⟩
                rw [← hv]
                congr 2
                rw [Nat.add_mul]; omega
              · cases he
            obtain ⟨us, h1, h2, h3, h4⟩ := flat_of_rows hp hrow'
            exact ⟨us, src_slice hu hl'.symm h1 h2 h3 h4⟩
  unfold newRows at h
  split at h
  · injection h with h; subst h
    obtain ⟨e', hu⟩ := fitsT_sl (P := P) HT (fun q => by simp) hf
    have e1 : v = .slice none 0 0 := hv
    subst e1; exact ⟨[], src_empty hu⟩
  · injection h with h; subst h
    obtain ⟨e', hu⟩ := fitsT_sl (P := P) HT (fun q => by simp) hf
    obtain ⟨ad, rfl, _⟩ := hv
    exact ⟨[], src_empty hu⟩
  · rename_i q
    rw [hk] at h
    split at h
    · rename_i hck
      injection hck with hck
      injection h with h
      subst hck h
      have e1 : v = .string q := hv
      subst e1
      refine ⟨byteCells q, ⟨by simpa [byteCells_length] using Src.ofString w (fitsT_str HT hf) q, fun i r hr => ?_⟩⟩
      rw [List.getElem?_map] at hr
      cases hb : q.data.toList[i]? with
      | none => rw [hb] at hr; cases hr
      | some b =>
        rw [hb] at hr
        injection hr with hr
        subst hr
        refine ⟨rfl, fun j x c hx hc => ?_⟩
        cases j with
        | succ j => simp at hc
        | zero =>
          simp at hx hc
          subst hx hc
          refine ⟨.int .u8 b.toNat, ?_, .int .u8 _⟩
          simp only [List.length_cons, List.length_nil, Nat.zero_add, Nat.mul_one, Nat.add_zero, byteCells, List.getElem?_map, hb, Option.map_some]
    · cases h
  · rename_i hn1 hn2 hn3
    cases hr : rowsOf s.heap x with
    | none => simp [hr] at h
    | some q =>
      obtain ⟨b, t', l'⟩ := q
      rw [hr] at h
      exact rows hr (fun q e => hn3 q e) h
theorem CS.kill (hc : CS T C s a w) (id : Nat) : CS T C (s.set id .gone) a w ∧ Ext C s w C (s.set id .gone) w := by
  have hle : ∀ i g, ownB C (s.set id .gone).heap i = some g → i ≠ id ∧ ownB C s.heap i = some g := fun i g h => by
    by_cases e : i = id
    · subst e; simp [ownB, St.set, getB_cons] at h
    · simp only [ownB, St.set, getB_cons, e, if_false] at h; exact ⟨e, h⟩
  have E : Ext C s w C (s.set id .gone) w := by
    refine ⟨fun _ _ _ => rfl, fun g _ hx => ?_, Nat.le_refl _, fun _ _ => ⟨rfl, rfl, rfl⟩, fun i hi wr' t' b' l' h => ?_⟩
    · rcases hx with hx | ⟨i, hx⟩
      · exact .inl hx
      · exact .inr ⟨i, (hle i g hx).2⟩
    · by_cases e : i = id
      · subst e; simp [St.set, getB_cons] at h
      · simp only [St.set, getB_cons, e, if_false] at h
        exact ⟨wr', b', l', h, rfl⟩
  refine ⟨hc.heap E rfl rfl rfl (fun i => ?_) (fun i hi => ?_) (fun i i' g h h' => hc.inj i i' g (hle i g h).2 (hle i' g h').2) (fun i g h => hc.own i g (hle i g h).2) (Nat.le_refl _) (fun _ _ => rfl) ⟨rfl, rfl, rfl, rfl, rfl, rfl⟩ ⟨rfl, rfl, rfl⟩, E⟩
  · by_cases e : i = id
    · subst e; right; simp only [St.set, getB_cons, if_true]; trivial
    · by_cases hlt : i < s.nx
      · left; exact ⟨hlt, by simp only [St.set, getB_cons, e, if_false], fun _ _ => rfl⟩
      · right; simp only [St.set, getB_cons, e, if_false]; rw [hc.nx i (by omega)]; trivial
  · by_cases e : i = id
    · subst e; simp [St.set, getB_cons]
    · simp only [St.set, getB_cons, e, if_false]
      exact hc.nx i (by simpa [St.set] using hi)
theorem Flat.append {X : Nat → Prop} {cks : List CK} {l l' : List (List AV)} {us us' : List Value} (h : Flat T w X cks l us) (h' : Flat T w X cks l' us') (hl : us.length = l.length * cks.length) (rest : List Value) : Flat T w X cks (l ++ l') (us ++ us' ++ rest) := by
  intro i r hr
  by_cases hi : i < l.length
  · rw [List.getElem?_append_left hi] at hr
    obtain ⟨h1, h2⟩ := h i r hr
    refine ⟨h1, fun j x c hx hc => ?_⟩
    obtain ⟨v, hv, hrep⟩ := h2 j x c hx hc
    have hb := (List.getElem?_eq_some_iff.1 hv).1
    exact ⟨v, by rw [List.append_assoc, List.getElem?_append_left hb]; exact hv, hrep⟩
  · rw [List.getElem?_append_right (by omega)] at hr
    obtain ⟨h1, h2⟩ := h' _ r hr
    refine ⟨h1, fun j x c hx hc => ?_⟩
    obtain ⟨v, hv, hrep⟩ := h2 j x c hx hc
    have hb := (List.getElem?_eq_some_iff.1 hv).1
    have hm : i * cks.length = l.length * cks.length + (i - l.length) * cks.length := by rw [← Nat.add_mul]; congr 1; omega
    refine ⟨v, ?_, hrep⟩
    rw [List.append_assoc, List.getElem?_append_right (by omega), List.getElem?_append_left (by omega), ← hv]
    congr 1
    omega
structure Dst (T : Tab) (C : Cx) (s : St) (w : World) (e : TypeId) (cks : List CK) (v : Value) (b : Bool) (l : List (List AV)) : Prop where
  ex : ∃ ad cap, v = .slice ad l.length cap ∧ l.length ≤ cap ∧ b = ad.isNone ∧
    ((cap = 0) ∨ (0 < cap ∧ b = false ∧ ∃ id g o wl, getB s.heap id = .arr true e b wl ∧ C.base id = some ⟨g, o, none⟩ ∧ C.cap id = cap ∧ ad = some ⟨g, o, none⟩ ∧ RowsRep T w (XB C s.heap) g o cks l ∧ thA w g o (cap * cks.length)))
theorem run_append_grow (w : World) {t tx ty e : TypeId} (hu : P.underlying t = some (.slice e)) {i : TypeInfo} (hi : P.info? e = some i) {z : Value} (hz : i.zero = some z) {ad : Option Addr} {n cap : Nat} {olds : List Value} (hol : olds.length = n * i.size) (hold : n = 0 ∨ ∃ g o, ad = some ⟨g, o, none⟩ ∧ w.rangeAt g o olds)
    {x : Value} {m : Nat} {us : List Value} (hs : Src P i.size tx x m us w) (hg : cap < n + m) (hb : (n + m) * i.bytes ≤ 140737488355328) (hb0 : 0 < i.bytes) :
    (Builtin.append_ #[t, tx] ty #[.slice ad n cap, x]).run P w = .ok (.slice (some ⟨w.heap.size, 0, none⟩) (n + m) (grownCap w (n + m) cap e))
        (w.drew.alloc (.cells ((olds ++ us).toArray ++ Builtin.zeroCells z.cells (grownCap w (n + m) cap e - (n + m))) e)) := by
  have h63 : n + m ≤ 140737488355328 := Nat.le_trans (Nat.le_mul_of_pos_right _ hb0) hb
  refine run_append_grow_src w t tx ty e i z hu hi hz ad n cap olds ?_ x m us hs hg (by omega) (growslice_fits hg (by omega))
  rcases hold with rfl | ⟨g, o, rfl, hr⟩
  · have : olds = [] := List.length_eq_zero_iff.1 (by omega)
    subst this
    cases ad with
    | none => exact run_firstCells_none _ _ _ _ _
    | some ad => exact run_firstCells_some _ _ _ _ _ _ _ (by simp) (fun j v h => by simp at h)
  · refine run_firstCells_some _ _ _ _ _ _ _ hol (fun j v hv => ?_)
    rw [add_mk]
    simpa using hr j v hv
end
section
variable {P : Program} {T : Tab} {C : Cx} {s : St} {a : Act} {w w' : World}
def AppOK (P : Program) (T : Tab) (C : Cx) (s0 : St) (a : Act) (w : World) (m : Sem Value) (blk : AB) (W : Nat → Prop) (s : St) : Prop :=
  ∃ C' val w', KeepC C C' ∧ m.run P w = .ok val w' ∧ CS T C' (s0.add blk) a w' ∧ RpS T C' (s0.add blk) w' (.own s0.nx) val ∧ Fr W C s w C' (s0.add blk) w'
theorem app_none (hc0 : CS T C s a w) {W : Nat → Prop} {sr : St} (hsh : ∀ id b, ownB C s.heap id = some b → ownB C sr.heap id = some b) {e : TypeId} {cks : List CK} (hk : ckOf T e = some cks) (hp : 0 < cks.length) {ad : Option Addr} {b : Bool} (hb : b = ad.isNone) {m : Sem Value} (hr : m.run P w = .ok (.slice ad 0 0) w) :
    AppOK P T C s a w m (.arr true e b []) W sr := by
  have hnone : ownB (C.at s.nx 0 ad 0) (s.add (.arr true e b [])).heap s.nx = none := by simp [ownB, St.add, getB_cons, Cx.at, upd_same]
  refine ⟨C.at s.nx 0 ad 0, .slice ad 0 0, w, KeepC.at _ _ _ _ _, hr, hc0.add (Nat.le_refl _) (fun _ _ => rfl) (fun g h => by rw [hnone] at h; cases h) ⟨cks, hk, hp, .inl ⟨rfl, by simp [Cx.at, upd_same], by simp [Cx.at, upd_same, hb]⟩⟩, ⟨Nat.lt_succ_self _, ?_⟩, (Fr.add _ (Nat.le_refl _) (fun _ _ => rfl) (fun g h => by rw [hnone] at h; cases h)).shr hsh⟩
  simp only [St.add, getB_cons, if_true, hdr, Cx.at, upd_same]
  rfl
theorem app_grow (HT : tabOK P T = true) {s0 : St} (hc0 : CS T C s0 a w) (E0 : Ext C s w C s0 w) {W : Nat → Prop} {sr : St} (hsh : ∀ id b, ownB C s0.heap id = some b → ownB C sr.heap id = some b) {t tx ty e : TypeId} (hu : P.underlying t = some (.slice e)) {cks : List CK} (hk : ckOf T e = some cks) {ad : Option Addr} {cap : Nat} {b : Bool} {l news : List (List AV)} {us : List Value}
    {x : Value} (hs : SrcOK P T C s w cks tx x news us) (hg : cap < l.length + news.length) (hle : l.length ≤ cap) (hbytes : (l.length + news.length) * bytesOf T e ≤ 140737488355328)
    (hd : cap = 0 ∨ ∃ g o, ad = some ⟨g, o, none⟩ ∧ RowsRep T w (XB C s.heap) g o cks l) :
    AppOK P T C s0 a w (Builtin.append_ #[t, tx] ty #[.slice ad l.length cap, x]) (.arr true e (b && news.isEmpty) (l ++ news)) W sr := by
  obtain ⟨i, z, hi, hz, hsz, hby, hp, hck, hb0⟩ := elem_zero (P := P) HT hk
  have hol : ∃ olds : List Value, olds.length = l.length * cks.length ∧ (l.length = 0 ∨ ∃ g o, ad = some ⟨g, o, none⟩ ∧ w.rangeAt g o olds) ∧ Flat T w (XB C s.heap) cks l olds := by
    rcases hd with h0 | ⟨g, o, had, hrow⟩
    · have : l = [] := List.length_eq_zero_iff.1 (by omega)
      subst this
      exact ⟨[], by simp, .inl rfl, fun i r h => by simp at h⟩
    · obtain ⟨us', h1, h2, h3, _⟩ := flat_of_rows hp hrow
      exact ⟨us', h1, .inr ⟨g, o, had, h2⟩, h3⟩
  obtain ⟨olds, ho1, ho2, ho3⟩ := hol
  have hrun := run_append_grow (ty := ty) w hu hi hz (n := l.length) (cap := cap) (olds := olds) (by rw [hsz]; exact ho1) ho2 (m := news.length) (us := us) (by rw [hsz]; exact hs.src) hg (by rw [hby]; exact hbytes) hb0
  have hge := grownCap_ge w (l.length + news.length) cap e
  have hzs : z.cells.size = cks.length := by have := (ck_zero (T := T) (w := w) hck).1; simpa using this
  have hul : us.length = news.length * cks.length := hs.src.newsLen
  generalize hw' : (w.drew.alloc (.cells ((olds ++ us).toArray ++ Builtin.zeroCells z.cells (grownCap w (l.length + news.length) cap e - (l.length + news.length))) e)) = w' at hrun
  generalize hgc : grownCap w (l.length + news.length) cap e = gc at hrun hge hw'
  have hc1 : CS T C s0 a w.drew := hc0.world rfl
  have hflat : Flat T w.drew (XB C s0.heap) cks (l ++ news) (olds ++ us ++ (Builtin.zeroCells z.cells (gc - (l.length + news.length))).toList) := by
    have := Flat.append ho3 hs.flat ho1 (Builtin.zeroCells z.cells (gc - (l.length + news.length))).toList
    intro i r hr
    obtain ⟨h1, h2⟩ := this i r hr
    refine ⟨h1, fun j x c hx hcc => ?_⟩
    obtain ⟨v, hv, hrep⟩ := h2 j x c hx hcc
    exact ⟨v, hv, RepC.keep (w := w) (w' := w.drew) (fun _ _ _ => rfl) (fun g hg' hx' => E0.h2 g hg' hx') hrep⟩
  have hsize : (((olds ++ us).toArray ++ Builtin.zeroCells z.cells (gc - (l.length + news.length)))).size = gc * cks.length := by
    simp only [Array.size_append, List.size_toArray, List.length_append, ho1, hul, size_zeroCells, hzs]
    rw [← Nat.add_mul, ← Nat.add_mul]
    congr 1
    omega
  obtain ⟨C', hkp, hcs, hrp, hfr⟩ := arr_new (w' := w') (hio := by rw [← hw']; exact ⟨rfl, rfl, rfl⟩) hc1 (by rw [← hw', alloc_size]; exact Nat.lt_succ_self _) (fun b hb => by rw [← hw']; exact alloc_same _ _ b hb) hk hp (l := l ++ news) (cap := gc) (by simp; omega)
    (fun i' r hr => by
      obtain ⟨q1, q2⟩ := hflat i' r hr
      refine ⟨q1, fun j x' c' hx' hc' => ?_⟩
      obtain ⟨v, hv, hrep⟩ := q2 j x' c' hx' hc'
      refine ⟨v, ?_, hrep⟩
      have := rangeAt_new w.drew ((olds ++ us).toArray ++ Builtin.zeroCells z.cells (gc - (l.length + news.length))) e (0, 0) (i' * cks.length + j) v (by simpa using hv)
      rw [hw'] at this
      simpa using this)
    (by
      have := thA_new w.drew ((olds ++ us).toArray ++ Builtin.zeroCells z.cells (gc - (l.length + news.length))) e
      rw [hw', hsize] at this
      exact this)
  have hne : news.isEmpty = false := by
    cases news with
    | nil => simp at hg; omega
    | cons _ _ => rfl
  rw [hne, Bool.and_false]
  refine ⟨C', _, w', hkp, hrun, hcs, ?_, ((hfr.mono (fun _ h => h.elim) : Fr W C s0 w.drew C' _ w')).shr hsh⟩
  have e1 : (l ++ news).length = l.length + news.length := by simp
  rw [e1] at hrp
  exact hrp
theorem app_room (HT : tabOK P T = true) (hc : CS T C s a w) {t tx ty e : TypeId} (hu : P.underlying t = some (.slice e)) {cks : List CK} (hk : ckOf T e = some cks) {id g o : Nat} {wl : List (List AV)} (hb : getB s.heap id = .arr true e false wl) (hbase : C.base id = some ⟨g, o, none⟩) (hcap : 0 < C.cap id)
    {l news : List (List AV)} {us : List Value} {x : Value} (hs : SrcOK P T C s w cks tx x news us) (hg : l.length + news.length ≤ C.cap id) (hrow : RowsRep T w (XB C s.heap) g o cks l) (hthA : thA w g o (C.cap id * cks.length)) :
    AppOK P T C (s.set id .gone) a w (Builtin.append_ #[t, tx] ty #[.slice (some ⟨g, o, none⟩) l.length (C.cap id), x]) (.arr true e false (l ++ news)) (· = id) s := by
  obtain ⟨i, z, hi, hz, hsz, hby, hp, hck, hb0⟩ := elem_zero (P := P) HT hk
  have hul : us.length = news.length * cks.length := hs.src.newsLen
  have hth := hthA.1
  have hid := gone_lt hc hb (by simp)
  have ho : ownB C s.heap id = some g := by simp [ownB, hb, hbase, Nat.ne_of_gt hcap]
  have hbnd : l.length * cks.length + us.length ≤ C.cap id * cks.length := by
    rw [hul, ← Nat.add_mul]; exact Nat.mul_le_mul_right _ hg
  have hcl : ∀ j, j < us.length → (w.cell? ⟨g, o + l.length * cks.length + j, none⟩).isSome = true ∧ w.frozen? ⟨g, o + l.length * cks.length + j, none⟩ = false := fun j hj => by
    have := hth (l.length * cks.length + j) (by omega)
    rwa [← Nat.add_assoc] at this
  have hrun := run_append_room_src w t tx ty e i hu hi g o l.length (C.cap id) x news.length us (by rw [hsz]; exact hs.src) hg (fun j hj => by rw [hsz]; exact (hcl j hj).1) (fun j hj => by rw [hsz]; exact (hcl j hj).2)
  rw [hsz] at hrun
  generalize hw' : w.setCells g (o + l.length * cks.length) us = w' at hrun
  have hsame : ∀ q, q ≠ g → w'.heap[q]? = w.heap[q]? := fun q hq => by rw [← hw']; exact setCells_same _ _ _ _ q hq
  have hsize : w'.heap.size = w.heap.size := by rw [← hw']; exact setCells_size _ _ _ _
  have hne : ∀ i', i' ≠ s.nx → i' ≠ id → getB ((s.set id .gone).add (.arr true e false (l ++ news))).heap i' = getB s.heap i' := fun i' h1 h2 => by
    simp only [St.add, St.set, getB_cons]
    rw [if_neg h1, if_neg h2]
  have hidne : id ≠ s.nx := by omega
  have hgone : getB ((s.set id .gone).add (.arr true e false (l ++ news))).heap id = .gone := by
    simp only [St.add, St.set, getB_cons, if_true]
    rw [if_neg hidne]
  have hnew : getB ((s.set id .gone).add (.arr true e false (l ++ news))).heap s.nx = .arr true e false (l ++ news) := by
    simp only [St.add, St.set, getB_cons, if_true]
  have hownnew : ownB (C.at s.nx 0 (some ⟨g, o, none⟩) (C.cap id)) ((s.set id .gone).add (.arr true e false (l ++ news))).heap s.nx = some g := by
    simp only [ownB, hnew, Cx.at, upd_same]
    rw [if_neg (Nat.ne_of_gt hcap)]; rfl
  have hownle : ∀ i' q, ownB (C.at s.nx 0 (some ⟨g, o, none⟩) (C.cap id)) ((s.set id .gone).add (.arr true e false (l ++ news))).heap i' = some q → (i' = s.nx ∧ q = g) ∨ (i' ≠ s.nx ∧ i' ≠ id ∧ ownB C s.heap i' = some q) := fun i' q h => by
    by_cases h1 : i' = s.nx
    · subst h1; rw [hownnew] at h; injection h with h; exact .inl ⟨rfl, h.symm⟩
    · by_cases h2 : i' = id
      · subst h2; simp [ownB, hgone] at h
      · right
        refine ⟨h1, h2, ?_⟩
        simp only [ownB, hne i' h1 h2, Cx.at, upd_ne _ _ h1] at h
        exact h
  have E : Ext C s w (C.at s.nx 0 (some ⟨g, o, none⟩) (C.cap id)) ((s.set id .gone).add (.arr true e false (l ++ news))) w' := by
    refine ⟨fun q _ hx => hsame q (fun e' => hx (.inr ⟨id, by rw [e']; exact ho⟩)), fun q _ hx => ?_, Nat.le_succ _, fun i' hi' => ?_, fun i' hi' wr' t' b' l' h => ?_⟩
    · rcases hx with hx | ⟨i', hx⟩
      · exact .inl hx
      · rcases hownle i' q hx with ⟨_, rfl⟩ | ⟨_, _, h⟩
        · exact .inr ⟨id, ho⟩
        · exact .inr ⟨i', h⟩
    · have : i' ≠ s.nx := by omega
      simp only [Cx.at, upd_ne _ _ this, and_self]
    · have h1 : i' ≠ s.nx := by omega
      by_cases h2 : i' = id
      · subst h2; rw [hgone] at h; cases h
      · rw [hne i' h1 h2] at h; exact ⟨wr', b', l', h, rfl⟩
  refine ⟨C.at s.nx 0 (some ⟨g, o, none⟩) (C.cap id), _, w', KeepC.at _ _ _ _ _, hrun, hc.heap E rfl rfl rfl (fun i' => ?_) (fun i' hi' => ?_) (fun i1 i2 q h h' => ?_) (fun i' q h => ?_) (by omega) (fun q hq => hsame q (fun e' => ?_)) ⟨rfl, rfl, rfl, rfl, rfl, rfl⟩ (by rw [← hw']; exact setCells_io _ _ _ _), ?_, ⟨fun q _ hn => hsame q fun e' => hn id rfl (by rw [e']; exact ho), Nat.le_of_eq hsize.symm, fun i' q h => (hownle i' q h).elim (fun ⟨_, e'⟩ => .inr (.inr ⟨id, rfl, by rw [e']; exact ho⟩)) (fun ⟨_, _, h⟩ => .inl h)⟩⟩
  · by_cases h1 : i' = s.nx
    · subst h1
      right
      rw [hnew]
      refine ⟨cks, hk, hp, .inr ⟨rfl, by simpa [Cx.at, upd_same] using hcap, g, o, by simp [Cx.at, upd_same], by simpa [Cx.at, upd_same] using hg, fun j r hr => ?_, fun _ => ?_, fun h => by cases h⟩⟩
      · by_cases hj : j < l.length
        · rw [List.getElem?_append_left hj] at hr
          obtain ⟨q1, q2⟩ := hrow j r hr
          refine ⟨q1, fun j2 x' c' hx' hc' => ?_⟩
          obtain ⟨v, hv, hrep⟩ := q2 j2 x' c' hx' hc'
          have hj2 : j2 < cks.length := (List.getElem?_eq_some_iff.1 hc').1
          refine ⟨v, ?_, hrep.keep E.h1 E.h2⟩
          rw [← hw', World.cell?_setCells_out g _ _ w _ (fun _ _ => .inl (by
            have : (j + 1) * cks.length ≤ l.length * cks.length := Nat.mul_le_mul_right _ hj
            rw [Nat.add_mul] at this
            simp; omega))]
          exact hv
        · rw [List.getElem?_append_right (by omega)] at hr
          obtain ⟨q1, q2⟩ := hs.flat _ r hr
          refine ⟨q1, fun j2 x' c' hx' hc' => ?_⟩
          obtain ⟨v, hv, hrep⟩ := q2 j2 x' c' hx' hc'
          have hb2 := (List.getElem?_eq_some_iff.1 hv).1
          have hm : j * cks.length = l.length * cks.length + (j - l.length) * cks.length := by rw [← Nat.add_mul]; congr 1; omega
          refine ⟨v, ?_, hrep.keep E.h1 E.h2⟩
          have := World.cell?_setCells_in g us (o + l.length * cks.length) w (fun q hq => (hcl q hq).1) _ hb2
          rw [← hw', show o + (j * cks.length + j2) = o + l.length * cks.length + ((j - l.length) * cks.length + j2) by omega, this, ← hv, List.getElem?_eq_getElem hb2]
      · simp only [Cx.at, upd_same]
        rw [← hw']
        exact thA_setCells hthA _ _ _
    · by_cases h2 : i' = id
      · subst h2; right; rw [hgone]; trivial
      · by_cases hlt : i' < s.nx
        · left
          refine ⟨hlt, hne i' h1 h2, fun q hq => hsame q (fun e' => ?_)⟩
          subst e'
          exact h2 (hc.inj i' id q hq ho)
        · right; rw [hne i' h1 h2, hc.nx i' (by omega)]; trivial
  · have h1 : i' ≠ s.nx := by simp [St.add, St.set] at hi'; omega
    have h2 : i' ≠ id := by simp [St.add, St.set] at hi'; omega
    rw [hne i' h1 h2]
    exact hc.nx i' (by simp [St.add, St.set] at hi'; omega)
  · rcases hownle i1 q h with ⟨e1, e1'⟩ | ⟨n1, n1', h1⟩
    · rcases hownle i2 q h' with ⟨e2, _⟩ | ⟨n2, n2', h2⟩
      · rw [e1, e2]
      · subst e1'; exact absurd (hc.inj i2 id q h2 ho) n2'
    · rcases hownle i2 q h' with ⟨e2, e2'⟩ | ⟨n2, n2', h2⟩
      · subst e2'; exact absurd (hc.inj i1 id q h1 ho) n1'
      · exact hc.inj i1 i2 q h1 h2
  · rw [hsize]
    rcases hownle i' q h with ⟨_, rfl⟩ | ⟨_, _, h⟩
    · exact hc.own id q ho
    · exact hc.own i' q h
  · subst e'; exact (hc.own id q ho).2.1 hq
  · refine ⟨Nat.lt_succ_self _, ?_⟩
    have hnew' : getB ((s.set id .gone).add (.arr true e false (l ++ news))).heap (s.set id .gone).nx = .arr true e false (l ++ news) := hnew
    rw [hnew']
    simp only [hdr, List.length_append]
    show Value.slice _ _ _ = Value.slice (upd C.base s.nx _ s.nx) _ (upd C.cap s.nx _ s.nx)
    rw [upd_same, upd_same]
theorem AppOK.ans {s0 : St} {m : Sem Value} {blk : AB} {W : Nat → Prop} (h : AppOK P T C s0 a w m blk W s) (hs0 : s0.nx = s.nx ∧ s0.env = s.env ∧ s0.gs = s.gs ∧ s0.kn = s.kn) {n : Sem Next} (hn : n = (do pure (.value (← m)))) {k : KE} (hk : k (.own s.nx) s.env ((s.nx, blk) :: s0.heap) (s.nx + 1)) : AnsE P T C s a w n k W := by
  obtain ⟨C', val, w', h1, h2, h3, h4, h5⟩ := h
  obtain ⟨e1, e2, e3, e4⟩ := hs0
  refine ⟨_, _, _, hk, C', val, w', h1, .inl ?_, ?_, ?_, ?_⟩
  · rw [hn]; simp only [Sem.run_bind, h2, Result.andThen_ok, Sem.run_pure]
  · simp only [St.add, e1, e2, e3, e4] at h3; exact h3
  · simp only [St.add, e1, e2, e3, e4] at h4; exact h4
  · simp only [St.add, e1, e2, e3, e4] at h5; exact h5
theorem appZ_sound (HT : tabOK P T = true) (hc : CS T C s a w) {st' tx ty : TypeId} {sx xx : AV} {vs vx : Value} (hs : RpS T C s w sx vs) (hx : RpS T C s w xx vx) {n : Sem Next} (hn : n = (do pure (.value (← Builtin.append_ #[st', tx] ty #[vs, vx])))) {W : Nat → Prop} {k : KE}
    (h : xappZ T st' tx sx xx s.env s.heap s.nx k) : AnsE P T C s a w n k W := by
  unfold xappZ at h
  split at h
  · rename_i kk m
    cases he : elemOf T st' with
    | none => simp [he] at h
    | some e =>
      rw [he] at h
      dsimp only at h
      cases hk : ckOf T e with
      | none => simp [hk] at h
      | some cks =>
        rw [hk] at h
        dsimp only at h
        cases hi0 : isIntT T tx with
        | false => simp [hi0] at h
        | true =>
          rw [hi0, cond_true] at h
          obtain ⟨⟨h0, h63, hb⟩, h⟩ := h
          have htx : ∃ kn, P.underlying tx = some (.int kn) := by
            unfold isIntT at hi0
            cases hg : T.get tx with
            | none => simp [hg] at hi0
            | some ti =>
              rw [hg] at hi0
              dsimp only at hi0
              split at hi0
              · rename_i kn hd
                exact ⟨kn, (tab_get HT hg).int hd⟩
              · cases hi0
          obtain ⟨kn, htx⟩ := htx
          obtain ⟨i, z, hi, hz, hsz, hby, hp, hck, hb0⟩ := elem_zero (P := P) HT hk
          obtain ⟨xi, hxi, hd⟩ := elemOf_some he
          have hu := (tab_get (P := P) HT hxi).slice hd
          have e1 : vs = .slice none 0 0 := hs
          have e2 : vx = .int kk m := hx
          subst e1 e2
          obtain ⟨q, rfl⟩ : ∃ q : Nat, m = q := ⟨m.toNat, by omega⟩
          have hrun := Lib.run_append_nil_zeros (P := P) w st' tx ty e i z kk kn hu htx hi hz q (by omega) (by omega) h63 (by rw [hby]; omega)
          have hge := grownCap_ge w q 0 e
          have hzs : z.cells.size = cks.length := by have := (ck_zero (T := T) (w := w) hck).1; simpa using this
          generalize hgc : grownCap w q 0 e = gc at hrun hge
          have hflat := zero_flat (T := T) (w := w.drew) (X := XB C s.heap) hck q (l := List.replicate q (cks.map zeroCk)) (fun i r hr => by
            rw [List.getElem?_replicate] at hr
            split at hr
            · injection hr with hr; exact ⟨hr.symm, by omega⟩
            · cases hr)
          have ezc : ∀ m, Builtin.zeroCells z.cells m = (Array.range (m * cks.length)).map (z.cells[· % z.cells.size]!) := fun m => by simp only [Builtin.zeroCells, hzs]
          have hsize : (Builtin.zeroCells z.cells q ++ Builtin.zeroCells z.cells (gc - q)).size = gc * cks.length := by
            simp only [ezc, Array.size_append, Array.size_map, Array.size_range]
            rw [← Nat.add_mul]; congr 1; omega
          generalize hw' : (w.drew.alloc (.cells (Builtin.zeroCells z.cells q ++ Builtin.zeroCells z.cells (gc - q)) e)) = w' at hrun
          have hc1 : CS T C s a w.drew := hc.world rfl
          obtain ⟨C', hkp, hcs, hrp, hfr⟩ := arr_new (w' := w') (hio := by rw [← hw']; exact ⟨rfl, rfl, rfl⟩) hc1 (by rw [← hw', alloc_size]; exact Nat.lt_succ_self _) (fun b hb => by rw [← hw']; exact alloc_same _ _ b hb) hk hp (l := List.replicate q (cks.map zeroCk)) (cap := gc) (by simp; omega)
            (fun i' r hr => by
              obtain ⟨q1, q2⟩ := hflat i' r hr
              refine ⟨q1, fun j x' c' hx' hc' => ?_⟩
              obtain ⟨v, hv, hrep⟩ := q2 j x' c' hx' hc'
              refine ⟨v, ?_, hrep⟩
              have hv2 : (Builtin.zeroCells z.cells q ++ Builtin.zeroCells z.cells (gc - q)).toList[i' * cks.length + j]? = some v := by
                rw [Array.toList_append, ezc q, List.getElem?_append_left]
                · exact hv
                · exact (List.getElem?_eq_some_iff.1 hv).1
              have := rangeAt_new w.drew (Builtin.zeroCells z.cells q ++ Builtin.zeroCells z.cells (gc - q)) e (0, 0) (i' * cks.length + j) v hv2
              rw [hw'] at this
              simpa using this)
            (by
              have := thA_new w.drew (Builtin.zeroCells z.cells q ++ Builtin.zeroCells z.cells (gc - q)) e
              rw [hw', hsize] at this
              exact this)
          refine ⟨_, _, _, h, C', .slice (some ⟨w.heap.size, 0, none⟩) q gc, w', hkp, .inl ?_, hcs, ?_, (hfr.mono (fun _ h => h.elim) : Fr W C s w.drew C' _ w')⟩
          · rw [hn]; simp only [Sem.run_bind, hrun, Result.andThen_ok, Sem.run_pure]
          · simpa using hrp
  · exact h.elim
theorem append_sound (HT : tabOK P T = true) (hc : CS T C s a w) {c : Call} {o : Oper} (ho : o.op = .call c) (hcal : c.callee = .builtin .append) {ev : Operand → Value} {ρ : Operand → AV} (hρ : ∀ x, RpS T C s w (ρ x) (ev x)) {call : CR} {k : KE}
    {ok : Nat → Bool} (h : xeff T call ok ρ o.op s.env s.heap s.nx k) : AnsE P T C s a w (execOp ev o) k (fun id => wrOf ρ o.op = some id) := by
  rw [ho] at h
  simp only [xeff, hcal] at h
  split at h
  · rename_i sx xx t tx ha ht
    rw [forceK_eq] at h
    have hwr : ∀ id, wrOf ρ o.op = some id ↔ (match ρ sx with | .own id => some id | .vw id _ _ => some id | _ => none) = some id := fun id => by rw [ho]; simp only [wrOf, hcal, ha]; exact Iff.rfl
    have hargs : c.args = #[sx, xx] := by rw [← Array.toArray_toList (xs := c.args), ha]
    have htys : c.argTypes = #[t, tx] := by rw [← Array.toArray_toList (xs := c.argTypes), ht]
    have hex : execOp ev o = (do pure (.value (← Builtin.append_ #[t, tx] o.type #[ev sx, ev xx]))) := by
      simp only [execOp, ho, resolve, hcal, hargs, htys, invoke, builtin, pure_bind, List.map_toArray, List.map_cons, List.map_nil]
    unfold xappend at h
    cases hf : fitsT T tx (ρ xx) with
    | false =>
      rw [hf, cond_false] at h
      exact appZ_sound HT hc (hρ sx) (hρ xx) hex h
    | true =>
      simp only [hf, cond_true] at h
      cases he : elemOf T t with
      | none => simp [he] at h
      | some e =>
        rw [he] at h
        simp only at h
        cases hn : newRows T e s.heap (ρ xx) with
        | none => simp [hn] at h
        | some news =>
          rw [hn] at h
          simp only at h
          cases hk : ckOf T e with
          | none => simp [hk] at h
          | some cks =>
            rw [hk] at h
            simp only at h
            obtain ⟨i, z, hi, hz, hsz, hby, hp, hck, hb0⟩ := elem_zero (P := P) HT hk
            obtain ⟨xi, hx, hd⟩ := elemOf_some he
            have hu := (tab_get HT hx).slice hd
            obtain ⟨us, hs⟩ := newRows_sound (P := P) HT hc hk hp hn hf (hρ xx)
            have hsrc0 : news = [] → Src P i.size tx (ev xx) 0 [] w := fun hne => by
              subst hne
              have h1 := hs.src
              have e0 : us = [] := List.length_eq_zero_iff.1 (by simpa using h1.newsLen)
              subst e0
              rw [hsz]; exact h1
            have empty : ∀ (ad : Option Addr) (b : Bool), ev sx = .slice ad 0 0 → b = ad.isNone → (news.length * bytesOf T e ≤ 140737488355328) → AppOK P T C s a w (Builtin.append_ #[t, tx] o.type #[ev sx, ev xx]) (.arr true e (b && news.isEmpty) news) (fun id => wrOf ρ o.op = some id) s := fun ad b hv hb hbytes => by
              rw [hv]
              by_cases hne : news = []
              · have h0 := app_none (P := P) (W := fun id => wrOf ρ o.op = some id) (sr := s) hc (fun _ _ h => h) hk hp hb (run_append_nothing w t tx o.type e i hu hi ad 0 0 (Nat.le_refl _) (ev xx) (hsrc0 hne))
                subst hne
                simpa using h0
              · have hpos : 0 < news.length := List.length_pos_iff.2 hne
                have := app_grow (P := P) (ty := o.type) (W := fun id => wrOf ρ o.op = some id) (sr := s) HT hc (Ext.refl _ _ _) (fun _ _ h => h) hu hk (ad := ad) (cap := 0) (b := b) (l := []) hs (by simpa using hpos) (Nat.le_refl _) (by simpa using hbytes) (.inl rfl)
                simpa using this
            have own : ∀ (id : Nat) (b : Bool) (wl l : List (List AV)), getB s.heap id = .arr true e b wl → ev sx = .slice (C.base id) l.length (C.cap id) → l.length ≤ wl.length → (∀ i r, l[i]? = some r → wl[i]? = some r) → ((l.length + news.length) * bytesOf T e ≤ 140737488355328) →
                wrOf ρ o.op = some id → AppOK P T C (s.set id .gone) a w (Builtin.append_ #[t, tx] o.type #[ev sx, ev xx]) (.arr true e (b && news.isEmpty) (l ++ news)) (fun id => wrOf ρ o.op = some id) s := fun id b wl l hb hv hlw hsub hbytes hwid => by
              rw [hv]
              have hblk := hc.blk id
              rw [hb] at hblk
              obtain ⟨cks', hk', _, hblk⟩ := hblk
              rw [hk] at hk'
              injection hk' with hk'
              subst hk'
              obtain ⟨hc0, E0⟩ := hc.kill id
              have hsh : ∀ i q, ownB C (s.set id .gone).heap i = some q → ownB C s.heap i = some q := fun i q h => by
                by_cases e : i = id
                · subst e; simp [ownB, St.set, getB_cons] at h
                · simp only [ownB, St.set, getB_cons, e, if_false] at h ⊢; exact h
              rcases hblk with ⟨rfl, hcap, hnil⟩ | ⟨hnil, hcap, g, og, hbase, hle, hrow, hth, _⟩
              · have e0 : l = [] := List.length_eq_zero_iff.1 (by simpa using hlw)
                subst e0
                rw [hcap]
                by_cases hne : news = []
                · have h0 := app_none (P := P) (W := fun id => wrOf ρ o.op = some id) (sr := s) hc0 hsh hk hp hnil (run_append_nothing w t tx o.type e i hu hi (C.base id) 0 0 (Nat.le_refl _) (ev xx) (hsrc0 hne))
                  subst hne
                  simpa using h0
                · have hpos : 0 < news.length := List.length_pos_iff.2 hne
                  have := app_grow (P := P) (ty := o.type) (W := fun id => wrOf ρ o.op = some id) (sr := s) HT hc0 E0 hsh hu hk (ad := C.base id) (cap := 0) (b := b) (l := []) hs (by simpa using hpos) (Nat.le_refl _) (by simpa using hbytes) (.inl rfl)
                  simpa using this
              · have hrow' : RowsRep T w (XB C s.heap) g og cks l := fun i r hr => hrow i r (hsub i r hr)
                by_cases hg : l.length + news.length ≤ C.cap id
                · subst hnil
                  have := app_room (P := P) (ty := o.type) HT hc hu hk hb hbase hcap hs hg hrow' (hth rfl)
                  rw [hbase]
                  obtain ⟨C', val, w', q1, q2, q3, q4, q5⟩ := this
                  refine ⟨C', val, w', q1, q2, ?_, ?_, ?_⟩
                  · simpa using q3
                  · simpa using q4
                  · have := q5.mono (W' := fun id => wrOf ρ o.op = some id) (fun i e => by rw [e]; exact hwid)
                    simpa using this
                · have := app_grow (P := P) (ty := o.type) (W := fun id => wrOf ρ o.op = some id) (sr := s) HT hc0 E0 hsh hu hk (ad := C.base id) (cap := C.cap id) (b := b) (l := l) hs (by omega) (by omega) hbytes (.inr ⟨g, og, hbase, hrow'⟩)
                  exact this
            have hsx := hρ sx
            cases hrs : ρ sx <;> rw [hrs] at h hsx <;> (try simp only at h)
            case nils =>
              have hv : ev sx = .slice none 0 0 := hsx
              exact (by simpa using empty none true hv rfl h.c : AppOK P T C s a w _ (.arr true e news.isEmpty news) (fun id => wrOf ρ o.op = some id) s).ans ⟨rfl, rfl, rfl, rfl⟩ hex h.x
            case em b =>
              obtain ⟨ad, hv, hb⟩ := hsx
              exact (empty ad b hv hb h.c).ans ⟨rfl, rfl, rfl, rfl⟩ hex h.x
            case own id =>
              cases hb : getB s.heap id with
              | gone => simp [hb] at h
              | box _ _ => simp [hb] at h
              | arr wr e' b l =>
                cases wr with
                | false => simp [hb] at h
                | true =>
                  rw [hb] at h
                  simp only at h
                  cases hee : Nat.beq e e' with
                  | false => simp [hee] at h
                  | true =>
                    simp only [hee, cond_true] at h
                    have hee := beq_nat hee
                    subst hee
                    obtain ⟨_, hv⟩ := rp_own hsx hb
                    exact (own id b l l hb hv (Nat.le_refl _) (fun _ _ h => h) h.c (by rw [hwr, hrs])).ans ⟨rfl, rfl, rfl, rfl⟩ hex h.x
            case vw id lo n =>
              cases lo with
              | succ _ => exact h.elim
              | zero =>
                simp only at h
                cases hb : getB s.heap id with
                | gone => simp [hb] at h
                | box _ _ => simp [hb] at h
                | arr wr e' b l =>
                  cases wr with
                  | false => simp [hb] at h
                  | true =>
                    rw [hb] at h
                    simp only at h
                    cases hee : Nat.beq e e' with
                    | false => simp [hee] at h
                    | true =>
                      simp only [hee, cond_true] at h
                      have hee := beq_nat hee
                      subst hee
                      obtain ⟨_, ad, cc, hv, _, hlen, _, hz0, _⟩ := rp_vw hsx hb
                      obtain ⟨rfl, rfl⟩ := hz0 rfl
                      have hl : (l.take n).length = n := by simp; omega
                      have := own id b l (l.take n) hb (by rw [hl]; exact hv) (by simp; omega) (fun i r hr => by
                        rw [List.getElem?_take] at hr
                        split at hr
                        · exact hr
                        · cases hr) (by rw [hl]; exact h.c) (by rw [hwr, hrs])
                      exact this.ans ⟨rfl, rfl, rfl, rfl⟩ hex h.x
  · exact h.elim
end
section
variable {P : Program} {T : Tab} {C C' : Cx} {s s' : St} {a : Act} {w w' : World}
def hpOf : Nat → List AB → Hp
  | _, [] => []
  | i, b :: r => (i, b) :: hpOf (i + 1) r
def stOf (h : List AB) : St := ⟨[], hpOf 0 h, h.length, [], []⟩
def noAct : Act := ⟨#[], []⟩
def HS (T : Tab) (C : Cx) (h : List AB) (w : World) : Prop := CS T C (stOf h) noAct w
def Endr (e : Ending) (r : AV) (v : Value) : Prop :=
  match r with
  | .iface _ _ => e = .panicked [{ v := v, recovered := false }]
  | _ => e = .returned v
theorem Endr.ret {e : Ending} {r : AV} {v : Value} (h : Endr e r v) (hn : ∀ t y, r ≠ .iface t y) : e = .returned v := by
  cases r <;> first | exact h | exact absurd rfl (hn _ _)
def nB : List AB → Nat
  | .box _ _ :: r => nB r + 1
  | _ => 0
def CallsX (P : Program) (f : FuncId) (args : Array Value) (w : World) (R : Ending → World → Prop) : Prop :=
  (Calls P f args w R ∧ ∃ fn, P.funcs[f]? = some fn ∧ fn.body.isSome = true ∧ (fn.name == "runtime.NumGoroutine") = false) ∨ ∃ v, (callFunc f args).run P w = .ok (.value v) w ∧ R (.returned v) w
theorem CallsX.mono {f : FuncId} {args : Array Value} {R R' : Ending → World → Prop} (h : CallsX P f args w R) (hr : ∀ e w, R e w → R' e w) : CallsX P f args w R' :=
  h.imp (fun q => ⟨q.1.mono hr, q.2⟩) fun ⟨v, q1, q2⟩ => ⟨v, q1, hr _ _ q2⟩
structure ACalls (P : Program) (T : Tab) (f : FuncId) (args : List AV) (h : List AB) (R : AV → List AB → Prop) : Prop where
  calls : ∀ (C : Cx) (w : World) (vals : List Value), (∀ id, nB h ≤ id → C.pin id = none) → HS T C h w → all2 (RpS T C (stOf h) w) args vals →
    CallsX P f vals.toArray w fun e w' => ∃ r h' v C', Endr e r v ∧ R r h' ∧ KeepC C C' ∧ HS T C' h' w' ∧ RpS T C' (stOf h') w' r v ∧ nB h ≤ h'.length
theorem ACalls.mono {f : FuncId} {args : List AV} {h : List AB} {R R' : AV → List AB → Prop} (hc : ACalls P T f args h R) (hr : ∀ r h', R r h' → R' r h') : ACalls P T f args h R' :=
  ⟨fun C w vals hp hs ha => (hc.1 C w vals hp hs ha).mono fun _ _ ⟨r, h', v, C', h1, h2, h3⟩ => ⟨r, h', v, C', h1, hr _ _ h2, h3⟩⟩
abbrev AC (P : Program) (T : Tab) (kp : AV → Hp → Nat → Prop) (mv : FuncId → List Nat) : CR := ⟨ACalls P T, kp, mv⟩
theorem getB_hpOf : ∀ (h : List AB) (i id : Nat), getB (hpOf i h) id = if i ≤ id then (h[id - i]?).getD .gone else .gone
  | [], i, id => by simp [hpOf, getB]
  | b :: r, i, id => by
    simp only [hpOf, getB_cons, getB_hpOf r (i + 1) id]
    by_cases e : id = i
    · subst e; simp
    · rw [if_neg e]
      by_cases h1 : i ≤ id
      · rw [if_pos (by omega), if_pos h1, show id - i = (id - (i + 1)) + 1 by omega, List.getElem?_cons_succ]
      · rw [if_neg (by omega), if_neg h1]
theorem getB_hpOf0 (h : List AB) (id : Nat) : getB (hpOf 0 h) id = (h[id]?).getD .gone := by simp [getB_hpOf]
def renB' (σ : Nat → Nat) : AB → AB
  | .box t cs => .box t (cs.map (renC σ))
  | b => b
theorem renB_eq (σ : Nat → Nat) (b : AB) (K : AB → Prop) : renB σ b K = K (renB' σ b) := by
  cases b <;> simp [renB, renB', mapK_eq]
def renA' (σ : Nat → Nat) : AV → AV
  | .agg l => .agg (l.map (renC σ))
  | v => renC σ v
def renV' (σ : Nat → Nat) : AV → AV
  | .tup l => .tup (l.map (renA' σ))
  | .iface t x => .iface t (renA' σ x)
  | v => renA' σ v
theorem renA_eq (σ : Nat → Nat) (v : AV) (K : AV → Prop) : renA σ v K = K (renA' σ v) := by
  unfold renA renA'; cases v <;> simp [mapK_eq, forceK_eq]
theorem renAL_eq (σ : Nat → Nat) : ∀ (l : List AV) (K : List AV → Prop), renAL σ l K = K (l.map (renA' σ))
  | [], _ => rfl
  | v :: r, K => by simp [renAL, renA_eq, renAL_eq σ r]
theorem renV_eq (σ : Nat → Nat) (v : AV) (K : AV → Prop) : renV σ v K = K (renV' σ v) := by
  unfold renV renV'; cases v <;> simp [renAL_eq, renA_eq]
theorem forceL_eq : ∀ (l : List Nat) (K : List Nat → Prop), forceL l K = K l
  | [], _ => rfl
  | x :: r, K => by simp [forceL, forceL_eq r]
theorem sig_lt {ids : List Nat} {nx k id : Nat} (h : ids[k]? = some id) : sig ids nx k = id := by simp [sig, nth_eq, h]
theorem sig_ge {ids : List Nat} {nx k : Nat} (h : ids.length ≤ k) : sig ids nx k = nx + (k - ids.length) := by
  simp [sig, nth_eq, List.getElem?_eq_none h, len_eq]
theorem posOf_none : ∀ {l : List Nat} {id k : Nat}, posOf l id k = none → id ∉ l
  | [], _, _, _ => by simp
  | i :: r, id, k, h => by
    simp only [posOf] at h
    cases hb : Nat.beq i id with
    | true => rw [hb] at h; cases h
    | false =>
      rw [hb] at h
      intro hm
      rcases List.mem_cons.1 hm with rfl | hm
      · simp [Nat.beq_refl] at hb
      · exact posOf_none h hm
theorem posOf_some : ∀ {l : List Nat} {id k j : Nat}, posOf l id k = some j → ∃ i, j = k + i ∧ l[i]? = some id
  | [], _, _, _, h => by simp [posOf] at h
  | i :: r, id, k, j, h => by
    simp only [posOf] at h
    cases hb : Nat.beq i id with
    | true => rw [hb] at h; cases h; exact ⟨0, rfl, by simp [beq_nat hb]⟩
    | false =>
      rw [hb] at h
      obtain ⟨i', h1, h2⟩ := posOf_some h
      exact ⟨i' + 1, by omega, by simpa using h2⟩
theorem fresh_inj : ∀ {l : List Nat}, fresh l = true → ∀ (i j x : Nat), l[i]? = some x → l[j]? = some x → i = j
  | [], _ => by simp
  | y :: r, h => by
    simp only [fresh, Bool.and_eq_true] at h
    have hy : y ∉ r := by
      refine posOf_none (k := 0) ?_
      cases hp : posOf r y 0 with
      | none => rfl
      | some _ => rw [hp] at h; cases h.1
    intro i j x hi hj
    cases i with
    | zero => cases j with
      | zero => rfl
      | succ j => simp at hi hj; subst hi; exact absurd (List.mem_of_getElem? hj) hy
    | succ i => cases j with
      | zero => simp at hi hj; subst hj; exact absurd (List.mem_of_getElem? hi) hy
      | succ j => simp at hi hj; rw [fresh_inj h.2 i j x hi hj]
theorem layB_eq (σ : Nat → Nat) : ∀ (ids : List Nat) (bs : List AB) (h : Hp) (nx : Nat) (K : Hp → Nat → Prop), layB σ ids bs h nx K → (∀ id ∈ ids, id < nx) → fresh ids = true →
    ∃ hp, K hp (nx + (bs.length - ids.length)) ∧ ids.length ≤ bs.length ∧ (∀ k, k < ids.length → ∃ t cs, bs[k]? = some (.box t cs)) ∧
      (∀ k, k < bs.length → getB hp (sig ids nx k) = renB' σ ((bs[k]?).getD .gone)) ∧ ∀ id, id ∉ ids → (id < nx ∨ nx + (bs.length - ids.length) ≤ id) → getB hp id = getB h id
  | [], [], h, nx, K, hK, _, _ => ⟨h, hK, Nat.le_refl _, fun k hk => by simp at hk, fun k hk => by simp at hk, fun _ _ _ => rfl⟩
  | [], b :: bs, h, nx, K, hK, _, _ => by
    simp only [layB, renB_eq] at hK
    obtain ⟨hp, h1, _, _, h4, h5⟩ := layB_eq σ [] bs ((nx, renB' σ b) :: h) (nx + 1) K hK (by simp) rfl
    refine ⟨hp, by simpa [Nat.add_assoc, Nat.add_comm 1] using h1, Nat.zero_le _, fun k hk => by simp at hk, fun k hk => ?_, fun id _ hid => ?_⟩
    · cases k with
      | zero =>
        have := h5 nx (by simp) (.inl (Nat.lt_succ_self _))
        rw [sig_ge (by simp)]
        simpa [getB_cons] using this
      | succ k =>
        have := h4 k (by simpa using hk)
        rw [sig_ge (by simp)] at this ⊢
        simpa [Nat.add_assoc, Nat.add_comm 1] using this
    · have := h5 id (by simp) (by simp at hid ⊢; omega)
      rw [this, getB_cons, if_neg]
      rintro rfl
      simp at hid
      omega
  | id :: ids, [], h, nx, K, hK, _, _ => hK.elim
  | id :: ids, b :: bs, h, nx, K, hK, hlt, hf => by
    simp only [fresh, Bool.and_eq_true] at hf
    have hnot : id ∉ ids := by
      refine posOf_none (k := 0) ?_
      cases hp : posOf ids id 0 with
      | none => rfl
      | some _ => rw [hp] at hf; cases hf.1
    cases b with
    | arr _ _ _ _ => exact hK.elim
    | gone => exact hK.elim
    | box t cs =>
      simp only [layB, mapK_eq] at hK
      obtain ⟨hp, h1, h2, h3, h4, h5⟩ := layB_eq σ ids bs ((id, .box t (cs.map (renC σ))) :: h) nx K hK (fun i hi => hlt i (List.mem_cons_of_mem _ hi)) hf.2
      have hidl := hlt id (List.mem_cons_self ..)
      refine ⟨hp, by simpa using h1, by simpa using h2, fun k hk => ?_, fun k hk => ?_, fun i hi hii => ?_⟩
      · cases k with
        | zero => exact ⟨t, cs, rfl⟩
        | succ k => simpa using h3 k (by simpa using hk)
      · cases k with
        | zero =>
          have := h5 id hnot (.inl hidl)
          rw [sig_lt (id := id) (by simp)]
          simpa [getB_cons, renB'] using this
        | succ k =>
          have := h4 k (by simpa using hk)
          have e : sig (id :: ids) nx (k + 1) = sig ids nx k := by simp [sig, nth, len]
          rw [e]; simpa using this
      · have hne : i ≠ id := fun e => hi (by rw [e]; exact List.mem_cons_self ..)
        have := h5 i (fun hm => hi (List.mem_cons_of_mem _ hm)) (by simpa using hii)
        rw [this, getB_cons, if_neg hne]
def Cx.join (C C' : Cx) (n m : Nat) : Cx :=
  { C with β := fun i => if i < n then C.β i else C'.β (m + (i - n)), base := fun i => if i < n then C.base i else C'.base (m + (i - n)), cap := fun i => if i < n then C.cap i else C'.cap (m + (i - n)) }
theorem KeepC.join (C C' : Cx) (n m : Nat) : KeepC C (C.join C' n m) := ⟨rfl, rfl, rfl, rfl, rfl, rfl⟩
structure Joins (C C' : Cx) (s s2 : St) (ids : List Nat) (h' : List AB) : Prop where
  len : ids.length ≤ h'.length
  nx : s2.nx = s.nx + (h'.length - ids.length)
  lt : ∀ id ∈ ids, id < s.nx
  box : ∀ k, k < ids.length → ∃ t cs, h'[k]? = some (.box t cs)
  get : ∀ k, k < h'.length → getB s2.heap (sig ids s.nx k) = renB' (sig ids s.nx) ((h'[k]?).getD .gone)
  β : ∀ k id, ids[k]? = some id → C'.β k = C.β id
section
variable {ids : List Nat} {h' : List AB} {s2 : St}
theorem Joins.sg (J : Joins C C' s s2 ids h') {k : Nat} (hk : k < h'.length) : sig ids s.nx k < s2.nx ∧ (C.join C' s.nx ids.length).β (sig ids s.nx k) = C'.β k := by
  have hl := J.len
  by_cases h : k < ids.length
  · have e : ids[k]? = some ids[k] := List.getElem?_eq_getElem h
    have := J.lt _ (List.mem_of_getElem? e)
    rw [sig_lt e, J.nx]
    exact ⟨by omega, by simp only [Cx.join]; rw [if_pos this, J.β k _ e]⟩
  · rw [sig_ge (by omega), J.nx]
    refine ⟨by omega, ?_⟩
    simp only [Cx.join]
    rw [if_neg (by omega)]
    congr 1; omega
theorem Joins.arr (J : Joins C C' s s2 ids h') {k : Nat} (hk : k < h'.length) {wr : Bool} {t : TypeId} {b : Bool} {l : List (List AV)} (hb : getB s2.heap (sig ids s.nx k) = .arr wr t b l) :
    getB (stOf h').heap k = .arr wr t b l ∧ (C.join C' s.nx ids.length).base (sig ids s.nx k) = C'.base k ∧ (C.join C' s.nx ids.length).cap (sig ids s.nx k) = C'.cap k := by
  rw [J.get k hk] at hb
  have hst : getB (stOf h').heap k = (h'[k]?).getD .gone := getB_hpOf0 h' k
  rw [hst]
  have hge : ids.length ≤ k := by
    rcases Nat.lt_or_ge k ids.length with h | h
    · obtain ⟨t', cs, e⟩ := J.box k h
      rw [e] at hb
      cases hb
    · exact h
  refine ⟨?_, ?_, ?_⟩
  · revert hb
    cases (h'[k]?).getD .gone <;> intro hb <;> first | exact hb | cases hb
  · rw [sig_ge hge]; simp only [Cx.join]; rw [if_neg (by omega)]; congr 1; omega
  · rw [sig_ge hge]; simp only [Cx.join]; rw [if_neg (by omega)]; congr 1; omega
theorem RpC_join (J : Joins C C' s s2 ids h')
    {x : AV} (hX : hasSlC x = true → ∀ b, XB (C.join C' s.nx ids.length) s2.heap b → XB C' (hpOf 0 h') b) {v : Value} (h : RpK T C' (stOf h') w' x v) : RpK T (C.join C' s.nx ids.length) s2 w' (renC (sig ids s.nx) x) v := by
  cases x <;> simp only [RpK, renC] at h ⊢
  all_goals try exact h
  case ptr id off =>
    obtain ⟨rfl, hid⟩ := h
    have hid' : id < h'.length := hid
    exact ⟨by rw [(J.sg hid').2], (J.sg hid').1⟩
  case psl id n =>
    obtain ⟨⟨c, rfl⟩, hid⟩ := h
    have hid' : id < h'.length := hid
    exact ⟨⟨c, by rw [(J.sg hid').2]⟩, (J.sg hid').1⟩
  case sl b t l => exact h.weak (hX rfl)
  case own id =>
    obtain ⟨hid, h⟩ := h
    have hid' : id < h'.length := hid
    refine ⟨(J.sg hid').1, ?_⟩
    cases hb : getB s2.heap (sig ids s.nx id) with
    | arr wr t b l =>
      obtain ⟨q1, q2, q3⟩ := J.arr hid' hb
      rw [q1] at h
      simp only [hdr, q2, q3] at h ⊢
      exact h
    | _ => trivial
  case vw id lo n =>
    obtain ⟨hid, h⟩ := h
    have hid' : id < h'.length := hid
    refine ⟨(J.sg hid').1, ?_⟩
    cases hb : getB s2.heap (sig ids s.nx id) with
    | arr wr t b l =>
      obtain ⟨q1, q2, q3⟩ := J.arr hid' hb
      rw [q1] at h
      simp only [q2, q3] at h ⊢
      exact h
    | _ => trivial
  case elt id i off =>
    obtain ⟨hid, h⟩ := h
    have hid' : id < h'.length := hid
    refine ⟨(J.sg hid').1, ?_⟩
    cases hb : getB s2.heap (sig ids s.nx id) with
    | arr wr t b l =>
      obtain ⟨q1, q2, q3⟩ := J.arr hid' hb
      rw [q1] at h
      simp only [q2] at h ⊢
      exact h
    | _ => trivial
  case rel t l i off =>
    obtain ⟨hi, g, o, cap, cks, hk, hr, rfl⟩ := h
    exact ⟨hi, g, o, cap, cks, hk, hr.weak (hX rfl), rfl⟩
  case fn f first cap =>
    obtain ⟨fs, cs, rfl, h1, h2⟩ := h
    have key : ∀ (l : List AV) (us : List Value), all2 (RpF C' (stOf h')) l us → all2 (RpF (C.join C' s.nx ids.length) s2) (l.map (renF (sig ids s.nx))) us := by
      intro l
      induction l with
      | nil => intro us h; cases us with | nil => trivial | cons _ _ => exact h.elim
      | cons y r ih =>
        intro us h
        cases us with
        | nil => exact h.elim
        | cons u us =>
          obtain ⟨h0, hr⟩ := h
          refine ⟨?_, ih us hr⟩
          clear hr ih
          cases y <;> simp only [RpF, renF] at h0 ⊢
          all_goals try exact h0
          case ptr id off =>
            obtain ⟨rfl, hid⟩ := h0
            have hid' : id < h'.length := hid
            exact ⟨by rw [(J.sg hid').2], (J.sg hid').1⟩
          case own id =>
            obtain ⟨hid, h0⟩ := h0
            have hid' : id < h'.length := hid
            refine ⟨(J.sg hid').1, ?_⟩
            cases hb : getB s2.heap (sig ids s.nx id) with
            | arr wr t b l =>
              obtain ⟨q1, q2, q3⟩ := J.arr hid' hb
              rw [q1] at h0
              simp only [hdr, q2, q3] at h0 ⊢
              exact h0
            | _ => trivial
    exact ⟨fs, cs, rfl, key _ _ h1, key _ _ h2⟩
theorem RpA_join (J : Joins C C' s s2 ids h')
    {x : AV} (hX : hasSlA x = true → ∀ b, XB (C.join C' s.nx ids.length) s2.heap b → XB C' (hpOf 0 h') b) {v : Value} (h : RpA T C' (stOf h') w' x v) : RpA T (C.join C' s.nx ids.length) s2 w' (renA' (sig ids s.nx) x) v := by
  cases x
  case agg l =>
    obtain ⟨cs, rfl, h⟩ := h
    refine ⟨cs, rfl, ?_⟩
    have key : ∀ (l : List AV) (us : List Value), (hasSlL l = true → ∀ b, XB (C.join C' s.nx ids.length) s2.heap b → XB C' (hpOf 0 h') b) → all2 (RpK T C' (stOf h') w') l us → all2 (RpK T (C.join C' s.nx ids.length) s2 w') (l.map (renC (sig ids s.nx))) us := by
      intro l
      induction l with
      | nil => intro us _ h; cases us with | nil => trivial | cons _ _ => exact h.elim
      | cons y r ih =>
        intro us hX h
        cases us with
        | nil => exact h.elim
        | cons u us => exact ⟨RpC_join J (fun e => hX (by simp [hasSlL, e])) h.1, ih us (fun e => hX (by simp [hasSlL, e])) h.2⟩
    exact key l _ hX h
  all_goals
    simp only [RpA, renA'] at h ⊢
    refine RpC_join J ?_ h
    exact hX
theorem RpS_join (J : Joins C C' s s2 ids h')
    {x : AV} (hX : hasSl x = true → ∀ b, XB (C.join C' s.nx ids.length) s2.heap b → XB C' (hpOf 0 h') b) {v : Value} (h : RpS T C' (stOf h') w' x v) : RpS T (C.join C' s.nx ids.length) s2 w' (renV' (sig ids s.nx) x) v := by
  cases x
  case tup l =>
    obtain ⟨cs, rfl, h⟩ := h
    refine ⟨cs, rfl, ?_⟩
    have key : ∀ (l : List AV) (us : List Value), (hasSlAL l = true → ∀ b, XB (C.join C' s.nx ids.length) s2.heap b → XB C' (hpOf 0 h') b) → all2 (RpA T C' (stOf h') w') l us → all2 (RpA T (C.join C' s.nx ids.length) s2 w') (l.map (renA' (sig ids s.nx))) us := by
      intro l
      induction l with
      | nil => intro us _ h; cases us with | nil => trivial | cons _ _ => exact h.elim
      | cons y r ih =>
        intro us hX h
        cases us with
        | nil => exact h.elim
        | cons u us => exact ⟨RpA_join J (fun e => hX (by simp [hasSlAL, e])) h.1, ih us (fun e => hX (by simp [hasSlAL, e])) h.2⟩
    exact key l _ hX h
  case iface t y =>
    obtain ⟨u, rfl, h⟩ := h
    exact ⟨u, rfl, RpA_join J hX h⟩
  all_goals
    simp only [RpS, renV'] at h ⊢
    refine RpA_join J ?_ h
    exact hX
end
end
section
variable {P : Program} {T : Tab} {C C' : Cx} {s s' : St} {a : Act} {w w' : World} {ids : List Nat}
def calleeC (C : Cx) (h : Hp) (w : World) (lent ids al : List Nat) : Cx :=
  { β := fun k => C.β ((al[k]?).getD 0), base := fun k => C.base ((al[k]?).getD 0), cap := fun k => C.cap ((al[k]?).getD 0), F := fun b => C.F b ∨ ∃ id, ownB C h id = some b ∧ id ∉ al ∧ (id ∈ lent → ∃ t cs, getB h id = .box t cs),
    G := fun b => b < w.heap.size ∧ ∀ id ∈ al, ownB C h id ≠ some b, w0 := w, pin := fun k => (ids[k]?).map C.β, N := .of 0, D := [] }
def subB (h : Hp) (al : List Nat) (id : Nat) : AB :=
  match getB h id with
  | .box t cs => .box t (cs.map (argC2 h al))
  | b => b
structure Goes (h : Hp) (ids mids : List Nat) : Prop where
  box : ∀ id ∈ ids, ∃ t cs, getB h id = .box t cs
  arr : ∀ id ∈ mids, ∃ t b l, getB h id = .arr true t b l
  fr : fresh (ids ++ mids) = true
theorem appL_eq : ∀ (a b : List Nat), appL a b = a ++ b
  | [], _ => rfl
  | x :: r, b => by simp [appL, appL_eq r b]
theorem appB_eq : ∀ (a b : List AB) (K : List AB → Prop), appB a b K = K (a ++ b)
  | [], _, _ => rfl
  | x :: r, b, K => by simp [appB, appB_eq r b]
theorem subH_eq {h : Hp} {al : List Nat} : ∀ {ids : List Nat} {K : List AB → Prop}, subH h al ids K → K (ids.map (subB h al)) ∧ ∀ id ∈ ids, ∃ t cs, getB h id = .box t cs
  | [], K, h => ⟨h, by simp⟩
  | id :: r, K, hh => by
    simp only [subH] at hh
    cases hb : getB h id with
    | box t cs =>
      rw [hb] at hh
      simp only [mapK_eq] at hh
      obtain ⟨h1, h2⟩ := subH_eq hh
      refine ⟨by simpa [subB, hb] using h1, fun j hj => ?_⟩
      rcases List.mem_cons.1 hj with rfl | hj
      · exact ⟨_, _, hb⟩
      · exact h2 j hj
    | arr _ _ _ _ => rw [hb] at hh; exact hh.elim
    | gone => rw [hb] at hh; exact hh.elim
theorem subA_eq {h : Hp} (al : List Nat) : ∀ {ids : List Nat} {K : List AB → Prop}, subA h ids K → K (ids.map (subB h al)) ∧ ∀ id ∈ ids, ∃ t b l, getB h id = .arr true t b l
  | [], K, h => ⟨h, by simp⟩
  | id :: r, K, hh => by
    simp only [subA] at hh
    cases hb : getB h id with
    | box t cs => rw [hb] at hh; exact hh.elim
    | arr wr t b l =>
      rw [hb] at hh
      cases wr with
      | false => exact hh.elim
      | true =>
        obtain ⟨h1, h2⟩ := subA_eq al hh
        refine ⟨by simpa [subB, hb] using h1, fun j hj => ?_⟩
        rcases List.mem_cons.1 hj with rfl | hj
        · exact ⟨_, _, _, hb⟩
        · exact h2 j hj
    | gone => rw [hb] at hh; exact hh.elim
theorem sub_get (h : Hp) (al0 al : List Nat) (k : Nat) : getB (stOf (al.map (subB h al0))).heap k = match al[k]? with | some id => subB h al0 id | none => .gone := by
  show getB (hpOf 0 _) k = _
  rw [getB_hpOf0, List.getElem?_map]
  cases al[k]? <;> rfl
variable {mids : List Nat}
theorem sub_own {h : Hp} {lent : List Nat} {k b : Nat} (hb : ownB (calleeC C h w lent ids (ids ++ mids)) (stOf ((ids ++ mids).map (subB h (ids ++ mids)))).heap k = some b) : ∃ id, (ids ++ mids)[k]? = some id ∧ ownB C h id = some b := by
  unfold ownB at hb
  rw [sub_get] at hb
  cases hk : (ids ++ mids)[k]? with
  | none => rw [hk] at hb; cases hb
  | some id =>
    rw [hk] at hb
    refine ⟨id, rfl, ?_⟩
    simp only [subB] at hb
    unfold ownB
    cases hg : getB h id with
    | box t cs => rw [hg] at hb; simp only [calleeC, hk, Option.getD_some] at hb; exact hb
    | gone => rw [hg] at hb; cases hb
    | arr wr t b l =>
      rw [hg] at hb
      cases wr with
      | true => simp only [calleeC, hk, Option.getD_some] at hb; exact hb
      | false => cases hb
theorem XB_callee {h : Hp} (hg : Goes h ids mids) {lent : List Nat} (hd : ∀ id ∈ mids, id ∉ lent) {b : Nat} (hb : XB (calleeC C h w lent ids (ids ++ mids)) (stOf ((ids ++ mids).map (subB h (ids ++ mids)))).heap b) : C.F b ∨ ∃ id, ownB C h id = some b ∧ (id ∈ lent → ∃ t cs, getB h id = .box t cs) := by
  rcases hb with (hb | ⟨id, h1, _, h2⟩) | ⟨k, hb⟩
  · exact .inl hb
  · exact .inr ⟨id, h1, h2⟩
  · obtain ⟨id, h1, h2⟩ := sub_own hb
    refine .inr ⟨id, h2, fun hl => ?_⟩
    rcases List.mem_append.1 (List.mem_of_getElem? h1) with hm | hm
    · exact hg.box id hm
    · exact absurd hl (hd id hm)
theorem sub_pos {h : Hp} {al : List Nat} {id k : Nat} (hp : posOf al id 0 = some k) : al[k]? = some id ∧ k < (stOf (al.map (subB h al))).nx := by
  obtain ⟨i, e, hk⟩ := posOf_some hp
  rw [Nat.zero_add] at e
  subst e
  have := (List.getElem?_eq_some_iff.1 hk).1
  exact ⟨hk, by simpa [stOf] using this⟩
theorem subB_arr {h : Hp} {al : List Nat} {id : Nat} {wr : Bool} {t : TypeId} {b : Bool} {l : List (List AV)} : subB h al id = .arr wr t b l ↔ getB h id = .arr wr t b l := by
  unfold subB
  cases getB h id <;> simp
theorem fnS_rep {lent al : List Nat} : ∀ {l l' : List AV} {us : List Value}, all2 (RpF C s) l us → fnS al l = some l' → all2 (RpF (calleeC C s.heap w lent ids al) (stOf (al.map (subB s.heap al)))) l' us
  | [], _, [], _, h => by simp only [fnS] at h; injection h with h; subst h; trivial
  | [], _, _ :: _, h, _ => h.elim
  | x :: r, l', us, h, hd => by
    cases us with
    | nil => exact h.elim
    | cons u us =>
      cases x <;> simp only [fnS] at hd
      all_goals try (cases hd; done)
      case int k n =>
        cases hr : fnS al r with
        | none => rw [hr] at hd; cases hd
        | some l =>
          rw [hr] at hd
          injection hd with hd
          subst hd
          exact ⟨h.1, fnS_rep h.2 hr⟩
      case ptr id off =>
        cases hp : posOf al id 0 with
        | none => rw [hp] at hd; cases hd
        | some k =>
          cases hr : fnS al r with
          | none => rw [hp, hr] at hd; cases hd
          | some l =>
            rw [hp, hr] at hd
            injection hd with hd
            subst hd
            obtain ⟨hk, hlt⟩ := sub_pos (h := s.heap) hp
            obtain ⟨h1, h2⟩ := h
            exact ⟨⟨by simp only [calleeC, hk, Option.getD_some]; exact h1.1, hlt⟩, fnS_rep h2 hr⟩
      case own id =>
        cases hp : posOf al id 0 with
        | none => rw [hp] at hd; cases hd
        | some k =>
          cases hr : fnS al r with
          | none => rw [hp, hr] at hd; cases hd
          | some l =>
            rw [hp, hr] at hd
            injection hd with hd
            subst hd
            obtain ⟨hk, hlt⟩ := sub_pos (h := s.heap) hp
            obtain ⟨h1, h2⟩ := h
            refine ⟨⟨hlt, ?_⟩, fnS_rep h2 hr⟩
            rw [sub_get, hk]
            dsimp only
            have h1 := h1.2
            cases hg : subB s.heap al id with
            | arr wr t b l =>
              rw [subB_arr.1 hg] at h1
              simpa only [hdr, calleeC, hk, Option.getD_some] using h1
            | _ => exact trivial
theorem argC2_rep (hc : CS T C s a w) (hg : Goes s.heap ids mids) {lent : List Nat} (hd : ∀ id ∈ mids, id ∉ lent) {x : AV} {v : Value} (h : RpK T C s w x v) (hl : ∀ id ∈ lendC x, id ∈ lent ∨ id ∈ mids) : RpK T (calleeC C s.heap w lent ids (ids ++ mids)) (stOf ((ids ++ mids).map (subB s.heap (ids ++ mids)))) w (argC2 s.heap (ids ++ mids) x) v := by
  have weak : ∀ b, XB (calleeC C s.heap w lent ids (ids ++ mids)) (stOf ((ids ++ mids).map (subB s.heap (ids ++ mids)))).heap b → XB C s.heap b := fun b hb => (XB_callee hg hd hb).imp id (fun ⟨id, h, _⟩ => ⟨id, h⟩)
  have own : ∀ (id : Nat) (x : AV), x = .own id ∨ (∃ lo n, x = .vw id lo n) → id ∈ lent → RpK T C s w x v → RpK T (calleeC C s.heap w lent ids (ids ++ mids)) (stOf ((ids ++ mids).map (subB s.heap (ids ++ mids)))) w (match rowsOf s.heap x with | some (b, t, l) => .sl b t l | none => .dead) v := fun id x hx hid h => by
    cases hr : rowsOf s.heap x with
    | none => trivial
    | some q =>
      obtain ⟨b, t, l⟩ := q
      simp only
      obtain ⟨hc1, E1, hfz⟩ := hc.freeze [id]
      have hrep : RepC T w (XB C (frzs s [id]).heap) (.sl t) (.sl b 0 l) v := by
        have hfit : fitC (frzs s [id]).heap (.sl t) x = some (.sl b 0 l) := by
          have hrow : rowsOf (frzs s [id]).heap x = some (b, t, l) := by
            rcases hx with rfl | ⟨lo, n, rfl⟩
            · simp only [rowsOf] at hr ⊢
              cases hb : getB s.heap id with
              | gone => simp [hb] at hr
              | box _ _ => simp [hb] at hr
              | arr wr t' b' l' =>
                obtain ⟨wr', h1, _⟩ := (hfz id).1 _ _ _ _ hb
                rw [h1]
                rw [hb] at hr
                exact hr
            · simp only [rowsOf] at hr ⊢
              cases hb : getB s.heap id with
              | gone => simp [hb] at hr
              | box _ _ => simp [hb] at hr
              | arr wr t' b' l' =>
                obtain ⟨wr', h1, _⟩ := (hfz id).1 _ _ _ _ hb
                rw [h1]
                rw [hb] at hr
                exact hr
          rcases hx with rfl | ⟨lo, n, rfl⟩ <;> simp only [fitC, hrow, Nat.beq_refl, cond_true]
        refine fitC_sound hc1 hfit (RpK.ext E1 h) (fun id' hid' wr t' b' l' hb' => ?_)
        have : id' = id := by rcases hx with rfl | ⟨lo, n, rfl⟩ <;> simpa [lendC] using hid'
        subst this
        cases hb0 : getB s.heap id' with
        | arr wr0 t0 b0 l0 =>
          obtain ⟨wr1, h4, h5⟩ := (hfz id').1 _ _ _ _ hb0
          rw [hb'] at h4
          injection h4 with h4
          rw [h4]; exact h5 (by simp)
        | box t0 cs0 => have := (hfz id').2 (by simp [hb0]); rw [hb', hb0] at this; cases this
        | gone => have := (hfz id').2 (by simp [hb0]); rw [hb', hb0] at this; cases this
      refine hrep.weak (fun q hq => ?_)
      rcases XB_callee hg hd hq with hF | ⟨i, hi, hn⟩
      · exact .inl hF
      · refine .inr ⟨i, ?_⟩
        have hne : i ≠ id := fun e => by
          obtain ⟨t0, cs0, h0⟩ := hn (e ▸ hid)
          rw [e] at h0
          rcases hx with rfl | ⟨lo, n, rfl⟩ <;> simp [rowsOf, h0] at hr
        have : getB (frzs s [id]).heap i = getB s.heap i := by
          cases hb0 : getB s.heap id with
          | arr wr t0 b0 l0 => simp only [frzs, Go.Proofs.Ytalchibbmkhkpaa.VX.freeze, hb0, getB_cons, hne, if_false]
          | box _ _ => simp only [frzs, Go.Proofs.Ytalchibbmkhkpaa.VX.freeze, hb0]
          | gone => simp only [frzs, Go.Proofs.Ytalchibbmkhkpaa.VX.freeze, hb0]
        simp only [ownB, this] at hi ⊢
        exact hi
  have notin : ∀ {id : Nat}, posOf (ids ++ mids) id 0 = none → id ∉ mids := fun hp hm => posOf_none hp (List.mem_append_right _ hm)
  cases x <;> simp only [argC2]
  case own id =>
    cases hp : posOf (ids ++ mids) id 0 with
    | none => exact own id _ (.inl rfl) ((hl id (by simp [lendC])).resolve_right (notin hp)) h
    | some k =>
      obtain ⟨hk, hlt⟩ := sub_pos (h := s.heap) hp
      refine ⟨hlt, ?_⟩
      rw [sub_get, hk]
      dsimp only
      have h1 := h.2
      cases hg : subB s.heap (ids ++ mids) id with
      | arr wr t b l =>
        rw [subB_arr.1 hg] at h1
        simpa only [hdr, calleeC, hk, Option.getD_some] using h1
      | _ => exact trivial
  case vw id lo n =>
    cases hp : posOf (ids ++ mids) id 0 with
    | none => exact own id _ (.inr ⟨lo, n, rfl⟩) ((hl id (by simp [lendC])).resolve_right (notin hp)) h
    | some k =>
      obtain ⟨hk, hlt⟩ := sub_pos (h := s.heap) hp
      refine ⟨hlt, ?_⟩
      rw [sub_get, hk]
      dsimp only
      have h1 := h.2
      cases hg : subB s.heap (ids ++ mids) id with
      | arr wr t b l =>
        rw [subB_arr.1 hg] at h1
        simpa only [calleeC, hk, Option.getD_some] using h1
      | _ => exact trivial
  case elt id i off =>
    cases hp : posOf (ids ++ mids) id 0 with
    | none => trivial
    | some k =>
      obtain ⟨hk, hlt⟩ := sub_pos (h := s.heap) hp
      refine ⟨hlt, ?_⟩
      rw [sub_get, hk]
      dsimp only
      have h1 := h.2
      cases hg : subB s.heap (ids ++ mids) id with
      | arr wr t b l =>
        rw [subB_arr.1 hg] at h1
        simpa only [calleeC, hk, Option.getD_some] using h1
      | _ => exact trivial
  case sl b t l => exact RepC.weak (show RepC T w (XB C s.heap) (.sl t) (.sl b 0 l) v from h) weak
  case rel t l i off =>
    obtain ⟨hi, g, o, cap, cks, hk, hr, rfl⟩ := h
    exact ⟨hi, g, o, cap, cks, hk, hr.weak weak, rfl⟩
  case ptr id off =>
    cases hp : posOf (ids ++ mids) id 0 with
    | none => trivial
    | some k =>
      obtain ⟨hk, hlt⟩ := sub_pos (h := s.heap) hp
      exact ⟨by simp only [calleeC, hk, Option.getD_some]; exact h.1, hlt⟩
  case psl id n =>
    cases hp : posOf (ids ++ mids) id 0 with
    | none => trivial
    | some k =>
      obtain ⟨hk, hlt⟩ := sub_pos (h := s.heap) hp
      exact ⟨by simp only [calleeC, hk, Option.getD_some]; exact h.1, hlt⟩
  case fn f first cap =>
    obtain ⟨fs, cs, rfl, h1, h2⟩ := h
    cases e1 : fnS (ids ++ mids) first with
    | none => trivial
    | some l1 =>
      cases e2 : fnS (ids ++ mids) cap with
      | none => trivial
      | some l2 => exact ⟨fs, cs, rfl, fnS_rep h1 e1, fnS_rep h2 e2⟩
  all_goals first | exact h | trivial
def argV2' (h : Hp) (ids : List Nat) : AV → AV
  | .agg l => .agg (l.map (argC2 h ids))
  | .tup _ => .dead
  | .iface _ _ => .dead
  | v => argC2 h ids v
theorem argV2_eq (h : Hp) (ids : List Nat) (v : AV) (K : AV → Prop) : argV2 h ids v K = K (argV2' h ids v) := by
  unfold argV2 argV2'; cases v <;> simp [mapK_eq, forceK_eq]
theorem argVs2_eq (h : Hp) (ids : List Nat) : ∀ (l : List AV) (K : List AV → Prop), argVs2 h ids l K = K (l.map (argV2' h ids))
  | [], _ => rfl
  | v :: r, K => by simp [argVs2, argV2_eq, argVs2_eq h ids r]
theorem argV2_rep (hc : CS T C s a w) (hg : Goes s.heap ids mids) {lent : List Nat} (hd : ∀ id ∈ mids, id ∉ lent) {x : AV} {v : Value} (h : RpS T C s w x v) (hl : ∀ id ∈ lend x, id ∈ lent ∨ id ∈ mids) : RpS T (calleeC C s.heap w lent ids (ids ++ mids)) (stOf ((ids ++ mids).map (subB s.heap (ids ++ mids)))) w (argV2' s.heap (ids ++ mids) x) v := by
  cases x
  case agg l =>
    obtain ⟨cs, rfl, h⟩ := h
    refine ⟨cs, rfl, ?_⟩
    have key : ∀ (l : List AV) (us : List Value), (∀ id ∈ lendL l, id ∈ lent ∨ id ∈ mids) → all2 (RpK T C s w) l us → all2 (RpK T (calleeC C s.heap w lent ids (ids ++ mids)) (stOf ((ids ++ mids).map (subB s.heap (ids ++ mids)))) w) (l.map (argC2 s.heap (ids ++ mids))) us := by
      intro l
      induction l with
      | nil => intro us _ h; cases us with | nil => trivial | cons _ _ => exact h.elim
      | cons y r ih =>
        intro us hl h
        cases us with
        | nil => exact h.elim
        | cons u us => exact ⟨argC2_rep hc hg hd h.1 (fun id hid => hl id (by simp [lendL, hid])), ih us (fun id hid => hl id (by simp [lendL, hid])) h.2⟩
    exact key l _ hl h
  case tup l => trivial
  case iface t y => trivial
  all_goals
    simp only [RpS, RpA] at h
    exact RpS_of_RpK (argC2_rep hc hg hd h hl)
theorem argVs2_rep (hc : CS T C s a w) (hg : Goes s.heap ids mids) {lent : List Nat} (hd : ∀ id ∈ mids, id ∉ lent) : ∀ (xs : List AV) (vs : List Value), all2 (RpS T C s w) xs vs → (∀ id ∈ lendAll xs, id ∈ lent ∨ id ∈ mids) → all2 (RpS T (calleeC C s.heap w lent ids (ids ++ mids)) (stOf ((ids ++ mids).map (subB s.heap (ids ++ mids)))) w) (xs.map (argV2' s.heap (ids ++ mids))) vs
  | [], [], _, _ => trivial
  | x :: xs, v :: vs, h, hl => ⟨argV2_rep hc hg hd h.1 (fun id hid => hl id (by simp [lendAll, hid])), argVs2_rep hc hg hd xs vs h.2 (fun id hid => hl id (by simp [lendAll, hid]))⟩
  | [], _ :: _, h, _ => h.elim
  | _ :: _, [], h, _ => h.elim
theorem lendBs_mem {h : Hp} : ∀ {ids : List Nat} {id : Nat}, id ∈ ids → ∀ {t cs}, getB h id = .box t cs → ∀ i ∈ lendL cs, i ∈ lendBs h ids
  | j :: r, id, hm, t, cs, hb, i, hi => by
    simp only [lendBs, List.mem_append]
    rcases List.mem_cons.1 hm with rfl | hm
    · left; rw [hb]; exact hi
    · exact .inr (lendBs_mem hm hb i hi)
theorem calleeHS (hc : CS T C s a w) (hg : Goes s.heap ids mids) {lent : List Nat} (hd : ∀ id ∈ mids, id ∉ lent) (hl : ∀ i ∈ lendBs s.heap ids, i ∈ lent ∨ i ∈ mids) : HS T (calleeC C s.heap w lent ids (ids ++ mids)) ((ids ++ mids).map (subB s.heap (ids ++ mids))) w := by
  have hX : ∀ b, XB (calleeC C s.heap w lent ids (ids ++ mids)) (stOf ((ids ++ mids).map (subB s.heap (ids ++ mids)))).heap b → XB C s.heap b := fun b hb => (XB_callee hg hd hb).imp id (fun ⟨id, h, _⟩ => ⟨id, h⟩)
  refine ⟨fun t => trivial, fun k => ?_, fun k hk => ?_, fun k k' b h1 h2 => ?_, fun k b h1 => ?_, fun b h => ⟨h.1, rfl⟩, Nat.le_refl _, fun k b hp => ?_, (fun p hp => by cases hp), rfl, Bd.OK.of0, fun b h => ?_, ⟨rfl, rfl, rfl⟩⟩
  · rw [sub_get]
    cases hk : (ids ++ mids)[k]? with
    | none => exact trivial
    | some id =>
      have hm := List.mem_of_getElem? hk
      have hb := hc.blk id
      dsimp only
      cases hgb : getB s.heap id with
      | gone => simp only [subB, hgb]; trivial
      | box t cs =>
        have hmi : id ∈ ids := by
          rcases List.mem_append.1 hm with hm | hm
          · exact hm
          · obtain ⟨t', b', l', e⟩ := hg.arr id hm
            rw [e] at hgb; cases hgb
        rw [hgb] at hb
        obtain ⟨vs, q1, q2, q3, q4⟩ := hb
        simp only [subB, hgb]
        refine ⟨vs, ?_, ?_, ?_, q4⟩
        · simp only [calleeC, hk, Option.getD_some]; exact q1
        · simp only [calleeC, hk, Option.getD_some]; exact q2
        · have key : ∀ (l : List AV) (us : List Value), (∀ i ∈ lendL l, i ∈ lent ∨ i ∈ mids) → all2 (RpK T C s w) l us → all2 (RpK T (calleeC C s.heap w lent ids (ids ++ mids)) (stOf ((ids ++ mids).map (subB s.heap (ids ++ mids)))) w) (l.map (argC2 s.heap (ids ++ mids))) us := by
            intro l
            induction l with
            | nil => intro us _ h; cases us with | nil => trivial | cons _ _ => exact h.elim
            | cons y r ih =>
              intro us hl h
              cases us with
              | nil => exact h.elim
              | cons u us => exact ⟨argC2_rep hc hg hd h.1 (fun id hid => hl id (by simp [lendL, hid])), ih us (fun id hid => hl id (by simp [lendL, hid])) h.2⟩
          exact key cs vs (fun i hi => hl i (lendBs_mem hmi hgb i hi)) q3
      | arr wr t b l =>
        rw [hgb] at hb
        simp only [subB, hgb]
        obtain ⟨cks, hck, hp, hb⟩ := hb
        refine ⟨cks, hck, hp, ?_⟩
        simp only [calleeC, hk, Option.getD_some]
        rcases hb with h | ⟨q1, q2, g, o, q3, q4, q5, q6, q7⟩
        · exact .inl h
        · refine .inr ⟨q1, q2, g, o, q3, q4, fun i r hr => ?_, q6, fun q8 q9 q10 => q7 q8 q9 (hX _ q10)⟩
          obtain ⟨r1, r2⟩ := q5 i r hr
          refine ⟨r1, fun j x c hx hcc => ?_⟩
          obtain ⟨v, hv, hrep⟩ := r2 j x c hx hcc
          exact ⟨v, hv, hrep.weak hX⟩
  · rw [sub_get]
    have : (ids ++ mids)[k]? = none := by
      rw [List.getElem?_eq_none_iff]
      simpa [stOf] using hk
    rw [this]
  · obtain ⟨i, q1, q2⟩ := sub_own h1
    obtain ⟨i', q3, q4⟩ := sub_own h2
    have := hc.inj i i' b q2 q4
    subst this
    exact fresh_inj hg.fr k k' i q1 q3
  · obtain ⟨i, q1, q2⟩ := sub_own h1
    obtain ⟨r1, r2, r3⟩ := hc.own i b q2
    have hm := List.mem_of_getElem? q1
    refine ⟨r1, fun hG => hG.2 i hm q2, ?_⟩
    rintro (hF | ⟨i', h3, h4, _⟩)
    · exact r3 hF
    · have := hc.inj i i' b q2 h3
      subst this
      exact h4 hm
  · simp only [calleeC] at hp ⊢
    cases hk : ids[k]? with
    | none => rw [hk] at hp; cases hp
    | some id =>
      rw [hk] at hp
      injection hp with hp
      have hlt := (List.getElem?_eq_some_iff.1 hk).1
      have hk2 : (ids ++ mids)[k]? = some id := by rw [List.getElem?_append_left hlt, hk]
      rw [hk2]
      exact ⟨by simpa using hp, by simp [stOf]; omega⟩
  · rcases h with h | ⟨id, h, _⟩
    · exact hc.f b h
    · exact (hc.own id b h).1
theorem hasSlB_get : ∀ (l : List AB) (j : Nat) (b : AB), l[j]? = some b → hasSlB T b = true → hasSlBs T l = true := by
  intro l
  induction l with
  | nil => intro j b h; simp at h
  | cons x r ih =>
    intro j b h e
    cases j with
    | zero => simp at h; subst h; simp [hasSlBs, e]
    | succ j => simp [hasSlBs, ih j b (by simpa using h) e]
theorem ckSl_get : ∀ (l : List CK) (j : Nat) (t2 : TypeId), l[j]? = some (.sl t2) → ckSl l = true := by
  intro l
  induction l with
  | nil => intro j t2 h; simp at h
  | cons c r ih =>
    intro j t2 h
    cases j with
    | zero => simp at h; subst h; rfl
    | succ j => have := ih j t2 (by simpa using h); cases c <;> simp [ckSl, this]
theorem RepB_join {h' : List AB} {s2 : St} (J : Joins C C' s s2 ids h') (hs : HS T C' h' w') (hX : hasSlBs T h' = true → ∀ b, XB (C.join C' s.nx ids.length) s2.heap b → XB C' (hpOf 0 h') b) {k : Nat} (hk : k < h'.length) :
    RepB T (C.join C' s.nx ids.length) s2 w' (sig ids s.nx k) (getB s2.heap (sig ids s.nx k)) := by
  have hbj := hs.blk k
  have hg0 : getB (stOf h').heap k = h'[k] := by show getB (hpOf 0 h') k = _; rw [getB_hpOf0, List.getElem?_eq_getElem hk]; rfl
  rw [hg0] at hbj
  have hget := J.get k hk
  rw [List.getElem?_eq_getElem hk, Option.getD_some] at hget
  have hslB : hasSlB T h'[k] = true → hasSlBs T h' = true := hasSlB_get h' k _ (List.getElem?_eq_getElem hk)
  obtain ⟨_, eβ⟩ := J.sg hk
  cases hbk : h'[k] with
  | gone => rw [hget, hbk]; trivial
  | box t cs =>
    rw [hbk] at hbj
    rw [hget, hbk]
    obtain ⟨vs, h1, h2, h3, h4⟩ := hbj
    refine ⟨vs, by rw [eβ]; exact h1, by rw [eβ]; exact h2, ?_, h4⟩
    have key : ∀ (l : List AV) (us : List Value), (hasSlL l = true → hasSlL cs = true) → all2 (RpK T C' (stOf h') w') l us → all2 (RpK T (C.join C' s.nx ids.length) s2 w') (l.map (renC (sig ids s.nx))) us := by
      intro l
      induction l with
      | nil => intro us _ h; cases us with | nil => trivial | cons _ _ => exact h.elim
      | cons y r ih =>
        intro us hsl h
        cases us with
        | nil => exact h.elim
        | cons u us => exact ⟨RpC_join J (fun e => hX (hslB (by rw [hbk]; exact hsl (by simp [hasSlL, e])))) h.1, ih us (fun e => hsl (by simp [hasSlL, e])) h.2⟩
    exact key cs vs id h3
  | arr wr t b l =>
    rw [hbk] at hbj hget
    have hget : getB s2.heap (sig ids s.nx k) = .arr wr t b l := hget
    obtain ⟨_, e2, e3⟩ := J.arr hk hget
    rw [hget]
    obtain ⟨cks, hck, hp, hbj⟩ := hbj
    refine ⟨cks, hck, hp, ?_⟩
    rw [e2, e3]
    rcases hbj with h | ⟨q1, q2, g, o, q3, q4, q5, q6, q7⟩
    · exact .inl h
    · refine .inr ⟨q1, q2, g, o, q3, q4, ?_, q6, fun hw hne => ?_⟩
      · intro i r hr
        obtain ⟨r1, r2⟩ := q5 i r hr
        refine ⟨r1, fun j2 x c hx hcc => ?_⟩
        obtain ⟨v, hv, hrep⟩ := r2 j2 x c hx hcc
        refine ⟨v, hv, ?_⟩
        cases c with
        | sl t2 =>
          have hslT : hasSlBs T h' = true := hslB (by
            rw [hbk]
            simp only [hasSlB, hck]
            rw [Bool.or_eq_true]
            exact .inr (ckSl_get cks j2 t2 hcc))
          exact hrep.weak (hX hslT)
        | int k => cases hrep; exact .int _ _
        | bool => cases hrep; exact .bool _
        | str => cases hrep; exact .str _
      · have hslT : hasSlBs T h' = true := hslB (by rw [hbk, hw]; simp [hasSlB])
        exact fun hx => q7 hw hne (hX hslT g hx)
theorem join_state (hc : CS T C s a w) {h0 : Hp} {lent : List Nat} (hg : Goes s.heap ids mids) (h0s : ∀ id b, id ∈ ids ++ mids → ownB C h0 id = some b → ownB C s.heap id = some b) {h' : List AB} (hs : HS T C' h' w') (hk : KeepC (calleeC C h0 w lent ids (ids ++ mids)) C') {s2 : St} (he : s2.env = s.env ∧ s2.gs = s.gs ∧ s2.kn = s.kn) (J : Joins C C' s s2 ids h')
    (hold : ∀ id, id ∉ ids → id ∉ mids → (id < s.nx ∨ s2.nx ≤ id) → getB s2.heap id = getB s.heap id) (hkill : ∀ id ∈ mids, getB s2.heap id = .gone)
    (hX : hasSlBs T h' = true → ∀ b, XB (C.join C' s.nx ids.length) s2.heap b → XB C' (hpOf 0 h') b) :
    CS T (C.join C' s.nx ids.length) s2 a w' ∧ Fr (· ∈ ids ++ mids) C s w (C.join C' s.nx ids.length) s2 w' := by
  obtain ⟨hF', hG', hw0', hpin', hN', hD'⟩ := hk
  have hbx := hg.box
  have hsame : ∀ b, b < w.heap.size → (∀ id ∈ ids ++ mids, ownB C s.heap id ≠ some b) → w'.heap[b]? = w.heap[b]? := fun b hb hn => by
    have := (hs.g b (by rw [hG']; exact ⟨hb, fun id hid e => hn id hid (h0s id b hid e)⟩)).2
    rw [hw0'] at this
    exact this
  have hge : w.heap.size ≤ w'.heap.size := by have := hs.ge; rw [hw0'] at this; exact this
  have hown : ∀ id ∈ ids, ownB C s.heap id = some (C.β id) := fun id hid => by obtain ⟨t, cs, h⟩ := hbx id hid; simp [ownB, h]
  have hl := J.len
  have hnx := J.nx
  have hmlt : ∀ id ∈ mids, id < s.nx := fun id hid => by obtain ⟨t, b, l, h⟩ := hg.arr id hid; exact gone_lt hc h (by simp)
  have hboxC : ∀ k id, ids[k]? = some id → ownB C' (hpOf 0 h') k = some (C.β id) := fun k id hki => by
    obtain ⟨t, cs, hb⟩ := J.box k (List.getElem?_eq_some_iff.1 hki).1
    have : getB (hpOf 0 h') k = .box t cs := by rw [getB_hpOf0, hb]; rfl
    simp [ownB, this, J.β k id hki]
  have hbox2 : ∀ id ∈ ids, ∃ t cs, getB s2.heap id = .box t cs := fun id hid => by
    obtain ⟨k, hki⟩ := List.getElem?_of_mem hid
    have hkl := (List.getElem?_eq_some_iff.1 hki).1
    obtain ⟨t, cs, hb⟩ := J.box k hkl
    have := J.get k (by omega)
    rw [sig_lt hki, hb] at this
    exact ⟨_, _, this⟩
  have hnew : ∀ k q, ids.length ≤ k → ownB C' (hpOf 0 h') k = some q → w.heap.size ≤ q ∨ ∃ id ∈ mids, ownB C s.heap id = some q := fun k q hkm h => by
    rcases Nat.lt_or_ge q w.heap.size with hlt | hge
    · right
      have h1 := (hs.own k q h).2.1
      rw [hG'] at h1
      have : ∃ id ∈ ids ++ mids, ownB C h0 id = some q := by
        apply Classical.byContradiction
        intro hno
        exact h1 ⟨hlt, fun id hid e => hno ⟨id, hid, e⟩⟩
      obtain ⟨id, hid, e⟩ := this
      have e := h0s id q hid e
      rcases List.mem_append.1 hid with hm | hm
      · exfalso
        obtain ⟨k0, hk0⟩ := List.getElem?_of_mem hm
        have h2 := hboxC k0 id hk0
        rw [hown id hm] at e
        injection e with e
        rw [e] at h2
        have := hs.inj k k0 q h h2
        have := (List.getElem?_eq_some_iff.1 hk0).1
        omega
      · exact ⟨id, hm, e⟩
    · exact .inl hge
  have hcase : ∀ id q, ownB (C.join C' s.nx ids.length) s2.heap id = some q → (id < s.nx ∧ id ∉ mids ∧ ownB C s.heap id = some q) ∨ ∃ k, ids.length ≤ k ∧ k < h'.length ∧ id = s.nx + (k - ids.length) ∧ ownB C' (hpOf 0 h') k = some q := fun id q h => by
    by_cases hid : id < s.nx
    · left
      refine ⟨hid, ?_⟩
      have hnm : id ∉ mids := fun hm => by simp only [ownB, hkill id hm] at h; cases h
      refine ⟨hnm, ?_⟩
      by_cases hm : id ∈ ids
      · obtain ⟨t, cs, hb⟩ := hbox2 id hm
        simp only [ownB, hb, Cx.join, hid, if_true] at h
        rw [hown id hm]; exact h
      · simp only [ownB, hold id hm hnm (.inl hid), Cx.join, hid, if_true] at h
        exact h
    · by_cases hj : id < s2.nx
      · right
        refine ⟨ids.length + (id - s.nx), by omega, by omega, by omega, ?_⟩
        have hkl : ids.length + (id - s.nx) < h'.length := by omega
        have hg := J.get _ hkl
        have e : sig ids s.nx (ids.length + (id - s.nx)) = id := by rw [sig_ge (by omega)]; omega
        rw [e, List.getElem?_eq_getElem hkl, Option.getD_some] at hg
        have hg0 : getB (hpOf 0 h') (ids.length + (id - s.nx)) = h'[ids.length + (id - s.nx)] := by rw [getB_hpOf0, List.getElem?_eq_getElem hkl]; rfl
        unfold ownB at h ⊢
        rw [hg] at h
        rw [hg0]
        cases hq : h'[ids.length + (id - s.nx)] with
        | gone => rw [hq] at h; cases h
        | box t cs => rw [hq] at h; simp only [renB', Cx.join, hid, if_false] at h; exact h
        | arr wr t b l =>
          rw [hq] at h
          cases wr with
          | false => cases h
          | true => simp only [renB', Cx.join, hid, if_false] at h; exact h
      · exfalso
        have hm : id ∉ ids := fun hm => hid (J.lt id hm)
        have hm2 : id ∉ mids := fun hm => hid (hmlt id hm)
        simp only [ownB, hold id hm hm2 (.inr (by omega)), hc.nx id (by omega)] at h
        cases h
  have E : Ext C s w (C.join C' s.nx ids.length) s2 w' := by
    refine ⟨fun b hb hx => hsame b hb (fun id hid e => hx (.inr ⟨id, e⟩)), fun b hb hx => ?_, by omega, fun id hid => ?_, fun id hid wr' t' b' l' h => ?_⟩
    · rcases hx with hx | ⟨id, hx⟩
      · exact .inl hx
      · rcases hcase id b hx with ⟨_, _, h⟩ | ⟨k, h1, _, _, h⟩
        · exact .inr ⟨id, h⟩
        · rcases hnew k b h1 h with h | ⟨id', _, h⟩
          · omega
          · exact .inr ⟨id', h⟩
    · simp only [Cx.join, hid, if_true, and_self]
    · by_cases hm : id ∈ ids
      · obtain ⟨t, cs, hb⟩ := hbox2 id hm
        rw [hb] at h; cases h
      · by_cases hm2 : id ∈ mids
        · rw [hkill id hm2] at h; cases h
        · rw [hold id hm hm2 (.inl hid)] at h; exact ⟨wr', b', l', h, rfl⟩
  refine ⟨hc.heap E he.1 he.2.1 he.2.2 (fun id => ?_) (fun id hid => ?_) (fun id id' q h h' => ?_) (fun id q h => ?_) hge (fun q hq => hsame q (Nat.lt_of_lt_of_le (hc.g q hq).1 hc.ge) (fun id hid e => (hc.own id _ e).2.1 hq)) ⟨rfl, rfl, rfl, rfl, rfl, rfl⟩ (by have := hs.io; rw [hw0'] at this; exact this), ?_⟩
  · by_cases hm : id ∈ ids
    · right
      obtain ⟨k, hki⟩ := List.getElem?_of_mem hm
      have hkl := (List.getElem?_eq_some_iff.1 hki).1
      have := RepB_join J hs hX (k := k) (by omega)
      rw [sig_lt hki] at this
      exact this
    · by_cases hm2 : id ∈ mids
      · right; rw [hkill id hm2]; trivial
      · by_cases hid : id < s.nx
        · left
          exact ⟨hid, hold id hm hm2 (.inl hid), fun q hq => hsame q (hc.own id q hq).1 (fun i hi e => by
            have := hc.inj id i q hq e
            subst this
            exact (List.mem_append.1 hi).elim hm hm2)⟩
        · right
          by_cases hj : id < s2.nx
          · have hkl : ids.length + (id - s.nx) < h'.length := by omega
            have := RepB_join J hs hX hkl
            have e : sig ids s.nx (ids.length + (id - s.nx)) = id := by rw [sig_ge (by omega)]; omega
            rw [e] at this
            exact this
          · rw [hold id hm hm2 (.inr (by omega)), hc.nx id (by omega)]; trivial
  · have hm : id ∉ ids := fun hm => by have := J.lt id hm; omega
    have hm2 : id ∉ mids := fun hm => by have := hmlt id hm; omega
    rw [hold id hm hm2 (.inr hid)]
    exact hc.nx id (by omega)
  · rcases hcase id q h with ⟨l1, n1, h1⟩ | ⟨j1, m1, l1, rfl, h1⟩ <;> rcases hcase id' q h' with ⟨l2, n2, h2⟩ | ⟨j2, m2, l2, rfl, h2⟩
    · exact hc.inj id id' q h1 h2
    · rcases hnew j2 q m2 h2 with h3 | ⟨i, hi, h3⟩
      · have := (hc.own id q h1).1; omega
      · have := hc.inj id i q h1 h3; subst this; exact absurd hi n1
    · rcases hnew j1 q m1 h1 with h3 | ⟨i, hi, h3⟩
      · have := (hc.own id' q h2).1; omega
      · have := hc.inj id' i q h2 h3; subst this; exact absurd hi n2
    · rw [hs.inj j1 j2 q h1 h2]
  · rcases hcase id q h with ⟨_, _, h⟩ | ⟨j, m1, _, _, h⟩
    · have := hc.own id q h
      exact ⟨Nat.lt_of_lt_of_le this.1 hge, this.2.1, this.2.2⟩
    · rcases hnew j q m1 h with h3 | ⟨i, hi, h3⟩
      · refine ⟨(hs.own j q h).1, fun hq => ?_, fun hq => ?_⟩
        · have := (hc.g q hq).1; have := hc.ge; omega
        · have := hc.f q hq; omega
      · have := hc.own i q h3
        exact ⟨(hs.own j q h).1, this.2.1, this.2.2⟩
  · refine ⟨fun b hb hn => hsame b hb (fun id hid e => hn id hid e), hge, fun id q h => ?_⟩
    rcases hcase id q h with ⟨_, _, h⟩ | ⟨j, m1, _, _, h⟩
    · exact .inl h
    · rcases hnew j q m1 h with h3 | ⟨i, hi, h3⟩
      · exact .inr (.inl h3)
      · exact .inr (.inr ⟨i, List.mem_append_right _ hi, h3⟩)
theorem RpF_K {x : AV} {v : Value} (h : RpF C s x v) : RpK T C s w x v := by
  cases x <;> simp only [RpF] at h
  all_goals try (exact h.elim)
  case int => exact h
  case ptr => exact h
  case own => exact h
def PostC (T : Tab) (kp : AV → Hp → Nat → Prop) (C : Cx) (s : St) (a : Act) (w : World) (k : KE) (W : Nat → Prop) (e : Ending) (w' : World) : Prop :=
  ∃ C' hp nx' v val, KeepC C C' ∧ CS T C' ⟨s.env, hp, nx', s.gs, s.kn⟩ a w' ∧ RpS T C' ⟨s.env, hp, nx', s.gs, s.kn⟩ w' v val ∧ Fr W C s w C' ⟨s.env, hp, nx', s.gs, s.kn⟩ w' ∧
    ((e = .returned val ∧ k v s.env hp nx') ∨ (e = .panicked [{ v := val, recovered := false }] ∧ kp v hp nx'))
def AnsC (P : Program) (T : Tab) (kp : AV → Hp → Nat → Prop) (C : Cx) (s : St) (a : Act) (w : World) (m : Sem Next) (k : KE) (W : Nat → Prop) : Prop :=
  (∃ f args, m.run P w = .ok (.enter f args) w ∧ Calls P f args w (PostC T kp C s a w k W)) ∨ ∃ v, m.run P w = .ok (.value v) w ∧ PostC T kp C s a w k W (.returned v) w
theorem XB_join_of {h0 : Hp} {lent : List Nat} {h' : List AB} (hk : KeepC (calleeC C h0 w lent ids (ids ++ mids)) C') {s1 s2 : St} (J : Joins C C' s1 s2 ids h')
    (hold : ∀ id, id ∉ ids → id ∉ mids → (id < s1.nx ∨ s2.nx ≤ id) → getB s2.heap id = getB s1.heap id) (hkill : ∀ id ∈ mids, getB s2.heap id = .gone)
    (hs1 : ∀ id b, ownB C s1.heap id = some b → id ∉ ids → ownB C h0 id = some b ∧ (id ∈ lent → ∃ t cs, getB h0 id = .box t cs)) (hnx1 : ∀ id, s1.nx ≤ id → getB s1.heap id = .gone) :
    ∀ b, XB (C.join C' s1.nx ids.length) s2.heap b → XB C' (hpOf 0 h') b := by
  intro b hb
  have hl := J.len
  have hnx := J.nx
  rcases hb with hb | ⟨id, hb⟩
  · left; rw [hk.1]; exact .inl hb
  · by_cases hm : id ∈ ids
    · right
      obtain ⟨k, hki⟩ := List.getElem?_of_mem hm
      have hkl := (List.getElem?_eq_some_iff.1 hki).1
      obtain ⟨t, cs, hbk⟩ := J.box k hkl
      have hg := J.get k (by omega)
      rw [sig_lt hki, hbk] at hg
      refine ⟨k, ?_⟩
      have h0 : getB (hpOf 0 h') k = .box t cs := by rw [getB_hpOf0, hbk]; rfl
      have hg : getB s2.heap id = .box t (cs.map (renC (sig ids s1.nx))) := hg
      simp only [ownB, hg, Cx.join, J.lt id hm, if_true] at hb
      simp only [ownB, h0, J.β k id hki]; exact hb
    · have hm2 : id ∉ mids := fun hm2 => by simp only [ownB, hkill id hm2] at hb; cases hb
      by_cases hid : id < s1.nx
      · left
        rw [hk.1]
        right
        have : ownB C s1.heap id = some b := by
          simp only [ownB, hold id hm hm2 (.inl hid), Cx.join, hid, if_true] at hb ⊢
          exact hb
        obtain ⟨q1, q2⟩ := hs1 id b this hm
        exact ⟨id, q1, fun h => (List.mem_append.1 h).elim hm hm2, q2⟩
      · by_cases hj : id < s2.nx
        · right
          have hkl : ids.length + (id - s1.nx) < h'.length := by omega
          refine ⟨ids.length + (id - s1.nx), ?_⟩
          have hg := J.get _ hkl
          have e : sig ids s1.nx (ids.length + (id - s1.nx)) = id := by rw [sig_ge (by omega)]; omega
          rw [e, List.getElem?_eq_getElem hkl, Option.getD_some] at hg
          have hg0 : getB (hpOf 0 h') (ids.length + (id - s1.nx)) = h'[ids.length + (id - s1.nx)] := by rw [getB_hpOf0, List.getElem?_eq_getElem hkl]; rfl
          unfold ownB at hb ⊢
          rw [hg] at hb
          rw [hg0]
          cases hq : h'[ids.length + (id - s1.nx)] with
          | gone => rw [hq] at hb; cases hb
          | box t cs => rw [hq] at hb; simp only [renB', Cx.join, hid, if_false] at hb; exact hb
          | arr wr t b l =>
            rw [hq] at hb
            cases wr with
            | false => cases hb
            | true => simp only [renB', Cx.join, hid, if_false] at hb; exact hb
        · exfalso
          simp only [ownB, hold id hm hm2 (.inr (by omega)), hnx1 id (by omega)] at hb
          cases hb
theorem retK_end {kp : AV → Hp → Nat → Prop} {r : AV} {hp : Hp} {nx : Nat} {k : AV → Prop} (h : retK kp r hp nx k) {e : Ending} {v : Value} (he : Endr e r v) : (e = .returned v ∧ k r) ∨ (e = .panicked [{ v := v, recovered := false }] ∧ kp r hp nx) := by
  cases r <;> first | exact .inl ⟨he, h⟩ | exact .inr ⟨he, h⟩
theorem Endr.ren {e : Ending} {r : AV} {v : Value} (h : Endr e r v) (σ : Nat → Nat) : Endr e (renV' σ r) v := by
  cases r <;> exact h
theorem killK_eq : ∀ (ids : List Nat) (h : Hp) (K : Hp → Prop), killK h ids K → ∃ h0, K h0 ∧ ∀ id, getB h0 id = if id ∈ ids then .gone else getB h id
  | [], h, K, hK => ⟨h, hK, fun id => by simp⟩
  | i :: r, h, K, hK => by
    obtain ⟨h0, h1, h2⟩ := killK_eq r _ K hK
    refine ⟨h0, h1, fun id => ?_⟩
    rw [h2, getB_cons]
    by_cases e : id = i
    · subst e; simp
    · by_cases hm : id ∈ r
      · rw [if_pos hm, if_pos (List.mem_cons_of_mem _ hm)]
      · rw [if_neg hm, if_neg e, if_neg (fun h => (List.mem_cons.1 h).elim e hm)]
theorem freeze_kill : ∀ (ids : List Nat) {h h0 : Hp} {mids : List Nat} (_ : ∀ id, getB h0 id = if id ∈ mids then .gone else getB h id), ∀ id, getB (Go.Proofs.Ytalchibbmkhkpaa.VX.freeze h0 ids) id = if id ∈ mids then .gone else getB (Go.Proofs.Ytalchibbmkhkpaa.VX.freeze h ids) id
  | [], h, h0, mids, hk, id => hk id
  | i :: r, h, h0, mids, hk, id => by
    simp only [Go.Proofs.Ytalchibbmkhkpaa.VX.freeze]
    by_cases hm : i ∈ mids
    · have h1 := hk i
      rw [if_pos hm] at h1
      rw [h1]
      dsimp only
      cases hi : getB h i with
      | arr wr t b l =>
        refine freeze_kill r (fun j => ?_) id
        rw [hk, getB_cons]
        by_cases e : j = i
        · subst e; rw [if_pos hm, if_pos hm]
        · rw [if_neg e]
      | box _ _ => exact freeze_kill r hk id
      | gone => exact freeze_kill r hk id
    · have h1 := hk i
      rw [if_neg hm] at h1
      rw [h1]
      cases hi : getB h i with
      | arr wr t b l =>
        refine freeze_kill r (fun j => ?_) id
        rw [getB_cons, getB_cons, hk]
        by_cases e : j = i
        · subst e; rw [if_pos rfl, if_pos rfl, if_neg hm]
        · rw [if_neg e, if_neg e]
      | box _ _ => exact freeze_kill r hk id
      | gone => exact freeze_kill r hk id
theorem nB_ge : ∀ (bs : List AB) (n : Nat), (∀ k, k < n → ∃ t cs, bs[k]? = some (.box t cs)) → n ≤ nB bs
  | _, 0, _ => Nat.zero_le _
  | [], n + 1, h => by obtain ⟨t, cs, e⟩ := h 0 (by omega); simp at e
  | b :: r, n + 1, h => by
    obtain ⟨t, cs, e⟩ := h 0 (by omega)
    simp at e
    subst e
    have := nB_ge r n (fun k hk => by simpa using h (k + 1) (by omega))
    simp only [nB]; omega
theorem freeze_out : ∀ (ids : List Nat) {h : Hp} {id : Nat}, id ∉ ids → getB (Go.Proofs.Ytalchibbmkhkpaa.VX.freeze h ids) id = getB h id
  | [], h, id, _ => rfl
  | i :: r, h, id, hid => by
    simp only [Go.Proofs.Ytalchibbmkhkpaa.VX.freeze]
    have h1 : id ≠ i := fun e => hid (by rw [e]; exact List.mem_cons_self ..)
    have h2 : id ∉ r := fun e => hid (List.mem_cons_of_mem _ e)
    cases getB h i with
    | arr wr t b l => rw [freeze_out r h2, getB_cons, if_neg h1]
    | box _ _ => exact freeze_out r h2
    | gone => exact freeze_out r h2
theorem xcall_sound {kp : AV → Hp → Nat → Prop} {mv : FuncId → List Nat} (hc : CS T C s a w) {ok : Nat → Bool} {f : FuncId} {args : List AV} {vals : List Value} (hv : all2 (RpS T C s w) args vals) {k : KE}
    (h : xcall T (AC P T kp mv) ok f args s.env s.heap s.nx k) :
    CallsX P f vals.toArray w (PostC T kp C s a w k (fun id => ok id = true)) := by
  unfold xcall at h
  cases hok : okVs args with
  | false => simp [hok] at h
  | true =>
    simp only [hok, cond_true, forceL_eq, appL_eq] at h
    generalize reach s.heap 400 (ptrs args) [] = ids at h
    generalize movs s.heap args (mv f) = mids at h
    cases hfo : (fresh (ids ++ mids) && (ids ++ mids).all ok) with
    | false => rw [hfo] at h; exact h.elim
    | true =>
    rw [hfo, cond_true, argVs2_eq] at h
    simp only [Bool.and_eq_true, List.all_eq_true] at hfo
    obtain ⟨hfresh, hall⟩ := hfo
    obtain ⟨h, hbx⟩ := subH_eq h
    obtain ⟨h, hma⟩ := subA_eq (ids ++ mids) h
    rw [appB_eq, ← List.map_append] at h
    have hg : Goes s.heap ids mids := ⟨hbx, hma, hfresh⟩
    have hlt : ∀ id ∈ ids, id < s.nx := fun id hid => by obtain ⟨t, cs, hb⟩ := hbx id hid; exact gone_lt hc hb (by simp)
    have hfi : fresh ids = true := by
      have : ∀ l : List Nat, fresh (l ++ mids) = true → fresh l = true := by
        intro l
        induction l with
        | nil => intro _; rfl
        | cons x r ih =>
          intro h
          simp only [List.cons_append, fresh, Bool.and_eq_true] at h ⊢
          refine ⟨?_, ih h.2⟩
          cases hp : posOf r x 0 with
          | none => rfl
          | some k =>
            exfalso
            have hx : x ∈ r := by obtain ⟨i, _, q⟩ := posOf_some hp; exact List.mem_of_getElem? q
            cases hp2 : posOf (r ++ mids) x 0 with
            | none => exact posOf_none hp2 (List.mem_append_left _ hx)
            | some k => rw [hp2] at h; cases h.1
      exact this ids hfresh
    obtain ⟨lent, hlent⟩ : ∃ lent : List Nat, ∀ i, i ∈ lent ↔ (i ∈ lendAll args ++ lendBs s.heap ids ∧ i ∉ mids) := ⟨(lendAll args ++ lendBs s.heap ids).filter (fun i => decide (i ∉ mids)), fun i => by rw [List.mem_filter]; simp⟩
    have hd : ∀ id ∈ mids, id ∉ lent := fun id hid hl => ((hlent id).1 hl).2 hid
    have hin : ∀ i, i ∈ lendAll args ++ lendBs s.heap ids → i ∈ lent ∨ i ∈ mids := fun i hi => by
      by_cases hm : i ∈ mids
      · exact .inr hm
      · exact .inl ((hlent i).2 ⟨hi, hm⟩)
    have hHS := calleeHS hc hg hd (fun i hi => hin i (List.mem_append_right _ hi))
    have hargs := argVs2_rep hc hg hd args vals hv (fun id h => hin id (List.mem_append_left _ h))
    have hpin : ∀ id, nB ((ids ++ mids).map (subB s.heap (ids ++ mids))) ≤ id → (calleeC C s.heap w lent ids (ids ++ mids)).pin id = none := fun id hid => by
      have : ids.length ≤ nB ((ids ++ mids).map (subB s.heap (ids ++ mids))) := nB_ge _ _ fun k hk => by
        obtain ⟨t, cs, hb⟩ := hbx ids[k] (List.getElem_mem hk)
        exact ⟨t, cs.map (argC2 s.heap (ids ++ mids)), by rw [List.getElem?_map, List.getElem?_append_left hk, List.getElem?_eq_getElem hk]; simp only [Option.map_some, subB, hb]⟩
      simp only [calleeC]
      rw [List.getElem?_eq_none (by omega)]; rfl
    refine (h.calls _ w vals hpin hHS hargs).mono ?_
    rintro e w' ⟨r, h', v, C', hend, hr, hk, hs, hrp, hlen⟩
    obtain ⟨h0, hr, hkl⟩ := killK_eq _ _ _ hr
    have hβ : ∀ k id, ids[k]? = some id → C'.β k = C.β id := fun k id hki => (hs.pin k (C.β id) (by rw [hk.2.2.2.1]; simp [calleeC, hki])).1
    have hbm : ∀ id ∈ ids, id ∉ mids := fun id h1 h2 => by
      obtain ⟨t, cs, e1⟩ := hbx id h1
      obtain ⟨t', b, l, e2⟩ := hma id h2
      rw [e1] at e2; cases e2
    cases hfl : (hasSl r || hasSlBs T h') with
    | true =>
      rw [hfl] at hr
      simp only [freezeK_eq] at hr
      obtain ⟨hc1, E1, hfz⟩ := hc.freeze lent
      have hfzk : ∀ id, id ∉ mids → getB (Go.Proofs.Ytalchibbmkhkpaa.VX.freeze h0 (lendAll args ++ lendBs s.heap ids)) id = getB (Go.Proofs.Ytalchibbmkhkpaa.VX.freeze s.heap (lendAll args ++ lendBs s.heap ids)) id := fun id hid => by
        rw [freeze_kill _ hkl, if_neg hid]
      obtain ⟨hc1, E1, hfz⟩ := hc.freeze (lendAll args ++ lendBs s.heap ids)
      have hfzm : ∀ id ∈ mids, getB (Go.Proofs.Ytalchibbmkhkpaa.VX.freeze h0 (lendAll args ++ lendBs s.heap ids)) id = .gone := fun id hid => by rw [freeze_kill _ hkl, if_pos hid]
      obtain ⟨hp, q1, q2, q3, q4, q5⟩ := layB_eq _ _ _ _ _ _ hr hlt hfi
      rw [renV_eq] at q1
      obtain ⟨hc2, E2, hfz2⟩ := hc.freeze lent
      have hsame2 : ∀ id, id ∉ mids → getB (frzs s lent).heap id = getB (frzs s (lendAll args ++ lendBs s.heap ids)).heap id := fun id hid => by
        cases hb : getB s.heap id with
        | arr wr t n l =>
          obtain ⟨w1, a1, a2⟩ := (hfz2 id).1 _ _ _ _ hb
          obtain ⟨w2, b1, b2⟩ := (hfz id).1 _ _ _ _ hb
          rw [a1, b1]
          by_cases hm : id ∈ lendAll args ++ lendBs s.heap ids
          · rw [a2 ((hlent id).2 ⟨hm, hid⟩), b2 hm]
          · have e1 : getB (Go.Proofs.Ytalchibbmkhkpaa.VX.freeze s.heap lent) id = .arr w1 t n l := a1
            have e2 : getB (Go.Proofs.Ytalchibbmkhkpaa.VX.freeze s.heap (lendAll args ++ lendBs s.heap ids)) id = .arr w2 t n l := b1
            rw [freeze_out lent (fun h => hm ((hlent id).1 h).1), hb] at e1
            rw [freeze_out _ hm, hb] at e2
            rw [e1] at e2
            exact e2
        | box t cs => rw [(hfz2 id).2 (by simp [hb]), (hfz id).2 (by simp [hb])]
        | gone => rw [(hfz2 id).2 (by simp [hb]), (hfz id).2 (by simp [hb])]
      have hg2 : Goes (frzs s lent).heap ids mids := ⟨fun id hid => by
          obtain ⟨t, cs, hb⟩ := hbx id hid
          exact ⟨t, cs, by rw [(hfz2 id).2 (by simp [hb]), hb]⟩, fun id hid => by
          obtain ⟨t, b, l, hb⟩ := hma id hid
          refine ⟨t, b, l, ?_⟩
          show getB (Go.Proofs.Ytalchibbmkhkpaa.VX.freeze s.heap lent) id = _
          rw [freeze_out lent (fun h => hd id hid h), hb], hfresh⟩
      have J : Joins C C' (frzs s lent) ⟨s.env, hp, s.nx + (h'.length - ids.length), s.gs, s.kn⟩ ids h' := ⟨q2, rfl, hlt, q3, q4, hβ⟩
      have hold : ∀ id, id ∉ ids → id ∉ mids → (id < (frzs s lent).nx ∨ (⟨s.env, hp, s.nx + (h'.length - ids.length), s.gs, s.kn⟩ : St).nx ≤ id) → getB hp id = getB (frzs s lent).heap id := fun id h1 h2 h3 => by
        rw [q5 id h1 h3, hfzk id h2, hsame2 id h2]; rfl
      have hkill : ∀ id ∈ mids, getB hp id = .gone := fun id hid => by
        rw [q5 id (fun h => hbm id h hid) (.inl (by obtain ⟨t, b, l, hb⟩ := hma id hid; exact gone_lt hc hb (by simp))), hfzm id hid]
      have hX := XB_join_of hk J hold hkill (fun id b hb _ => ⟨own_frz hc hb, fun hm => by
          have hw : getB (frzs s lent).heap id ≠ .gone := fun e => by simp [ownB, e] at hb
          cases hb0 : getB s.heap id with
          | arr wr t n l =>
            obtain ⟨wr', q1, q2⟩ := (hfz2 id).1 _ _ _ _ hb0
            have := q2 hm
            subst this
            simp [ownB, q1] at hb
          | box t cs => exact ⟨t, cs, rfl⟩
          | gone =>
            have := (hfz2 id).2 (by simp [hb0])
            rw [this, hb0] at hw; exact absurd rfl hw⟩) hc2.nx
      obtain ⟨hcs, hfr⟩ := join_state (s2 := ⟨s.env, hp, s.nx + (h'.length - ids.length), s.gs, s.kn⟩) hc2 hg2 (fun id b hid e => by
          rcases List.mem_append.1 hid with hm | hm
          · obtain ⟨t, cs, hb⟩ := hbx id hm
            obtain ⟨t', cs', hb2⟩ := hg2.box id hm
            simp only [ownB, hb] at e
            simp only [ownB, hb2]; exact e
          · obtain ⟨t, b', l, hb⟩ := hma id hm
            have hb2 : getB (frzs s lent).heap id = getB s.heap id := by show getB (Go.Proofs.Ytalchibbmkhkpaa.VX.freeze s.heap lent) id = _; rw [freeze_out lent (fun h => hd id hm h)]
            simp only [ownB, hb2]; exact e) hs hk ⟨rfl, rfl, rfl⟩ J hold hkill (fun _ => hX)
      exact ⟨_, _, _, _, v, KeepC.join _ _ _ _, hcs, RpS_join J (fun _ => hX) hrp, (hfr.shr (fun _ _ => own_frz hc)).mono (fun i hi => hall i hi), retK_end q1 (hend.ren _)⟩
    | false =>
      rw [hfl] at hr
      simp only [Bool.or_eq_false_iff] at hfl
      obtain ⟨hp, q1, q2, q3, q4, q5⟩ := layB_eq _ _ _ _ _ _ hr hlt hfi
      rw [renV_eq] at q1
      have J : Joins C C' s ⟨s.env, hp, s.nx + (h'.length - ids.length), s.gs, s.kn⟩ ids h' := ⟨q2, rfl, hlt, q3, q4, hβ⟩
      have hold : ∀ id, id ∉ ids → id ∉ mids → (id < s.nx ∨ (⟨s.env, hp, s.nx + (h'.length - ids.length), s.gs, s.kn⟩ : St).nx ≤ id) → getB hp id = getB s.heap id := fun id h1 h2 h3 => by
        rw [q5 id h1 h3, hkl, if_neg h2]
      have hkill : ∀ id ∈ mids, getB hp id = .gone := fun id hid => by
        rw [q5 id (fun h => hbm id h hid) (.inl (by obtain ⟨t, b, l, hb⟩ := hma id hid; exact gone_lt hc hb (by simp))), hkl, if_pos hid]
      obtain ⟨hcs, hfr⟩ := join_state (s2 := ⟨s.env, hp, s.nx + (h'.length - ids.length), s.gs, s.kn⟩) hc hg (fun _ _ _ e => e) hs hk ⟨rfl, rfl, rfl⟩ J hold hkill (fun e => by rw [hfl.2] at e; cases e)
      exact ⟨_, _, _, _, v, KeepC.join _ _ _ _, hcs, RpS_join J (fun e => by rw [hfl.1] at e; cases e) hrp, hfr.mono (fun i hi => hall i hi), retK_end q1 (hend.ren _)⟩
end
section
variable {P : Program} {T : Tab} {C C' : Cx} {s s' : St} {a : Act} {w w' : World}
theorem all2_app3 {xs1 xs2 xs3 : List AV} {vs1 vs2 vs3 : List Value} (h1 : all2 (RpS T C s w) xs1 vs1) (h2 : all2 (RpS T C s w) xs2 vs2) (h3 : all2 (RpS T C s w) xs3 vs3) : all2 (RpS T C s w) (xs1 ++ (xs2 ++ xs3)) (vs1 ++ (vs2 ++ vs3)) :=
  all2_append h1 (all2_append h2 h3)
theorem callop_sound {kp : AV → Hp → Nat → Prop} {mv : FuncId → List Nat} (hc : CS T C s a w) {c : Call} {g : Operand} {o : Oper} (ho : o.op = .call c) (hcal : c.callee = .value g) {ev : Operand → Value} {ρ : Operand → AV} (hρ : ∀ x, RpS T C s w (ρ x) (ev x)) {k : KE} {ok : Nat → Bool}
    (h : xeff T (AC P T kp mv) ok ρ o.op s.env s.heap s.nx k) : AnsC P T kp C s a w (execOp ev o) k (fun id => ok id = true) := by
  rw [ho] at h
  simp only [xeff, hcal] at h
  split at h
  · rename_i f first cap hg
    simp only [mapK_eq, appK_eq] at h
    have hgv := hρ g
    rw [hg] at hgv
    obtain ⟨fs, cs, hfn, h1, h2⟩ := hgv
    have hv : all2 (RpS T C s w) (first ++ (c.args.toList.map ρ ++ cap)) (fs.toList ++ (c.args.toList.map ev ++ cs.toList)) :=
      all2_app3 (all2_mono (fun _ _ q => RpS_of_RpK (RpF_K q)) h1) (all2_map hρ _) (all2_mono (fun _ _ q => RpS_of_RpK (RpF_K q)) h2)
    have e : (fs ++ c.args.map ev ++ cs) = (fs.toList ++ (c.args.toList.map ev ++ cs.toList)).toArray := by apply Array.ext'; simp
    rcases xcall_sound hc hv h with ⟨hcalls, fn, q1, q2, q3⟩ | ⟨v, hrun, hpost⟩
    rotate_left
    · refine .inr ⟨v, ?_, hpost⟩
      simp only [execOp, ho, resolve, hcal, hfn, Deferred.ofValue, pure_bind, invoke, e]
      exact hrun
    refine .inl ⟨f, (fs.toList ++ (c.args.toList.map ev ++ cs.toList)).toArray, ?_, hcalls⟩
    have q4 : fn.body.isNone = false := by cases hb : fn.body <;> simp [hb] at q2 ⊢
    simp only [execOp, ho, resolve, hcal, hfn, Deferred.ofValue, pure_bind, invoke, e, callFunc, Sem.run_bind, run_program, Result.andThen_ok, q1, q3, q4, Bool.false_eq_true, if_false, Sem.run_pure]
  · exact h.elim
theorem freeze_facts {g n : Nat} {c : Array Value} {e : TypeId} {fr : Nat × Nat} (hh : w.heap[g]? = some (.cells c e fr)) (hfr : fr.1 = fr.2 ∨ c.size ≤ fr.1) :
    ∃ fr', (w.freeze ⟨g, c.size, none⟩ 1).heap[g]? = some (.cells c e fr') ∧ (fr'.1 = fr'.2 ∨ c.size ≤ fr'.1) ∧ (∀ b, b ≠ g → (w.freeze ⟨g, c.size, none⟩ 1).heap[b]? = w.heap[b]?) ∧ (w.freeze ⟨g, c.size, none⟩ 1).heap.size = w.heap.size := by
  refine ⟨if fr.1 == fr.2 then (c.size, c.size + 1) else (min fr.1 c.size, max fr.2 (c.size + 1)), ?_, ?_, fun b hb => ?_, ?_⟩
  · simp [World.freeze, Array.getElem?_modify, hh]
  · split
    · exact .inr (Nat.le_refl _)
    · rename_i h
      rcases hfr with h' | h'
      · simp [h'] at h
      · right; simp; omega
  · rw [World.freeze, if_neg (by decide)]
    show (w.heap.modify g _)[b]? = _
    rw [Array.getElem?_modify, if_neg (Ne.symm hb)]
  · simp [World.freeze]
theorem convE_sound (HT : tabOK P T = true) (hc : CS T C s a w) {src dst : TypeId} {x : Operand} {o : Oper} (ho : o.op = .convert src dst x) {ev : Operand → Value} {ρ : Operand → AV} (hρ : ∀ x, RpS T C s w (ρ x) (ev x)) {call : CR} {ok : Nat → Bool} {k : KE}
    (h : xeff T call ok ρ o.op s.env s.heap s.nx k) : AnsE P T C s a w (execOp ev o) k (fun id => wrOf ρ o.op = some id) := by
  have hwr : ∀ id, wrOf ρ o.op = some id ↔ (match ρ x with | .own id => some id | _ => none) = some id := fun id => by rw [ho]; exact Iff.rfl
  rw [ho] at h
  simp only [xeff] at h
  cases hsd : Nat.beq src dst with
  | false => rw [hsd] at h; exact h.elim
  | true =>
  have hsd' := beq_nat hsd
  subst hsd'
  rw [hsd, cond_true] at h
  split at h
  · rename_i e id he hx
    cases hb : getB s.heap id with
    | gone => rw [hb] at h; exact h.elim
    | box _ _ => rw [hb] at h; exact h.elim
    | arr wr e' b l =>
      cases wr with
      | false => rw [hb] at h; exact h.elim
      | true =>
        rw [hb] at h
        cases l with
        | nil => exact h.elim
        | cons r l =>
        dsimp only at h
        cases hee : (Nat.beq e e' && isU8 T e) with
        | false => rw [hee] at h; exact h.elim
        | true =>
          rw [hee, cond_true] at h
          simp only [Bool.and_eq_true] at hee
          have h1 := beq_nat hee.1
          subst h1
          obtain ⟨hk, hue⟩ := isU8_spec (P := P) HT hee.2
          obtain ⟨xi, hxi, hd⟩ := elemOf_some he
          have hu := (tab_get (P := P) HT hxi).slice hd
          have hv := hρ x
          rw [hx] at hv
          obtain ⟨hid, hval⟩ := rp_own hv hb
          have hblk := hc.blk id
          rw [hb] at hblk
          obtain ⟨cks, hck, hp, hblk⟩ := hblk
          have hex : execOp ev o = (do pure (.value (← convert src src (ev x)))) := by simp only [execOp, ho]
          rcases hblk with ⟨hl, hcap, hnil⟩ | ⟨hnil, hcap, g, og, hbase, hle, hrow, hth, hnw⟩
          · cases hl
          · obtain ⟨hthr, c, e2, fr, hcell, hfr⟩ := hth rfl
            obtain ⟨fr', f1, f2, f3, f4⟩ := freeze_facts (w := w) (n := 0) hcell hfr
            have hrun : (convert src src (ev x)).run P w = .ok (ev x) (w.freeze ⟨g, c.size, none⟩ 1) := by
              have hsh : w.shape? g = some (e2, c.size) := by simp [World.shape?, hcell]
              rw [hval]
              simp only [hdr, hbase]
              simp [convert, run_underlying hu, run_underlying hue, markStringish, hsh]
            have hown : ownB C s.heap id = some g := by simp [ownB, hb, hbase, Nat.ne_of_gt hcap]
            have hcl : ∀ q, (w.freeze ⟨g, c.size, none⟩ 1).cell? ⟨g, q, none⟩ = w.cell? ⟨g, q, none⟩ := fun q => by simp only [World.cell?, f1, hcell]
            have hio : (w.freeze ⟨g, c.size, none⟩ 1).os = w.os ∧ (w.freeze ⟨g, c.size, none⟩ 1).tape = w.tape ∧ (w.freeze ⟨g, c.size, none⟩ 1).output = w.output := by
              rw [World.freeze, if_neg (by decide)]; exact ⟨rfl, rfl, rfl⟩
            have hown' : ownB C (s.set id (.arr true e b (r :: l))).heap id = some g := by simp [ownB, St.set, getB_cons, hbase, Nat.ne_of_gt hcap]
            have hcs : CS T C (s.set id (.arr true e b (r :: l))) a (w.freeze ⟨g, c.size, none⟩ 1) := by
              refine hc.set hid hown hown' (fun wr' t' b' l' q => by injection q with q1 q2 q3 q4; subst q2 q4; exact ⟨true, b, _, hb, rfl⟩) f4 (fun q hq => f3 q hq) (fun E => ?_) hio
              refine ⟨cks, hck, hp, .inr ⟨hnil, hcap, g, og, hbase, hle, fun i r hr => ?_, fun _ => ⟨fun j hj => ?_, c, e2, fr', f1, f2⟩, fun h => by cases h⟩⟩
              · obtain ⟨r1, r2⟩ := hrow i r hr
                refine ⟨r1, fun j y c' hy hc' => ?_⟩
                obtain ⟨v, hv, hrp⟩ := r2 j y c' hy hc'
                exact ⟨v, by rw [hcl]; exact hv, hrp.keep E.h1 E.h2⟩
              · have h1 := (hthr j hj).1
                refine ⟨by rw [hcl]; exact h1, ?_⟩
                have hlt : og + j < c.size := by
                  simp only [World.cell?, hcell] at h1
                  rcases Nat.lt_or_ge (og + j) c.size with h | h
                  · exact h
                  · simp [Array.getElem?_eq_none h] at h1
                simp only [World.frozen?, f1]
                rcases f2 with f2 | f2
                · simp; omega
                · simp; omega
            refine ⟨_, _, _, h, C, ev x, _, KeepC.refl C, .inl ?_, hcs, ?_, (Fr.set hown hown' f4 (fun q hq => f3 q hq)).mono (fun i e => by rw [hwr, hx, e])⟩
            · rw [hex]; simp only [Sem.run_bind, hrun, Result.andThen_ok, Sem.run_pure]
            · refine ⟨hid, ?_⟩
              simp only [getB_cons, if_true]
              exact hval
  · exact h.elim
theorem xeff_sound {kp : AV → Hp → Nat → Prop} {mv : FuncId → List Nat} (HT : tabOK P T = true) (hc : CS T C s a w) {o : Oper} {ev : Operand → Value} {ρ : Operand → AV} (hρ : ∀ x, RpS T C s w (ρ x) (ev x)) {ok : Nat → Bool} {k : KE}
    (h : xeff T (AC P T kp mv) ok ρ o.op s.env s.heap s.nx k) : AnsE P T C s a w (execOp ev o) k (fun id => wrOf ρ o.op = some id) ∨ AnsC P T kp C s a w (execOp ev o) k (fun id => ok id = true) ∨
      ∃ x v, (execOp ev o).run P w = .halt (.panic v) w ∧ kp x s.heap s.nx ∧ RpS T C s w x v := by
  have nowr : ∀ {m}, AnsE P T C s a w m k (fun _ => False) → AnsE P T C s a w m k (fun id => wrOf ρ o.op = some id) := fun ⟨v, h', nx', hk, C', val, w', q1, q2, q3, q4, q5⟩ => ⟨v, h', nx', hk, C', val, w', q1, q2, q3, q4, q5.mono (fun _ h => h.elim)⟩
  cases ho : o.op with
  | alloc t => rw [← ho]; exact .inl (nowr (alloc_sound HT hc ho h))
  | box t x => rw [← ho]; exact .inl (nowr (box_sound hc ho hρ h))
  | buildSlice t n ps => rw [← ho]; exact .inl (nowr (buildSlice_sound HT hc ho hρ h))
  | store t x y => rw [← ho]; exact .inl (store_sound HT hc ho hρ h)
  | makeSlice t x y => rw [← ho]; exact .inl (nowr (makeSlice_sound HT hc ho hρ h))
  | convert src dst x => rw [← ho]; exact .inl (convE_sound HT hc ho hρ h)
  | panic x =>
    rw [ho] at h
    simp only [xeff] at h
    split at h
    · exact h.c.elim
    · rename_i t y _ hx
      have hv := hρ x
      rw [hx] at hv
      obtain ⟨u, hu, hr⟩ := hv
      refine .inr (.inr ⟨_, .iface t u, ?_, h, u, rfl, hr⟩)
      simp [execOp, ho, hu, Instr.panic]
    · exact h.c.elim
    · exact h.elim
  | call c =>
    cases hcal : c.callee with
    | value g => exact .inr (.inl (callop_sound hc ho hcal hρ h))
    | invoke _ _ => rw [ho] at h; simp [xeff, hcal] at h
    | builtin b =>
      cases b
      case append => rw [← ho]; exact .inl (append_sound HT hc ho hcal hρ h)
      all_goals (rw [ho] at h; simp [xeff, hcal] at h)
  | _ => rw [ho] at h; exact h.elim
theorem eff_wp {kp : AV → Hp → Nat → Prop} (hc : CS T C s a w) {o : Oper} {k : KE} {W W' : Nat → Prop} {next : Act → World → Prop} {Q : Exit → Act → World → Prop} (h : AnsE P T C s a w (execOp a.eval o) k W ∨ AnsC P T kp C s a w (execOp a.eval o) k W' ∨
      ∃ x v, (execOp a.eval o).run P w = .halt (.panic v) w ∧ kp x s.heap s.nx ∧ RpS T C s w x v)
    (hd : ∀ d, o.dst = some d → C.N.has d) (hnext : ∀ v h' nx' C' val w', k v s.env h' nx' → KeepC C C' → CS T C' ⟨putE s.env o.dst v, h', nx', s.gs, s.kn⟩ (a.put o.dst val) w' → Fr (fun id => W id ∨ W' id) C s w C' ⟨s.env, h', nx', s.gs, s.kn⟩ w' → next (a.put o.dst val) w')
    (hpan : ∀ x val h' nx' C' w', kp x h' nx' → KeepC C C' → CS T C' ⟨s.env, h', nx', s.gs, s.kn⟩ a w' → RpS T C' ⟨s.env, h', nx', s.gs, s.kn⟩ w' x val → Q (.panic [{ v := val, recovered := false }]) a w') : o.wp P a w next Q := by
  have ent : ∀ {C' : Cx} {h' : Hp} {nx' : Nat} {w' : World} {v : AV} {val : Value}, KeepC C C' → CS T C' ⟨s.env, h', nx', s.gs, s.kn⟩ a w' → RpS T C' ⟨s.env, h', nx', s.gs, s.kn⟩ w' v val → (∀ ch y, v ≠ .opt ch y) → CS T C' ⟨putE s.env o.dst v, h', nx', s.gs, s.kn⟩ (a.put o.dst val) w' := fun {C' h' nx' w' v val} hk hcs hrp hno => by
    have hN : C'.N = C.N := hk.2.2.2.2.1
    refine hcs.put o.dst (fun d hd' => by rw [hN]; exact hd d hd') ?_
    cases v
    case opt ch y => exact absurd rfl (hno ch y)
    all_goals exact hrp
  unfold Oper.wp
  rcases h with ⟨v, h', nx', hk, C', val, w', hkc, hrun, hcs, hrp, hfr⟩ | (⟨f, args, hrun, hcalls⟩ | ⟨u, hrun, C', hp, nx', v, val, hkc, hcs, hrp, hfr, hend⟩) | ⟨x, v, hrun, hk, hrp⟩
  · have hno : ∀ ch y, v ≠ .opt ch y := fun ch y e => by subst e; exact hrp.elim
    rcases hrun with hrun | ⟨hrun, rfl⟩
    · rw [hrun]; exact hnext _ _ _ _ _ _ hk hkc (ent hkc hcs hrp hno) (hfr.mono fun _ => .inl)
    · rw [hrun]; exact hnext _ _ _ _ _ _ hk hkc (ent hkc hcs hrp hno) (hfr.mono fun _ => .inl)
  · rw [hrun]
    refine Calls.mono hcalls ?_
    rintro e w' ⟨C', hp, nx', v, val, hkc, hcs, hrp, hfr, ⟨rfl, hk⟩ | ⟨rfl, hk⟩⟩
    · have hno : ∀ ch y, v ≠ .opt ch y := fun ch y e => by subst e; exact hrp.elim
      exact hnext _ _ _ _ _ _ hk hkc (ent hkc hcs hrp hno) (hfr.mono fun _ => .inr)
    · exact hpan _ _ _ _ _ _ hk hkc hcs hrp
  · rw [hrun]
    rcases hend with ⟨e, hk⟩ | ⟨e, hk⟩
    · cases e
      have hno : ∀ ch y, v ≠ .opt ch y := fun ch y e => by subst e; exact hrp.elim
      exact hnext _ _ _ _ _ _ hk hkc (ent hkc hcs hrp hno) (hfr.mono fun _ => .inr)
    · cases e
  · rw [hrun]
    exact hpan _ _ _ _ _ _ hk (KeepC.refl C) hc hrp
/-! ### Guards -/
theorem nth_some {α : Type} {l : List α} {i : Nat} {x : α} (h : nth l i = some x) : l[i]? = some x := by rw [← nth_eq]; exact h
theorem dstOf_eq {all : List Oper} {j d : Nat} (h : dstOf all j = some d) : ∃ o, all[j]? = some o ∧ o.dst = some d := by
  unfold dstOf at h
  cases ho : nth all j with
  | none => simp [ho] at h
  | some o => exact ⟨o, nth_some ho, by simpa [ho] using h⟩
theorem yielded_eq {ops : Array Oper} {all : List Oper} (hall : ops.toList = all) {j d : Nat} (h : dstOf all j = some d) (a : Act) : yielded ops a.tmps j = (match a.tmps.getD d undef with | .bool b => some b | _ => none) := by
  obtain ⟨o, h1, h2⟩ := dstOf_eq h
  have h3 : ops[j]? = some o := by rw [← hall] at h1; simpa using h1
  simp only [yielded, h3, Option.bind_some, h2, Array.getD_eq_getD_getElem?]
  cases hd : a.tmps[d]? with
  | none => rfl
  | some v => cases v <;> rfl
theorem chProp_iff {gs : List (Nat × Bool)} : ∀ {ch : List (Nat × Bool)}, chProp gs ch ↔ ∀ p ∈ ch, gsGet gs p.1 = some p.2
  | [] => by simp [chProp]
  | (j, w) :: r => by
    simp only [chProp, chProp_iff (ch := r), List.mem_cons, forall_eq_or_imp]
    cases gsGet gs j <;> simp
theorem inCh_mem {ch : List (Nat × Bool)} {j : Nat} {w : Bool} (h : inCh ch j w = true) : (j, w) ∈ ch := by
  induction ch with
  | nil => simp [inCh] at h
  | cons p r ih =>
    obtain ⟨i, v⟩ := p
    simp only [inCh, Bool.or_eq_true, Bool.and_eq_true] at h
    rcases h with ⟨h1, h2⟩ | h
    · have := beq_nat h1
      subst this
      have : v = w := by cases v <;> cases w <;> simp_all
      subst this
      simp
    · exact List.mem_cons_of_mem _ (ih h)
theorem subCh_mem {ch ch' : List (Nat × Bool)} (h : subCh ch ch' = true) : ∀ p ∈ ch', p ∈ ch := by
  induction ch' with
  | nil => simp
  | cons p r ih =>
    obtain ⟨i, v⟩ := p
    simp only [subCh, Bool.and_eq_true] at h
    intro q hq
    rcases List.mem_cons.1 hq with rfl | hq
    · exact inCh_mem h.1
    · exact ih h.2 q hq
theorem strip_rep {x : AV} {v : Value} (h : RpE T C s w x v) {ch : List (Nat × Bool)} (hch : ∀ p ∈ ch, gsGet s.gs p.1 = some p.2 ∨ gsGet s.gs p.1 = none) : RpS T C s w (strip ch x) v := by
  cases x
  case opt ch' y =>
    simp only [strip]
    cases hs : subCh ch ch' with
    | false => exact trivial
    | true =>
      obtain ⟨h0, h⟩ := h
      have hp : chProp s.gs ch' := chProp_iff.2 fun p hp => by
        rcases hch p (subCh_mem hs p hp) with h | h
        · exact h
        · exact absurd h (h0 p hp)
      rcases h with ⟨_, h⟩ | ⟨hn, _⟩
      · exact h
      · exact absurd hp hn
  all_goals exact h
theorem ofC_rep (v : Value) : RpK T C s w (ofC v) v := by
  unfold ofC
  split <;> first | rfl | trivial
theorem ofV_rep (v : Value) : RpS T C s w (ofV v) v := by
  cases v
  case agg cs =>
    refine ⟨cs, rfl, ?_⟩
    have key : ∀ l : List Value, all2 (RpK T C s w) (l.map ofC) l := by
      intro l
      induction l with
      | nil => trivial
      | cons x r ih => exact ⟨ofC_rep x, ih⟩
    exact key _
  all_goals (simp only [ofV]; exact RpS_of_RpK (ofC_rep _))
theorem opr_rep (hc : CS T C s a w) (x : Operand) : RpE T C s w (opr s.env x) (a.eval x) := by
  cases x with
  | tmp t => exact hc.env t
  | const v =>
    have := ofV_rep (T := T) (C := C) (s := s) (w := w) v
    simp only [opr, Act.eval]
    revert this
    cases ofV v <;> intro this <;> first | exact this | exact this.elim
  | global g => exact trivial
  | func f => exact ⟨#[], #[], rfl, trivial, trivial⟩
theorem opd_eq (env : List (Nat × AV)) (ch : List (Nat × Bool)) (x : Operand) : opd env ch x = strip ch (opr env x) := by
  cases x with
  | tmp t => rfl
  | const v =>
    simp only [opd, opr]
    cases v <;> (try rfl)
    all_goals (simp only [ofV]; unfold ofC; split <;> rfl)
  | global g => rfl
  | func f => rfl
theorem opd_rep (hc : CS T C s a w) {ch : List (Nat × Bool)} (hch : ∀ p ∈ ch, gsGet s.gs p.1 = some p.2) (x : Operand) : RpS T C s w (opd s.env ch x) (a.eval x) := by
  rw [opd_eq]; exact strip_rep (opr_rep hc x) (fun p hp => .inl (hch p hp))
end
section
variable {P : Program} {T : Tab} {C C' : Cx} {s s' : St} {a : Act} {w w' : World}
theorem noDst_spec {l : List Oper} {t : Nat} (h : noDst l t = true) : ∀ o ∈ l, o.dst ≠ some t := by
  induction l with
  | nil => simp
  | cons o r ih =>
    simp only [noDst, Bool.and_eq_true] at h
    intro o' ho'
    rcases List.mem_cons.1 ho' with rfl | ho'
    · intro e
      rw [e] at h
      simp [Nat.beq_refl] at h
    · exact ih h.2 o' ho'
theorem noDst_tail {o : Oper} {l : List Oper} {t : Nat} (h : noDst (o :: l) t = true) : noDst l t = true := by
  simp only [noDst, Bool.and_eq_true] at h; exact h.2
def boolOf : AV → Option Bool
  | .bool b => some b
  | .opt _ (.bool b) => some b
  | .opt _ (.opt _ (.bool b)) => some b
  | _ => none
structure GInv (all l : List Oper) (s : St) : Prop where
  gi : ∀ j b d b', gsGet s.gs j = some b → dstOf all j = some d → boolOf (getE s.env d) = some b' → b' = b
  nd : ∀ j d, gsGet s.gs j ≠ none → dstOf all j = some d → noDst l d = true
  dm : ∀ j, gsGet s.gs j ≠ none → dstOf all j ≠ none
theorem CS.gsx (hc : CS T C s a w) {gs' kn' : List (Nat × Bool)} (hext : ∀ j b, gsGet s.gs j = some b → gsGet gs' j = some b) (hkn : ∀ p ∈ kn', gsGet gs' p.1 = some p.2) : CS T C ⟨s.env, s.heap, s.nx, gs', kn'⟩ a w := by
  refine ⟨fun t => ?_, hc.blk, hc.nx, hc.inj, hc.own, hc.g, hc.ge, hc.pin, hkn, hc.defers, hc.sz, hc.f, hc.io⟩
  have h := hc.env t
  revert h
  show RpE T C s w (getE s.env t) _ → RpE T C ⟨s.env, s.heap, s.nx, gs', kn'⟩ w (getE s.env t) _
  cases getE s.env t
  case opt ch y =>
    intro ⟨h0, h⟩
    have hh : ∀ p ∈ ch, ∃ b, gsGet s.gs p.1 = some b ∧ gsGet gs' p.1 = some b := fun p hp => by
      cases hb : gsGet s.gs p.1 with
      | none => exact absurd hb (h0 p hp)
      | some b => exact ⟨b, rfl, hext _ _ hb⟩
    have e : chProp gs' ch ↔ chProp s.gs ch := by
      rw [chProp_iff, chProp_iff]
      refine ⟨fun q p hp => ?_, fun q p hp => ?_⟩
      · obtain ⟨b, h1, h2⟩ := hh p hp; have := q p hp; rw [h2] at this; rw [h1]; exact this
      · obtain ⟨b, h1, h2⟩ := hh p hp; have := q p hp; rw [h1] at this; rw [h2]; exact this
    refine ⟨fun p hp => ?_, ?_⟩
    · obtain ⟨b, h1, h2⟩ := hh p hp; simp [h2]
    · rcases h with ⟨h1, h2⟩ | ⟨h1, h2⟩
      · exact .inl ⟨e.2 h1, h2⟩
      · exact .inr ⟨fun q => h1 (e.1 q), h2⟩
  all_goals exact id
theorem CS.ref (hc : CS T C s a w) {d : Nat} {v : AV} (hv : RpE T C s w v (a.tmps.getD d undef)) : CS T C ⟨(d, v) :: s.env, s.heap, s.nx, s.gs, s.kn⟩ a w := by
  refine ⟨fun t => ?_, hc.blk, hc.nx, hc.inj, hc.own, hc.g, hc.ge, hc.pin, hc.kn, hc.defers, hc.sz, hc.f, hc.io⟩
  simp only [getE_cons]
  split
  · rename_i e; subst e; exact hv
  · exact hc.env t
theorem stripKn_rep {x : AV} {v : Value} (h : RpE T C s w x v) (hch : ∀ p ∈ s.kn, gsGet s.gs p.1 = some p.2) : RpE T C s w (stripKn s.kn x) v := by
  cases x
  case opt ch y =>
    simp only [stripKn]
    cases hs : subCh s.kn ch with
    | false => exact h
    | true =>
      have hp : chProp s.gs ch := chProp_iff.2 fun p hp => hch p (subCh_mem hs p hp)
      rcases h.2 with ⟨_, h⟩ | ⟨hn, _⟩
      · rw [cond_true]
        cases y <;> first | exact h | exact h.elim
      · exact absurd hp hn
  all_goals exact h
theorem boolOf_strip {kn : List (Nat × Bool)} {x : AV} {b : Bool} : stripKn kn x = .bool b → boolOf x = some b := by
  intro h
  cases x <;> simp only [stripKn] at h <;> try (cases h; done)
  case bool b' => cases h; rfl
  case opt ch y => cases hs : subCh kn ch <;> simp only [hs, cond_true, cond_false] at h <;> cases h; rfl
theorem boolOf_strip' {kn ch : List (Nat × Bool)} {x : AV} {b : Bool} : stripKn kn x = .opt ch (.bool b) → boolOf x = some b := by
  intro h
  cases x <;> simp only [stripKn] at h <;> try (cases h; done)
  case opt ch y => cases hs : subCh kn ch <;> simp only [hs, cond_true, cond_false] at h <;> cases h <;> rfl
theorem GInv.gs' {all l : List Oper} (x : GInv all l s) {j d : Nat} {b : Bool} (hd : dstOf all j = some d) (hb : boolOf (getE s.env d) = some b) (hn : noDst l d = true) : GInv all l ⟨s.env, s.heap, s.nx, (j, b) :: s.gs, s.kn⟩ ∧ ∀ i b0, gsGet s.gs i = some b0 → gsGet ((j, b) :: s.gs) i = some b0 := by
  have hext : ∀ i b0, gsGet s.gs i = some b0 → gsGet ((j, b) :: s.gs) i = some b0 := fun i b0 hi => by
    simp only [gsGet]
    cases hji : Nat.beq j i with
    | false => exact hi
    | true => have := beq_nat hji; subst this; rw [cond_true, x.gi j b0 d b hi hd hb]
  have hcase : ∀ i, gsGet ((j, b) :: s.gs) i ≠ none → i = j ∨ gsGet s.gs i ≠ none := fun i hi => by
    simp only [gsGet] at hi
    cases hji : Nat.beq j i with
    | false => rw [hji] at hi; exact .inr hi
    | true => exact .inl (beq_nat hji).symm
  refine ⟨⟨fun i b0 d0 b' hi hd0 hb' => ?_, fun i d0 hi hd0 => ?_, fun i hi => ?_⟩, hext⟩
  · simp only [gsGet] at hi
    cases hji : Nat.beq j i with
    | false => rw [hji] at hi; exact x.gi i b0 d0 b' hi hd0 hb'
    | true =>
      rw [hji] at hi
      have := beq_nat hji
      subst this
      rw [hd] at hd0; cases hd0
      change boolOf (getE s.env d) = some b' at hb'
      rw [hb] at hb'; cases hb'; cases hi; rfl
  · rcases hcase i hi with rfl | hi
    · rw [hd] at hd0; cases hd0; exact hn
    · exact x.nd i d0 hi hd0
  · rcases hcase i hi with rfl | hi
    · simp [hd]
    · exact x.dm i hi
theorem eqb_prop {b w0 : Bool} : (bif b then w0 else !w0) = true ↔ b = w0 := by cases b <;> cases w0 <;> simp
theorem guard_sound (hc : CS T C s a w) {all l : List Oper} (x : GInv all l s) {ops : Array Oper} (hall : ops.toList = all) (o : Oper) :
    match guardOf all l o s.env s.gs s.kn with
    | .bad => True
    | .skip => Region.wanted o (yielded ops a.tmps) = false
    | .run ch gs' => CS T C ⟨s.env, s.heap, s.nx, gs', s.kn⟩ a w ∧ GInv all l ⟨s.env, s.heap, s.nx, gs', s.kn⟩ ∧ (∀ p ∈ ch, gsGet gs' p.1 ≠ none) ∧ (chProp gs' ch ↔ Region.wanted o (yielded ops a.tmps) = true) := by
  unfold guardOf
  cases hg : o.guard with
  | none => exact ⟨hc, x, by simp, by simp [chProp, Region.wanted, hg]⟩
  | some p =>
    obtain ⟨j, w0⟩ := p
    dsimp only
    cases hd : dstOf all j with
    | none => exact trivial
    | some d =>
      dsimp only
      have hw : Region.wanted o (yielded ops a.tmps) = ((match a.tmps.getD d undef with | .bool b => some b | _ => none) == some w0) := by
        simp only [Region.wanted, hg]; rw [yielded_eq hall hd a]; try rfl
      have he := stripKn_rep (hc.env d) hc.kn
      have hb1 := fun b => @boolOf_strip s.kn (getE s.env d) b
      have hb2 := fun ch b => @boolOf_strip' s.kn ch (getE s.env d) b
      simp only [hw]
      generalize a.tmps.getD d undef = v at he
      generalize stripKn s.kn (getE s.env d) = y at he hb1 hb2
      cases y
      case kb b =>
        have he : v = .bool b := he
        subst he
        simp only
        cases hq : (bif b then w0 else !w0) with
        | true =>
          have := eqb_prop.1 hq
          subst this
          exact ⟨hc, x, by simp, by simp [chProp]⟩
        | false =>
          have : b ≠ w0 := fun e => by rw [eqb_prop.2 e] at hq; cases hq
          simpa using this
      case undef =>
        have he : v = undef := he
        subst he
        rfl
      case bool b =>
        have he : v = .bool b := he
        subst he
        simp only
        cases hn : noDst l d with
        | false => exact trivial
        | true =>
          obtain ⟨q1, q2⟩ := x.gs' hd (hb1 b rfl) hn
          refine ⟨hc.gsx q2 (fun p hp => q2 _ _ (hc.kn p hp)), q1, by simp [gsGet, Nat.beq_refl], ?_⟩
          simp [chProp, gsGet, Nat.beq_refl]
      case opt ch y =>
        obtain ⟨h0, he⟩ := he
        cases y
        case bool b =>
          simp only
          cases hn : noDst l d with
          | false => exact trivial
          | true =>
            obtain ⟨q1, q2⟩ := x.gs' hd (hb2 ch b rfl) hn
            have hdom : ∀ p ∈ ch, gsGet ((j, b) :: s.gs) p.1 ≠ none := fun p hp => by
              cases hh : gsGet s.gs p.1 with
              | none => exact absurd hh (h0 p hp)
              | some b0 => rw [q2 _ _ hh]; simp
            have hiff : chProp ((j, b) :: s.gs) ch ↔ chProp s.gs ch := by
              rw [chProp_iff, chProp_iff]
              refine ⟨fun q p hp => ?_, fun q p hp => q2 _ _ (q p hp)⟩
              cases hh : gsGet s.gs p.1 with
              | none => exact absurd hh (h0 p hp)
              | some b0 => have := q p hp; rw [q2 _ _ hh] at this; exact this
            refine ⟨hc.gsx q2 (fun p hp => q2 _ _ (hc.kn p hp)), q1, ?_, ?_⟩
            · intro p hp
              rcases List.mem_cons.1 hp with rfl | hp
              · simp [gsGet, Nat.beq_refl]
              · exact hdom p hp
            · simp only [chProp, hiff]
              rcases he with ⟨h1, he⟩ | ⟨h1, he⟩
              · have he : v = .bool b := he
                subst he
                simp [gsGet, Nat.beq_refl, h1]
              · subst he
                simp [h1, undef]
        case kb b =>
          simp only
          cases hq : (bif b then w0 else !w0) with
          | true =>
            have := eqb_prop.1 hq
            subst this
            refine ⟨hc, x, h0, ?_⟩
            rcases he with ⟨h1, he⟩ | ⟨h1, he⟩
            · have he : v = .bool b := he
              subst he
              simp [h1]
            · subst he
              simp [h1, undef]
          | false =>
            have : b ≠ w0 := fun e => by rw [eqb_prop.2 e] at hq; cases hq
            rcases he with ⟨h1, he⟩ | ⟨h1, he⟩
            · have he : v = .bool b := he
              subst he
              simpa using this
            · subst he
              simp [undef]
        all_goals exact trivial
      all_goals exact trivial
end
section
variable {P : Program} {T : Tab} {C C' : Cx} {s s' : St} {a : Act} {w w' : World}
theorem undefs_sound {all l : List Oper} {j : Nat} {w0 b : Bool} {h : Hp} {nx : Nat} {gs kn : List (Nat × Bool)} (hgs : gsGet gs j = some b) (hb : b ≠ w0) {K : List (Nat × AV) → Prop} : ∀ (r : List (Nat × Bool)) (env : List (Nat × AV)),
    CS T C ⟨env, h, nx, gs, kn⟩ a w → GInv all l ⟨env, h, nx, gs, kn⟩ → undefs all j w0 r env K → ∃ env', CS T C ⟨env', h, nx, gs, kn⟩ a w ∧ GInv all l ⟨env', h, nx, gs, kn⟩ ∧ K env' ∧ (∀ d, getE env d = getE env' d ∨ getE env' d = .undef) := by
  intro r
  induction r with
  | nil => exact fun env hc x h => ⟨env, hc, x, h, fun d => .inl rfl⟩
  | cons p r ih =>
    obtain ⟨i, w1⟩ := p
    intro env hc x hu
    simp only [undefs] at hu
    split at hu
    · rename_i d hd
      split at hu
      · rename_i ch y he
        cases hin : inCh ch j w0 with
        | false => simp [hin] at hu
        | true =>
          rw [hin, cond_true] at hu
          have hm := inCh_mem hin
          have hv := hc.env d
          dsimp only at hv
          rw [he] at hv
          have hn : ¬ chProp gs ch := fun q => by
            have := chProp_iff.1 q _ hm
            rw [hgs] at this
            cases this; exact hb rfl
          have hval : a.tmps.getD d undef = undef := by
            rcases hv.2 with ⟨q, _⟩ | ⟨_, q⟩
            · exact absurd q hn
            · exact q
          have hc' : CS T C ⟨(d, .undef) :: env, h, nx, gs, kn⟩ a w := hc.ref (show RpE T C _ w .undef _ from hval)
          have x' : GInv all l ⟨(d, .undef) :: env, h, nx, gs, kn⟩ := ⟨fun i' b1 d1 b' q1 q2 q3 => by
            dsimp only at q3
            rw [getE_cons] at q3
            split at q3
            · cases q3
            · exact x.gi i' b1 d1 b' q1 q2 q3, x.nd, x.dm⟩
          obtain ⟨env', r1, r2, r3, r4⟩ := ih _ hc' x' hu
          refine ⟨env', r1, r2, r3, fun d' => ?_⟩
          rcases r4 d' with q | q
          · rw [getE_cons] at q
            split at q
            · exact .inr q.symm
            · exact .inl q
          · exact .inr q
      · exact hu.elim
    · exact hu.elim
theorem xsplit_sound {all l : List Oper} {h : Hp} {nx : Nat} {gs : List (Nat × Bool)} {run skip : List (Nat × AV) → List (Nat × Bool) → Prop} : ∀ (c : List (Nat × Bool)) (env : List (Nat × AV)) (kn : List (Nat × Bool)),
    CS T C ⟨env, h, nx, gs, kn⟩ a w → GInv all l ⟨env, h, nx, gs, kn⟩ → (∀ p ∈ c, gsGet gs p.1 ≠ none) → xsplit all run skip c env kn →
    ∃ env' kn', CS T C ⟨env', h, nx, gs, kn'⟩ a w ∧ GInv all l ⟨env', h, nx, gs, kn'⟩ ∧ ((chProp gs c ∧ run env' kn') ∨ (¬ chProp gs c ∧ skip env' kn')) := by
  intro c
  induction c with
  | nil => exact fun env kn hc x _ h => ⟨env, kn, hc, x, .inl ⟨trivial, h⟩⟩
  | cons p r ih =>
    obtain ⟨j, w0⟩ := p
    intro env kn hc x hdom hs
    simp only [xsplit_cons] at hs
    split at hs
    · rename_i d hd
      split at hs
      · rename_i b he
        have hbo : boolOf (getE env d) = some b := boolOf_strip he
        obtain ⟨b0, hb0⟩ : ∃ b0, gsGet gs j = some b0 := Option.ne_none_iff_exists'.1 (hdom (j, w0) (by simp))
        have : b = b0 := x.gi j b0 d b hb0 hd hbo
        subst this
        have hval : a.tmps.getD d undef = .bool b := by
          have := stripKn_rep (hc.env d) hc.kn
          dsimp only at this
          rw [he] at this
          exact this
        have href : ∀ {env1 : List (Nat × AV)} {kn1 : List (Nat × Bool)} (b1 : Bool), b1 = b → CS T C ⟨env1, h, nx, gs, kn1⟩ a w → CS T C ⟨(d, .kb b1) :: env1, h, nx, gs, kn1⟩ a w := fun b1 e hc1 => by
          subst e
          exact hc1.ref (show RpE T C _ w (.kb b1) _ from hval)
        have hkn : ∀ {env1 : List (Nat × AV)} {kn1 : List (Nat × Bool)}, CS T C ⟨env1, h, nx, gs, kn1⟩ a w → CS T C ⟨env1, h, nx, gs, (j, b) :: kn1⟩ a w := fun hc1 => ⟨hc1.env, hc1.blk, hc1.nx, hc1.inj, hc1.own, hc1.g, hc1.ge, hc1.pin, fun p hp => by
          rcases List.mem_cons.1 hp with rfl | hp
          · exact hb0
          · exact hc1.kn p hp, hc1.defers, hc1.sz, hc1.f, hc1.io⟩
        have hgi : ∀ {env1 : List (Nat × AV)} {kn1 kn2 : List (Nat × Bool)} (b1 : Bool), GInv all l ⟨env1, h, nx, gs, kn1⟩ → GInv all l ⟨(d, .kb b1) :: env1, h, nx, gs, kn2⟩ := fun b1 x1 => ⟨fun i' b1 d1 b' q1 q2 q3 => by
            dsimp only at q3
            rw [getE_cons] at q3
            split at q3
            · cases q3
            · exact x1.gi i' b1 d1 b' q1 q2 q3, x1.nd, x1.dm⟩
        have hpos : ∀ (e : b = w0), xsplit all run skip r ((d, .kb b) :: env) ((j, b) :: kn) → ∃ env' kn', CS T C ⟨env', h, nx, gs, kn'⟩ a w ∧ GInv all l ⟨env', h, nx, gs, kn'⟩ ∧ ((chProp gs ((j, w0) :: r) ∧ run env' kn') ∨ (¬ chProp gs ((j, w0) :: r) ∧ skip env' kn')) := fun e q => by
          obtain ⟨env', kn', r1, r2, r3⟩ := ih _ _ (hkn (href b rfl hc)) (hgi b x) (fun p hp => hdom p (List.mem_cons_of_mem _ hp)) q
          refine ⟨env', kn', r1, r2, ?_⟩
          simp only [chProp, hb0, e, true_and]
          exact r3
        have hneg : ∀ (e : b ≠ w0), (undefs all j w0 r env fun env' => skip ((d, .kb b) :: env') kn) → ∃ env' kn', CS T C ⟨env', h, nx, gs, kn'⟩ a w ∧ GInv all l ⟨env', h, nx, gs, kn'⟩ ∧ ((chProp gs ((j, w0) :: r) ∧ run env' kn') ∨ (¬ chProp gs ((j, w0) :: r) ∧ skip env' kn')) := fun e q => by
          obtain ⟨env', r1, r2, r3, _⟩ := undefs_sound hb0 e r env hc x q
          refine ⟨_, _, href b rfl r1, hgi b r2, .inr ⟨?_, r3⟩⟩
          simp only [chProp, hb0]
          exact fun q => e q.1
        cases w0 <;> simp only [cond_true, cond_false] at hs
        · cases b
          · exact hpos rfl (hs.f rfl)
          · exact hneg (by decide) (hs.t rfl)
        · cases b
          · exact hneg (by decide) (hs.f rfl)
          · exact hpos rfl (hs.t rfl)
      · exact hs.elim
    · exact hs.elim
structure XAt (P : Program) (T : Tab) (kp : AV → Hp → Nat → Prop) (mv : FuncId → List Nat) (C : Cx) (all l : List Oper) (k : St → Prop) (s : St) (a : Act) (w : World) : Prop where
  cs : CS T C s a w
  gi : GInv all l s
  go : xops T (AC P T kp mv) all l s.env s.heap s.nx s.gs s.kn k
theorem GInv.put {all r : List Oper} {o : Oper} (x : GInv all (o :: r) s) (v : AV) (h' : Hp) (nx' : Nat) : GInv all r ⟨putE s.env o.dst v, h', nx', s.gs, s.kn⟩ := by
  refine ⟨fun j b d b' h1 h2 h3 => ?_, fun j d h1 h2 => noDst_tail (x.nd j d h1 h2), x.dm⟩
  have hne := noDst_spec (x.nd j d (by rw [h1]; simp) h2) o (by simp)
  refine x.gi j b d b' h1 h2 ?_
  revert h3
  cases hd : o.dst with
  | none => exact id
  | some d' =>
    simp only [putE, getE_cons]
    rw [if_neg (fun e => hne (by rw [hd, e]))]
    exact id
theorem whose_spec : ∀ (l : List Oper) (n t : Nat), (∃ i, whoseIn l n t = n + i ∧ dstOf l i = some t) ∨ whoseIn l n t = n + l.length
  | [], n, t => .inr (by simp [whoseIn])
  | o :: r, n, t => by
    have hrec := whose_spec r (n + 1) t
    have lift : ∀ i, dstOf (o :: r) (i + 1) = dstOf r i := fun i => by simp [dstOf, nth]
    have h2 : (∃ i, whoseIn r (n + 1) t = n + i ∧ dstOf (o :: r) i = some t) ∨ whoseIn r (n + 1) t = n + (r.length + 1) := by
      rcases hrec with ⟨i, h1, h2⟩ | h1
      · exact .inl ⟨i + 1, by omega, by rw [lift]; exact h2⟩
      · exact .inr (by omega)
    simp only [whoseIn]
    cases hd : o.dst with
    | none => exact h2
    | some d =>
      dsimp only
      cases hdt : Nat.beq d t with
      | false => rw [cond_false]; exact h2
      | true => rw [cond_true]; exact .inl ⟨0, rfl, by simp [dstOf, nth, hd, beq_nat hdt]⟩
theorem dstOf_len (l : List Oper) : dstOf l l.length = none := by simp [dstOf, nth_eq]
theorem pick_rep (hc : CS T C s a w) {all l : List Oper} (x : GInv all l s) {ch : List (Nat × Bool)} (hch : ∀ p ∈ ch, gsGet s.gs p.1 = some p.2) :
    ∀ t b, opd s.env ch (.tmp t) = .bool b → a.eval (.tmp t) = .bool b → ∀ y, RpS T C s w (strip ((whoseIn all 0 t, b) :: ch) (opr s.env y)) (a.eval y) := by
  intro t b h1 _ y
  refine strip_rep (opr_rep hc y) fun p hp => ?_
  rcases List.mem_cons.1 hp with rfl | hp
  · dsimp only
    cases hg : gsGet s.gs (whoseIn all 0 t) with
    | none => exact .inr rfl
    | some b0 =>
      left
      rcases whose_spec all 0 t with ⟨i, q1, q2⟩ | q
      · rw [Nat.zero_add] at q1
        rw [q1] at hg
        have hb : boolOf (getE s.env t) = some b := by
          simp only [opd] at h1
          cases hx : getE s.env t <;> rw [hx] at h1 <;> simp only [strip] at h1 <;> try (cases h1; done)
          case bool b' => cases h1; rfl
          case opt ch' y =>
            cases hs : subCh ch ch' <;> simp only [hs, cond_true, cond_false] at h1 <;> cases h1; rfl
        rw [x.gi i b0 t b hg q2 hb]
      · rw [Nat.zero_add] at q
        rw [q] at hg
        exact absurd (dstOf_len all) (x.dm _ (by rw [hg]; simp))
  · exact .inl (hch p hp)
end
section
variable {P : Program} {T : Tab} {kp : AV → Hp → Nat → Prop} {mv : FuncId → List Nat} {C C' : Cx} {s s' : St} {a : Act} {w w' : World}
theorem xop_quiet (HT : tabOK P T = true) {ops : Array Oper} {o : Oper} {r : List Oper} {k : St → Prop} (hN : ∀ d, o.dst = some d → C.N.has d) (hq : isQuiet T o.op = true) (x : XAt P T kp mv C ops.toList (o :: r) k s a w) :
    ∃ val, YieldsIf P ops (Same C w) o val a ∧ ∃ s', XAt P T kp mv C ops.toList r k s' (a.put o.dst val) w := by
  obtain ⟨hc, hi, hgo⟩ := x
  simp only [xops_cons] at hgo
  have hg := guard_sound hc hi rfl o
  generalize guardOf ops.toList (o :: r) o s.env s.gs s.kn = gv at hgo hg
  cases gv with
  | bad => exact hgo.elim
  | skip =>
    rw [putK_eq] at hgo
    exact ⟨undef, .inr ⟨hg, rfl⟩, _, hc.put o.dst hN (show RpE T C s w .undef undef from rfl), hi.put .undef s.heap s.nx, hgo⟩
  | run ch gs' =>
    obtain ⟨hc1, hi1, hdom, hch⟩ := hg
    dsimp only at hgo
    rw [hq] at hgo
    cases ch with
    | nil =>
      dsimp only at hgo
      have hw : Region.wanted o (yielded ops a.tmps) = true := hch.1 trivial
      obtain ⟨v, hv, hval⟩ := xquiet_sound (P := P) (Hyp := True) (nd := XNeed) HT hc1 (fun c X h => ⟨h.x, fun _ => h.c⟩) (fun _ => opd_rep hc1 hc1.kn)
        (fun _ y => strip_rep (opr_rep hc1 y) (fun p hp => .inl (hc1.kn p hp))) (fun _ => pick_rep hc1 hi1 hc1.kn) hgo
      obtain ⟨val, h1, h2⟩ := hval trivial
      rw [putK_eq] at hv
      have hno : ∀ ch y, v ≠ .opt ch y := fun ch y e => by subst e; exact h2.elim
      refine ⟨val, .inl ⟨hw, fun w' e => h1 w' e⟩, _, hc1.put o.dst hN ?_, hi1.put v s.heap s.nx, hv⟩
      cases v
      case opt ch y => exact absurd rfl (hno ch y)
      all_goals exact h2
    | cons c cs =>
      dsimp only at hgo
      have hall : chProp gs' (c :: cs) → ∀ p ∈ (c :: cs) ++ s.kn, gsGet gs' p.1 = some p.2 := fun hh p hp => by
        rcases List.mem_append.1 hp with hp | hp
        · exact chProp_iff.1 hh p hp
        · exact hc1.kn p hp
      obtain ⟨v, hv, hval⟩ := xquiet_sound (P := P) (Hyp := chProp gs' (c :: cs)) (nd := ndOf gs' (c :: cs)) HT hc1 (fun c' X h => ⟨XNeed.x h, XNeed.c h⟩) (fun hh => opd_rep hc1 (hall hh))
        (fun hh y => strip_rep (opr_rep hc1 y) (fun p hp => .inl (hall hh p hp))) (fun hh => pick_rep hc1 hi1 (hall hh)) hgo
      rw [putK_eq] at hv
      by_cases hp : chProp gs' (c :: cs)
      · obtain ⟨val, h1, h2⟩ := hval hp
        exact ⟨val, .inl ⟨hch.1 hp, fun w' e => h1 w' e⟩, _, hc1.put o.dst hN (show RpE T C _ w (.opt (c :: cs) v) val from ⟨hdom, .inl ⟨hp, h2⟩⟩), hi1.put _ s.heap s.nx, hv⟩
      · have hw : Region.wanted o (yielded ops a.tmps) = false := by
          cases hh : Region.wanted o (yielded ops a.tmps) with
          | false => rfl
          | true => exact absurd (hch.2 hh) hp
        exact ⟨undef, .inr ⟨hw, rfl⟩, _, hc1.put o.dst hN (show RpE T C _ w (.opt (c :: cs) v) undef from ⟨hdom, .inr ⟨hp, rfl⟩⟩), hi1.put _ s.heap s.nx, hv⟩
theorem Ext.noenv (C : Cx) (s : St) (w : World) (env : List (Nat × AV)) (gs kn : List (Nat × Bool)) : Ext C s w C ⟨env, s.heap, s.nx, gs, kn⟩ w :=
  ⟨fun _ _ _ => rfl, fun _ _ h => h, Nat.le_refl _, fun _ _ => ⟨rfl, rfl, rfl⟩, fun id _ wr' t' b' l' h => ⟨wr', b', l', h, rfl⟩⟩
theorem put_size (a : Act) (d : Option Tmp) (v : Value) : (a.put d v).tmps.size = a.tmps.size ∧ (a.put d v).defers = a.defers := by
  cases d <;> simp [Act.put]
theorem CS.noenv (hc : CS T C s a w) {a' : Act} (h1 : C.N.OK a → C.N.OK a') (h2 : a'.defers = a.defers) : CS T C ⟨[], s.heap, s.nx, [], []⟩ a' w :=
  ⟨fun t => trivial, fun id => by
    by_cases hid : id < s.nx
    · exact (hc.blk id).ext (Ext.noenv C s w _ _ _) hid rfl (fun _ _ => rfl)
    · have := hc.nx id (by omega)
      show RepB T C _ w id (getB s.heap id)
      rw [this]; trivial, hc.nx, hc.inj, hc.own, hc.g, hc.ge, hc.pin, (fun p hp => by cases hp), by rw [h2]; exact hc.defers, h1 hc.sz, hc.f, hc.io⟩
def PanOK (T : Tab) (kp : AV → Hp → Nat → Prop) (C : Cx) (Q : Exit → Act → World → Prop) : Prop :=
  ∀ (C' : Cx) (x : AV) (val : Value) (h' : Hp) (nx' : Nat) (a' : Act) (w' : World), kp x h' nx' → KeepC C C' → CS T C' ⟨[], h', nx', [], []⟩ a' w' → RpS T C' ⟨[], h', nx', [], []⟩ w' x val → Q (.panic [{ v := val, recovered := false }]) a' w'
theorem PanOK.keep {Q : Exit → Act → World → Prop} (h : PanOK T kp C Q) (hk : KeepC C C') : PanOK T kp C' Q := fun C2 x val h' nx' a' w' q1 q2 => h C2 x val h' nx' a' w' q1 (hk.trans q2)
theorem PanOK.at {Q : Exit → Act → World → Prop} (hp : PanOK T kp C Q) {x : AV} {val : Value} (h : kp x s.heap s.nx) (hk : KeepC C C') (hc : CS T C' s a w) (hr : RpS T C' s w x val) : Q (.panic [{ v := val, recovered := false }]) a w :=
  hp C' x val s.heap s.nx a w h hk (hc.noenv id rfl) (hr.ext (Ext.noenv C' s w _ _ _))
theorem xop_eff (HT : tabOK P T = true) {ops : Array Oper} {i : Nat} {o : Oper} {r : List Oper} {k : St → Prop} {Q : Exit → Act → World → Prop} (hi : ops[i]? = some o) (hN : ∀ d, o.dst = some d → C.N.has d) (hq : isQuiet T o.op = false) (x : XAt P T kp mv C ops.toList (o :: r) k s a w) (hpan : PanOK T kp C Q) :
    wpOp P ops Q i (fun a' w' => ∃ C' s', KeepC C C' ∧ XAt P T kp mv C' ops.toList r k s' a' w') a w := by
  obtain ⟨hc, hgi, hgo⟩ := x
  simp only [xops_cons] at hgo
  have hg := guard_sound hc hgi rfl o
  generalize guardOf ops.toList (o :: r) o s.env s.gs s.kn = gv at hgo hg
  unfold wpOp
  simp only [hi]
  have skip : ∀ {s1 : St}, CS T C s1 a w → GInv ops.toList (o :: r) s1 → Region.wanted o (yielded ops a.tmps) = false → xops T (AC P T kp mv) ops.toList r (putE s1.env o.dst .undef) s1.heap s1.nx s1.gs s1.kn k →
      ∃ C' s', KeepC C C' ∧ XAt P T kp mv C' ops.toList r k s' (a.put o.dst undef) w := fun {s1} q1 q2 q3 q4 =>
    ⟨C, _, KeepC.refl C, q1.put o.dst hN (show RpE T C s1 w .undef undef from rfl), q2.put .undef s1.heap s1.nx, q4⟩
  have run : ∀ {s1 : St}, CS T C s1 a w → GInv ops.toList (o :: r) s1 → (xeff T (AC P T kp mv) (fun _ => true) (opd s1.env s1.kn) o.op s1.env s1.heap s1.nx fun v env1 h' nx' => putK env1 o.dst v fun env' => xops T (AC P T kp mv) ops.toList r env' h' nx' s1.gs s1.kn k) →
      o.wp P a w (fun a' w' => ∃ C' s', KeepC C C' ∧ XAt P T kp mv C' ops.toList r k s' a' w') Q := fun {s1} q1 q2 q3 => by
    refine eff_wp q1 (xeff_sound HT q1 (opd_rep q1 q1.kn) q3) hN ?_ (fun x val h' nx' C' w' r1 r2 r3 r4 => hpan.at r1 r2 r3 r4)
    intro v h' nx' C' val w' hk hkc hcs _
    rw [putK_eq] at hk
    exact ⟨C', _, hkc, hcs, q2.put v h' nx', hk⟩
  cases gv with
  | bad => exact hgo.elim
  | skip =>
    rw [putK_eq] at hgo
    simp only [hg, Bool.false_eq_true, if_false]
    exact skip hc hgi hg hgo
  | run ch gs' =>
    obtain ⟨hc1, hi1, hdom, hch⟩ := hg
    dsimp only at hgo
    rw [hq] at hgo
    cases ch with
    | nil =>
      dsimp only at hgo
      have hw : Region.wanted o (yielded ops a.tmps) = true := hch.1 trivial
      simp only [hw, if_true]
      exact .inl (run hc1 hi1 hgo)
    | cons c cs =>
      dsimp only at hgo
      have hrev : ∀ (gs : List (Nat × Bool)), chProp gs (c :: cs).reverse ↔ chProp gs (c :: cs) := fun gs => by simp only [chProp_iff, List.mem_reverse]
      obtain ⟨env', kn', q1, q2, q3⟩ := xsplit_sound _ _ _ hc1 hi1 (fun p hp => hdom p (List.mem_reverse.1 hp)) hgo
      rcases q3 with ⟨q3, q4⟩ | ⟨q3, q4⟩
      · have hw : Region.wanted o (yielded ops a.tmps) = true := hch.1 ((hrev _).1 q3)
        simp only [hw, if_true]
        exact .inl (run q1 q2 q4)
      · have hw : Region.wanted o (yielded ops a.tmps) = false := by
          cases hh : Region.wanted o (yielded ops a.tmps) with
          | false => rfl
          | true => exact absurd ((hrev _).2 (hch.2 hh)) q3
        simp only [hw, Bool.false_eq_true, if_false]
        rw [putK_eq] at q4
        exact skip q1 q2 hw q4
theorem wpOp_of_yields {ops : Array Oper} {Q : Exit → Act → World → Prop} {i : Nat} {o : Oper} {v : Value} (hi : ops[i]? = some o) (hy : YieldsIf P ops (Same C w) o v a) {K : Act → World → Prop} (h : K (a.put o.dst v) w) : wpOp P ops Q i K a w :=
  hy.wpOp hi (Same.refl C w) h
theorem xops_sound (HT : tabOK P T = true) {ops : Array Oper} {k : St → Prop} {Q : Exit → Act → World → Prop} : ∀ (l : List Oper) (is : List Nat), all2 (fun o i => ops[i]? = some o) l is → (∀ o ∈ l, ∀ d, o.dst = some d → C.N.has d) →
    ∀ (C' : Cx) (s : St) (a : Act) (w : World), KeepC C C' → XAt P T kp mv C' ops.toList l k s a w → PanOK T kp C Q → (∀ C' s' a' w', KeepC C C' → CS T C' s' a' w' → k s' → Q .normal a' w') → wpOps P ops Q is a w := by
  intro l
  induction l with
  | nil =>
    intro is hall _ C' s a w hk x hpan hQ
    cases is with
    | nil =>
      have := x.go
      simp only [xops_nil] at this
      exact hQ C' s a w hk x.cs this
    | cons _ _ => exact hall.elim
  | cons o r ih =>
    intro is hall hN C' s a w hk x hpan hQ
    cases is with
    | nil => exact hall.elim
    | cons i is =>
      rw [wpOps_cons]
      have hN' : ∀ d, o.dst = some d → C'.N.has d := fun d hd => by rw [hk.2.2.2.2.1]; exact hN o (by simp) d hd
      cases hq : isQuiet T o.op with
      | true =>
        obtain ⟨val, h1, s', h2⟩ := xop_quiet HT hN' hq x
        exact wpOp_of_yields hall.1 h1 (ih is hall.2 (fun o' ho' => hN o' (List.mem_cons_of_mem _ ho')) C' s' _ w hk h2 hpan hQ)
      | false =>
        refine wpOp_mono ?_ (xop_eff HT hall.1 hN' hq x (hpan.keep hk))
        rintro a' w' ⟨C2, s', hk2, h2⟩
        exact ih is hall.2 (fun o' ho' => hN o' (List.mem_cons_of_mem _ ho')) C2 s' a' w' (hk.trans hk2) h2 hpan hQ
end
section
variable {P : Program} {ops : Array Oper} {Q : Exit → Act → World → Prop} 
def may (ops : Array Oper) (j k : Nat) : Prop := mayB ops.toList j k = true ∧ j ≠ k
def wpAnyF (P : Program) (ops : Array Oper) (Q : Exit → Act → World → Prop) : Nat → Array Bool → Act → World → (Nat → World → Prop) → Prop
  | 0, listed, a, w, _ => Region.ready .any ops listed = [] ∧ Q .normal a w
  | fuel + 1, listed, a, w, S =>
    (Region.ready .any ops listed = [] → Q .normal a w) ∧
    ∀ i ∈ Region.ready .any ops listed, wpOp P ops Q i (fun a' w' => ∃ S' : Nat → World → Prop, (∀ k, may ops i k → ∀ x, S' k x → S k x) ∧ (∀ k, S' k w') ∧ wpAnyF P ops Q fuel (listed.setIfInBounds i true) a' w' S') a w
theorem wpAny_of_grown : ∀ (fuel : Nat) (listed : Array Bool) (a : Act) (w : World) (S : Nat → World → Prop), wpAnyF P ops Q fuel listed a w S → wpAny P .any ops Q fuel listed a w
  | 0, _, _, _, _, h => h
  | fuel + 1, _, _, _, _, h => ⟨h.1, fun i hi => wpOp_mono (fun a' w' ⟨S', _, _, h'⟩ => wpAny_of_grown fuel _ a' w' S' h') (h.2 i hi)⟩
theorem yields_sub {S S' : World → Prop} (hs : ∀ x, S' x → S x) {o : Oper} {v : Value} {a : Act} (h : YieldsIf P ops S o v a) : YieldsIf P ops S' o v a :=
  h.imp (fun ⟨h1, h2⟩ => ⟨h1, fun w hw => h2 w (hs w hw)⟩) id
theorem wpAnyF_first {i : Nat} {oi : Oper} {v : Value} (hi : ops[i]? = some oi) (hsel : ∀ (j : Nat) (o : Oper) cs b, ops[j]? = some o → o.op ≠ .select cs b)
    (hQ : ∀ c a w, Q (.panic c) (a.put oi.dst v) w → Q (.panic c) a w) :
    ∀ (fuel : Nat) (listed : Array Bool) (a : Act) (w : World) (S : Nat → World → Prop),
      (∀ j oj, ops[j]? = some oj → j ≠ i → listed.getD j true = false → (∀ e ∈ oj.after, Region.binds .any e = true → e.on ≠ i) → oi.apart ops oj = true) →
      i ∈ Region.ready .any ops listed → YieldsIf P ops (S i) oi v a → (∀ k, S k w) →
      wpAnyF P ops Q fuel (listed.setIfInBounds i true) (a.put oi.dst v) w S → wpAnyF P ops Q (fuel + 1) listed a w S := by
  intro fuel
  induction fuel with
  | zero =>
    intro listed a w S _ hr hy hS H
    refine ⟨fun h => (by rw [h] at hr; cases hr), fun j hj => ?_⟩
    by_cases hji : j = i
    · subst hji; exact hy.wpOp hi (hS j) ⟨S, fun _ _ _ => id, hS, H⟩
    · have := ready_mono hj hji
      rw [H.1] at this
      cases this
  | succ fuel ih =>
    intro listed a w S hfree hr hy hS H
    refine ⟨fun h => (by rw [h] at hr; cases hr), fun j hj => ?_⟩
    by_cases hji : j = i
    · subst hji; exact hy.wpOp hi (hS j) ⟨S, fun _ _ _ => id, hS, H⟩
    · have h1 := H.2 j (ready_mono hj hji)
      obtain ⟨hjun, oj, hoj, hall⟩ := mem_ready.1 hj
      have hnot : ∀ e ∈ oj.after, Region.binds .any e = true → e.on ≠ i := fun e he hb heq => by
        have h1 := hall e he hb
        have h0 := (mem_ready.1 hr).1
        rw [heq] at h1
        rcases Nat.lt_or_ge i listed.size with h' | h'
        · simp [h'] at h0 h1; rw [h0] at h1; cases h1
        · simp [Array.getElem?_eq_none h'] at h1
      have onAny_false : ∀ (k : Nat) (l : List Edge), (∀ e ∈ l, Region.binds .any e = true → e.on ≠ k) → onAny k l = false := by
        intro k l
        induction l with
        | nil => intro _; rfl
        | cons e r ih =>
          intro hl
          simp only [onAny, Bool.or_eq_false_iff]
          refine ⟨?_, ih fun x hx => hl x (List.mem_cons_of_mem _ hx)⟩
          cases hb : (Region.binds .any e && Nat.beq e.on k) with
          | false => rfl
          | true =>
            rw [Bool.and_eq_true] at hb
            exact absurd (beq_nat hb.2) (hl e (List.mem_cons_self ..) hb.1)
      have hmay : may ops j i := by
        refine ⟨?_, hji⟩
        have hn : nth ops.toList j = some oj := by rw [nth_eq]; simpa using hoj
        have hn' : nth ops.toList i = some oi := by rw [nth_eq]; simpa using hi
        obtain ⟨_, oi', hoi', hall'⟩ := mem_ready.1 hr
        rw [hi] at hoi'; cases hoi'
        simp only [mayB, hn, hn', Bool.and_eq_true, Bool.not_eq_true']
        refine ⟨onAny_false _ _ fun e he hb => hnot e (by simpa using he) hb, onAny_false _ _ fun e he hb heq => ?_⟩
        have h1 := hall' e (by simpa using he) hb
        rw [heq] at h1
        rcases Nat.lt_or_ge j listed.size with h' | h'
        · simp [h'] at hjun h1; rw [hjun] at h1; cases h1
        · simp [Array.getElem?_eq_none h'] at h1
      have h2 := wpOp_putIf hoj (hfree j oj hoj hji hjun hnot) (fun cs b => hsel i oi cs b hi) (fun cs b => hsel j oj cs b hoj) hQ hy h1
      have hfree' : ∀ k ok, ops[k]? = some ok → k ≠ i → (listed.setIfInBounds j true).getD k true = false →
          (∀ e ∈ ok.after, Region.binds .any e = true → e.on ≠ i) → oi.apart ops ok = true := fun k ok hk hki hun hno => by
        refine hfree k ok hk hki ?_ hno
        by_cases hjk : j = k
        · subst hjk; exact hjun
        · rw [getD_set_ne true hjk] at hun; exact hun
      refine wpOp_mono (fun a' w' h3 => ?_) h2
      obtain ⟨hy', S', hsub, hS', h3⟩ := h3
      refine ⟨S', hsub, hS', ih (listed.setIfInBounds j true) a' w' S' hfree' (ready_mono hr (Ne.symm hji)) (yields_sub (hsub i hmay) hy') hS' ?_⟩
      rw [Array.setIfInBounds_comm _ _ hji]
      exact h3
theorem wpAnyF_take {i : Nat} {oi : Oper} {v : Value} {fuel : Nat} {listed : Array Bool} {a : Act} {w : World} {S : Nat → World → Prop} (hi : ops[i]? = some oi)
    (hs : Region.noSelect ops = true) (hf : Region.free .any ops listed i = true) (hr : (Region.ready .any ops listed).contains i = true)
    (hQ : ∀ c a w, Q (.panic c) (a.put oi.dst v) w → Q (.panic c) a w) (hy : YieldsIf P ops (S i) oi v a) (hS : ∀ k, S k w)
    (h : wpAnyF P ops Q fuel (listed.setIfInBounds i true) (a.put oi.dst v) w S) : wpAnyF P ops Q (fuel + 1) listed a w S :=
  wpAnyF_first hi (Region.noSelect_spec hs) hQ fuel listed a w S (Region.free_spec hi hf) (by simpa using hr) hy hS h
theorem wpAnyF_one {i : Nat} {fuel : Nat} {listed : Array Bool} {a : Act} {w : World} {S : Nat → World → Prop} (hr : Region.ready .any ops listed = [i])
    (h : wpOp P ops Q i (fun a' w' => ∃ S' : Nat → World → Prop, (∀ k, may ops i k → ∀ x, S' k x → S k x) ∧ (∀ k, S' k w') ∧ wpAnyF P ops Q fuel (listed.setIfInBounds i true) a' w' S') a w) : wpAnyF P ops Q (fuel + 1) listed a w S :=
  ⟨fun h0 => (by rw [hr] at h0; cases h0), fun j hj => by rw [hr] at hj; cases List.mem_singleton.1 hj; exact h⟩
theorem wpAnyF_done {listed : Array Bool} {a : Act} {w : World} {S : Nat → World → Prop} (hr : Region.ready .any ops listed = []) (h : Q .normal a w) :
    ∀ fuel, wpAnyF P ops Q fuel listed a w S
  | 0 => ⟨hr, h⟩
  | _ + 1 => ⟨fun _ => h, by rw [hr]; simp⟩
end
section
variable {P : Program} {T : Tab} {C C' : Cx} {s s' : St} {a : Act} {w w' : World}
theorem memN_iff {l : List Nat} {i : Nat} : memN l i = true ↔ i ∈ l := by
  induction l with
  | nil => simp [memN]
  | cons x r ih =>
    simp only [memN, Bool.or_eq_true, ih, List.mem_cons]
    constructor
    · rintro (h | h)
      · exact .inl (beq_nat h).symm
      · exact .inr h
    · rintro (rfl | h)
      · exact .inl (Nat.beq_refl _)
      · exact .inr h
theorem era_eq (n0 : Nat) (Wr : List Nat) : ∀ {h : Hp} {K : Hp → Prop}, era n0 Wr h K → ∃ hq, K hq ∧ ∀ id, getB hq id = if inW n0 Wr id = true then .gone else getB h id
  | [], K, h => ⟨[], h, fun id => by simp [getB]⟩
  | (i, b) :: r, K, h => by
    simp only [era] at h
    cases hm : inW n0 Wr i with
    | true =>
      rw [hm] at h
      obtain ⟨hq, h1, h2⟩ := era_eq n0 Wr h
      refine ⟨hq, h1, fun id => ?_⟩
      rw [h2, getB_cons]
      split
      · rfl
      · rename_i hn
        rw [if_neg (fun e => hn (by rw [e]; exact hm))]
    | false =>
      rw [hm] at h
      obtain ⟨hq, h1, h2⟩ := era_eq n0 Wr h
      refine ⟨_, h1, fun id => ?_⟩
      rw [getB_cons, getB_cons, h2]
      by_cases e : id = i
      · subst e; rw [if_pos rfl, if_neg (by rw [hm]; simp), if_pos rfl]
      · rw [if_neg e, if_neg e]
def eraCx (C : Cx) (h : Hp) (n0 : Nat) (Wr : List Nat) : Cx := { C with F := fun b => C.F b ∨ ∃ id, inW n0 Wr id = true ∧ ownB C h id = some b }
theorem ownB_era {n0 : Nat} {Wr : List Nat} {h hq : Hp} (hg : ∀ id, getB hq id = if inW n0 Wr id = true then .gone else getB h id) {id b : Nat} (ho : ownB (eraCx C h n0 Wr) hq id = some b) : ¬ inW n0 Wr id = true ∧ ownB C h id = some b := by
  unfold ownB at ho
  rw [hg] at ho
  by_cases hm : inW n0 Wr id = true
  · rw [if_pos hm] at ho; cases ho
  · rw [if_neg hm] at ho; exact ⟨hm, ho⟩
theorem XB_era {n0 : Nat} {Wr : List Nat} {h hq : Hp} (hg : ∀ id, getB hq id = if inW n0 Wr id = true then .gone else getB h id) (b : Nat) : XB (eraCx C h n0 Wr) hq b ↔ XB C h b := by
  constructor
  · rintro ((hF | ⟨id, hid, h1⟩) | ⟨id, ho⟩)
    · exact .inl hF
    · exact .inr ⟨id, h1⟩
    · exact .inr ⟨id, (ownB_era hg ho).2⟩
  · rintro (hF | ⟨id, ho⟩)
    · exact .inl (.inl hF)
    · by_cases hm : inW n0 Wr id = true
      · exact .inl (.inr ⟨id, hm, ho⟩)
      · refine .inr ⟨id, ?_⟩
        unfold ownB
        rw [hg, if_neg hm]
        exact ho
theorem ext_era {n0 : Nat} {Wr : List Nat} {hq : Hp} (hg : ∀ id, getB hq id = if inW n0 Wr id = true then .gone else getB s.heap id) :
    Ext C s w (eraCx C s.heap n0 Wr) ⟨s.env, hq, s.nx, s.gs, s.kn⟩ w := by
  refine ⟨fun _ _ _ => rfl, fun b _ h => (XB_era hg b).1 h, Nat.le_refl _, fun _ _ => ⟨rfl, rfl, rfl⟩, fun id _ wr' t' b' l' h => ?_⟩
  change getB hq id = _ at h
  rw [hg] at h
  split at h
  · cases h
  · exact ⟨wr', b', l', h, rfl⟩
theorem CS.era (hc : CS T C s a w) {n0 : Nat} {Wr : List Nat} {hq : Hp} (hg : ∀ id, getB hq id = if inW n0 Wr id = true then .gone else getB s.heap id) :
    CS T (eraCx C s.heap n0 Wr) ⟨s.env, hq, s.nx, s.gs, s.kn⟩ a w := by
  have E := ext_era (C := C) (w := w) hg
  refine ⟨fun t => (hc.env t).ext E rfl, fun id => ?_, fun id hid => ?_, fun i j b h1 h2 => hc.inj i j b (ownB_era hg h1).2 (ownB_era hg h2).2, fun id b ho => ?_, hc.g, hc.ge, hc.pin, hc.kn, hc.defers, hc.sz, fun b hF => ?_, hc.io⟩
  · show RepB T _ _ w id (getB hq id)
    rw [hg]
    split
    · exact trivial
    · by_cases hid : id < s.nx
      · exact (hc.blk id).ext E hid rfl (fun _ _ => rfl)
      · rw [hc.nx id (by omega)]; exact trivial
  · show getB hq id = _
    rw [hg]
    split
    · rfl
    · exact hc.nx id hid
  · obtain ⟨hn, ho⟩ := ownB_era hg ho
    obtain ⟨h1, h2, h3⟩ := hc.own id b ho
    refine ⟨h1, h2, ?_⟩
    rintro (hF | ⟨i, hi, h4⟩)
    · exact h3 hF
    · have := hc.inj id i _ ho h4
      subst this
      exact hn hi
  · rcases hF with hF | ⟨i, hi, h4⟩
    · exact hc.f b hF
    · exact (hc.own i _ h4).1
theorem era_F {n0 : Nat} {Wr : List Nat} {hq : Hp} (hg : ∀ id, getB hq id = if inW n0 Wr id = true then .gone else getB s.heap id) : ∀ {l : List AV} {us : List Value}, clrF n0 Wr s.heap l = true → all2 (RpF (eraCx C s.heap n0 Wr) ⟨s.env, hq, s.nx, s.gs, s.kn⟩) l us → all2 (RpF C s) l us
  | [], [], _, _ => trivial
  | [], _ :: _, _, h => h.elim
  | _ :: _, [], _, h => h.elim
  | x :: r, u :: us, hcl, h => by
    have hr : clrF n0 Wr s.heap r = true := by
      cases x <;> simp only [clrF, Bool.and_eq_true] at hcl <;> first | exact hcl | exact hcl.2
    obtain ⟨h, h2⟩ := h
    refine ⟨?_, era_F hg hr h2⟩
    clear hr h2
    cases x <;> simp only [RpF] at h ⊢
    case int => exact h
    case ptr => exact h
    case own i =>
      refine ⟨h.1, ?_⟩
      simp only [clrF, Bool.and_eq_true] at hcl
      cases hb : getB s.heap i with
      | arr wr t b l =>
        have hn : ¬ inW n0 Wr i = true := fun hm => by have h1 := hcl.1; rw [hm, hb] at h1; simp [isArr] at h1
        have h2 := h.2
        rw [hg, if_neg hn, hb] at h2
        exact h2
      | _ => trivial
theorem era_K {n0 : Nat} {Wr : List Nat} {hq : Hp} (hg : ∀ id, getB hq id = if inW n0 Wr id = true then .gone else getB s.heap id) {x : AV} (hcl : clrC n0 Wr s.heap x = true) {v : Value} (h : RpK T (eraCx C s.heap n0 Wr) ⟨s.env, hq, s.nx, s.gs, s.kn⟩ w x v) : RpK T C s w x v := by
  have hX : ∀ b, XB C s.heap b → XB (eraCx C s.heap n0 Wr) hq b := fun b hb => (XB_era hg b).2 hb
  have hnot : ∀ {id : Nat} {wr : Bool} {t : TypeId} {b : Bool} {l : List (List AV)}, (!(inW n0 Wr id && isArr (getB s.heap id))) = true → getB s.heap id = .arr wr t b l → ¬ inW n0 Wr id = true := fun {id wr t b l} h hb hm => by
    rw [hm, hb] at h; simp [isArr] at h
  cases x <;> simp only [RpK] at h ⊢
  all_goals try exact h
  case sl b t l => exact h.weak hX
  case own id =>
    refine ⟨h.1, ?_⟩
    cases hb : getB s.heap id with
    | arr wr t b l =>
      have h2 := h.2
      rw [hg, if_neg (hnot hcl hb), hb] at h2
      exact h2
    | _ => trivial
  case vw id lo n =>
    refine ⟨h.1, ?_⟩
    cases hb : getB s.heap id with
    | arr wr t b l =>
      have h2 := h.2
      rw [hg, if_neg (hnot hcl hb), hb] at h2
      exact h2
    | _ => trivial
  case elt id i off =>
    refine ⟨h.1, ?_⟩
    cases hb : getB s.heap id with
    | arr wr t b l =>
      have h2 := h.2
      rw [hg, if_neg (hnot hcl hb), hb] at h2
      exact h2
    | _ => trivial
  case rel t l i off =>
    obtain ⟨hi, g, o, cap, cks, hk, hr, rfl⟩ := h
    exact ⟨hi, g, o, cap, cks, hk, hr.weak hX, rfl⟩
  case fn f first cap =>
    obtain ⟨fs, cs, rfl, h1, h2⟩ := h
    simp only [clrC, Bool.and_eq_true] at hcl
    exact ⟨fs, cs, rfl, era_F hg hcl.1 h1, era_F hg hcl.2 h2⟩
theorem era_L {n0 : Nat} {Wr : List Nat} {hq : Hp} (hg : ∀ id, getB hq id = if inW n0 Wr id = true then .gone else getB s.heap id) : ∀ {l : List AV} {us : List Value}, clrL n0 Wr s.heap l = true → all2 (RpK T (eraCx C s.heap n0 Wr) ⟨s.env, hq, s.nx, s.gs, s.kn⟩ w) l us → all2 (RpK T C s w) l us
  | [], [], _, _ => trivial
  | [], _ :: _, _, h => h.elim
  | _ :: _, [], _, h => h.elim
  | x :: r, u :: us, hcl, h => by
    simp only [clrL, Bool.and_eq_true] at hcl
    exact ⟨era_K hg hcl.1 h.1, era_L hg hcl.2 h.2⟩
theorem era_A {n0 : Nat} {Wr : List Nat} {hq : Hp} (hg : ∀ id, getB hq id = if inW n0 Wr id = true then .gone else getB s.heap id) {x : AV} (hcl : clrA n0 Wr s.heap x = true) {v : Value} (h : RpA T (eraCx C s.heap n0 Wr) ⟨s.env, hq, s.nx, s.gs, s.kn⟩ w x v) : RpA T C s w x v := by
  cases x
  case agg l =>
    obtain ⟨cs, rfl, h⟩ := h
    exact ⟨cs, rfl, era_L hg hcl h⟩
  all_goals (simp only [RpA] at h ⊢; simp only [clrA] at hcl; exact era_K hg hcl h)
theorem era_AL {n0 : Nat} {Wr : List Nat} {hq : Hp} (hg : ∀ id, getB hq id = if inW n0 Wr id = true then .gone else getB s.heap id) : ∀ {l : List AV} {us : List Value}, clrAL n0 Wr s.heap l = true → all2 (RpA T (eraCx C s.heap n0 Wr) ⟨s.env, hq, s.nx, s.gs, s.kn⟩ w) l us → all2 (RpA T C s w) l us
  | [], [], _, _ => trivial
  | [], _ :: _, _, h => h.elim
  | _ :: _, [], _, h => h.elim
  | x :: r, u :: us, hcl, h => by
    simp only [clrAL, Bool.and_eq_true] at hcl
    exact ⟨era_A hg hcl.1 h.1, era_AL hg hcl.2 h.2⟩
theorem era_S {n0 : Nat} {Wr : List Nat} {hq : Hp} (hg : ∀ id, getB hq id = if inW n0 Wr id = true then .gone else getB s.heap id) {x : AV} (hcl : clrV n0 Wr s.heap x = true) {v : Value} (h : RpS T (eraCx C s.heap n0 Wr) ⟨s.env, hq, s.nx, s.gs, s.kn⟩ w x v) : RpS T C s w x v := by
  cases x
  case tup l =>
    obtain ⟨cs, rfl, h⟩ := h
    exact ⟨cs, rfl, era_AL hg hcl h⟩
  case iface t y =>
    obtain ⟨u, rfl, h⟩ := h
    exact ⟨u, rfl, era_A hg hcl h⟩
  all_goals (simp only [RpS] at h ⊢; simp only [clrV] at hcl; exact era_A hg hcl h)
theorem RpE_of_S {x : AV} {v : Value} (h : RpS T C s w x v) : RpE T C s w x v := by
  cases x <;> first | exact h | exact h.elim
structure XAtD (P : Program) (T : Tab) (kp : AV → Hp → Nat → Prop) (mv : FuncId → List Nat) (C : Cx) (n0 : Nat) (Bs : List (List Nat)) (all : List Oper) (l : List (Nat × Oper)) (k : St → Prop) (s : St) (a : Act) (w : World) : Prop where
  cs : CS T C s a w
  gi : GInv all (l.map (·.2)) s
  go : xopsD T (AC P T kp mv) n0 Bs all l s.env s.heap s.nx s.gs s.kn k
theorem xopD_quiet {kp : AV → Hp → Nat → Prop} {mv : FuncId → List Nat} (HT : tabOK P T = true) {n0 : Nat} {Bs : List (List Nat)} {ops : Array Oper} {p : Nat × Oper} {r : List (Nat × Oper)} {k : St → Prop} (hN : ∀ d, p.2.dst = some d → C.N.has d) (hq : isQuiet T p.2.op = true) (x : XAtD P T kp mv C n0 Bs ops.toList (p :: r) k s a w) :
    ∃ val, YieldsIf P ops (Same (eraCx C s.heap n0 (wset ops.toList p.1 0 Bs)) w) p.2 val a ∧ ∃ s', XAtD P T kp mv C n0 Bs ops.toList r k s' (a.put p.2.dst val) w ∧ s'.heap = s.heap := by
  obtain ⟨hc, hi, hgo⟩ := x
  simp only [xopsD_cons] at hgo
  simp only [List.map_cons] at hi
  have hg := guard_sound hc hi rfl p.2
  generalize guardOf ops.toList (p.2 :: r.map (·.2)) p.2 s.env s.gs s.kn = gv at hgo hg
  cases gv with
  | bad => exact hgo.elim
  | skip =>
    rw [putK_eq] at hgo
    exact ⟨undef, .inr ⟨hg, rfl⟩, _, ⟨hc.put p.2.dst hN (show RpE T C s w .undef undef from rfl), hi.put .undef s.heap s.nx, hgo⟩, rfl⟩
  | run ch gs' =>
    obtain ⟨hc1, hi1, hdom, hch⟩ := hg
    dsimp only at hgo
    rw [hq] at hgo
    cases ch with
    | nil =>
      dsimp only at hgo
      rw [forceL_eq] at hgo
      obtain ⟨hh, hgo, hget⟩ := era_eq _ _ hgo
      have hcq := hc1.era (hq := hh) hget
      have hiq : GInv ops.toList (p.2 :: r.map (·.2)) ⟨s.env, hh, s.nx, gs', s.kn⟩ := ⟨hi1.gi, hi1.nd, hi1.dm⟩
      have hw : Region.wanted p.2 (yielded ops a.tmps) = true := hch.1 trivial
      obtain ⟨v, hv, hval⟩ := xquiet_sound (P := P) (Hyp := True) (nd := XNeed) HT hcq (fun c X h => ⟨h.x, fun _ => h.c⟩) (fun _ => opd_rep hcq hcq.kn)
        (fun _ y => strip_rep (opr_rep hcq y) (fun p hp => .inl (hcq.kn p hp))) (fun _ => pick_rep hcq hiq hcq.kn) hgo
      obtain ⟨val, h1, h2⟩ := hval trivial
      cases hcl : clrV n0 (wset ops.toList p.1 0 Bs) s.heap v with
      | false => rw [hcl] at hv; exact hv.elim
      | true =>
      rw [hcl, cond_true, putK_eq] at hv
      have hno : ∀ ch y, v ≠ .opt ch y := fun ch y e => by subst e; exact h2.elim
      refine ⟨val, .inl ⟨hw, h1⟩, _, ⟨hc1.put p.2.dst hN ?_, hi1.put v s.heap s.nx, hv⟩, rfl⟩
      exact RpE_of_S (era_S (s := ⟨s.env, s.heap, s.nx, gs', s.kn⟩) hget hcl h2)
    | cons c cs =>
      dsimp only at hgo
      rw [forceL_eq] at hgo
      obtain ⟨hh, hgo, hget⟩ := era_eq _ _ hgo
      have hcq := hc1.era (hq := hh) hget
      have hiq : GInv ops.toList (p.2 :: r.map (·.2)) ⟨s.env, hh, s.nx, gs', s.kn⟩ := ⟨hi1.gi, hi1.nd, hi1.dm⟩
      have hall : chProp gs' (c :: cs) → ∀ p ∈ (c :: cs) ++ s.kn, gsGet gs' p.1 = some p.2 := fun hp p hpm => by
        rcases List.mem_append.1 hpm with hm | hm
        · exact chProp_iff.1 hp p hm
        · exact hc1.kn p hm
      obtain ⟨v, hv, hval⟩ := xquiet_sound (P := P) (Hyp := chProp gs' (c :: cs)) (nd := ndOf gs' (c :: cs)) HT hcq (fun c' X h => ⟨XNeed.x h, XNeed.c h⟩) (fun hp => opd_rep hcq (hall hp))
        (fun hp y => strip_rep (opr_rep hcq y) (fun p hpm => .inl (hall hp p hpm))) (fun hp => pick_rep hcq hiq (hall hp)) hgo
      cases hcl : clrV n0 (wset ops.toList p.1 0 Bs) s.heap v with
      | false => rw [hcl] at hv; exact hv.elim
      | true =>
      rw [hcl, cond_true, putK_eq] at hv
      by_cases hp : chProp gs' (c :: cs)
      · obtain ⟨val, h1, h2⟩ := hval hp
        exact ⟨val, .inl ⟨hch.1 hp, h1⟩, _, ⟨hc1.put p.2.dst hN (show RpE T C _ w (.opt (c :: cs) v) val from ⟨hdom, .inl ⟨hp, era_S (s := ⟨s.env, s.heap, s.nx, gs', s.kn⟩) hget hcl h2⟩⟩), hi1.put _ s.heap s.nx, hv⟩, rfl⟩
      · have hw : Region.wanted p.2 (yielded ops a.tmps) = false := by
          cases hh : Region.wanted p.2 (yielded ops a.tmps) with
          | false => rfl
          | true => exact absurd (hch.2 hh) hp
        exact ⟨undef, .inr ⟨hw, rfl⟩, _, ⟨hc1.put p.2.dst hN (show RpE T C _ w (.opt (c :: cs) v) undef from ⟨hdom, .inr ⟨hp, rfl⟩⟩), hi1.put _ s.heap s.nx, hv⟩, rfl⟩
end
section
variable {P : Program} {T : Tab} {kp : AV → Hp → Nat → Prop} {mv : FuncId → List Nat} {n0 : Nat} {C C' : Cx} {s s' : St} {a : Act} {w w' : World}
theorem wset_mem {all : List Oper} {j k id : Nat} (hm : mayB all j k = true) (hne : j ≠ k) : ∀ {Bs : List (List Nat)} {n : Nat}, n ≤ j → id ∈ ((nth Bs (j - n)).getD []) → id ∈ wset all k n Bs
  | [], n, _, h => by simp [nth] at h
  | b :: r, n, hn, h => by
    simp only [wset, List.mem_append]
    by_cases e : n = j
    · subst e
      left
      have hb : Nat.beq n k = false := by
        cases hb : Nat.beq n k with
        | false => rfl
        | true => exact absurd (beq_nat hb) hne
      rw [hm, hb]
      simpa [nth] using h
    · right
      refine wset_mem hm hne (n := n + 1) (by omega) ?_
      have e2 : j - n = (j - (n + 1)) + 1 := by omega
      rw [e2] at h
      simpa [nth] using h
theorem geAny_iff {n : Nat} {l : List Nat} : geAny n l = true ↔ ∃ x ∈ l, n ≤ x := by
  induction l with
  | nil => simp [geAny]
  | cons y r ih => simp only [geAny, Bool.or_eq_true, ih, List.mem_cons, exists_eq_or_imp]; exact or_congr_left ⟨Nat.le_of_ble_eq_true, Nat.ble_eq_true_of_le⟩
theorem inW_mono {n : Nat} {B W : List Nat} (h : ∀ id, id ∈ B → id ∈ W) {id : Nat} (hid : inW n B id = true) : inW n W id = true := by
  simp only [inW, Bool.or_eq_true, Bool.and_eq_true] at hid ⊢
  rcases hid with hid | ⟨h1, h2⟩
  · exact .inl (memN_iff.2 (h id (memN_iff.1 hid)))
  · obtain ⟨x, hx, hn⟩ := geAny_iff.1 h2
    exact .inr ⟨h1, geAny_iff.2 ⟨x, h x hx, hn⟩⟩
theorem effD_wp (HT : tabOK P T = true) (hc : CS T C s a w) {B : List Nat} {o : Oper} {k : KE} {next : Act → World → Prop} {Q : Exit → Act → World → Prop} (h : xeffD T (AC P T kp mv) n0 B (opd s.env s.kn) o.op s.env s.heap s.nx k) (hpan : PanOK T kp C Q)
    (hd : ∀ d, o.dst = some d → C.N.has d) (hnext : ∀ v h' nx' C' val w', k v s.env h' nx' → KeepC C C' → CS T C' ⟨putE s.env o.dst v, h', nx', s.gs, s.kn⟩ (a.put o.dst val) w' → Fr (fun id => inW n0 B id = true) C s w C' ⟨s.env, h', nx', s.gs, s.kn⟩ w' → next (a.put o.dst val) w') : o.wp P a w next Q := by
  unfold xeffD at h
  have hW : ∀ id, wrOf (opd s.env s.kn) o.op = some id → inW n0 B id = true := fun id e => by
    rw [e] at h
    cases hm : inW n0 B id with
    | true => rfl
    | false => simp only [hm] at h; exact h.elim
  have h2 : xeff T (AC P T kp mv) (inW n0 B) (opd s.env s.kn) o.op s.env s.heap s.nx k := by
    cases e : wrOf (opd s.env s.kn) o.op with
    | none => rw [e] at h; exact h
    | some i =>
      rw [e] at h
      have hm := hW i e
      simp only [hm, cond_true] at h
      exact h
  refine eff_wp hc (xeff_sound HT hc (opd_rep hc hc.kn) h2) hd (fun v h' nx' C' val w' q1 q2 q3 q4 => hnext v h' nx' C' val w' q1 q2 q3 (q4.mono fun id hid => hid.elim (hW id) fun e => e)) (fun x val h' nx' C' w' r1 r2 r3 r4 => hpan.at r1 r2 r3 r4)
theorem xopD_eff (HT : tabOK P T = true) {Bs : List (List Nat)} {ops : Array Oper} {i : Nat} {o : Oper} {r : List (Nat × Oper)} {k : St → Prop} {Q : Exit → Act → World → Prop} (hi : ops[i]? = some o) (hN : ∀ d, o.dst = some d → C.N.has d) (hq : isQuiet T o.op = false) (x : XAtD P T kp mv C n0 Bs ops.toList ((i, o) :: r) k s a w) (hpan : PanOK T kp C Q) :
    wpOp P ops Q i (fun a' w' => ∃ C' s', KeepC C C' ∧ Fr (fun id => inW n0 ((nth Bs i).getD []) id = true) C s w C' s' w' ∧ XAtD P T kp mv C' n0 Bs ops.toList r k s' a' w') a w := by
  obtain ⟨hc, hgi, hgo⟩ := x
  simp only [xopsD_cons] at hgo
  simp only [List.map_cons] at hgi
  have hg := guard_sound hc hgi rfl o
  generalize guardOf ops.toList (o :: r.map (·.2)) o s.env s.gs s.kn = gv at hgo hg
  unfold wpOp
  simp only [hi]
  have skip : ∀ {s1 : St}, s1.heap = s.heap → CS T C s1 a w → GInv ops.toList (o :: r.map (·.2)) s1 → Region.wanted o (yielded ops a.tmps) = false → xopsD T (AC P T kp mv) n0 Bs ops.toList r (putE s1.env o.dst .undef) s1.heap s1.nx s1.gs s1.kn k →
      ∃ C' s', KeepC C C' ∧ Fr (fun id => inW n0 ((nth Bs i).getD []) id = true) C s w C' s' w ∧ XAtD P T kp mv C' n0 Bs ops.toList r k s' (a.put o.dst undef) w := fun {s1} q0 q1 q2 q3 q4 =>
    ⟨C, _, KeepC.refl C, ⟨fun _ _ _ => rfl, Nat.le_refl _, fun id b h => .inl (by rw [← q0]; exact h)⟩, q1.put o.dst hN (show RpE T C s1 w .undef undef from rfl), q2.put .undef s1.heap s1.nx, q4⟩
  have run : ∀ {s1 : St}, s1.heap = s.heap → CS T C s1 a w → GInv ops.toList (o :: r.map (·.2)) s1 → (xeffD T (AC P T kp mv) n0 ((nth Bs i).getD []) (opd s1.env s1.kn) o.op s1.env s1.heap s1.nx fun v env1 h' nx' => putK env1 o.dst v fun env' => xopsD T (AC P T kp mv) n0 Bs ops.toList r env' h' nx' s1.gs s1.kn k) →
      o.wp P a w (fun a' w' => ∃ C' s', KeepC C C' ∧ Fr (fun id => inW n0 ((nth Bs i).getD []) id = true) C s w C' s' w' ∧ XAtD P T kp mv C' n0 Bs ops.toList r k s' a' w') Q := fun {s1} qh q1 q2 q3 => by
    refine effD_wp HT q1 q3 hpan hN ?_
    intro v h' nx' C' val w' hk hkc hcs hfr
    rw [putK_eq] at hk
    refine ⟨C', _, hkc, ⟨fun b hb hn => hfr.1 b hb fun id hid => by rw [qh]; exact hn id hid, hfr.2.1, fun id b e => ?_⟩, hcs, q2.put v h' nx', hk⟩
    have := hfr.2.2 id b e
    rw [qh] at this
    exact this
  cases gv with
  | bad => exact hgo.elim
  | skip =>
    rw [putK_eq] at hgo
    simp only [hg, Bool.false_eq_true, if_false]
    exact skip rfl hc hgi hg hgo
  | run ch gs' =>
    obtain ⟨hc1, hi1, hdom, hch⟩ := hg
    dsimp only at hgo
    rw [hq] at hgo
    cases ch with
    | nil =>
      dsimp only at hgo
      have hw : Region.wanted o (yielded ops a.tmps) = true := hch.1 trivial
      simp only [hw, if_true]
      exact .inl (run (s1 := ⟨s.env, s.heap, s.nx, gs', s.kn⟩) rfl hc1 hi1 hgo)
    | cons c cs =>
      dsimp only at hgo
      have hrev : ∀ (gs : List (Nat × Bool)), chProp gs (c :: cs).reverse ↔ chProp gs (c :: cs) := fun gs => by simp only [chProp_iff, List.mem_reverse]
      obtain ⟨env', kn', q1, q2, q3⟩ := xsplit_sound _ _ _ hc1 hi1 (fun p hp => hdom p (List.mem_reverse.1 hp)) hgo
      rcases q3 with ⟨q3, q4⟩ | ⟨q3, q4⟩
      · have hw : Region.wanted o (yielded ops a.tmps) = true := hch.1 ((hrev _).1 q3)
        simp only [hw, if_true]
        exact .inl (run (s1 := ⟨env', s.heap, s.nx, gs', kn'⟩) rfl q1 q2 q4)
      · have hw : Region.wanted o (yielded ops a.tmps) = false := by
          cases hh : Region.wanted o (yielded ops a.tmps) with
          | false => rfl
          | true => exact absurd ((hrev _).2 (hch.2 hh)) q3
        simp only [hw, Bool.false_eq_true, if_false]
        rw [putK_eq] at q4
        exact skip (s1 := ⟨env', s.heap, s.nx, gs', kn'⟩) rfl q1 q2 hw q4
def lasts (n0 : Nat) (ops : Array Oper) (Bs : List (List Nat)) (C : Cx) (h : Hp) (w : World) (k : Nat) : World → Prop := Same (eraCx C h n0 (wset ops.toList k 0 Bs)) w
theorem lasts_self (n0 : Nat) (ops : Array Oper) (Bs : List (List Nat)) (C : Cx) (h : Hp) (w : World) (k : Nat) : lasts n0 ops Bs C h w k w := Same.refl _ w
theorem lasts_eff {ops : Array Oper} {Bs : List (List Nat)} {i : Nat} (hk : KeepC C C') (hf : Fr (fun id => inW n0 ((nth Bs i).getD []) id = true) C s w C' s' w') {k : Nat} (hm : may ops i k) (x : World) (hx : lasts n0 ops Bs C' s'.heap w' k x) : lasts n0 ops Bs C s.heap w k x := by
  intro b hb hF
  have hmem0 : ∀ id, id ∈ (nth Bs i).getD [] → id ∈ wset ops.toList k 0 Bs := fun id hid => wset_mem hm.1 hm.2 (Nat.zero_le _) (by simpa using hid)
  have hmem : ∀ id, inW n0 ((nth Bs i).getD []) id = true → inW n0 (wset ops.toList k 0 Bs) id = true := fun id hid => inW_mono hmem0 hid
  have h1 : w'.heap[b]? = w.heap[b]? := hf.1 b hb fun id hid e => hF (.inr ⟨id, hmem id hid, e⟩)
  rw [← h1]
  refine hx b (Nat.lt_of_lt_of_le hb hf.2.1) ?_
  rintro (hF' | ⟨id, hid, e⟩)
  · exact hF (.inl (by rw [← hk.1]; exact hF'))
  · rcases hf.2.2 id b e with e | e | ⟨id', h2, h3⟩
    · exact hF (.inr ⟨id, hid, e⟩)
    · omega
    · exact hF (.inr ⟨id', hmem id' h2, h3⟩)
theorem drawnD_sound (HT : tabOK P T = true) {Bs : List (List Nat)} {ops : Array Oper} {k : St → Prop} {Q : Exit → Act → World → Prop} (hQp : ∀ (o : Oper) v c a w, o ∈ ops.toList → Q (.panic c) (Act.put a o.dst v) w → Q (.panic c) a w) (hs : Region.noSelect ops = true) :
    ∀ (l : List (Nat × Oper)) (is : List Nat) (listed : Array Bool), all2 (fun p i => p.1 = i ∧ nth ops.toList i = some p.2) l is → drawChkD T ops is listed = true → ∀ (C : Cx), (∀ p ∈ l, ∀ d, p.2.dst = some d → C.N.has d) →
    ∀ (s : St) (a : Act) (w : World), XAtD P T kp mv C n0 Bs ops.toList l k s a w → PanOK T kp C Q → (∀ C' s' a' w', KeepC C C' → CS T C' s' a' w' → k s' → Q .normal a' w') → wpAnyF P ops Q l.length listed a w (lasts n0 ops Bs C s.heap w) := by
  intro l
  induction l with
  | nil =>
    intro is listed hall hch C _ s a w x hpan hQ
    cases is with
    | nil =>
      simp only [drawChkD] at hch
      have hgo := x.go
      simp only [xopsD_nil] at hgo
      refine wpAnyF_done ?_ (hQ C s a w (KeepC.refl C) x.cs hgo) _
      split at hch
      · assumption
      · cases hch
    | cons _ _ => exact hall.elim
  | cons p r ih =>
    intro is listed hall hch C hN s a w x hpan hQ
    cases is with
    | nil => exact hall.elim
    | cons i is =>
      simp only [drawChkD, Bool.and_eq_true] at hch
      obtain ⟨h1, h2⟩ := hch
      obtain ⟨i', o⟩ := p
      obtain ⟨⟨rfl, ho⟩, hall⟩ := hall
      have ho : nth ops.toList i' = some o := ho
      dsimp only at h1 h2
      rw [ho] at h1
      dsimp only at h1
      have hi : ops[i']? = some o := by have := nth_some ho; simpa using this
      cases hq : isQuiet T o.op with
      | true =>
        rw [hq, cond_true, Bool.and_eq_true] at h1
        obtain ⟨val, q1, s', q3, q2⟩ := xopD_quiet HT (hN (i', o) (by simp)) hq x
        have := ih is _ hall h2 C (fun o' ho' => hN o' (List.mem_cons_of_mem _ ho')) s' _ w q3 hpan hQ
        rw [q2] at this
        exact wpAnyF_take hi hs h1.2 h1.1 (fun c a w q => hQp o val c a w (List.mem_of_getElem? (nth_some ho)) q) q1 (fun k => lasts_self _ _ _ _ _ _ k) this
      | false =>
        rw [hq, cond_false] at h1
        have hr : Region.ready .any ops listed = [i'] := by
          split at h1
          · rename_i j e
            rw [e, beq_nat h1]
          · cases h1
        refine wpAnyF_one hr (wpOp_mono ?_ (xopD_eff HT hi (hN (i', o) (by simp)) hq x hpan))
        rintro a' w' ⟨C', s', hk, hf, hx⟩
        exact ⟨_, fun k hm x hx => lasts_eff hk hf hm x hx, fun k => lasts_self _ _ _ _ _ _ k, ih is _ hall h2 C' (fun o' ho' d hd => by rw [hk.2.2.2.2.1]; exact hN o' (List.mem_cons_of_mem _ ho') d hd) s' a' w' hx (hpan.keep hk) (fun C2 s2 a2 w2 hk2 => hQ C2 s2 a2 w2 (hk.trans hk2))⟩
end
structure W (α : Type) where
  pr : (α → Prop) → Prop
  mn : ∀ {R R' : α → Prop}, (∀ a, R a → R' a) → pr R → pr R'
def W.run {α : Type} (x : W α) (R : α → Prop) : Prop := x.pr R
theorem W.mono {α : Type} (x : W α) {R R' : α → Prop} (h : ∀ a, R a → R' a) (r : x.run R) : x.run R' := x.mn h r
namespace W
variable {α β σ ε : Type}
def ret (a : α) : W α := ⟨fun R => R a, fun h r => h _ r⟩
def bind (x : W α) (f : α → W β) : W β := ⟨fun R => x.run fun a => (f a).run R, fun h r => x.mono (fun a q => (f a).mono h q) r⟩
def need (c : Prop) (x : W α) : W α := ⟨fun R => XNeed c (x.run R), fun h r => ⟨r.c, x.mono h r.x⟩⟩
def ite (b : Bool) (x y : W α) : W α := ⟨fun R => XSplit b (x.run R) (y.run R), fun h r => ⟨fun e => x.mono h (r.t e), fun e => y.mono h (r.f e)⟩⟩
def fail : W α := ⟨fun _ => False, fun _ r => r⟩
def on {α β : Type} (f : α → Prop) (g : β → Prop) : α ⊕ β → Prop
  | .inl a => f a
  | .inr b => g b
theorem on_mono {f f' : α → Prop} {g g' : β → Prop} (h : ∀ a, f a → f' a) (h' : ∀ b, g b → g' b) : ∀ x, on f g x → on f' g' x
  | .inl a, q => h a q
  | .inr b, q => h' b q
def loop (f : σ → W (σ ⊕ ε)) (s : σ) : W ε :=
  ⟨fun R => ∀ I : σ → Prop, (∀ s, (f s).run (on I R) → I s) → I s, fun h r I hI => r I fun s q => hI s ((f s).mono (on_mono (fun _ => id) h) q)⟩
def els (f : α → W β) : α ⊕ β → W β
  | .inl a => f a
  | .inr b => ret b
theorem bindE {x : W α} {f : α → W β} {R : β → Prop} (h : (bind x f).run R) : x.run fun a => (f a).run R := h
def sum {γ : Type} (f : α → W γ) (g : β → W γ) : α ⊕ β → W γ
  | .inl a => f a
  | .inr b => g b
theorem call {x : W α} {f : α → W β} {R : β → Prop} {R' : α → Prop} (h : (bind x f).run R) (k : ∀ a, (f a).run R → R' a) : x.run R' := x.mono k h
theorem loop_unroll {f : σ → W (σ ⊕ ε)} {s : σ} {R : ε → Prop} (h : (f s).run (on (fun s' => (loop f s').run R) R)) : (loop f s).run R :=
  fun I hI => hI s ((f s).mono (on_mono (fun s' q => q I hI) fun _ => id) h)
theorem loop_inv {f : σ → W (σ ⊕ ε)} {R : ε → Prop} (I : σ → Prop) (μ : σ → Nat) (h : ∀ s, I s → (f s).run (on (fun s' => I s' ∧ μ s' < μ s) R)) {s : σ} (hs : I s) : (loop f s).run R := by
  have key : ∀ n s, μ s = n → I s → (loop f s).run R := by
    intro n
    induction n using Nat.strongRecOn with
    | _ n ih =>
      intro s hn hs
      exact loop_unroll ((f s).mono (on_mono (fun s' q => ih (μ s') (hn ▸ q.2) s' rfl q.1) fun _ => id) (h s hs))
  exact key _ s rfl hs
@[simp] theorem run_ret {a : α} {R : α → Prop} : (ret a).run R = R a := rfl
@[simp] theorem run_bind {x : W α} {f : α → W β} {R : β → Prop} : (bind x f).run R = x.run fun a => (f a).run R := rfl
@[simp] theorem run_need {c : Prop} {x : W α} {R : α → Prop} : (need c x).run R ↔ c ∧ x.run R := ⟨fun h => ⟨h.c, h.x⟩, fun h => ⟨h.1, h.2⟩⟩
@[simp] theorem run_ite {b : Bool} {x y : W α} {R : α → Prop} : (ite b x y).run R ↔ if b = true then x.run R else y.run R := by
  cases b
  · exact ⟨fun h => by simpa using h.f rfl, fun h => ⟨(fun e => nomatch e), fun _ => by simpa using h⟩⟩
  · exact ⟨fun h => by simpa using h.t rfl, fun h => ⟨fun _ => by simpa using h, (fun e => nomatch e)⟩⟩
@[simp] theorem on_inl {f : α → Prop} {g : β → Prop} {a : α} : on f g (.inl a) = f a := rfl
@[simp] theorem on_inr {f : α → Prop} {g : β → Prop} {b : β} : on f g (.inr b) = g b := rfl
@[simp] theorem sum_inl {γ : Type} {f : α → W γ} {g : β → W γ} {a : α} : sum f g (.inl a) = f a := rfl
@[simp] theorem sum_inr {γ : Type} {f : α → W γ} {g : β → W γ} {b : β} : sum f g (.inr b) = g b := rfl
@[simp] theorem els_inl {f : α → W β} {a : α} : els f (.inl a) = f a := rfl
@[simp] theorem els_inr {f : α → W β} {b : β} : els f (.inr b) = ret b := rfl
end W
abbrev Rws := List (List AV)
def ri (l : Rws) (i j : Nat) : Int := (cellOf l i j).toInt
def rb (l : Rws) (i j : Nat) : Bool := (cellOf l i j).toBool
def rs (l : Rws) (i j : Nat) : ByteArray := (cellOf l i j).toStr
def rn (l : Rws) (i j : Nat) : Bool := (cellOf l i j).toNil
def rr (l : Rws) (i j : Nat) : Rws := (cellOf l i j).toRows
def bs (l : List Nat) : ByteArray := ⟨(l.map Nat.toUInt8).toArray⟩
abbrev I (n : Int) : AV := .int .i64 n
abbrev B (b : Bool) : AV := .bool b
abbrev L (b : Bool) (l : Rws) : AV := .sl b 0 l
inductive FS where
  | int (lo hi : Int) | bool | str | sl (N : Nat) (fs : List FS)
mutual
def fmF : FS → AV → Prop
  | .int lo hi, x => ∃ m : Int, x = .int .i64 m ∧ lo ≤ m ∧ m ≤ hi
  | .bool, x => ∃ b, x = .bool b
  | .str, x => ∃ s, x = .str s
  | .sl N fs, x => ∃ b l, x = .sl b 0 l ∧ (b = true → l = []) ∧ l.length ≤ N ∧ ∀ r ∈ l, fmR fs r
def fmR : List FS → List AV → Prop
  | [], [] => True
  | f :: fs, x :: xs => fmF f x ∧ fmR fs xs
  | _, _ => False
end
theorem fmR_get : ∀ {fs : List FS} {r : List AV}, fmR fs r → ∀ {j : Nat} {f : FS}, fs[j]? = some f → ∃ x, r[j]? = some x ∧ fmF f x
  | f :: fs, x :: xs, h, 0, g, hg => by unfold fmR at h; simp at hg; subst hg; exact ⟨x, rfl, h.1⟩
  | f :: fs, x :: xs, h, j + 1, g, hg => by unfold fmR at h; simpa using fmR_get h.2 (by simpa using hg)
  | [], _, _, _, _, hg => by simp at hg
  | _ :: _, [], h, _, _, _ => by unfold fmR at h; exact h.elim
abbrev FS.i64 : FS := .int (-9223372036854775808) 9223372036854775807
abbrev FS.i32 : FS := .int (-2147483648) 2147483647
abbrev FS.i16 : FS := .int (-32768) 32767
abbrev FS.i8 : FS := .int (-128) 127
abbrev FS.u8 : FS := .int 0 255
abbrev opF : List FS := [.i64, .i64, .i64, .i64, .i64, .i64, .i64, .i64, .i64, .i64, .i64, .i64, .sl 70368744175616 [.i16], .sl 35184372087808 [.i32], .i64, .i64, .i64, .i64, .i64, .i64, .i64, .i64]
abbrev opsF : FS := .sl 676622540150 opF
abbrev i8sF : FS := .sl 140737488355328 [.i8]
def Wd (r : Option Nat) : Fence := { Fence.wide with round := r }
section
variable {r : Option Nat} {P : Program} {ops : Array Oper} {Q : Exit → Act → World → Prop}
theorem room_Wd (r : Option Nat) (n : Nat) : (Wd r).room n := fun _ h => by simp [Wd, Fence.wide] at h
theorem callsIn_Wd {n : Nat} {f : FuncId} {args : Array Value} {w : World} {R : Ending → World → Prop} : CallsIn (Wd r) n P f args w R ↔ Calls P f args w R := callsIn_wide (n := n)
theorem rowsIn_Wd {n : Nat} {row : String} {args : Array Value} {w : World} {R : Value → World → Prop} (h : Rows P row args w R) : RowsIn (Wd r) n P row args w R := fun c cs _ =>
  let ⟨v, w', r1, s⟩ := h c cs
  ⟨v, w', r1, stepsIn_wide.2 s⟩
theorem upon_in {o : Oper} {n : Nat} {a : Act} {K : Act → World → Prop} {res : Result Next} (h : o.upon P a K Q res) : o.uponIn (Wd r) n P a K Q res := by
  cases res with
  | ok x w' =>
    cases x <;> simp only [Oper.upon, Oper.uponIn] at h ⊢ <;> first
      | exact h
      | exact ⟨fun e => by simp [Wd, Fence.wide] at e, callsIn_Wd.2 (h.mono fun e w'' q => by cases e <;> exact q)⟩
      | exact ⟨fun e => by simp [Wd, Fence.wide] at e, rowsIn_Wd h⟩
      | exact h.elim
  | halt x w' => cases x <;> simp only [Oper.upon, Oper.uponIn] at h ⊢ <;> exact h
def noDef (ops : Array Oper) : Prop := ∀ o ∈ ops.toList, ∀ c, o.op ≠ .defer c
theorem wpOp_in (hd : noDef ops) (hq : ¬ LetsOut Q) {n i : Nat} {K K' : Act → World → Prop} (hk : ∀ a w, K a w → K' a w) {a : Act} {w : World} (h : wpOp P ops Q i K a w) : wpOpIn (Wd r) n P ops Q i K' a w := by
  unfold wpOp at h
  unfold wpOpIn
  cases ho : ops[i]? with
  | none => rw [ho] at h; exact hk _ _ h
  | some o =>
    rw [ho] at h
    dsimp only at h ⊢
    split
    · rename_i hw
      rw [if_pos hw] at h
      rcases h with h | h
      · refine ⟨fun _ _ => trivial, ?_⟩
        rw [Oper.semAt_eq _ _ _ (hd o (List.mem_of_getElem? (by simpa using ho)))]
        exact upon_in (Oper.wp_mono hk h)
      · exact absurd h.2 hq
    · rename_i hw
      rw [if_neg hw] at h
      exact ⟨fun _ _ => trivial, hk _ _ h⟩
theorem wpOps_in (hd : noDef ops) (hq : ¬ LetsOut Q) {n : Nat} : ∀ (l : List Nat) (a : Act) (w : World), wpOps P ops Q l a w → wpOpsIn (Wd r) n P ops Q l a w
  | [], _, _, h => h
  | i :: l, a, w, h => by
    rw [wpOps_cons] at h
    rw [wpOpsIn_cons]
    exact wpOp_in hd hq (wpOps_in hd hq l) h
theorem wpAny_in (hd : noDef ops) (hq : ¬ LetsOut Q) {n : Nat} {md : Region.Mode} : ∀ (fuel : Nat) (listed : Array Bool) (a : Act) (w : World), wpAny P md ops Q fuel listed a w → wpAnyIn (Wd r) n P md ops Q fuel listed a w
  | 0, _, _, _, h => h
  | fuel + 1, _, _, _, h => ⟨h.1, fun i hi => wpOp_in hd hq (wpAny_in hd hq fuel _) (h.2 i hi)⟩
theorem wpI_region (hd : noDef ops) (hq : ¬ LetsOut Q) {n id : Nat} {a : Act} {w : World} (h : wpOps P ops Q (List.range ops.size) a w) : (Code.region id ops false).wpIn (Wd r) n P Q a w := wpIn_region (wpOps_in hd hq _ _ _ h)
theorem wpI_held (hd : noDef ops) (hq : ¬ LetsOut Q) {n id : Nat} {a : Act} {w : World} {S : World → Prop} (hm : P.follows .mixedOrders = true) (h : wpAnyH P .any ops Q S ops.size (Array.replicate ops.size false) a { w with drawn := w.drawn + 1 }) : (Code.region id ops true).wpIn (Wd r) n P Q a w :=
  wpIn_region_any hm (wpAny_in hd hq _ _ _ _ (wpAny_of_held _ _ _ _ h))
theorem wpI_grown (hd : noDef ops) (hq : ¬ LetsOut Q) {n id : Nat} {a : Act} {w : World} {S : Nat → World → Prop} (hm : P.follows .mixedOrders = true) (h : wpAnyF P ops Q ops.size (Array.replicate ops.size false) a { w with drawn := w.drawn + 1 } S) : (Code.region id ops true).wpIn (Wd r) n P Q a w :=
  wpIn_region_any hm (wpAny_in hd hq _ _ _ _ (wpAny_of_grown _ _ _ _ _ h))
def loopFrom (r : Option Nat) (P : Program) (c : Code) (Q : Exit → Act → World → Prop) (a : Act) (w : World) : Prop :=
  ∀ (b : Frame) (k : List Item) (cs : List Frame), b.roundOf = r → ∃ e a' w', Q e a' w' ∧ ArrivesIn (Machine.fenced P (Wd r)) P (lone (b.atR a (.code c :: .inLoop c :: k)) cs w) b k cs e a' w'
theorem calm (b : Frame) (a : Act) (k : List Item) (cs : List Frame) (w : World) : (lone (b.atR a k) cs w).fenced P (Wd r) := fenced_wide P _
theorem loopFrom_wp {n : Nat} {c : Code} {a : Act} {w : World} (h : loopFrom r P c Q a w) : (Code.loop c).wpIn (Wd r) n P Q a w := fun b k cs hro _ _ =>
  let ⟨e, a', w', hq, harr⟩ := h b k cs hro
  ⟨e, a', w', hq, .of_steps (.one (calm _ _ _ _ _) stepR_loop) harr⟩
theorem loopFrom.unroll {n : Nat} {c : Code} {a : Act} {w : World} (h : c.wpIn (Wd r) n P (Exit.then (loopFrom r P c Q) Q) a w) : loopFrom r P c Q a w := by
  intro b k cs hro
  obtain ⟨e, a₁, w₁, hq, harr⟩ := h b (.inLoop c :: k) cs hro trivial (room_Wd _ _)
  cases e with
  | normal =>
    obtain ⟨e₂, a₂, w₂, hq₂, harr₂⟩ := hq b k cs hro
    exact ⟨e₂, a₂, w₂, hq₂, .of_steps (StepsIn.trans harr (.one (calm _ _ _ _ _) stepR_inLoop)) harr₂⟩
  | exit id => exact ⟨_, a₁, w₁, hq, .pass (x := .inLoop c) rfl (fun _ _ => .inl (by simp)) harr⟩
  | goto l => exact ⟨_, a₁, w₁, hq, .pass (x := .inLoop c) rfl (fun _ _ => .inl (by simp)) harr⟩
  | ret => exact ⟨_, a₁, w₁, hq, .pass (x := .inLoop c) rfl (fun _ _ => .inl (by simp)) harr⟩
  | panic ch => exact ⟨_, a₁, w₁, hq, .pass (x := .inLoop c) rfl (fun _ _ => .inl (by simp)) harr⟩
  | outgrown => exact ⟨_, a₁, w₁, hq, .pass (x := .inLoop c) rfl (fun _ _ => .inl (by simp)) harr⟩
theorem loopFrom.mono {c : Code} {Q' : Exit → Act → World → Prop} {a : Act} {w : World} (h : loopFrom r P c Q a w) (hq : ∀ e a w, Q e a w → Q' e a w) : loopFrom r P c Q' a w := fun b k cs hro =>
  let ⟨e, a', w', q, harr⟩ := h b k cs hro
  ⟨e, a', w', hq _ _ _ q, harr⟩
end
end Go.Proofs.Ytalchibbmkhkpaa.VX
