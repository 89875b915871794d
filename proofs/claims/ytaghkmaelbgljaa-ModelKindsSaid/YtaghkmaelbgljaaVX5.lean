/- The operations that only compute and read: memory, parts, slices. -/
import Derived.Test.YtaghkmaelbgljaaVX4
namespace Go.Proofs.Ytaghkmaelbgljaa.VX
section
variable {P : Program} {T : Tab} {C : Cx} {s : St} {a : Act} {w : World} {Hyp : Prop} {nd : Nd} {K : AV → Prop}

theorem RepC.mk {X : Nat → Prop} {c : CK} {x : AV} {v : Value} (h : RepC T w X c x v) : mkc c x = x := by cases h <;> rfl
theorem RepC.rp {c : CK} {x : AV} {v : Value} (h : RepC T w (XB C s.heap) c x v) : RpK T C s w x v := by
  cases h
  case int => rfl
  case bool => rfl
  case str => rfl
  case em t b ad cap hb => exact RepC.em t b ad cap hb
  case sl t cks l g o cap vals hk hp hne hX hle hlen hcell hval => exact RepC.sl t cks l g o cap vals hk hp hne hX hle hlen hcell hval
theorem RepC.one {X : Nat → Prop} {c : CK} {x : AV} {v : Value} (h : RepC T w X c x v) : v.oneCell' = true := by cases h <;> rfl
theorem RepC.rows {X : Nat → Prop} {t : TypeId} {l : List (List AV)} {g o cap n : Nat} (h : RepC T w X (.sl t) (.sl false t l) (.slice (some ⟨g, o, none⟩) n cap)) {cks : List CK} (hk : ckOf T t = some cks) : RowsRep T w X g o cks l := by
  cases h with
  | em _ _ _ _ _ => intro i e he; simp at he
  | sl _ cks' _ _ _ _ vals hk' hp hne hX hle hlen hcell hval =>
    rw [hk] at hk'
    injection hk' with hk'
    subst hk'
    intro i e he
    refine ⟨hlen i e he, fun j x c hx hc => ⟨vals i j, ?_, hval i e j x c he hx hc⟩⟩
    have h1 : i < l.length := (List.getElem?_eq_some_iff.1 he).1
    have h2 : j < e.length := (List.getElem?_eq_some_iff.1 hx).1
    exact hcell i j h1 (by rw [← hlen i e he]; exact h2)

theorem mkCells_get (l : List (List AV)) (i : Nat) : ∀ (cs : List CK) (j k : Nat), (mkCells l i j cs)[k]? = (cs[k]?).map fun c => mkc c (cellOf l i (j + k))
  | [], _, _ => by simp [mkCells]
  | c :: cs, j, 0 => by simp [mkCells]
  | c :: cs, j, k + 1 => by simp [mkCells, mkCells_get l i cs (j + 1) k, Nat.add_assoc, Nat.add_comm 1 k]
theorem mkCells_len (l : List (List AV)) (i : Nat) : ∀ (cs : List CK) (j : Nat), (mkCells l i j cs).length = cs.length
  | [], _ => rfl
  | c :: cs, j => by simp [mkCells, mkCells_len l i cs]

/-- A row's cells from a place on. -/
theorem row_cells {g o : Nat} {cks : List CK} {l : List (List AV)} (h : RowsRep T w (XB C s.heap) g o cks l) {i : Nat} (hi : i < l.length) (off n : Nat) (hn : off + n ≤ cks.length) :
    ∃ vs : List Value, vs.length = n ∧ w.rangeAt g (o + (i * cks.length + off)) vs ∧ all2 (RpK T C s w) (mkCells l i off ((cks.drop off).take n)) vs ∧ ∀ v ∈ vs, v.oneCell' = true := by
  obtain ⟨hl, hrow⟩ := h i l[i] (List.getElem?_eq_getElem hi)
  have hcell : ∀ j, j < cks.length → ∃ v, w.cell? ⟨g, o + (i * cks.length + j), none⟩ = some v ∧ RepC T w (XB C s.heap) (cks[j]?.getD .bool) (cellOf l i j) v := fun j hj => by
    have hj' : j < (l[i]).length := by omega
    obtain ⟨v, hv, hr⟩ := hrow j _ _ (List.getElem?_eq_getElem hj') (List.getElem?_eq_getElem hj)
    refine ⟨v, hv, ?_⟩
    have e1 : cellOf l i j = (l[i])[j] := by simp [cellOf, List.getD, List.getElem?_eq_getElem hi, List.getElem?_eq_getElem hj']
    have e2 : cks[j]?.getD .bool = cks[j] := by simp [List.getElem?_eq_getElem hj]
    rw [e1, e2]; exact hr
  have key : ∀ m, m ≤ n → ∃ vs : List Value, vs.length = m ∧ ∀ j, j < m → ∃ v, vs[j]? = some v ∧ w.cell? ⟨g, o + (i * cks.length + (off + j)), none⟩ = some v ∧ RepC T w (XB C s.heap) (cks[off + j]?.getD .bool) (cellOf l i (off + j)) v := by
    intro m
    induction m with
    | zero => exact fun _ => ⟨[], rfl, fun j hj => by omega⟩
    | succ m ih =>
      intro hm
      obtain ⟨vs, hl, h⟩ := ih (by omega)
      obtain ⟨v, hv, hr⟩ := hcell (off + m) (by omega)
      refine ⟨vs ++ [v], by simp [hl], fun j hj => ?_⟩
      by_cases e : j < m
      · obtain ⟨u, h1, h2⟩ := h j e
        exact ⟨u, by rw [List.getElem?_append_left (by omega)]; exact h1, h2⟩
      · have : j = m := by omega
        subst this
        exact ⟨v, by rw [List.getElem?_append_right (by omega)]; simp [hl], hv, hr⟩
  obtain ⟨vs, hlen, hvs⟩ := key n (Nat.le_refl n)
  refine ⟨vs, hlen, fun j v hv => ?_, all2_of ?_ (fun j x v hx hv => ?_), fun v hv => ?_⟩
  · have hj : j < n := by have := (List.getElem?_eq_some_iff.1 hv).1; omega
    obtain ⟨u, h1, h2, _⟩ := hvs j hj
    rw [hv] at h1
    injection h1 with h1
    rw [h1, ← h2]
    congr 2
    omega
  · rw [mkCells_len, hlen, List.length_take, List.length_drop]; omega
  · have hj : j < n := by have := (List.getElem?_eq_some_iff.1 hv).1; omega
    obtain ⟨u, h1, _, h3⟩ := hvs j hj
    rw [hv] at h1
    injection h1 with h1
    subst h1
    rw [mkCells_get, List.getElem?_take, if_pos hj, List.getElem?_drop] at hx
    cases hc : cks[off + j]? with
    | none => simp [hc] at hx
    | some c =>
      rw [hc] at hx h3
      simp only [Option.map_some, Option.some.injEq, Option.getD_some] at hx h3
      rw [← hx, h3.mk]
      exact h3.rp
  · obtain ⟨j, hj, rfl⟩ := List.getElem_of_mem hv
    obtain ⟨u, h1, _, h3⟩ := hvs j (by omega)
    rw [List.getElem?_eq_getElem hj] at h1
    injection h1 with h1
    rw [h1]; exact h3.one

theorem run_loadVar_at {t : TypeId} {xi : XI} (R : RowOK P t xi) {g o : Nat} {vs : List Value} (hr : w.rangeAt g o vs) :
    (xi.desc.isAgg = true → vs.length = xi.size → (loadVar t ⟨g, o, none⟩).run P w = .ok (.agg vs.toArray) w) ∧
    (xi.desc.isAgg = false → ∀ v, vs[0]? = some v → (loadVar t ⟨g, o, none⟩).run P w = .ok v w) := by
  obtain ⟨d, hu, hd⟩ := R.isRow
  obtain ⟨i, z, hi, hs, _⟩ := R.info
  constructor
  · intro ha hl
    exact run_loadVar_mid w g o t vs d hr hu (by rw [hd, ha]) (by simp [hi, hs, hl])
  · intro ha v hv
    have := hr 0 v hv
    simp only [Nat.add_zero] at this
    simp [loadVar, R.agg w, ha, this]

theorem rangeAt_sub {g o : Nat} {vs : List Value} (h : w.rangeAt g o vs) (off n : Nat) : w.rangeAt g (o + off) ((vs.drop off).take n) := fun j v hv => by
  by_cases hj : j < n
  · rw [List.getElem?_take, if_pos hj, List.getElem?_drop] at hv
    have := h (off + j) v hv
    rwa [Nat.add_assoc]
  · rw [List.getElem?_take, if_neg hj] at hv; cases hv
theorem all2_sub {α β : Type} {R : α → β → Prop} {xs : List α} {ys : List β} (h : all2 R xs ys) (off n : Nat) : all2 R ((xs.drop off).take n) ((ys.drop off).take n) := by
  have hl := all2_len h
  refine all2_of (by simp [hl]) fun i x y hx hy => ?_
  by_cases hi : i < n
  · rw [List.getElem?_take, if_pos hi, List.getElem?_drop] at hx hy
    obtain ⟨y', hy', hr⟩ := all2_get h hx
    rw [hy] at hy'
    injection hy' with hy'
    rw [hy']; exact hr
  · rw [List.getElem?_take, if_neg hi] at hx; cases hx

theorem RpS_of_RpK {x : AV} {v : Value} (h : RpK T C s w x v) : RpS T C s w x v := by
  cases x <;> first | exact h | exact h.elim

theorem xpart_K {xi : XI} {cs : List AV} {off : Nat} (h : xpart xi cs off K) :
    (xi.desc.isAgg = true ∧ off + xi.size ≤ cs.length ∧ K (.agg ((cs.drop off).take xi.size))) ∨ (xi.desc.isAgg = false ∧ ∃ v, cs[off]? = some v ∧ K v) := by
  unfold xpart at h
  cases ha : xi.desc.isAgg with
  | true =>
    simp only [ha, cond_true] at h
    cases hb : Nat.ble (off + xi.size) (len cs) with
    | false => simp [hb] at h
    | true =>
      simp only [hb, cond_true, subK_eq] at h
      exact .inl ⟨rfl, by have := Nat.le_of_ble_eq_true hb; rwa [len_eq] at this, h⟩
  | false =>
    simp only [ha, cond_false] at h
    rw [nth_eq] at h
    cases hv : cs[off]? with
    | none => simp [hv] at h
    | some v => rw [hv] at h; simp only [forceK_eq] at h; exact .inr ⟨rfl, v, rfl, h⟩
theorem xpartRow_K {xi : XI} {ck : List CK} {l : List (List AV)} {i off : Nat} (h : xpartRow xi ck l i off K) :
    (xi.desc.isAgg = true ∧ off + xi.size ≤ ck.length ∧ K (.agg (mkCells l i off ((ck.drop off).take xi.size)))) ∨ (xi.desc.isAgg = false ∧ ∃ c, ck[off]? = some c ∧ K (mkc c (cellOf l i off))) := by
  unfold xpartRow at h
  cases ha : xi.desc.isAgg with
  | true =>
    simp only [ha, cond_true] at h
    cases hb : Nat.ble (off + xi.size) (len ck) with
    | false => simp [hb] at h
    | true =>
      simp only [hb, cond_true, subK_eq, mkCellsK_eq] at h
      exact .inl ⟨rfl, by have := Nat.le_of_ble_eq_true hb; rwa [len_eq] at this, h⟩
  | false =>
    simp only [ha, cond_false] at h
    rw [nth_eq] at h
    cases hv : ck[off]? with
    | none => simp [hv] at h
    | some v => rw [hv] at h; simp only [forceK_eq] at h; exact .inr ⟨rfl, v, rfl, h⟩

theorem cell_lt {w : World} {g o : Nat} {v : Value} (h : w.cell? ⟨g, o, none⟩ = some v) : g < w.heap.size := by
  rcases Nat.lt_or_ge g w.heap.size with h' | h'
  · exact h'
  · simp [World.cell?, Array.getElem?_eq_none h'] at h
theorem cell_same {w w' : World} {g : Nat} (h : w'.heap[g]? = w.heap[g]?) (o : Nat) : w'.cell? ⟨g, o, none⟩ = w.cell? ⟨g, o, none⟩ := by
  simp only [World.cell?, h]
theorem rangeAt_like {w w' : World} {g o : Nat} {vs : List Value} (hr : w.rangeAt g o vs) (q : Same C w w') (hF : ¬ C.F g) : w'.rangeAt g o vs := fun j v hj => by
  have h := hr j v hj
  rw [cell_same (q g (cell_lt h) hF)]
  exact h

theorem part_row {t : TypeId} {xi : XI} (R : RowOK P t xi) {cks : List CK} {l : List (List AV)} {i off g o : Nat} (h : xpartRow xi cks l i off K)
    (hrow : Hyp → RowsRep T w (XB C s.heap) g o cks l ∧ i < l.length ∧ ¬ C.F g) : ∃ v, K v ∧ (Hyp → ∃ val, (∀ w', Same C w w' → (loadVar t ⟨g, o + (i * cks.length + off), none⟩).run P w' = .ok val w') ∧ RpS T C s w v val) := by
  rcases xpartRow_K h with ⟨ha, hle, hK⟩ | ⟨ha, c, hcc, hK⟩
  · refine ⟨_, hK, fun hy => ?_⟩
    obtain ⟨hrr, hi, hF⟩ := hrow hy
    obtain ⟨vs, hl, hr, hrep, _⟩ := row_cells hrr hi off xi.size hle
    exact ⟨_, fun w' q => (run_loadVar_at R (rangeAt_like hr q hF)).1 ha hl, vs.toArray, rfl, by simpa using hrep⟩
  · refine ⟨_, hK, fun hy => ?_⟩
    obtain ⟨hrr, hi, hF⟩ := hrow hy
    have hlt : off < cks.length := (List.getElem?_eq_some_iff.1 hcc).1
    obtain ⟨vs, hl, hr, hrep, _⟩ := row_cells hrr hi off 1 (by omega)
    have hck : (cks.drop off).take 1 = [c] := by
      rw [List.drop_eq_getElem_cons hlt, List.take_succ_cons, List.take_zero]
      rw [List.getElem?_eq_getElem hlt] at hcc
      injection hcc with hcc
      rw [hcc]
    rw [hck] at hrep
    match vs, hrep with
    | [v], hrep => exact ⟨v, fun w' q => (run_loadVar_at R (rangeAt_like hr q hF)).2 ha v rfl, RpS_of_RpK hrep.1⟩

theorem xload_sound (HT : tabOK P T = true) (hc : CS T C s a w) {t : TypeId} {x : AV} (h : xload T s.heap t x K) {v : Value}
    (hv : Hyp → RpS T C s w x v) : Ans P T C s w Hyp K (Instr.loadAt t v) := by
  unfold xload at h
  cases hx : T.get t with
  | none => simp [hx] at h
  | some xi =>
    have R := tab_get HT hx
    rw [hx] at h
    simp only at h
    have at_ : ∀ ad : Addr, v = .pointer (some ad) → ∀ (w' : World) (val : Value), (loadVar t ad).run P w' = .ok val w' → (Instr.loadAt t v).run P w' = .ok val w' := fun ad e w' val hl => by
      subst e
      simp only [Instr.loadAt, Instr.sureAddr, Sem.run_bind, Sem.run_pure, Result.andThen_ok, hl]
    cases x <;> simp only at h
    case ptr id off =>
      cases hb : getB s.heap id with
      | gone => simp [hb] at h
      | arr _ _ _ _ => simp [hb] at h
      | box bt cs =>
        rw [hb] at h
        simp only at h
        have hr := hc.blk id
        rw [hb] at hr
        obtain ⟨vs, h1, h2, h3, h4⟩ := hr
        have hF : ¬ C.F (C.β id) := (hc.own id _ (by simp [ownB, hb])).2.2
        rcases xpart_K h with ⟨ha, hle, hK⟩ | ⟨ha, y, hy, hK⟩
        · refine ⟨_, hK, fun hh => ?_⟩
          have hl := all2_len h3
          exact ⟨_, fun w' q => at_ _ (hv hh).1 _ _ ((run_loadVar_at R (by simpa using rangeAt_sub (rangeAt_like h1 q hF) off xi.size)).1 ha (by simp; omega)), _, rfl, by simpa using all2_sub h3 off xi.size⟩
        · refine ⟨_, hK, fun hh => ?_⟩
          obtain ⟨u, hu, hru⟩ := all2_get h3 hy
          refine ⟨u, fun w' q => at_ _ (hv hh).1 _ _ ((run_loadVar_at R (vs := vs.drop off) (by
            have := rangeAt_sub (rangeAt_like h1 q hF) off vs.length
            rw [List.take_of_length_le (by simp)] at this
            simpa using this)).2 ha u (by simpa using hu)), RpS_of_RpK hru⟩
    case elt id i off =>
      cases hb : getB s.heap id with
      | gone => simp [hb] at h
      | box _ _ => simp [hb] at h
      | arr wr e b l =>
        rw [hb] at h
        simp only at h
        cases hck : ckOf T e with
        | none => simp [hck] at h
        | some cks =>
          rw [hck] at h
          simp only at h
          have hr := hc.blk id
          rw [hb] at hr
          obtain ⟨cks', hk', hp, hr⟩ := hr
          rw [hck] at hk'
          injection hk' with hk'
          subst hk'
          have hi : Hyp → i < l.length := fun hh => by
            obtain ⟨_, he⟩ := hv hh
            rw [hb] at he
            exact he.1
          rcases hr with ⟨rfl, _, _⟩ | ⟨_, hcp, g, o, hbase, _, hrr, _, hnw⟩
          · rcases xpartRow_K h with ⟨_, _, hK⟩ | ⟨_, c, _, hK⟩ <;> exact ⟨_, hK, fun hh => by have := hi hh; simp at this⟩
          · obtain ⟨v', hK, hans⟩ := part_row (Hyp := Hyp) (T := T) (C := C) (s := s) R h (fun hh => ⟨hrr, hi hh, by
              cases wr with
              | true => exact (hc.own id g (by simp only [ownB, hb, hbase, Option.map_some]; rw [if_neg (by omega)])).2.2
              | false => exact fun q => hnw rfl (fun e => by have := hi hh; rw [e] at this; simp at this) (.inl q)⟩)
            refine ⟨v', hK, fun hh => ?_⟩
            obtain ⟨val, h1, h2⟩ := hans hh
            obtain ⟨_, he⟩ := hv hh
            rw [hb] at he
            obtain ⟨_, g', o', cks', hbase', hk', rfl⟩ := he
            rw [hbase] at hbase'
            rw [hck] at hk'
            injection hbase' with hbase'
            injection hbase' with e1 e2 _
            injection hk' with hk'
            subst e1 e2 hk'
            exact ⟨val, fun w' q => at_ _ rfl _ _ (h1 w' q), h2⟩
    case rel e l i off =>
      cases hck : ckOf T e with
      | none => simp [hck] at h
      | some cks =>
        rw [hck] at h
        simp only at h
        by_cases hH : Hyp
        · obtain ⟨hi, g, o, cap, cks', hk', hrep, rfl⟩ := hv hH
          rw [hck] at hk'
          injection hk' with hk'
          subst hk'
          obtain ⟨v', hK, hans⟩ := part_row (Hyp := Hyp) (T := T) (C := C) (s := s) (g := g) (o := o) R h (fun hh => ⟨hrep.rows hck, hi, fun q => by
            cases hrep with
            | em => simp at hi
            | sl _ _ _ _ _ _ _ _ _ _ hX => exact hX (.inl q)⟩)
          refine ⟨v', hK, fun hh => ?_⟩
          obtain ⟨val, h1, h2⟩ := hans hh
          exact ⟨val, fun w' q => at_ _ rfl _ _ (h1 w' q), h2⟩
        · rcases xpartRow_K h with ⟨_, _, hK⟩ | ⟨_, c, _, hK⟩ <;> exact ⟨_, hK, fun hh => absurd hh hH⟩
end
end Go.Proofs.Ytaghkmaelbgljaa.VX
