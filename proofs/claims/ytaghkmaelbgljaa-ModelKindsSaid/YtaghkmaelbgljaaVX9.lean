/- The operations that only compute and read: builds, conversions, picks; all of them. -/
import Derived.Test.YtaghkmaelbgljaaVX8
namespace Go.Proofs.Ytaghkmaelbgljaa.VX
section
variable {P : Program} {T : Tab} {C : Cx} {s : St} {a : Act} {w : World} {Hyp : Prop} {nd : Nd} {K : AV → Prop}

theorem okCells_mem {h : Hp} : ∀ {l : List AV}, okCells h l = true → ∀ x ∈ l, storable h x = true
  | [], _, x, hx => by cases hx
  | y :: r, hh, x, hx => by
    simp only [okCells, Bool.and_eq_true] at hh
    rcases List.mem_cons.1 hx with rfl | hx
    · exact hh.1
    · exact okCells_mem hh.2 x hx
theorem isArr_some {b : AB} (h : isArr b = true) : ∃ wr t n l, b = .arr wr t n l := by
  cases b <;> simp [isArr] at h
  exact ⟨_, _, _, _, rfl⟩
theorem one_rep {x : AV} {v : Value} (h : RpK T C s w x v) (hs : storable s.heap x = true) : v.oneCell' = true := by
  cases x <;> simp only [RpK] at h <;> simp only [storable] at hs
  case sl => exact h.one
  all_goals first
    | (subst h; rfl)
    | (obtain ⟨rfl, _⟩ := h; rfl)
    | (cases h <;> rfl)
    | (cases hs; done)
    | skip
  case em b => obtain ⟨ad, rfl, _⟩ := h; rfl
  case rel => obtain ⟨_, _, _, _, _, _, _, rfl⟩ := h; rfl
  case fn => obtain ⟨_, _, rfl, _⟩ := h; rfl
  case own id =>
    obtain ⟨wr, t, n, l, hb⟩ := isArr_some hs
    obtain ⟨_, h⟩ := h
    rw [hb] at h
    subst h; rfl
  case vw id lo n =>
    obtain ⟨wr, t, n', l, hb⟩ := isArr_some hs
    obtain ⟨_, h⟩ := h
    rw [hb] at h
    obtain ⟨ad, c, rfl, _⟩ := h; rfl
  case elt id i off =>
    obtain ⟨wr, t, n', l, hb⟩ := isArr_some hs
    obtain ⟨_, h⟩ := h
    rw [hb] at h
    obtain ⟨_, g, o, cks, _, _, rfl⟩ := h; rfl
theorem cells_one {v : Value} (h : v.oneCell' = true) : v.cells = #[v] := by cases v <;> simp_all [Value.oneCell', Value.cells]
/-- The cells of a value. -/
theorem cells_rep {v : AV} {val : Value} (h : RpS T C s w v val) (hc : okCells s.heap v.cells = true) : all2 (RpK T C s w) v.cells val.cells.toList ∧ ∀ u ∈ val.cells.toList, u.oneCell' = true := by
  have key : ∀ {l : List AV} {us : List Value}, okCells s.heap l = true → all2 (RpK T C s w) l us → ∀ u ∈ us, u.oneCell' = true := by
    intro l
    induction l with
    | nil => intro us _ h u hu; cases us with | nil => cases hu | cons _ _ => exact h.elim
    | cons x r ih =>
      intro us hs h u hu
      simp only [okCells, Bool.and_eq_true] at hs
      cases us with
      | nil => exact h.elim
      | cons y us =>
        rcases List.mem_cons.1 hu with rfl | hu
        · exact one_rep h.1 hs.1
        · exact ih hs.2 h.2 u hu
  have scalar : RpK T C s w v val → v.cells = [v] → all2 (RpK T C s w) v.cells val.cells.toList ∧ ∀ u ∈ val.cells.toList, u.oneCell' = true := fun h' e => by
    rw [e] at hc ⊢
    have h1 := one_rep h' (okCells_mem hc v (by simp))
    rw [cells_one h1]
    exact ⟨⟨h', trivial⟩, fun u hu => by simp at hu; subst hu; exact h1⟩
  cases v
  case agg l =>
    obtain ⟨cs, rfl, h⟩ := h
    exact ⟨h, key hc h⟩
  case tup l => simp [AV.cells, okCells, storable] at hc
  case iface t y => simp [AV.cells, okCells, storable] at hc
  case opt ch y => exact h.elim
  case dead => simp [AV.cells, okCells, storable] at hc
  case undef => simp [AV.cells, okCells, storable] at hc
  all_goals exact scalar h rfl

theorem fill_step (cells : Array Value) (vs : Array Value) (off : Nat) (h : off + vs.size ≤ cells.size) :
    (vs.zipIdx.foldl (fun cs (x : Value × Nat) => cs.setIfInBounds (off + x.2) x.1) cells).toList = cells.toList.take off ++ vs.toList ++ cells.toList.drop (off + vs.size) := by
  rw [← Array.foldl_toList]
  have := foldl_set vs.toList 0 off cells (by simpa using h)
  simpa using this
theorem fill_sound {K : List AV → Prop} {pl pl' : Nat → Option (Nat × Nat)} (hpl : ∀ i, pl i = pl' i) : ∀ (ps : List (Nat × AV)) (cs : List AV), xfill s.heap pl cs ps K → ∀ (us : List (Nat × Value)) (cells : Array Value),
    ∃ r, K r ∧ (all2 (RpK T C s w) cs cells.toList → all2 (fun p u => p.1 = u.1 ∧ RpS T C s w p.2 u.2) ps us → ∃ cells', Instr.fill pl' cells us = some cells' ∧ all2 (RpK T C s w) r cells'.toList) := by
  intro ps
  induction ps with
  | nil =>
    intro cs h us cells
    refine ⟨cs, h, fun hc hu => ?_⟩
    cases us with
    | nil => exact ⟨cells, rfl, hc⟩
    | cons _ _ => exact hu.elim
  | cons p ps ih =>
    intro cs h us cells
    obtain ⟨i, v⟩ := p
    simp only [xfill] at h
    cases hp : pl i with
    | none => simp [hp] at h
    | some q =>
      obtain ⟨off, size⟩ := q
      rw [hp] at h
      simp only at h
      cases hb : (okV v && okCells s.heap v.cells && Nat.beq (len v.cells) size && Nat.ble (off + size) (len cs)) with
      | false => simp [hb] at h
      | true =>
        simp only [hb, cond_true] at h
        simp only [Bool.and_eq_true] at hb
        obtain ⟨⟨⟨h1, h2⟩, h3⟩, h4⟩ := hb
        have h3 := beq_nat h3
        have h4 := Nat.le_of_ble_eq_true h4
        rw [len_eq] at h3 h4
        rw [spliceK_eq cs off v.cells _ (by omega)] at h
        obtain ⟨r, hK, hans⟩ := ih _ h (us.drop 1) (match us with | [] => cells | u :: _ => u.2.cells.zipIdx.foldl (fun cs (x : Value × Nat) => cs.setIfInBounds (off + x.2) x.1) cells)
        refine ⟨r, hK, fun hc hu => ?_⟩
        cases us with
        | nil => exact hu.elim
        | cons u us =>
          obtain ⟨⟨rfl, hrep⟩, hu⟩ := hu
          obtain ⟨hcr, _⟩ := cells_rep hrep h2
          have hlen := all2_len hcr
          have hlc := all2_len hc
          have hsz : off + u.2.cells.size ≤ cells.size := by simp at hlen hlc; omega
          have hst := fill_step cells u.2.cells off hsz
          obtain ⟨cells', e1, e2⟩ := hans (by
            rw [hst]
            refine all2_append (all2_append ?_ hcr) ?_
            · simpa using all2_sub hc 0 off
            · have := all2_sub hc (off + v.cells.length) cs.length
              rw [List.take_of_length_le (by simp), List.take_of_length_le (by simp; simp at hlc; omega)] at this
              simpa [hlen] using this) (by simpa using hu)
          refine ⟨cells', ?_, e2⟩
          rw [hpl] at hp
          obtain ⟨ui, uv⟩ := u
          simp only [Instr.fill, hp]
          simp only at hlen hsz
          have e3 : uv.cells.size = size := by simp at hlen; omega
          rw [if_neg (by simp [e3]; simp at hlc; omega)]
          simpa using e1

theorem places_of : ∀ {fs : List (TypeId × Nat × Nat × Bool)} {gs : List Field}, fieldsOK P fs gs = true → gs.mapM (fun f => (P.info? f.type).map fun i => (f.offset, i.size)) = some (fs.map fun q => (q.2.1, q.2.2.1))
  | [], [], _ => rfl
  | (t, off, size, b) :: r, g :: gs, h => by
    simp only [fieldsOK, Bool.and_eq_true] at h
    obtain ⟨⟨⟨⟨⟨h1, h2⟩, h3⟩, h4⟩, h5⟩, h6⟩ := h
    obtain ⟨i, hi⟩ := Option.isSome_iff_exists.1 h5
    have e2 := beq_nat h2
    have e3 := beq_nat h3
    have : i.size = size := by rw [e3]; simp [Program.cellsOf, hi]
    simp [List.mapM_cons, hi, places_of h6, this, e2]
  | [], _ :: _, h => by simp [fieldsOK] at h
  | _ :: _, [], h => by simp [fieldsOK] at h

theorem xbuild_sound (HT : tabOK P T = true) {t : TypeId} {ps : List (Nat × AV)} (h : xbuild T s.heap t ps K) {us : List (Nat × Value)} (hu : Hyp → all2 (fun p u => p.1 = u.1 ∧ RpS T C s w p.2 u.2) ps us) :
    Ans P T C s w Hyp K (Instr.build t us.toArray) := by
  unfold xbuild at h
  cases hx : T.get t with
  | none => simp [hx] at h
  | some xi =>
    have R := tab_get HT hx
    rw [hx] at h
    simp only at h
    obtain ⟨i, z, hi, _, _, hz, hzz, _, _⟩ := R.info
    have hzr : all2 (RpK T C s w) xi.zero z.cells.toList := zeros_rep hzz
    cases hd : xi.desc <;> rw [hd] at h <;> simp only at h
    case struct fs =>
      obtain ⟨gs, hgs, hfs⟩ := R.struct hd
      obtain ⟨r, hK, hans⟩ := fill_sound (T := T) (C := C) (s := s) (w := w) (K := fun cs => K (.agg cs)) (pl' := ((fs.map fun q => (q.2.1, q.2.2.1)).toArray[·]?)) (fun i => by
        simp only [nth_eq, List.getElem?_toArray, List.getElem?_map]
        cases hq : fs[i]? with
        | none => simp
        | some q => simp) ps xi.zero h us z.cells
      refine ⟨_, hK, fun hh => ?_⟩
      obtain ⟨cells', e1, e2⟩ := hans hzr (hu hh)
      refine ⟨_, fun w _ => run_build w t us.toArray cells' ?_, cells', rfl, e2⟩
      simp only [Program.built, hi, hgs, hz, places_of hfs]
      simpa using e1
    case arr n e =>
      cases he : T.get e with
      | none => simp [he] at h
      | some ei =>
        rw [he] at h
        simp only at h
        obtain ⟨ie, _, hie, hse, _⟩ := (tab_get HT he).info
        obtain ⟨r, hK, hans⟩ := fill_sound (T := T) (C := C) (s := s) (w := w) (K := fun cs => K (.agg cs)) (pl' := fun i => some (i * ie.size, ie.size)) (fun i => by rw [hse]) ps xi.zero h us z.cells
        refine ⟨_, hK, fun hh => ?_⟩
        obtain ⟨cells', e1, e2⟩ := hans hzr (hu hh)
        refine ⟨_, fun w _ => run_build w t us.toArray cells' ?_, cells', rfl, e2⟩
        simp only [Program.built, hi, R.arr hd, hz, hie]
        simpa using e1
end
end Go.Proofs.Ytaghkmaelbgljaa.VX
