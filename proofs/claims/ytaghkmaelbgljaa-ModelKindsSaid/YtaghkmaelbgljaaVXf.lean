/- New slices: literals, bytes of a string, what an append makes. -/
import Derived.Test.YtaghkmaelbgljaaVXe
namespace Go.Proofs.Ytaghkmaelbgljaa.VX
section
variable {P : Program} {T : Tab} {C : Cx} {s : St} {a : Act} {w w' : World}

theorem Flat.set {X : Nat → Prop} {cks : List CK} {l : List (List AV)} {cells : List Value} (h : Flat T w X cks l cells) {i : Nat} {ys : List AV} {us : List Value} (hu : us.length = cks.length) (hy : ys.length = cks.length)
    (hys : ∀ (j : Nat) (y : AV) (c : CK), ys[j]? = some y → cks[j]? = some c → ∃ v, us[j]? = some v ∧ RepC T w X c y v) (hle : i * cks.length + us.length ≤ cells.length) :
    Flat T w X cks (l.set i ys) (cells.take (i * cks.length) ++ us ++ cells.drop (i * cks.length + us.length)) := by
  intro i' r hr
  rw [List.getElem?_set] at hr
  by_cases hii : i = i'
  · subst hii
    rw [if_pos rfl] at hr
    split at hr
    · injection hr with hr
      subst hr
      refine ⟨hy, fun j x c hx hc => ?_⟩
      obtain ⟨v, hv, hrep⟩ := hys j x c hx hc
      refine ⟨v, ?_, hrep⟩
      have hj : j < us.length := (List.getElem?_eq_some_iff.1 hv).1
      rw [splice_get _ _ _ hle, if_pos (by omega), ← hv]
      congr 1
      omega
    · cases hr
  · rw [if_neg hii] at hr
    obtain ⟨h1, h2⟩ := h i' r hr
    refine ⟨h1, fun j x c hx hc => ?_⟩
    obtain ⟨v, hv, hrep⟩ := h2 j x c hx hc
    refine ⟨v, ?_, hrep⟩
    have hj : j < cks.length := (List.getElem?_eq_some_iff.1 hc).1
    have := row_at (i := i) (i' := i') (n := cks.length) (j := j) (off := 0) (m := cks.length) hj (by omega) (fun e => hii e.symm)
    rw [splice_get _ _ _ hle, if_neg (by omega), ← hv]

theorem setN_eq {α : Type} : ∀ (l : List α) (i : Nat) (x : α), setN l i x = l.set i x
  | [], _, _ => rfl
  | _ :: _, 0, _ => rfl
  | _ :: r, i + 1, x => by simp [setN, setN_eq r i x]
theorem splice_one {α : Type} (l : List α) (i : Nat) (x : α) (h : i < l.length) : l.take i ++ [x] ++ l.drop (i + [x].length) = l.set i x := by
  apply List.ext_getElem?
  intro j
  rw [splice_get l i [x] (by simp; omega), List.getElem?_set]
  by_cases e : i = j
  · subst e; simp [h]
  · rw [if_neg (by simp; omega), if_neg e]

/-- The elements of a literal, laid into the zeros. -/
theorem placeRows_sound (hc : CS T C s a w) {cks : List CK} {n : Nat} (hp : 0 < cks.length) : ∀ (ps : List (Nat × AV)) (rows : List (List AV)) (K : List (List AV) → Prop), placeRows s.heap cks n rows ps K → rows.length = n →
    (∀ p ∈ ps, ∀ x ∈ p.2.cells, ∀ id ∈ lendC x, ∀ wr t b l, getB s.heap id = .arr wr t b l → wr = false) →
    ∃ r, K r ∧ r.length = n ∧ ∀ (us : List (Nat × Value)) (cells : Array Value), all2 (fun p u => p.1 = u.1 ∧ RpS T C s w p.2 u.2) ps us → cells.size = n * cks.length → Flat T w (XB C s.heap) cks rows cells.toList → (∀ u ∈ cells.toList, u.oneCell' = true) →
      ∃ cells', Instr.fill (fun i => some (i * cks.length, cks.length)) cells us = some cells' ∧ cells'.size = n * cks.length ∧ Flat T w (XB C s.heap) cks r cells'.toList ∧ ∀ u ∈ cells'.toList, u.oneCell' = true := by
  intro ps
  induction ps with
  | nil =>
    intro rows K h hl _
    refine ⟨rows, h, hl, fun us cells hu hs hf h1 => ?_⟩
    cases us with
    | nil => exact ⟨cells, rfl, hs, hf, h1⟩
    | cons _ _ => exact hu.elim
  | cons p ps ih =>
    intro rows K h hl hfr
    obtain ⟨i, v⟩ := p
    simp only [placeRows, cellsK_eq] at h
    cases hb : (okCells s.heap v.cells && Nat.blt i n) with
    | false => simp [hb] at h
    | true =>
      simp only [hb, cond_true] at h
      simp only [Bool.and_eq_true] at hb
      have hi : i < n := Nat.lt_of_lt_of_le (Nat.lt_succ_self i) (Nat.le_of_ble_eq_true hb.2)
      obtain ⟨ys, hK, hl1, hl2, hys⟩ := fitCs_sound hc cks v.cells _ h (fun x hx => hfr (i, v) (by simp) x hx)
      rw [spliceK_eq rows i [ys] _ (by simp; omega), splice_one rows i ys (by omega)] at hK
      obtain ⟨r, hK2, hlr, hans⟩ := ih (rows.set i ys) K hK (by simpa using hl) (fun p hp => hfr p (List.mem_cons_of_mem _ hp))
      refine ⟨r, hK2, hlr, fun us cells hu hs hf h1 => ?_⟩
      cases us with
      | nil => exact hu.elim
      | cons u us =>
        obtain ⟨⟨rfl, hrep⟩, hu⟩ := hu
        have hok := hb.1
        obtain ⟨ui, uv⟩ := u
        simp only at hi hrep hans hl
        obtain ⟨hr, hone⟩ := cells_rep hrep hok
        have hlv := all2_len hr
        have hlu : uv.cells.size = cks.length := by simp at hlv; omega
        have hbound : ui * cks.length + uv.cells.size ≤ cells.size := by
          have : (ui + 1) * cks.length ≤ n * cks.length := Nat.mul_le_mul_right _ hi
          rw [Nat.add_mul] at this
          omega
        have hst := fill_step cells uv.cells (ui * cks.length) hbound
        have hset := Flat.set (i := ui) hf (us := uv.cells.toList) (by simpa using hlu) hl1 (fun j y c hy hc' => hys _ hr j y c hy hc') (by simpa using hbound)
        obtain ⟨cells', e1, e2, e3, e4⟩ := hans us (uv.cells.zipIdx.foldl (fun cs (x : Value × Nat) => cs.setIfInBounds (ui * cks.length + x.2) x.1) cells) hu (by
          have e := congrArg List.length hst
          rw [Array.length_toList] at e
          rw [e]
          simp only [List.length_append, List.length_take, List.length_drop, Array.length_toList]
          omega) (by rw [hst]; simpa using hset) (by
          rw [hst]
          intro q hq
          rcases List.mem_append.1 hq with hq | hq
          · rcases List.mem_append.1 hq with hq | hq
            · exact h1 q (List.mem_of_mem_take hq)
            · exact hone q hq
          · exact h1 q (List.mem_of_mem_drop hq))
        refine ⟨cells', ?_, e2, e3, e4⟩
        simp only [Instr.fill]
        rw [if_neg (by simp [hlu]; omega)]
        simpa using e1

theorem run_buildSlice (w : World) {t e : TypeId} (hu : P.underlying t = some (.slice e)) {i : TypeInfo} (hi : P.info? e = some i) {z : Value} (hz : i.zero = some z) {n : Nat} (hn : n * i.size ≤ 65536) {us : Array (Nat × Value)} {cells : Array Value}
    (hf : Instr.fill (fun j => some (j * i.size, i.size)) ((Array.range (n * i.size)).map (z.cells[· % z.cells.size]!)) us.toList = some cells) :
    (Instr.buildSlice t n us).run P w = .ok (.slice (some ⟨w.heap.size, 0, none⟩) n n) (w.alloc (.cells cells e)) := by
  have b1 : ¬ (n * i.size > 2 ^ 24) := by omega
  simp only [Instr.buildSlice, Sem.run_bind, run_underlying hu, Result.andThen_ok, sizeOf, typeInfo, run_program, hi, Sem.run_pure, if_neg b1]
  by_cases hz0 : n * i.size = 0
  · have e1 : ∀ f : Nat → Value, (Array.range 0).map f = #[] := fun f => by simp
    rw [hz0] at hf ⊢
    rw [e1] at hf
    simp [e1, hf, newRow]
  · simp [hz0, zeroValue, typeInfo, hi, hz, hf, newRow]

theorem avsOf_mem : ∀ {ps : List (Nat × AV)} {p : Nat × AV}, p ∈ ps → ∀ {x : AV}, x ∈ p.2.cells → ∀ {id : Nat}, id ∈ lendC x → id ∈ lendAll (avsOf ps)
  | [], _, h, _, _, _, _ => by cases h
  | (i, v) :: r, p, h, x, hx, id, hid => by
    simp only [avsOf, lendAll, List.mem_append]
    rcases List.mem_cons.1 h with rfl | h
    · exact .inl (lend_mem hx hid)
    · exact .inr (avsOf_mem h hx hid)

theorem buildSlice_sound (HT : tabOK P T = true) (hc : CS T C s a w) {t : TypeId} {n : Nat} {parts : Array (Nat × Operand)} {o : Oper} (ho : o.op = .buildSlice t n parts) {ev : Operand → Value} {ρ : Operand → AV} (hρ : ∀ x, RpS T C s w (ρ x) (ev x)) {call : CallR} {k : KE}
    (h : xeff T call ρ o.op s.env s.heap s.nx k) : AnsE P T C s a w (execOp ev o) k := by
  rw [ho] at h
  simp only [xeff] at h
  cases he : elemOf T t with
  | none => simp [he] at h
  | some e =>
    rw [he] at h
    simp only at h
    cases hk : ckOf T e with
    | none => simp [hk] at h
    | some cks =>
      rw [hk] at h
      simp only at h
      cases hle : Nat.ble (n * len cks) 65536 with
      | false => simp [hle] at h
      | true =>
        simp only [hle, cond_true, mapK2_eq, freezeK_eq] at h
        have hle := Nat.le_of_ble_eq_true hle
        rw [len_eq] at hle
        obtain ⟨i, z, hi, hz, hs, hb, hp, hck, _⟩ := elem_zero (P := P) HT hk
        obtain ⟨xi, hx, hd⟩ := elemOf_some he
        have hu := (tab_get HT hx).slice hd
        have hps := all2_map2 hρ parts.toList
        generalize (parts.toList.map fun (p : Nat × Operand) => (p.1, ρ p.2)) = ps at h hps
        obtain ⟨hc1, E1, hfz⟩ := hc.freeze (lendAll (avsOf ps))
        obtain ⟨r, hKr, hlr, hans⟩ := placeRows_sound (s := frzs s (lendAll (avsOf ps))) hc1 (n := n) hp ps (rep n (cks.map zeroCk)) _ h (by
          have : ∀ n, (rep n (cks.map zeroCk)).length = n := fun n => by induction n with | zero => rfl | succ n ih => simp [rep, ih]
          exact this n) (fun p hp' x hx' id' hid' wr t' b' l' hb' => by
            have hm := avsOf_mem hp' hx' hid'
            cases hb0 : getB s.heap id' with
            | arr wr0 t0 b0 l0 =>
              obtain ⟨wr1, h4, h5⟩ := (hfz id').1 _ _ _ _ hb0
              rw [hb'] at h4
              injection h4 with h4
              rw [h4]; exact h5 hm
            | box t0 cs0 => have := (hfz id').2 (by simp [hb0]); rw [hb', hb0] at this; cases this
            | gone => have := (hfz id').2 (by simp [hb0]); rw [hb', hb0] at this; cases this)
        obtain ⟨cells, f1, f2, f3, f4⟩ := hans (parts.toList.map fun p => (p.1, ev p.2)) ((Array.range (n * cks.length)).map (z.cells[· % z.cells.size]!)) (all2_mono (fun _ _ h => ⟨h.1, RpS.ext E1 h.2⟩) hps) (by simp)
          (zero_flat hck n (fun i r hr => by rw [rep_get] at hr; split at hr; injection hr with hr; exact ⟨hr.symm, by assumption⟩; cases hr)) (zero_one hck hp _)
        have hrun := run_buildSlice w hu hi hz (n := n) (us := (parts.toList.map fun p => (p.1, ev p.2)).toArray) (cells := cells) (by rw [hs]; exact hle) (by simpa [hs] using f1)
        obtain ⟨C', hkp, hcs, hrp⟩ := arr_new (w' := w.alloc (.cells cells e)) hc1 (by rw [alloc_size]; omega) (alloc_same w _) hk hp (l := r) (cap := n) (by omega)
          (fun i' r' hr' => by
            obtain ⟨q1, q2⟩ := f3 i' r' hr'
            refine ⟨q1, fun j x' c' hx' hc' => ?_⟩
            obtain ⟨v, hv, hrep⟩ := q2 j x' c' hx' hc'
            refine ⟨v, ?_, hrep⟩
            have := rangeAt_new w cells e (0, 0) (i' * cks.length + j) v hv
            simpa using this)
          (by
            have := there_new w cells e
            rwa [f2] at this)
        refine ⟨_, _, _, hKr, C', .slice (some ⟨w.heap.size, 0, none⟩) n n, _, hkp, .inl ?_, hcs, by rw [hlr] at hrp; exact hrp⟩
        have ea : parts.map (fun (i, x) => (i, ev x)) = (parts.toList.map fun p => (p.1, ev p.2)).toArray := by apply Array.ext'; simp
        simp only [execOp, ho, Sem.run_bind]
        rw [ea, hrun]
        rfl

end
end Go.Proofs.Ytaghkmaelbgljaa.VX
