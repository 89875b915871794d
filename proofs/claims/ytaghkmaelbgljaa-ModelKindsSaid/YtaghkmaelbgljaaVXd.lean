/- Slices that are made, written and appended to: the operations. -/
import Derived.Test.YtaghkmaelbgljaaVXc
namespace Go.Proofs.Ytaghkmaelbgljaa.VX
section
variable {P : Program} {T : Tab} {C : Cx} {s : St} {a : Act} {w w' : World}

theorem splice_get {α : Type} (old : List α) (off : Nat) (new : List α) (h : off + new.length ≤ old.length) (j : Nat) :
    (old.take off ++ new ++ old.drop (off + new.length))[j]? = if off ≤ j ∧ j < off + new.length then new[j - off]? else old[j]? := by
  by_cases h1 : j < off
  · rw [List.append_assoc, List.getElem?_append_left (by simp; omega), List.getElem?_take, if_pos h1, if_neg (by omega)]
  · by_cases h2 : j < off + new.length
    · rw [List.getElem?_append_left (by simp; omega), List.getElem?_append_right (by simp; omega), if_pos (by omega)]
      congr 1
      simp; omega
    · rw [List.getElem?_append_right (by simp; omega), List.getElem?_drop, if_neg (by omega)]
      congr 1
      simp; omega

theorem row_at {i i' n j off m : Nat} (hj : j < n) (hoff : off + m ≤ n) (hne : i' ≠ i) : i' * n + j < i * n + off ∨ i * n + off + m ≤ i' * n + j := by
  rcases Nat.lt_or_gt_of_ne hne with h | h
  · left
    have : (i' + 1) * n ≤ i * n := Nat.mul_le_mul_right n h
    rw [Nat.add_mul] at this
    omega
  · right
    have : (i + 1) * n ≤ i' * n := Nat.mul_le_mul_right n h
    rw [Nat.add_mul] at this
    omega

theorem storeElt_sound (HT : tabOK P T = true) (hc : CS T C s a w) {t : TypeId} {xi : XI} (hx : T.get t = some xi) {id i off : Nat} {e : TypeId} {b : Bool} {l : List (List AV)} (hb : getB s.heap id = .arr true e b l) {cks : List CK} (hk : ckOf T e = some cks)
    {g o : Nat} (hbase : C.base id = some ⟨g, o, none⟩) (hi : i < l.length) {val : Value} (hn : val.cells.size = xi.size) (hle : off + xi.size ≤ cks.length) (h1 : ∀ u ∈ val.cells.toList, u.oneCell' = true)
    {ys : List AV} (hl : ys.length = xi.size) (hys : ∀ (j : Nat) (y : AV) (c : CK), ys[j]? = some y → cks[off + j]? = some c → ∃ v, val.cells.toList[j]? = some v ∧ RepC T w (XB C s.heap) c y v)
    {row : List AV} (hrl : row.length = cks.length) (hrow : ∀ j, j < cks.length → row[j]? = if off ≤ j ∧ j < off + ys.length then ys[j - off]? else (cks[j]?).map fun c => mkc c (cellOf l i j)) :
    (Instr.storeAt t (.pointer (some ⟨g, o + (i * cks.length + off), none⟩)) val).run P w = .ok () (w.setCells g (o + (i * cks.length + off)) val.cells.toList) ∧
    CS T C (s.set id (.arr true e b (l.set i row))) a (w.setCells g (o + (i * cks.length + off)) val.cells.toList) := by
  have R := tab_get HT hx
  have hblk := hc.blk id
  rw [hb] at hblk
  obtain ⟨cks', hk', hp, hblk⟩ := hblk
  rw [hk] at hk'
  injection hk' with hk'
  subst hk'
  rcases hblk with ⟨rfl, _, _⟩ | ⟨hnil, hcap, g', o', hbase', hlen, hrows, hthere, hX⟩
  · simp at hi
  · rw [hbase] at hbase'
    injection hbase' with hbase'
    injection hbase' with e1 e2 _
    subst e1 e2
    have ho : ownB C s.heap id = some g := by simp [ownB, hb, hbase, Nat.ne_of_gt hcap]
    have hth := hthere rfl
    have hbound : i * cks.length + off + xi.size ≤ C.cap id * cks.length := by
      have : (i + 1) * cks.length ≤ C.cap id * cks.length := Nat.mul_le_mul_right _ (by omega)
      rw [Nat.add_mul] at this
      omega
    have hsome : ∀ j, j < val.cells.toList.length → (w.cell? ⟨g, o + (i * cks.length + off) + j, none⟩).isSome = true := fun j hj => by
      have := (hth (i * cks.length + off + j) (by simp at hj; omega)).1
      rwa [← Nat.add_assoc] at this
    constructor
    · refine run_storeAt w (R.size w) hn (fun j hj => ?_) h1
      have := hth (i * cks.length + off + j) (by omega)
      rwa [← Nat.add_assoc] at this
    · refine hc.set (gone_lt hc hb (by simp)) ho (by simp [ownB, St.set, getB_cons, hbase, Nat.ne_of_gt hcap]) (fun wr' t' b' l' e => by injection e with e1 e2 e3 e4; subst e2 e4; exact ⟨true, b, l, hb, by simp⟩)
        (setCells_size _ _ _ _) (fun q hq => setCells_same _ _ _ _ q hq) (fun E => ?_) (setCells_io _ _ _ _)
      refine ⟨cks, hk, hp, .inr ⟨hnil, hcap, g, o, hbase, by simpa using hlen, ?_, fun _ => World.there_setCells hth _ _ _, fun h => by cases h⟩⟩
      intro i' e' he'
      rw [List.getElem?_set] at he'
      by_cases hii : i = i'
      · subst hii
        rw [if_pos rfl, if_pos hi] at he'
        injection he' with he'
        subst he'
        refine ⟨hrl, fun j x c hx hc' => ?_⟩
        have hj : j < cks.length := (List.getElem?_eq_some_iff.1 hc').1
        rw [hrow j hj] at hx
        split at hx
        · rename_i hin
          obtain ⟨v, hv, hr⟩ := hys (j - off) x c hx (by rw [← hc']; congr 1; omega)
          refine ⟨v, ?_, hr.keep E.h1 E.h2⟩
          have hjl : j - off < val.cells.toList.length := (List.getElem?_eq_some_iff.1 hv).1
          have := World.cell?_setCells_in g val.cells.toList (o + (i * cks.length + off)) w hsome (j - off) hjl
          rw [show o + (i * cks.length + j) = o + (i * cks.length + off) + (j - off) by omega, this, ← hv, List.getElem?_eq_getElem hjl]
        · rename_i hout
          rw [hc'] at hx
          simp only [Option.map_some] at hx
          injection hx with hx
          obtain ⟨hll, hold⟩ := hrows i _ (List.getElem?_eq_getElem hi)
          have hj' : j < (l[i]).length := by omega
          obtain ⟨v, hv, hr⟩ := hold j _ c (List.getElem?_eq_getElem hj') hc'
          have e1 : cellOf l i j = (l[i])[j] := by simp [cellOf, List.getD, List.getElem?_eq_getElem hi, List.getElem?_eq_getElem hj']
          refine ⟨v, ?_, ?_⟩
          · rw [World.cell?_setCells_out g _ _ w _ (fun _ _ => by simp; omega)]
            exact hv
          · rw [← hx, e1, hr.mk]
            exact hr.keep E.h1 E.h2
      · rw [if_neg hii] at he'
        obtain ⟨hll, hold⟩ := hrows i' e' he'
        refine ⟨hll, fun j x c hx hc' => ?_⟩
        have hj : j < cks.length := (List.getElem?_eq_some_iff.1 hc').1
        obtain ⟨v, hv, hr⟩ := hold j x c hx hc'
        refine ⟨v, ?_, hr.keep E.h1 E.h2⟩
        rw [World.cell?_setCells_out g _ _ w _ (fun _ _ => by
          have := row_at (i := i) (i' := i') (n := cks.length) (j := j) (off := off) (m := xi.size) hj hle (fun e => hii e.symm)
          simp; omega)]
        exact hv

theorem lend_mem {v : AV} {x : AV} (hx : x ∈ v.cells) {id : Nat} (h : id ∈ lendC x) : id ∈ lend v := by
  have key : ∀ l : List AV, x ∈ l → id ∈ lendL l := by
    intro l
    induction l with
    | nil => intro h; cases h
    | cons y r ih =>
      intro hm
      simp only [lendL, List.mem_append]
      rcases List.mem_cons.1 hm with rfl | hm
      · exact .inl h
      · exact .inr (ih hm)
  cases v
  case agg l => exact key l hx
  all_goals (simp only [AV.cells, List.mem_singleton] at hx; subst hx; exact h)

theorem store_sound (HT : tabOK P T = true) (hc : CS T C s a w) {t : TypeId} {x y : Operand} {o : Oper} (ho : o.op = .store t x y) {ev : Operand → Value} {ρ : Operand → AV} (hρ : ∀ x, RpS T C s w (ρ x) (ev x)) {call : CallR} {k : KE}
    (h : xeff T call ρ o.op s.env s.heap s.nx k) : AnsE P T C s a w (execOp ev o) k := by
  rw [ho] at h
  simp only [xeff, xstore] at h
  cases hx : T.get t with
  | none => simp [hx] at h
  | some xi =>
    rw [hx] at h
    simp only [cellsK_eq] at h
    cases hb : (okV (ρ y) && okCells s.heap (ρ y).cells && Nat.beq (len (ρ y).cells) xi.size) with
    | false => simp [hb] at h
    | true =>
      simp only [hb, cond_true] at h
      simp only [Bool.and_eq_true] at hb
      obtain ⟨⟨_, hok⟩, hn⟩ := hb
      have hn := beq_nat hn
      rw [len_eq] at hn
      have done : ∀ {wt : World}, (Instr.storeAt t (ev x) (ev y)).run P w = .ok () wt → (execOp ev o).run P w = .ok .skip wt := fun hr => by
        simp only [execOp, ho, Sem.run_bind, hr, Result.andThen_ok, Sem.run_pure]
      cases hrx : ρ x <;> rw [hrx] at h <;> simp only at h
      case ptr id off =>
        cases hbk : getB s.heap id with
        | gone => simp [hbk] at h
        | arr _ _ _ _ => simp [hbk] at h
        | box bt cs =>
          rw [hbk] at h
          simp only at h
          cases hle : Nat.ble (off + xi.size) (len cs) with
          | false => simp [hle] at h
          | true =>
            simp only [hle, cond_true] at h
            have hle := Nat.le_of_ble_eq_true hle
            rw [len_eq] at hle
            rw [spliceK_eq cs off _ _ (by omega)] at h
            have hpx := hρ x
            rw [hrx] at hpx
            obtain ⟨h1, h2⟩ := storeBox_sound HT hc hx hbk (hρ y) hok hn hle
            refine ⟨_, _, _, h, C, undef, _, KeepC.refl C, .inr ⟨done (by rw [hpx.1]; exact h1), rfl⟩, h2, rfl⟩
      case elt id i off =>
        rw [freezeK_eq] at h
        obtain ⟨hc1, E1, hfz⟩ := hc.freeze (lend (ρ y))
        cases hbk : getB (Go.Proofs.Ytaghkmaelbgljaa.VX.freeze s.heap (lend (ρ y))) id with
        | gone => simp [hbk] at h
        | box _ _ => simp [hbk] at h
        | arr wr e b l =>
          cases wr with
          | false => simp [hbk] at h
          | true =>
            rw [hbk] at h
            simp only at h
            cases hk : ckOf T e with
            | none => simp [hk] at h
            | some cks =>
              rw [hk] at h
              simp only at h
              cases hle : Nat.ble (off + xi.size) (len cks) with
              | false => simp [hle] at h
              | true =>
                simp only [hle, cond_true, subK_eq] at h
                have hle := Nat.le_of_ble_eq_true hle
                rw [len_eq] at hle
                have hpx := (hρ x)
                rw [hrx] at hpx
                have hpx := RpS.ext E1 hpx
                obtain ⟨_, hpx⟩ := hpx
                have hbk' : getB (frzs s (lend (ρ y))).heap id = .arr true e b l := hbk
                rw [hbk'] at hpx
                obtain ⟨hi, g, og, cks', hbase, hk', hvx⟩ := hpx
                rw [hk] at hk'
                injection hk' with hk'
                subst hk'
                obtain ⟨hr, h1⟩ := cells_rep (hρ y) hok
                have hlen : (ev y).cells.size = xi.size := by have := all2_len hr; simp at this; omega
                obtain ⟨ys, hK, hl1, hl2, hys⟩ := fitCs_sound (s := frzs s (lend (ρ y))) hc1 ((cks.drop off).take xi.size) (ρ y).cells _ h (fun z hz id' hid' wr t' b' l' hb' => by
                  have hm := lend_mem hz hid'
                  cases hb0 : getB s.heap id' with
                  | arr wr0 t0 b0 l0 =>
                    obtain ⟨wr1, h4, h5⟩ := (hfz id').1 _ _ _ _ hb0
                    rw [hb'] at h4
                    injection h4 with h4
                    rw [h4]; exact h5 hm
                  | box t0 cs0 => have := (hfz id').2 (by simp [hb0]); rw [hb', hb0] at this; cases this
                  | gone => have := (hfz id').2 (by simp [hb0]); rw [hb', hb0] at this; cases this)
                have hys' : ∀ (j : Nat) (y' : AV) (c : CK), ys[j]? = some y' → cks[off + j]? = some c → ∃ v, (ev y).cells.toList[j]? = some v ∧ RepC T w (XB C (frzs s (lend (ρ y))).heap) c y' v := fun j y' c hy hc' => by
                  have hj : j < ys.length := (List.getElem?_eq_some_iff.1 hy).1
                  refine hys _ (all2_mono (fun _ _ => RpK.ext E1) hr) j y' c hy ?_
                  rw [List.getElem?_take, if_pos (by rw [hl1] at hj; simp at hj; omega), List.getElem?_drop]
                  exact hc'
                have hyl : ys.length = xi.size := by rw [hl1]; simp; omega
                have hmk : (mkCells l i 0 cks).length = cks.length := mkCells_len _ _ _ _
                cases hw : (Nat.beq off 0 && Nat.beq xi.size (len cks)) with
                | true =>
                  simp only [hw, cond_true] at hK
                  simp only [Bool.and_eq_true] at hw
                  have e1 := beq_nat hw.1
                  have e2 := beq_nat hw.2
                  rw [len_eq] at e2
                  subst e1
                  obtain ⟨r1, r2⟩ := storeElt_sound (P := P) HT hc1 hx hbk' hk hbase hi hlen hle h1 hyl hys' (row := ys) (by omega) (fun j hj => by rw [if_pos (by omega)]; rfl)
                  exact ⟨_, _, _, hK, C, undef, _, KeepC.refl C, .inr ⟨done (by rw [hvx]; exact r1), rfl⟩, r2, rfl⟩
                | false =>
                  simp only [hw, cond_false, mkCellsK_eq] at hK
                  rw [spliceK_eq _ off ys _ (by omega)] at hK
                  obtain ⟨r1, r2⟩ := storeElt_sound (P := P) HT hc1 hx hbk' hk hbase hi hlen hle h1 hyl hys' (row := (mkCells l i 0 cks).take off ++ ys ++ (mkCells l i 0 cks).drop (off + ys.length)) (by simp; omega) (fun j hj => by
                    rw [splice_get _ off ys (by omega) j, mkCells_get]
                    simp)
                  exact ⟨_, _, _, hK, C, undef, _, KeepC.refl C, .inr ⟨done (by rw [hvx]; exact r1), rfl⟩, r2, rfl⟩
end
end Go.Proofs.Ytaghkmaelbgljaa.VX
