/- The operations that only compute and read: the others. -/
import Derived.Test.YtaghkmaelbgljaaVX5
namespace Go.Proofs.Ytaghkmaelbgljaa.VX
section
variable {P : Program} {T : Tab} {C : Cx} {s : St} {a : Act} {w : World} {Hyp : Prop} {nd : Nd} {K : AV → Prop}

theorem add_mk (g o n : Nat) : (⟨g, o, none⟩ : Addr).add n = ⟨g, o + n, none⟩ := by unfold Addr.add; split <;> simp_all

theorem run_fieldAt (w : World) {st : TypeId} {gs : Array Field} (hu : P.underlying st = some (.struct gs)) {i : Nat} {f : Field} (hf : gs.toList[i]? = some f) {ft : TypeId} (hft : f.type = ft) (hi : ∃ x, P.info? ft = some x ∧ x.size ≠ 0) (g o : Nat) :
    (Instr.fieldAt st (.pointer (some ⟨g, o, none⟩)) i).run P w = .ok (.pointer (some ⟨g, o + f.offset, none⟩)) w := by
  obtain ⟨x, hx, hs⟩ := hi
  have hf' : gs[i]? = some f := by simpa using hf
  subst hft
  simp [Instr.fieldAt, run_underlying hu, hf', Instr.sureAddr, fieldPlace, sizeOf, typeInfo, hx, hs, add_mk]

theorem cells_info {t : TypeId} {n : Nat} (h : P.cellsOf t = n) (hn : n ≠ 0) : ∃ x, P.info? t = some x ∧ x.size ≠ 0 := by
  unfold Program.cellsOf at h
  cases hi : P.info? t with
  | none => simp [hi] at h; omega
  | some x => exact ⟨x, rfl, by simp [hi] at h; omega⟩

theorem xfieldAddr_sound (HT : tabOK P T = true) {st : TypeId} {x : AV} {f : Nat} (h : xfieldAddr T s.heap st x f K) {v : Value} (hv : Hyp → RpS T C s w x v) : Ans P T C s w Hyp K (Instr.fieldAt st v f) := by
  unfold xfieldAddr at h
  cases hx : T.get st with
  | none => simp [hx] at h
  | some xi =>
    have R := tab_get HT hx
    rw [hx] at h
    simp only at h
    cases hd : xi.desc <;> rw [hd] at h <;> simp only at h
    case struct fs =>
      obtain ⟨gs, hu, hfs⟩ := R.struct hd
      rw [nth_eq] at h
      cases hf : fs[f]? with
      | none => simp [hf] at h
      | some q =>
        obtain ⟨ft, off, size, b⟩ := q
        rw [hf] at h
        simp only at h
        cases hz : Nat.beq size 0 with
        | true => simp [hz] at h
        | false =>
          simp only [hz, cond_false] at h
          have hz' : size ≠ 0 := fun e => by subst e; simp at hz
          obtain ⟨fd, hg, h1, h2, h3⟩ := fieldsOK_get hfs hf
          have hinfo := cells_info h3 hz'
          cases x <;> simp only at h
          case ptr id o =>
            refine .of h fun hh => ?_
            obtain ⟨rfl, hid⟩ := hv hh
            exact ⟨_, fun w _ => run_fieldAt w hu hg rfl hinfo _ _, by rw [h2]; exact ⟨rfl, hid⟩⟩
          case elt id i o =>
            cases hb : getB s.heap id with
            | gone => simp [hb] at h
            | box _ _ => simp [hb] at h
            | arr wr e b l =>
              rw [hb] at h
              refine .of h fun hh => ?_
              obtain ⟨hid, he⟩ := hv hh
              rw [hb] at he
              obtain ⟨hi, g, og, cks, hbase, hk, rfl⟩ := he
              refine ⟨_, fun w _ => run_fieldAt w hu hg rfl hinfo _ _, hid, ?_⟩
              rw [hb]
              exact ⟨hi, g, og, cks, hbase, hk, by rw [h2]; simp [Nat.add_assoc]⟩
          case rel e l i o =>
            refine .of h fun hh => ?_
            obtain ⟨hi, g, og, cap, cks, hk, hr, rfl⟩ := hv hh
            exact ⟨_, fun w _ => run_fieldAt w hu hg rfl hinfo _ _, hi, g, og, cap, cks, hk, hr, by rw [h2]; simp [Nat.add_assoc]⟩

/-- A part of a value's cells. -/
theorem part_sound {t : TypeId} {xi : XI} (R : RowOK P t xi) {cs : List AV} {off : Nat} (h : xpart xi cs off K) {us : Array Value} (hu : Hyp → all2 (RpK T C s w) cs us.toList) :
    Ans P T C s w Hyp K (part t us off) := by
  obtain ⟨d, hud, hd⟩ := R.isRow
  have pr := fun w => part_run (P := P) (w := w) (cs := us) (off := off) hud R.cells (info_of_underlying hud)
  rcases xpart_K h with ⟨ha, hle, hK⟩ | ⟨ha, y, hy, hK⟩
  · refine .of hK fun hh => ⟨_, fun w _ => (pr w).1 (by rw [hd, ha]), _, rfl, ?_⟩
    have := all2_sub (hu hh) off xi.size
    simpa [List.extract_eq_take_drop] using this
  · refine .of hK fun hh => ?_
    obtain ⟨u, hu', hr⟩ := all2_get (hu hh) hy
    exact ⟨u, fun w _ => (pr w).2 (by rw [hd, ha]) u (by simpa using hu'), RpS_of_RpK hr⟩

theorem xfield_sound (HT : tabOK P T = true) {st : TypeId} {x : AV} {f : Nat} (h : xfield T st x f K) {v : Value} (hv : Hyp → RpS T C s w x v) : Ans P T C s w Hyp K (Instr.field st v f) := by
  unfold xfield at h
  cases hx : T.get st with
  | none => simp [hx] at h
  | some xi =>
    have R := tab_get HT hx
    rw [hx] at h
    cases x <;> simp only at h
    case agg cs =>
      cases hd : xi.desc <;> rw [hd] at h <;> simp only at h
      case struct fs =>
        obtain ⟨gs, hu, hfs⟩ := R.struct hd
        rw [nth_eq] at h
        cases hf : fs[f]? with
        | none => simp [hf] at h
        | some q =>
          obtain ⟨ft, off, size, b⟩ := q
          rw [hf] at h
          simp only at h
          cases ht : T.get ft with
          | none => simp [ht] at h
          | some ti =>
            rw [ht] at h
            simp only at h
            obtain ⟨fd, hg, h1, h2, h3⟩ := fieldsOK_get hfs hf
            have hg' : gs[f]? = some fd := by simpa using hg
            by_cases hH : Hyp
            · obtain ⟨us, rfl, hu2⟩ := rp_agg (hv hH)
              obtain ⟨v', hK, hans⟩ := part_sound (Hyp := Hyp) (P := P) (T := T) (C := C) (s := s) (w := w) (tab_get HT ht) h (fun _ => hu2)
              refine ⟨v', hK, fun hh => ?_⟩
              obtain ⟨val, e1, e2⟩ := hans hh
              refine ⟨val, fun w' q => ?_, e2⟩
              have e1 := e1 w' q
              simp only [Instr.field, Sem.run_bind, run_underlying hu, Result.andThen_ok, hg', asAgg, Sem.run_pure, h1, h2, e1]
            · rcases xpart_K h with ⟨_, _, hK⟩ | ⟨_, y, _, hK⟩ <;> exact ⟨_, hK, fun hh => absurd hh hH⟩

theorem isSl_some {t e : TypeId} (HT : tabOK P T = true) (h : isSl T t e = true) : P.underlying t = some (.slice e) := by
  unfold isSl at h
  cases he : elemOf T t with
  | none => simp [he] at h
  | some e' =>
    cases hk : ckOf T e with
    | none => simp [he, hk] at h
    | some ck =>
      rw [he, hk] at h
      have := beq_nat h
      subst this
      obtain ⟨x, hx, hd⟩ := elemOf_some he
      exact (tab_get HT hx).slice hd
theorem isSl_ck {t e : TypeId} (h : isSl T t e = true) : ∃ ck, ckOf T e = some ck := by
  unfold isSl at h
  cases he : elemOf T t with
  | none => simp [he] at h
  | some e' =>
    cases hk : ckOf T e with
    | none => simp [he, hk] at h
    | some ck => exact ⟨ck, rfl⟩
theorem isSlice_some {t : TypeId} (HT : tabOK P T = true) (h : isSlice T t = true) : ∃ e cks, P.underlying t = some (.slice e) ∧ elemOf T t = some e ∧ ckOf T e = some cks := by
  unfold isSlice at h
  cases he : elemOf T t with
  | none => simp [he] at h
  | some e' =>
    obtain ⟨x, hx, hd⟩ := elemOf_some he
    cases hk : ckOf T e' with
    | none => simp [he, hk] at h
    | some cks => exact ⟨e', cks, (tab_get HT hx).slice hd, rfl, hk⟩
theorem isStr_some {t : TypeId} (HT : tabOK P T = true) (h : isStr T t = true) : P.underlying t = some .string := by
  unfold isStr at h
  cases hx : T.get t with
  | none => simp [hx] at h
  | some xi =>
    rw [hx] at h
    cases hd : xi.desc <;> simp only [hd] at h
    case str => exact (tab_get HT hx).str hd
    all_goals cases h
theorem ckOf_size (HT : tabOK P T = true) {e : TypeId} {cks : List CK} (h : ckOf T e = some cks) (w : World) : (sizeOf e).run P w = .ok cks.length w ∧ P.cellsOf e = cks.length := by
  obtain ⟨x, hx, hc⟩ := ckOf_some h
  have R := tab_get HT hx
  obtain ⟨i, z, hi, hs, _, _, _, _, hck⟩ := R.info
  rw [(hck cks hc).2.2.1]
  exact ⟨R.size w, R.cells⟩

theorem run_indexAt (w : World) {t e : TypeId} (hu : P.underlying t = some (.slice e)) {sz : Nat} (hs : (sizeOf e).run P w = .ok sz w) {k : IntKind} {n : Int} {g o len cap : Nat} (h0 : 0 ≤ n) (h1 : n < len) :
    (Instr.indexAt t (.slice (some ⟨g, o, none⟩) len cap) (.int k n)).run P w = .ok (.pointer (some ⟨g, o + n.toNat * sz, none⟩)) w := by
  simp [Instr.indexAt, asIntOf, run_underlying hu, h0, h1, hs, add_mk]

/-- What an own block says of its header. -/
theorem arr_facts (hc : CS T C s a w) {id : Nat} {wr : Bool} {e : TypeId} {b : Bool} {l : List (List AV)} (hb : getB s.heap id = .arr wr e b l) : ∃ cks, ckOf T e = some cks ∧ 0 < cks.length ∧ l.length ≤ C.cap id ∧ b = (C.base id).isNone ∧
    (l ≠ [] → ∃ g o, C.base id = some ⟨g, o, none⟩ ∧ RowsRep T w (XB C s.heap) g o cks l) := by
  have hr := hc.blk id
  rw [hb] at hr
  obtain ⟨cks, hk, hp, hr⟩ := hr
  refine ⟨cks, hk, hp, ?_⟩
  rcases hr with ⟨rfl, _, h2⟩ | ⟨h0, _, g, o, hbase, hle, hrow, _⟩
  · exact ⟨by simp, h2, fun h => absurd rfl h⟩
  · exact ⟨hle, by rw [h0, hbase]; rfl, fun _ => ⟨g, o, hbase, hrow⟩⟩
theorem rp_own {id : Nat} {v : Value} (h : RpS T C s w (.own id) v) {wr : Bool} {e : TypeId} {b : Bool} {l : List (List AV)} (hb : getB s.heap id = .arr wr e b l) : id < s.nx ∧ v = hdr C id l.length := by
  obtain ⟨h1, h2⟩ := h
  rw [hb] at h2
  exact ⟨h1, h2⟩
theorem rp_vw {id lo n : Nat} {v : Value} (h : RpS T C s w (.vw id lo n) v) {wr : Bool} {e : TypeId} {b : Bool} {l : List (List AV)} (hb : getB s.heap id = .arr wr e b l) :
    id < s.nx ∧ ∃ ad c, v = .slice ad n c ∧ n ≤ c ∧ lo + n ≤ l.length ∧ ad.isNone = (C.base id).isNone ∧ (lo = 0 → ad = C.base id ∧ c = C.cap id) ∧
        (0 < n → ∃ g o cks, C.base id = some ⟨g, o, none⟩ ∧ ckOf T e = some cks ∧ ad = some ⟨g, o + lo * cks.length, none⟩) := by
  obtain ⟨h1, h2⟩ := h
  rw [hb] at h2
  exact ⟨h1, h2⟩
theorem rp_sl {b : Bool} {t : TypeId} {l : List (List AV)} {v : Value} (h : RpS T C s w (.sl b t l) v) : RepC T w (XB C s.heap) (.sl t) (.sl b t l) v := h

theorem xindexAddr_sound (HT : tabOK P T = true) (hc : CS T C s a w) (hnd : ∀ c X, nd c X → X ∧ (Hyp → c)) {t : TypeId} {x i : AV} (h : xindexAddr T nd s.heap t x i K) {v u : Value} (hv : Hyp → RpS T C s w x v) (hu : Hyp → RpS T C s w i u) :
    Ans P T C s w Hyp K (Instr.indexAt t v u) := by
  unfold xindexAddr at h
  cases i <;> simp only at h
  case int k n =>
    cases x <;> simp only at h
    case own id =>
      cases hb : getB s.heap id with
      | gone => simp [hb] at h
      | box _ _ => simp [hb] at h
      | arr wr e b l =>
        rw [hb] at h
        simp only at h
        cases hs : isSl T t e with
        | false => simp [hs] at h
        | true =>
          simp only [hs, cond_true] at h
          obtain ⟨h, hn⟩ := hnd _ _ h
          refine .of h fun hh => ?_
          obtain ⟨h0, h1⟩ := hn hh
          obtain ⟨cks, hk, hp, hle, _, hrow⟩ := arr_facts hc hb
          obtain ⟨hid, hv⟩ := rp_own (hv hh) hb
          have hu := hu hh
          have hne : l ≠ [] := fun e => by subst e; simp at h1; omega
          obtain ⟨g, o, hbase, _⟩ := hrow hne
          have e2 : u = .int k n := hu
          subst e2 hv
          simp only [hdr, hbase]
          refine ⟨_, fun w _ => run_indexAt w (isSl_some HT hs) (ckOf_size HT hk w).1 h0 h1, hid, ?_⟩
          rw [hb]
          exact ⟨by omega, g, o, cks, hbase, hk, rfl⟩
    case vw id lo m =>
      cases hb : getB s.heap id with
      | gone => simp [hb] at h
      | box _ _ => simp [hb] at h
      | arr wr e b l =>
        rw [hb] at h
        simp only at h
        cases hs : isSl T t e with
        | false => simp [hs] at h
        | true =>
          simp only [hs, cond_true] at h
          obtain ⟨h, hn⟩ := hnd _ _ h
          refine .of h fun hh => ?_
          obtain ⟨h0, h1⟩ := hn hh
          obtain ⟨hid, ad, c, hv, _, hle, _, _, hpos⟩ := rp_vw (hv hh) hb
          obtain ⟨g, o, cks, hbase, hk, rfl⟩ := hpos (by omega)
          have e2 : u = .int k n := hu hh
          subst e2 hv
          refine ⟨_, fun w _ => run_indexAt w (isSl_some HT hs) (ckOf_size HT hk w).1 h0 h1, hid, ?_⟩
          rw [hb]
          refine ⟨by omega, g, o, cks, hbase, hk, ?_⟩
          congr 3
          rw [Nat.add_mul]; omega
    case sl nb e l =>
      cases hs : isSl T t e with
      | false => simp [hs] at h
      | true =>
        simp only [hs, cond_true] at h
        obtain ⟨h, hn⟩ := hnd _ _ h
        refine .of h fun hh => ?_
        obtain ⟨h0, h1⟩ := hn hh
        have e2 : u = .int k n := hu hh
        subst e2
        have hr := rp_sl (hv hh)
        cases hr with
        | em _ _ _ _ _ => simp at h1; omega
        | sl _ cks _ g o cap vals hk hp hne hX hle hlen hcell hval =>
          exact ⟨_, fun w _ => run_indexAt w (isSl_some HT hs) (ckOf_size HT hk w).1 h0 h1, by omega, g, o, cap, cks, hk, .sl e cks l g o cap vals hk hp hne hX hle hlen hcell hval, rfl⟩
    case ptr id off =>
      cases hx : T.get t with
      | none => simp [hx] at h
      | some xi =>
        have R := tab_get HT hx
        rw [hx] at h
        simp only at h
        cases hd : xi.desc <;> rw [hd] at h <;> simp only at h
        case arr m e =>
          cases he : T.get e with
          | none => simp [he] at h
          | some ei =>
            rw [he] at h
            simp only at h
            obtain ⟨h, hn⟩ := hnd _ _ h
            refine .of h fun hh => ?_
            obtain ⟨h0, h1⟩ := hn hh
            have e2 : u = .int k n := hu hh
            obtain ⟨rfl, hid⟩ := hv hh
            subst e2
            refine ⟨_, fun w _ => ?_, rfl, hid⟩
            simp [Instr.indexAt, asIntOf, run_underlying (R.arr hd), Instr.sureAddr, h0, h1, (tab_get HT he).size w, add_mk]

theorem bytes_get (t : ByteArray) (n : Nat) (h : n < t.size) : t[n]? = some (t.data.toList.getD n 0) := by
  have : n < t.data.size := h
  simp [h, List.getD]
  rfl

theorem xindex_sound (HT : tabOK P T = true) (hnd : ∀ c X, nd c X → X ∧ (Hyp → c)) {t : TypeId} {x i : AV} (h : xindex T nd t x i K) {v u : Value} (hv : Hyp → RpS T C s w x v) (hu : Hyp → RpS T C s w i u) :
    Ans P T C s w Hyp K (Instr.index t v u) := by
  unfold xindex at h
  cases hx : T.get t with
  | none => simp [hx] at h
  | some xi =>
    have R := tab_get HT hx
    rw [hx] at h
    simp only at h
    cases i <;> simp only at h
    case int k n =>
      cases hd : xi.desc <;> rw [hd] at h <;> simp only at h
      case str =>
        cases x <;> simp only at h
        case str q =>
          obtain ⟨h, hn⟩ := hnd _ _ h
          refine .of h fun hh => ?_
          obtain ⟨h0, h1⟩ := hn hh
          have e1 : v = .string q := hv hh
          have e2 : u = .int k n := hu hh
          subst e1 e2
          have hb := bytes_get q n.toNat (by omega)
          refine ⟨.int .u8 (byteAt q n.toNat), fun w _ => ?_, rfl⟩
          simp only [Instr.index, asIntOf, Sem.run_bind, Sem.run_pure, Result.andThen_ok, run_underlying (R.str hd), if_pos h0, hb]
          rfl
      case arr m e =>
        cases x <;> simp only at h
        case agg cs =>
          cases he : T.get e with
          | none => simp [he] at h
          | some ei =>
            rw [he] at h
            simp only at h
            obtain ⟨h, hn⟩ := hnd _ _ h
            by_cases hH : Hyp
            · obtain ⟨us, rfl, hu2⟩ := rp_agg (hv hH)
              obtain ⟨v', hK, hans⟩ := part_sound (Hyp := Hyp) (P := P) (T := T) (C := C) (s := s) (w := w) (tab_get HT he) h (fun _ => hu2)
              refine ⟨v', hK, fun hh => ?_⟩
              obtain ⟨h0, h1⟩ := hn hh
              have e2 : u = .int k n := hu hh
              subst e2
              obtain ⟨val, e1, e2⟩ := hans hh
              exact ⟨val, fun w' q => by simp [Instr.index, asIntOf, run_underlying (R.arr hd), h0, h1, (tab_get HT he).size w', e1 w' q], e2⟩
            · rcases xpart_K h with ⟨_, _, hK⟩ | ⟨_, y, _, hK⟩ <;> exact ⟨_, hK, fun hh => absurd hh hH⟩
end
end Go.Proofs.Ytaghkmaelbgljaa.VX
