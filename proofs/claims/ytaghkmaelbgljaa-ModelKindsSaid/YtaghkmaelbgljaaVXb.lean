/- The operations that make or write memory. -/
import Derived.Test.YtaghkmaelbgljaaVXa
namespace Go.Proofs.Ytaghkmaelbgljaa.VX
section
variable {P : Program} {T : Tab} {C : Cx} {s : St} {a : Act} {w w' : World}

/-- What a walk keeps of its frame. -/
def KeepC (C C' : Cx) : Prop := C'.F = C.F ∧ C'.G = C.G ∧ C'.w0 = C.w0 ∧ C'.pin = C.pin ∧ C'.N = C.N
theorem KeepC.refl (C : Cx) : KeepC C C := ⟨rfl, rfl, rfl, rfl, rfl⟩
theorem KeepC.trans {C C' C'' : Cx} (h : KeepC C C') (h' : KeepC C' C'') : KeepC C C'' :=
  ⟨h'.1.trans h.1, h'.2.1.trans h.2.1, h'.2.2.1.trans h.2.2.1, h'.2.2.2.1.trans h.2.2.2.1, h'.2.2.2.2.trans h.2.2.2.2⟩
theorem KeepC.at (C : Cx) (n β : Nat) (base : Option Addr) (cap : Nat) : KeepC C (C.at n β base cap) := ⟨rfl, rfl, rfl, rfl, rfl⟩

abbrev KE := AV → List (Nat × AV) → Hp → Nat → Prop
def AnsE (P : Program) (T : Tab) (C : Cx) (s : St) (a : Act) (w : World) (m : Sem Next) (k : KE) : Prop :=
  ∃ v h' nx', k v s.env h' nx' ∧ ∃ C' val w', KeepC C C' ∧ (m.run P w = .ok (.value val) w' ∨ (m.run P w = .ok .skip w' ∧ val = undef)) ∧
    CS T C' ⟨s.env, h', nx', s.gs, s.kn⟩ a w' ∧ RpS T C' ⟨s.env, h', nx', s.gs, s.kn⟩ w' v val

theorem alloc_same (w : World) (o : Obj) (b : Nat) (h : b < w.heap.size) : (w.alloc o).heap[b]? = w.heap[b]? := by
  simp only [World.alloc, Array.getElem?_push]
  rw [if_neg (by omega)]
theorem alloc_size (w : World) (o : Obj) : (w.alloc o).heap.size = w.heap.size + 1 := by simp only [World.alloc, Array.size_push]
theorem rangeAt_new (w : World) (cs : Array Value) (t : TypeId) (fr : Nat × Nat) : (w.alloc (.cells cs t fr)).rangeAt w.heap.size 0 cs.toList := fun j v hv => by
  simp only [World.cell?, World.alloc, Array.getElem?_push, if_true, Nat.zero_add]
  simpa using hv
theorem there_new (w : World) (cs : Array Value) (t : TypeId) : (w.alloc (.cells cs t (0, 0))).there w.heap.size 0 cs.size := fun j hj => by
  constructor
  · simp only [World.cell?, World.alloc, Array.getElem?_push, if_true, Nat.zero_add]
    simp [hj]
  · simp only [World.frozen?, World.alloc, Array.getElem?_push, if_true, Nat.zero_add]
    simp

theorem zeros_one {xs : List AV} {vs : List Value} (h : zerosOK xs vs = true) : ∀ u ∈ vs, u.oneCell' = true := by
  induction xs generalizing vs with
  | nil => cases vs <;> simp [zerosOK] at h ⊢
  | cons x xs ih =>
    cases vs with
    | nil => simp
    | cons v vs =>
      simp only [zerosOK, Bool.and_eq_true] at h
      intro u hu
      rcases List.mem_cons.1 hu with rfl | hu
      · cases hz : zv x with
        | none => simp [hz] at h
        | some q =>
          rw [hz] at h
          have := vIs_eq h.1
          subst this
          cases x <;> simp only [zv] at hz
          all_goals try (cases hz; done)
          case str q =>
            split at hz
            · injection hz with hz; subst hz; rfl
            · cases hz
          all_goals (injection hz with hz; subst hz; rfl)
      · exact ih h.2 u hu

/-- A new box. -/
theorem box_new (hc : CS T C s a w) (t : TypeId) {cs : List AV} {vs : Array Value} (hr : all2 (RpK T C s w) cs vs.toList) (h1 : ∀ u ∈ vs.toList, u.oneCell' = true) :
    ∃ C', KeepC C C' ∧ CS T C' ⟨s.env, (s.nx, .box t cs) :: s.heap, s.nx + 1, s.gs, s.kn⟩ a (w.alloc (.cells vs t)) ∧
      RpS T C' ⟨s.env, (s.nx, .box t cs) :: s.heap, s.nx + 1, s.gs, s.kn⟩ (w.alloc (.cells vs t)) (.ptr s.nx 0) (.pointer (some ⟨w.heap.size, 0, none⟩)) := by
  have hnew : ∀ g, ownB (C.at s.nx w.heap.size none 0) (s.add (.box t cs)).heap s.nx = some g → w.heap.size ≤ g ∧ g < (w.alloc (.cells vs t)).heap.size := fun g h => by
    simp [ownB, St.add, getB_cons, Cx.at, upd_same] at h
    subst h
    rw [alloc_size]
    exact ⟨Nat.le_refl _, Nat.lt_succ_self _⟩
  have E := Ext.add (C := C) (s := s) (w := w) (w' := w.alloc (.cells vs t)) (alloc_same w _) (β := w.heap.size) (base := none) (cap := 0) (b := .box t cs) (fun g h => (hnew g h).1)
  refine ⟨C.at s.nx w.heap.size none 0, KeepC.at _ _ _ _ _, hc.add (by rw [alloc_size]; omega) (alloc_same w _) hnew ⟨vs.toList, ?_, ?_, all2_mono (fun _ _ => RpK.ext E) hr, h1⟩, ?_, Nat.lt_succ_self _⟩
  · simp only [Cx.at, upd_same]; exact rangeAt_new w vs t (0, 0)
  · simp only [Cx.at, upd_same]; simpa using there_new w vs t
  · simp only [Cx.at, upd_same]

theorem run_alloc (w : World) {t : TypeId} {xi : XI} (R : RowOK P t xi) : ∃ z : Value, zerosOK xi.zero z.cells.toList = true ∧ (Instr.alloc t true (.tuple #[])).run P w = .ok (.pointer (some ⟨w.heap.size, 0, none⟩)) (w.alloc (.cells z.cells t)) := by
  obtain ⟨i, z, hi, _, _, hz, hzz, _, _⟩ := R.info
  exact ⟨z, hzz, by simp [Instr.alloc, zeroValue, typeInfo, hi, hz, newVar, newRow]⟩

theorem alloc_sound (HT : tabOK P T = true) (hc : CS T C s a w) {t : TypeId} {o : Oper} (ho : o.op = .alloc t) {ev : Operand → Value} {ρ : Operand → AV} {call : CallR} {k : KE}
    (h : xeff T call ρ o.op s.env s.heap s.nx k) : AnsE P T C s a w (execOp ev o) k := by
  rw [ho] at h
  simp only [xeff] at h
  cases hx : T.get t with
  | none => simp [hx] at h
  | some xi =>
    rw [hx] at h
    obtain ⟨z, hz, hrun⟩ := run_alloc (P := P) w (tab_get HT hx)
    obtain ⟨C', hk, hcs, hrp⟩ := box_new hc t (zeros_rep hz) (zeros_one hz)
    exact ⟨_, _, _, h, C', _, _, hk, .inl (by simp only [execOp, ho, Sem.run_bind, hrun, Result.andThen_ok, Sem.run_pure]), hcs, hrp⟩

theorem box_sound (hc : CS T C s a w) {t : TypeId} {x : Operand} {o : Oper} (ho : o.op = .box t x) {ev : Operand → Value} {ρ : Operand → AV} (hρ : ∀ x, RpS T C s w (ρ x) (ev x)) {call : CallR} {k : KE}
    (h : xeff T call ρ o.op s.env s.heap s.nx k) : AnsE P T C s a w (execOp ev o) k := by
  rw [ho] at h
  simp only [xeff, cellsK_eq] at h
  cases hx : T.get t with
  | none => simp [hx] at h
  | some xi =>
    rw [hx] at h
    simp only at h
    cases hb : (okV (ρ x) && okCells s.heap (ρ x).cells && Nat.beq (len (ρ x).cells) xi.size) with
    | false => simp [hb] at h
    | true =>
      simp only [hb, cond_true] at h
      simp only [Bool.and_eq_true] at hb
      obtain ⟨hr, h1⟩ := cells_rep (hρ x) hb.1.2
      obtain ⟨C', hk, hcs, hrp⟩ := box_new hc t hr h1
      exact ⟨_, _, _, h, C', _, _, hk, .inl (by simp [execOp, ho, Instr.box, newVar, newRow]), hcs, hrp⟩

/-! stores -/
theorem setCells_size (b : Nat) : ∀ (vs : List Value) (o : Nat) (w : World), (w.setCells b o vs).heap.size = w.heap.size
  | [], _, _ => rfl
  | v :: r, o, w => by rw [World.setCells, setCells_size b r]; simp [World.setCell]
theorem setCells_same (b : Nat) : ∀ (vs : List Value) (o : Nat) (w : World) (g : Nat), g ≠ b → (w.setCells b o vs).heap[g]? = w.heap[g]?
  | [], _, _, _, _ => rfl
  | v :: r, o, w, g, h => by
    rw [World.setCells, setCells_same b r (o + 1) _ g h]
    simp only [World.setCell, Array.getElem?_modify]
    rw [if_neg (Ne.symm h)]
theorem setCells_io (b : Nat) : ∀ (vs : List Value) (o : Nat) (w : World), (w.setCells b o vs).os = w.os ∧ (w.setCells b o vs).tape = w.tape ∧ (w.setCells b o vs).output = w.output
  | [], _, _ => ⟨rfl, rfl, rfl⟩
  | v :: r, o, w => by rw [World.setCells]; exact setCells_io b r (o + 1) _
theorem rangeAt_splice {b o : Nat} {vs new : List Value} (hr : w.rangeAt b o vs) (ht : w.there b o vs.length) {off : Nat} (h : off + new.length ≤ vs.length) :
    (w.setCells b (o + off) new).rangeAt b o (vs.take off ++ new ++ vs.drop (off + new.length)) := by
  have ht' : w.there b (o + off) new.length := fun j hj => by
    have := ht (off + j) (by omega)
    rwa [← Nat.add_assoc] at this
  intro j v hv
  by_cases h1 : j < off
  · rw [List.append_assoc, List.getElem?_append_left (by simp; omega), List.getElem?_take, if_pos h1] at hv
    rw [World.cell?_setCells_out b new (o + off) w _ (fun _ _ => .inl (by simp; omega))]
    exact hr j v hv
  · by_cases h2 : j < off + new.length
    · rw [List.getElem?_append_left (by simp; omega), List.getElem?_append_right (by simp; omega)] at hv
      have hl : (vs.take off).length = off := by simp; omega
      rw [hl] at hv
      have := World.rangeAt_setCells_same w b (o + off) new ht' (j - off) v hv
      have e : o + off + (j - off) = o + j := by omega
      rwa [e] at this
    · rw [List.getElem?_append_right (by simp; omega), List.getElem?_drop] at hv
      rw [World.cell?_setCells_out b new (o + off) w _ (fun _ _ => .inr (by simp; omega))]
      refine hr j v ?_
      rw [← hv]
      congr 1
      simp; omega

theorem run_storeAt (w : World) {t : TypeId} {n : Nat} (hs : (sizeOf t).run P w = .ok n w) {g o : Nat} {v : Value} (hn : v.cells.size = n) (ht : w.there g o n) (h1 : ∀ u ∈ v.cells.toList, u.oneCell' = true) :
    (Instr.storeAt t (.pointer (some ⟨g, o, none⟩)) v).run P w = .ok () (w.setCells g o v.cells.toList) := by
  have := run_storeCells_cells (P := P) g o v.cells.toList 0 w (fun j hj => by simpa using (ht j (by simpa [hn] using hj)).1) (fun j hj => by simpa using (ht j (by simpa [hn] using hj)).2) h1
  simp only [Nat.add_zero] at this
  simp [Instr.storeAt, Instr.sureAddr, storeVar, hs, hn, this]

theorem gone_lt (hc : CS T C s a w) {id : Nat} {b : AB} (hb : getB s.heap id = b) (hne : b ≠ .gone) : id < s.nx := by
  rcases Nat.lt_or_ge id s.nx with h | h
  · exact h
  · rw [hc.nx id h] at hb; exact absurd hb.symm hne

theorem storeBox_sound (HT : tabOK P T = true) (hc : CS T C s a w) {t : TypeId} {xi : XI} (hx : T.get t = some xi) {id off : Nat} {bt : TypeId} {cs : List AV} (hb : getB s.heap id = .box bt cs) {v : AV} {val : Value} (hv : RpS T C s w v val)
    (hok : okCells s.heap v.cells = true) (hn : v.cells.length = xi.size) (hle : off + xi.size ≤ cs.length) :
    (Instr.storeAt t (.pointer (some ⟨C.β id, off, none⟩)) val).run P w = .ok () (w.setCells (C.β id) off val.cells.toList) ∧
    CS T C (s.set id (.box bt (cs.take off ++ v.cells ++ cs.drop (off + v.cells.length)))) a (w.setCells (C.β id) off val.cells.toList) := by
  have R := tab_get HT hx
  obtain ⟨hr, h1⟩ := cells_rep hv hok
  have hl := all2_len hr
  have hlen : val.cells.size = xi.size := by rw [← hn, hl]; simp
  have hblk := hc.blk id
  rw [hb] at hblk
  obtain ⟨vs, hrange, hthere, hcells, hone⟩ := hblk
  have hcl := all2_len hcells
  have ho : ownB C s.heap id = some (C.β id) := by simp [ownB, hb]
  constructor
  · refine run_storeAt w (R.size w) hlen (fun j hj => ?_) h1
    have := hthere (off + j) (by omega)
    simpa using this
  · refine hc.set (gone_lt hc hb (by simp)) ho (by simp [ownB, St.set, getB_cons]) (fun _ _ _ _ e => by cases e) (setCells_size _ _ _ _) (fun g hg => setCells_same _ _ _ _ g hg) (fun E => ?_) (setCells_io _ _ _ _)
    refine ⟨vs.take off ++ val.cells.toList ++ vs.drop (off + val.cells.toList.length), ?_, ?_, ?_, ?_⟩
    · have := rangeAt_splice hrange hthere (off := off) (new := val.cells.toList) (by simp; omega)
      simpa using this
    · have : (vs.take off ++ val.cells.toList ++ vs.drop (off + val.cells.toList.length)).length = vs.length := by simp; omega
      rw [this]
      exact World.there_setCells hthere _ _ _
    · refine all2_mono (fun _ _ => RpK.ext E) (all2_append (all2_append ?_ hr) ?_)
      · simpa using all2_sub hcells 0 off
      · have := all2_sub hcells (off + v.cells.length) cs.length
        rw [List.take_of_length_le (by simp), List.take_of_length_le (by simp; omega)] at this
        rw [← hl]; exact this
    · intro u hu
      rcases List.mem_append.1 hu with hu | hu
      · rcases List.mem_append.1 hu with hu | hu
        · exact hone u (List.mem_of_mem_take hu)
        · exact h1 u hu
      · exact hone u (List.mem_of_mem_drop hu)
end
end Go.Proofs.Ytaghkmaelbgljaa.VX
