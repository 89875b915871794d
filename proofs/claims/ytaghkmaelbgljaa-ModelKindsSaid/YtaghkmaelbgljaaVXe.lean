/- New slices: literals, make, bytes of a string. -/
import Derived.Test.YtaghkmaelbgljaaVXd
namespace Go.Proofs.Ytaghkmaelbgljaa.VX
section
variable {P : Program} {T : Tab} {C : Cx} {s : St} {a : Act} {w w' : World}

theorem arr_new (hc : CS T C s a w) (hge : w.heap.size < w'.heap.size) (hsame : ∀ b, b < w.heap.size → w'.heap[b]? = w.heap[b]?) {e : TypeId} {cks : List CK} (hk : ckOf T e = some cks) (hp : 0 < cks.length) {l : List (List AV)} {cap : Nat} (hle : l.length ≤ cap)
    (hrows : ∀ (i : Nat) (r : List AV), l[i]? = some r → r.length = cks.length ∧ ∀ (j : Nat) (x : AV) (c : CK), r[j]? = some x → cks[j]? = some c → ∃ v, w'.cell? ⟨w.heap.size, i * cks.length + j, none⟩ = some v ∧ RepC T w (XB C s.heap) c x v)
    (hth : w'.there w.heap.size 0 (cap * cks.length)) (hio : w'.os = w.os ∧ w'.tape = w.tape ∧ w'.output = w.output := by exact ⟨rfl, rfl, rfl⟩) :
    ∃ C', KeepC C C' ∧ CS T C' ⟨s.env, (s.nx, .arr true e false l) :: s.heap, s.nx + 1, s.gs, s.kn⟩ a w' ∧
      RpS T C' ⟨s.env, (s.nx, .arr true e false l) :: s.heap, s.nx + 1, s.gs, s.kn⟩ w' (.own s.nx) (.slice (some ⟨w.heap.size, 0, none⟩) l.length cap) := by
  have hnew : ∀ g, ownB (C.at s.nx 0 (some ⟨w.heap.size, 0, none⟩) cap) (s.add (.arr true e false l)).heap s.nx = some g → w.heap.size ≤ g ∧ g < w'.heap.size := fun g h => by
    simp only [ownB, St.add, getB_cons, Cx.at, upd_same, if_true] at h
    split at h
    · cases h
    · simp only [Option.map_some, Option.some.injEq] at h
      subst h
      exact ⟨Nat.le_refl _, hge⟩
  have E := Ext.add (C := C) (s := s) (w := w) (w' := w') hsame (β := 0) (base := some ⟨w.heap.size, 0, none⟩) (cap := cap) (b := .arr true e false l) (fun g h => (hnew g h).1)
  refine ⟨C.at s.nx 0 (some ⟨w.heap.size, 0, none⟩) cap, KeepC.at _ _ _ _ _, hc.add (by omega) hsame hnew ⟨cks, hk, hp, ?_⟩ hio, Nat.lt_succ_self _, ?_⟩
  · simp only [Cx.at, upd_same]
    by_cases h0 : cap = 0
    · left
      exact ⟨List.length_eq_zero_iff.1 (by omega), h0, by simp⟩
    · right
      refine ⟨trivial, by omega, w.heap.size, 0, rfl, hle, fun i r hr => ?_, fun _ => hth, fun h => by cases h⟩
      obtain ⟨h1, h2⟩ := hrows i r hr
      refine ⟨h1, fun j x c hx hcc => ?_⟩
      obtain ⟨v, hv, hrep⟩ := h2 j x c hx hcc
      exact ⟨v, by rw [Nat.zero_add]; exact hv, hrep.keep E.h1 E.h2⟩
  · simp only [getB_cons, if_true, hdr, Cx.at, upd_same]

theorem there_new' (w : World) (cs : Array Value) (t : TypeId) (fr : Nat × Nat) (hf : ∀ j, j < cs.size → (decide (fr.1 ≤ j) && decide (j < fr.2)) = false) : (w.alloc (.cells cs t fr)).there w.heap.size 0 cs.size := fun j hj => by
  constructor
  · simp only [World.cell?, World.alloc, Array.getElem?_push, if_true, Nat.zero_add]
    simp [hj]
  · simp only [World.frozen?, World.alloc, Array.getElem?_push, if_true, Nat.zero_add]
    obtain ⟨f1, f2⟩ := fr
    exact hf j hj

theorem ck_zero {cks : List CK} {vs : List Value} (h : ckOK cks vs = true) : vs.length = cks.length ∧ (∀ (j : Nat) (c : CK) (v : Value), cks[j]? = some c → vs[j]? = some v → RepC T w (fun _ => True) c (zeroCk c) v) ∧ ∀ u ∈ vs, u.oneCell' = true := by
  induction cks generalizing vs with
  | nil => cases vs <;> simp [ckOK] at h ⊢
  | cons c cks ih =>
    cases vs with
    | nil => simp [ckOK] at h
    | cons v vs =>
      simp only [ckOK, Bool.and_eq_true] at h
      obtain ⟨h1, h2, h3⟩ := ih h.2
      have hv := vIs_eq h.1
      subst hv
      have hz : RepC T w (fun _ => True) c (zeroCk c) (ckV c) := by
        cases c with
        | int k => exact .int k 0
        | bool => exact .bool false
        | str => exact .str .empty
        | sl t => exact .em t true none 0 rfl
      refine ⟨by simp [h1], fun j c' v' hc hv => ?_, fun u hu => ?_⟩
      · cases j with
        | zero => simp at hc hv; subst hc hv; exact hz
        | succ j => exact h2 j c' v' (by simpa using hc) (by simpa using hv)
      · rcases List.mem_cons.1 hu with rfl | hu
        · exact hz.one
        · exact h3 u hu
theorem RepC.weak {X X' : Nat → Prop} {c : CK} {x : AV} {v : Value} (h : RepC T w X c x v) (hx : ∀ b, X' b → X b) : RepC T w X' c x v := by
  induction h with
  | int k n => exact .int k n
  | bool b => exact .bool b
  | str s => exact .str s
  | em t b a cap hb => exact .em t b a cap hb
  | sl t cks l g o cap vals hk hc hne hX hle hlen hcell hval ih => exact .sl t cks l g o cap vals hk hc hne (fun h => hX (hx g h)) hle hlen hcell ih

/-- The zero of an element. -/
theorem elem_zero (HT : tabOK P T = true) {e : TypeId} {cks : List CK} (hk : ckOf T e = some cks) : ∃ i z, P.info? e = some i ∧ i.zero = some z ∧ i.size = cks.length ∧ i.bytes = bytesOf T e ∧ 0 < cks.length ∧ ckOK cks z.cells.toList = true ∧ 0 < i.bytes := by
  obtain ⟨x, hx, hcx⟩ := ckOf_some hk
  obtain ⟨i, z, hi, hs, hb, hz, _, _, hck⟩ := (tab_get HT hx).info
  obtain ⟨h1, h2, h3, h4⟩ := hck cks hcx
  exact ⟨i, z, hi, hz, by omega, by rw [hb]; simp [bytesOf, hx], h2, h1, by omega⟩

/-- Elements that lie one behind the other. -/
def Flat (T : Tab) (w : World) (X : Nat → Prop) (cks : List CK) (l : List (List AV)) (cells : List Value) : Prop :=
  ∀ (i : Nat) (r : List AV), l[i]? = some r → r.length = cks.length ∧ ∀ (j : Nat) (x : AV) (c : CK), r[j]? = some x → cks[j]? = some c → ∃ v, cells[i * cks.length + j]? = some v ∧ RepC T w X c x v

theorem rep_get {α : Type} : ∀ (n : Nat) (x : α) (i : Nat), (rep n x)[i]? = if i < n then some x else none
  | 0, _, i => by simp [rep]
  | n + 1, x, 0 => by simp [rep]
  | n + 1, x, i + 1 => by simp [rep, rep_get n x i]

theorem zero_flat {X : Nat → Prop} {cks : List CK} {z : Value} (hz : ckOK cks z.cells.toList = true) (n : Nat) {l : List (List AV)} (hl : ∀ i r, l[i]? = some r → r = cks.map zeroCk ∧ i < n) :
    Flat T w X cks l (((Array.range (n * cks.length)).map (z.cells[· % z.cells.size]!)).toList) := by
  obtain ⟨h1, h2, _⟩ := ck_zero (T := T) (w := w) hz
  intro i r hr
  obtain ⟨rfl, hi⟩ := hl i r hr
  refine ⟨by simp, fun j x c hx hc => ?_⟩
  have hj : j < cks.length := (List.getElem?_eq_some_iff.1 hc).1
  rw [List.getElem?_map, hc] at hx
  simp only [Option.map_some, Option.some.injEq] at hx
  subst hx
  have hb : i * cks.length + j < n * cks.length := by
    have : (i + 1) * cks.length ≤ n * cks.length := Nat.mul_le_mul_right _ hi
    rw [Nat.add_mul] at this
    omega
  have hs : z.cells.size = cks.length := by simpa using h1
  have hjz : j < z.cells.size := by omega
  refine ⟨z.cells[j], ?_, (h2 j c _ hc (by simp [hjz])).weak (fun _ _ => trivial)⟩
  have hmod : (i * cks.length + j) % z.cells.size = j := by rw [hs, Nat.mul_comm, Nat.mul_add_mod]; exact Nat.mod_eq_of_lt hj
  simp [hb, hmod, hjz]

theorem zero_one {cks : List CK} {z : Value} (hz : ckOK cks z.cells.toList = true) (hp : 0 < cks.length) (n : Nat) : ∀ u ∈ ((Array.range n).map (z.cells[· % z.cells.size]!)).toList, u.oneCell' = true := by
  obtain ⟨h1, _, h3⟩ := ck_zero (T := []) (w := default) hz
  intro u hu
  simp only [Array.toList_map, Array.toList_range, List.mem_map, List.mem_range] at hu
  obtain ⟨j, _, rfl⟩ := hu
  have hs : z.cells.size = cks.length := by simpa using h1
  have hm : j % z.cells.size < z.cells.size := Nat.mod_lt _ (by omega)
  simp only [hm, getElem!_pos]
  exact h3 _ (by simp)

theorem wrap_id {n : Int} (h0 : 0 ≤ n) (h1 : n ≤ 9223372036854775807) : IntKind.i64.wrap n = n := by
  have e : n % (2 ^ 64 : Int) = n := Int.emod_eq_of_lt h0 (by omega)
  simp only [IntKind.wrap, IntKind.bits, IntKind.signed, e]
  rw [if_neg]
  simp
  omega
theorem run_makeSlice (w : World) {t e : TypeId} (hu : P.underlying t = some (.slice e)) {i : TypeInfo} (hi : P.info? e = some i) {z : Value} (hz : i.zero = some z) {k k' : IntKind} {n c : Int} (h0 : 0 ≤ n) (h1 : n ≤ c) (h2 : c * i.bytes ≤ 140737488355328) (h3 : c ≤ 9223372036854775807) :
    (Instr.makeSlice t (.int k n) (.int k' c)).run P w = .ok (.slice (some ⟨w.heap.size, 0, none⟩) n.toNat c.toNat) (w.alloc (.cells ((Array.range (c.toNat * i.size)).map (z.cells[· % z.cells.size]!)) e)) := by
  have wn : IntKind.i64.wrap n = n := wrap_id h0 (by omega)
  have wc : IntKind.i64.wrap c = c := wrap_id (by omega) h3
  have b1 : ¬ (c < 0) := by omega
  have b2 : ¬ (281474976710656 < (i.bytes : Int) * c) := by rw [Int.mul_comm]; omega
  have b3 : ¬ (n < 0) := by omega
  have b4 : ¬ (c < n) := by omega
  simp only [Instr.makeSlice, Sem.run_bind, run_underlying hu, Result.andThen_ok, asInt, asIntOf, Sem.run_pure, typeInfo, run_program, hi, wn, wc]
  have hcond : ((decide (c < 0) || decide ((i.bytes : Int) * c > 2 ^ 48)) || decide (n < 0) || decide (n > c)) = false := by simp [b1, b3, b4]; omega
  simp only [hcond, Bool.false_eq_true, if_false, Sem.run_bind, run_askRoom, Result.andThen_ok, sizeOf, typeInfo, run_program, hi, Sem.run_pure]
  by_cases hz0 : c.toNat * i.size = 0
  · have e1 : ∀ f : Nat → Value, (Array.range 0).map f = #[] := fun f => by simp
    simp [hz0, newRow, e1]
  · simp [hz0, zeroValue, typeInfo, hi, hz, newRow]

theorem makeSlice_sound (HT : tabOK P T = true) (hc : CS T C s a w) {t : TypeId} {x y : Operand} {o : Oper} (ho : o.op = .makeSlice t x y) {ev : Operand → Value} {ρ : Operand → AV} (hρ : ∀ x, RpS T C s w (ρ x) (ev x)) {call : CallR} {k : KE}
    (h : xeff T call ρ o.op s.env s.heap s.nx k) : AnsE P T C s a w (execOp ev o) k := by
  rw [ho] at h
  simp only [xeff] at h
  cases he : elemOf T t with
  | none => simp [he] at h
  | some e =>
    rw [he] at h
    simp only at h
    split at h
    · rename_i k1 n k2 c e1 e2
      cases hk : ckOf T e with
      | none => simp [hk] at h
      | some cks =>
        rw [hk] at h
        simp only at h
        obtain ⟨⟨h0, h1, h2, h3⟩, h⟩ := h
        obtain ⟨i, z, hi, hz, hs, hb, hp, hck, _⟩ := elem_zero (P := P) HT hk
        obtain ⟨xi, hx, hd⟩ := elemOf_some he
        have hu := (tab_get HT hx).slice hd
        have v1 : ev x = .int k1 n := by have := hρ x; rw [e1] at this; exact this
        have v2 : ev y = .int k2 c := by have := hρ y; rw [e2] at this; exact this
        have hrun := run_makeSlice w hu hi hz (k := k1) (k' := k2) h0 h1 (by rw [hb]; exact h2) h3
        have hflat := zero_flat (T := T) (w := w) (X := XB C s.heap) hck c.toNat (l := List.replicate n.toNat (cks.map zeroCk)) (fun i r hr => by
          rw [List.getElem?_replicate] at hr
          split at hr
          · injection hr with hr; exact ⟨hr.symm, by omega⟩
          · cases hr)
        obtain ⟨C', hkp, hcs, hrp⟩ := arr_new (w' := w.alloc (.cells ((Array.range (c.toNat * i.size)).map (z.cells[· % z.cells.size]!)) e)) hc (by rw [alloc_size]; omega) (alloc_same w _) hk hp (l := List.replicate n.toNat (cks.map zeroCk)) (cap := c.toNat) (by simp; omega)
          (fun i' r hr => by
            obtain ⟨q1, q2⟩ := hflat i' r hr
            refine ⟨q1, fun j x' c' hx' hc' => ?_⟩
            obtain ⟨v, hv, hrep⟩ := q2 j x' c' hx' hc'
            refine ⟨v, ?_, hrep⟩
            have := rangeAt_new w ((Array.range (c.toNat * i.size)).map (z.cells[· % z.cells.size]!)) e (0, 0) (i' * cks.length + j) v (by rw [hs]; exact hv)
            simpa using this)
          (by
            have := there_new w ((Array.range (c.toNat * i.size)).map (z.cells[· % z.cells.size]!)) e
            simpa [hs] using this)
        refine ⟨_, _, _, h, C', .slice (some ⟨w.heap.size, 0, none⟩) n.toNat c.toNat, _, hkp, .inl ?_, hcs, ?_⟩
        · simp only [execOp, ho, Sem.run_bind, v1, v2, hrun, Result.andThen_ok, Sem.run_pure]
        · simpa using hrp
    · exact h.elim
end
end Go.Proofs.Ytaghkmaelbgljaa.VX
