/- New slices: literals, make, bytes of a string. -/
import Derived.Test.YtaghkmaelbgljaaVX0
import Derived.Deep.Upon
import Derived.OrdersHeld
set_option linter.unusedVariables false
set_option linter.unusedSimpArgs false
namespace Go.Proofs.Ytaghkmaelbgljaa.VX
section
variable {P : Program} {T : Tab} {C : Cx} {s : St} {a : Act} {w w' : World}

theorem arr_new (hc : CS T C s a w) (hge : w.heap.size < w'.heap.size) (hsame : ∀ b, b < w.heap.size → w'.heap[b]? = w.heap[b]?) {e : TypeId} {cks : List CK} (hk : ckOf T e = some cks) (hp : 0 < cks.length) {l : List (List AV)} {cap : Nat} (hle : l.length ≤ cap)
    (hrows : ∀ (i : Nat) (r : List AV), l[i]? = some r → r.length = cks.length ∧ ∀ (j : Nat) (x : AV) (c : CK), r[j]? = some x → cks[j]? = some c → ∃ v, w'.cell? ⟨w.heap.size, i * cks.length + j, none⟩ = some v ∧ RepC T w (XB C s.heap) c x v)
    (hth : w'.there w.heap.size 0 (cap * cks.length)) (hio : w'.os = w.os ∧ w'.tape = w.tape ∧ w'.output = w.output := by exact ⟨rfl, rfl, rfl⟩) :
    ∃ C', KeepC C C' ∧ CS T C' ⟨s.env, (s.nx, .arr true e false l) :: s.heap, s.nx + 1, s.gs, s.kn⟩ a w' ∧
      RpS T C' ⟨s.env, (s.nx, .arr true e false l) :: s.heap, s.nx + 1, s.gs, s.kn⟩ w' (.own s.nx) (.slice (some ⟨w.heap.size, 0, none⟩) l.length cap) := by
  have hnew : ∀ g, ownB (C.at s.nx 0 (some ⟨w.heap.size, 0, none⟩) cap) (s.add (.arr true e false l)).heap s.nx = some g → w.heap.size ≤ g ∧ g < w'.heap.size := fun g h => by
    simp only [ownB, St.add, getB_cons, Cx.at, upd_same, if_true] at h
    split at h
    · cases h
    · simp only [Option.map_some, Option.some.injEq] at h
      subst h
      exact ⟨Nat.le_refl _, hge⟩
  have E := Ext.add (C := C) (s := s) (w := w) (w' := w') hsame (β := 0) (base := some ⟨w.heap.size, 0, none⟩) (cap := cap) (b := .arr true e false l) (fun g h => (hnew g h).1)
  refine ⟨C.at s.nx 0 (some ⟨w.heap.size, 0, none⟩) cap, KeepC.at _ _ _ _ _, hc.add (by omega) hsame hnew ⟨cks, hk, hp, ?_⟩ hio, Nat.lt_succ_self _, ?_⟩
  · simp only [Cx.at, upd_same]
    by_cases h0 : cap = 0
    · left
      exact ⟨List.length_eq_zero_iff.1 (by omega), h0, by simp⟩
    · right
      refine ⟨trivial, by omega, w.heap.size, 0, rfl, hle, fun i r hr => ?_, fun _ => hth, fun h => by cases h⟩
      obtain ⟨h1, h2⟩ := hrows i r hr
      refine ⟨h1, fun j x c hx hcc => ?_⟩
      obtain ⟨v, hv, hrep⟩ := h2 j x c hx hcc
      exact ⟨v, by rw [Nat.zero_add]; exact hv, hrep.keep E.h1 E.h2⟩
  · simp only [getB_cons, if_true, hdr, Cx.at, upd_same]

theorem there_new' (w : World) (cs : Array Value) (t : TypeId) (fr : Nat × Nat) (hf : ∀ j, j < cs.size → (decide (fr.1 ≤ j) && decide (j < fr.2)) = false) : (w.alloc (.cells cs t fr)).there w.heap.size 0 cs.size := fun j hj => by
  constructor
  · simp only [World.cell?, World.alloc, Array.getElem?_push, if_true, Nat.zero_add]
    simp [hj]
  · simp only [World.frozen?, World.alloc, Array.getElem?_push, if_true, Nat.zero_add]
    obtain ⟨f1, f2⟩ := fr
    exact hf j hj

theorem ck_zero {cks : List CK} {vs : List Value} (h : ckOK cks vs = true) : vs.length = cks.length ∧ (∀ (j : Nat) (c : CK) (v : Value), cks[j]? = some c → vs[j]? = some v → RepC T w (fun _ => True) c (zeroCk c) v) ∧ ∀ u ∈ vs, u.oneCell' = true := by
  induction cks generalizing vs with
  | nil => cases vs <;> simp [ckOK] at h ⊢
  | cons c cks ih =>
    cases vs with
    | nil => simp [ckOK] at h
    | cons v vs =>
      simp only [ckOK, Bool.and_eq_true] at h
      obtain ⟨h1, h2, h3⟩ := ih h.2
      have hv := vIs_eq h.1
      subst hv
      have hz : RepC T w (fun _ => True) c (zeroCk c) (ckV c) := by
        cases c with
        | int k => exact .int k 0
        | bool => exact .bool false
        | str => exact .str .empty
        | sl t => exact .em t true none 0 rfl
      refine ⟨by simp [h1], fun j c' v' hc hv => ?_, fun u hu => ?_⟩
      · cases j with
        | zero => simp at hc hv; subst hc hv; exact hz
        | succ j => exact h2 j c' v' (by simpa using hc) (by simpa using hv)
      · rcases List.mem_cons.1 hu with rfl | hu
        · exact hz.one
        · exact h3 u hu
theorem RepC.weak {X X' : Nat → Prop} {c : CK} {x : AV} {v : Value} (h : RepC T w X c x v) (hx : ∀ b, X' b → X b) : RepC T w X' c x v := by
  induction h with
  | int k n => exact .int k n
  | bool b => exact .bool b
  | str s => exact .str s
  | em t b a cap hb => exact .em t b a cap hb
  | sl t cks l g o cap vals hk hc hne hX hle hlen hcell hval ih => exact .sl t cks l g o cap vals hk hc hne (fun h => hX (hx g h)) hle hlen hcell ih

/-- The zero of an element. -/
theorem elem_zero (HT : tabOK P T = true) {e : TypeId} {cks : List CK} (hk : ckOf T e = some cks) : ∃ i z, P.info? e = some i ∧ i.zero = some z ∧ i.size = cks.length ∧ i.bytes = bytesOf T e ∧ 0 < cks.length ∧ ckOK cks z.cells.toList = true ∧ 0 < i.bytes := by
  obtain ⟨x, hx, hcx⟩ := ckOf_some hk
  obtain ⟨i, z, hi, hs, hb, hz, _, _, hck⟩ := (tab_get HT hx).info
  obtain ⟨h1, h2, h3, h4⟩ := hck cks hcx
  exact ⟨i, z, hi, hz, by omega, by rw [hb]; simp [bytesOf, hx], h2, h1, by omega⟩

/-- Elements that lie one behind the other. -/
def Flat (T : Tab) (w : World) (X : Nat → Prop) (cks : List CK) (l : List (List AV)) (cells : List Value) : Prop :=
  ∀ (i : Nat) (r : List AV), l[i]? = some r → r.length = cks.length ∧ ∀ (j : Nat) (x : AV) (c : CK), r[j]? = some x → cks[j]? = some c → ∃ v, cells[i * cks.length + j]? = some v ∧ RepC T w X c x v

theorem rep_get {α : Type} : ∀ (n : Nat) (x : α) (i : Nat), (rep n x)[i]? = if i < n then some x else none
  | 0, _, i => by simp [rep]
  | n + 1, x, 0 => by simp [rep]
  | n + 1, x, i + 1 => by simp [rep, rep_get n x i]

theorem zero_flat {X : Nat → Prop} {cks : List CK} {z : Value} (hz : ckOK cks z.cells.toList = true) (n : Nat) {l : List (List AV)} (hl : ∀ i r, l[i]? = some r → r = cks.map zeroCk ∧ i < n) :
    Flat T w X cks l (((Array.range (n * cks.length)).map (z.cells[· % z.cells.size]!)).toList) := by
  obtain ⟨h1, h2, _⟩ := ck_zero (T := T) (w := w) hz
  intro i r hr
  obtain ⟨rfl, hi⟩ := hl i r hr
  refine ⟨by simp, fun j x c hx hc => ?_⟩
  have hj : j < cks.length := (List.getElem?_eq_some_iff.1 hc).1
  rw [List.getElem?_map, hc] at hx
  simp only [Option.map_some, Option.some.injEq] at hx
  subst hx
  have hb : i * cks.length + j < n * cks.length := by
    have : (i + 1) * cks.length ≤ n * cks.length := Nat.mul_le_mul_right _ hi
    rw [Nat.add_mul] at this
    omega
  have hs : z.cells.size = cks.length := by simpa using h1
  have hjz : j < z.cells.size := by omega
  refine ⟨z.cells[j], ?_, (h2 j c _ hc (by simp [hjz])).weak (fun _ _ => trivial)⟩
  have hmod : (i * cks.length + j) % z.cells.size = j := by rw [hs, Nat.mul_comm, Nat.mul_add_mod]; exact Nat.mod_eq_of_lt hj
  simp [hb, hmod, hjz]

theorem zero_one {cks : List CK} {z : Value} (hz : ckOK cks z.cells.toList = true) (hp : 0 < cks.length) (n : Nat) : ∀ u ∈ ((Array.range n).map (z.cells[· % z.cells.size]!)).toList, u.oneCell' = true := by
  obtain ⟨h1, _, h3⟩ := ck_zero (T := []) (w := default) hz
  intro u hu
  simp only [Array.toList_map, Array.toList_range, List.mem_map, List.mem_range] at hu
  obtain ⟨j, _, rfl⟩ := hu
  have hs : z.cells.size = cks.length := by simpa using h1
  have hm : j % z.cells.size < z.cells.size := Nat.mod_lt _ (by omega)
  simp only [hm, getElem!_pos]
  exact h3 _ (by simp)

theorem wrap_id {n : Int} (h0 : 0 ≤ n) (h1 : n ≤ 9223372036854775807) : IntKind.i64.wrap n = n := by
  have e : n % (2 ^ 64 : Int) = n := Int.emod_eq_of_lt h0 (by omega)
  simp only [IntKind.wrap, IntKind.bits, IntKind.signed, e]
  rw [if_neg]
  simp
  omega
theorem run_makeSlice (w : World) {t e : TypeId} (hu : P.underlying t = some (.slice e)) {i : TypeInfo} (hi : P.info? e = some i) {z : Value} (hz : i.zero = some z) {k k' : IntKind} {n c : Int} (h0 : 0 ≤ n) (h1 : n ≤ c) (h2 : c * i.bytes ≤ 140737488355328) (h3 : c ≤ 9223372036854775807) :
    (Instr.makeSlice t (.int k n) (.int k' c)).run P w = .ok (.slice (some ⟨w.heap.size, 0, none⟩) n.toNat c.toNat) (w.alloc (.cells ((Array.range (c.toNat * i.size)).map (z.cells[· % z.cells.size]!)) e)) := by
  have wn : IntKind.i64.wrap n = n := wrap_id h0 (by omega)
  have wc : IntKind.i64.wrap c = c := wrap_id (by omega) h3
  have b1 : ¬ (c < 0) := by omega
  have b2 : ¬ (281474976710656 < (i.bytes : Int) * c) := by rw [Int.mul_comm]; omega
  have b3 : ¬ (n < 0) := by omega
  have b4 : ¬ (c < n) := by omega
  simp only [Instr.makeSlice, Sem.run_bind, run_underlying hu, Result.andThen_ok, asInt, asIntOf, Sem.run_pure, typeInfo, run_program, hi, wn, wc]
  have hcond : ((decide (c < 0) || decide ((i.bytes : Int) * c > 2 ^ 48)) || decide (n < 0) || decide (n > c)) = false := by simp [b1, b3, b4]; omega
  simp only [hcond, Bool.false_eq_true, if_false, Sem.run_bind, run_askRoom, Result.andThen_ok, sizeOf, typeInfo, run_program, hi, Sem.run_pure]
  by_cases hz0 : c.toNat * i.size = 0
  · have e1 : ∀ f : Nat → Value, (Array.range 0).map f = #[] := fun f => by simp
    simp [hz0, newRow, e1]
  · simp [hz0, zeroValue, typeInfo, hi, hz, newRow]

theorem makeSlice_sound (HT : tabOK P T = true) (hc : CS T C s a w) {t : TypeId} {x y : Operand} {o : Oper} (ho : o.op = .makeSlice t x y) {ev : Operand → Value} {ρ : Operand → AV} (hρ : ∀ x, RpS T C s w (ρ x) (ev x)) {call : CallR} {k : KE}
    (h : xeff T call ρ o.op s.env s.heap s.nx k) : AnsE P T C s a w (execOp ev o) k := by
  rw [ho] at h
  simp only [xeff] at h
  cases he : elemOf T t with
  | none => simp [he] at h
  | some e =>
    rw [he] at h
    simp only at h
    split at h
    · rename_i k1 n k2 c e1 e2
      cases hk : ckOf T e with
      | none => simp [hk] at h
      | some cks =>
        rw [hk] at h
        simp only at h
        obtain ⟨⟨h0, h1, h2, h3⟩, h⟩ := h
        obtain ⟨i, z, hi, hz, hs, hb, hp, hck, _⟩ := elem_zero (P := P) HT hk
        obtain ⟨xi, hx, hd⟩ := elemOf_some he
        have hu := (tab_get HT hx).slice hd
        have v1 : ev x = .int k1 n := by have := hρ x; rw [e1] at this; exact this
        have v2 : ev y = .int k2 c := by have := hρ y; rw [e2] at this; exact this
        have hrun := run_makeSlice w hu hi hz (k := k1) (k' := k2) h0 h1 (by rw [hb]; exact h2) h3
        have hflat := zero_flat (T := T) (w := w) (X := XB C s.heap) hck c.toNat (l := List.replicate n.toNat (cks.map zeroCk)) (fun i r hr => by
          rw [List.getElem?_replicate] at hr
          split at hr
          · injection hr with hr; exact ⟨hr.symm, by omega⟩
          · cases hr)
        obtain ⟨C', hkp, hcs, hrp⟩ := arr_new (w' := w.alloc (.cells ((Array.range (c.toNat * i.size)).map (z.cells[· % z.cells.size]!)) e)) hc (by rw [alloc_size]; omega) (alloc_same w _) hk hp (l := List.replicate n.toNat (cks.map zeroCk)) (cap := c.toNat) (by simp; omega)
          (fun i' r hr => by
            obtain ⟨q1, q2⟩ := hflat i' r hr
            refine ⟨q1, fun j x' c' hx' hc' => ?_⟩
            obtain ⟨v, hv, hrep⟩ := q2 j x' c' hx' hc'
            refine ⟨v, ?_, hrep⟩
            have := rangeAt_new w ((Array.range (c.toNat * i.size)).map (z.cells[· % z.cells.size]!)) e (0, 0) (i' * cks.length + j) v (by rw [hs]; exact hv)
            simpa using this)
          (by
            have := there_new w ((Array.range (c.toNat * i.size)).map (z.cells[· % z.cells.size]!)) e
            simpa [hs] using this)
        refine ⟨_, _, _, h, C', .slice (some ⟨w.heap.size, 0, none⟩) n.toNat c.toNat, _, hkp, .inl ?_, hcs, ?_⟩
        · simp only [execOp, ho, Sem.run_bind, v1, v2, hrun, Result.andThen_ok, Sem.run_pure]
        · simpa using hrp
    · exact h.elim
end
end Go.Proofs.Ytaghkmaelbgljaa.VX

namespace Go.Proofs.Ytaghkmaelbgljaa.VX
section
variable {P : Program} {T : Tab} {C : Cx} {s : St} {a : Act} {w w' : World}

theorem Flat.set {X : Nat → Prop} {cks : List CK} {l : List (List AV)} {cells : List Value} (h : Flat T w X cks l cells) {i : Nat} {ys : List AV} {us : List Value} (hu : us.length = cks.length) (hy : ys.length = cks.length)
    (hys : ∀ (j : Nat) (y : AV) (c : CK), ys[j]? = some y → cks[j]? = some c → ∃ v, us[j]? = some v ∧ RepC T w X c y v) (hle : i * cks.length + us.length ≤ cells.length) :
    Flat T w X cks (l.set i ys) (cells.take (i * cks.length) ++ us ++ cells.drop (i * cks.length + us.length)) := by
  intro i' r hr
  rw [List.getElem?_set] at hr
  by_cases hii : i = i'
  · subst hii
    rw [if_pos rfl] at hr
    split at hr
    · injection hr with hr
      subst hr
      refine ⟨hy, fun j x c hx hc => ?_⟩
      obtain ⟨v, hv, hrep⟩ := hys j x c hx hc
      refine ⟨v, ?_, hrep⟩
      have hj : j < us.length := (List.getElem?_eq_some_iff.1 hv).1
      rw [splice_get _ _ _ hle, if_pos (by omega), ← hv]
      congr 1
      omega
    · cases hr
  · rw [if_neg hii] at hr
    obtain ⟨h1, h2⟩ := h i' r hr
    refine ⟨h1, fun j x c hx hc => ?_⟩
    obtain ⟨v, hv, hrep⟩ := h2 j x c hx hc
    refine ⟨v, ?_, hrep⟩
    have hj : j < cks.length := (List.getElem?_eq_some_iff.1 hc).1
    have := row_at (i := i) (i' := i') (n := cks.length) (j := j) (off := 0) (m := cks.length) hj (by omega) (fun e => hii e.symm)
    rw [splice_get _ _ _ hle, if_neg (by omega), ← hv]

theorem setN_eq {α : Type} : ∀ (l : List α) (i : Nat) (x : α), setN l i x = l.set i x
  | [], _, _ => rfl
  | _ :: _, 0, _ => rfl
  | _ :: r, i + 1, x => by simp [setN, setN_eq r i x]
theorem splice_one {α : Type} (l : List α) (i : Nat) (x : α) (h : i < l.length) : l.take i ++ [x] ++ l.drop (i + [x].length) = l.set i x := by
  apply List.ext_getElem?
  intro j
  rw [splice_get l i [x] (by simp; omega), List.getElem?_set]
  by_cases e : i = j
  · subst e; simp [h]
  · rw [if_neg (by simp; omega), if_neg e]

/-- The elements of a literal, laid into the zeros. -/
theorem placeRows_sound (hc : CS T C s a w) {cks : List CK} {n : Nat} (hp : 0 < cks.length) : ∀ (ps : List (Nat × AV)) (rows : List (List AV)) (K : List (List AV) → Prop), placeRows s.heap cks n rows ps K → rows.length = n →
    (∀ p ∈ ps, ∀ x ∈ p.2.cells, ∀ id ∈ lendC x, ∀ wr t b l, getB s.heap id = .arr wr t b l → wr = false) →
    ∃ r, K r ∧ r.length = n ∧ ∀ (us : List (Nat × Value)) (cells : Array Value), all2 (fun p u => p.1 = u.1 ∧ RpS T C s w p.2 u.2) ps us → cells.size = n * cks.length → Flat T w (XB C s.heap) cks rows cells.toList → (∀ u ∈ cells.toList, u.oneCell' = true) →
      ∃ cells', Instr.fill (fun i => some (i * cks.length, cks.length)) cells us = some cells' ∧ cells'.size = n * cks.length ∧ Flat T w (XB C s.heap) cks r cells'.toList ∧ ∀ u ∈ cells'.toList, u.oneCell' = true := by
  intro ps
  induction ps with
  | nil =>
    intro rows K h hl _
    refine ⟨rows, h, hl, fun us cells hu hs hf h1 => ?_⟩
    cases us with
    | nil => exact ⟨cells, rfl, hs, hf, h1⟩
    | cons _ _ => exact hu.elim
  | cons p ps ih =>
    intro rows K h hl hfr
    obtain ⟨i, v⟩ := p
    simp only [placeRows, cellsK_eq] at h
    cases hb : (okCells s.heap v.cells && Nat.blt i n) with
    | false => simp [hb] at h
    | true =>
      simp only [hb, cond_true] at h
      simp only [Bool.and_eq_true] at hb
      have hi : i < n := Nat.lt_of_lt_of_le (Nat.lt_succ_self i) (Nat.le_of_ble_eq_true hb.2)
      obtain ⟨ys, hK, hl1, hl2, hys⟩ := fitCs_sound hc cks v.cells _ h (fun x hx => hfr (i, v) (by simp) x hx)
      rw [spliceK_eq rows i [ys] _ (by simp; omega), splice_one rows i ys (by omega)] at hK
      obtain ⟨r, hK2, hlr, hans⟩ := ih (rows.set i ys) K hK (by simpa using hl) (fun p hp => hfr p (List.mem_cons_of_mem _ hp))
      refine ⟨r, hK2, hlr, fun us cells hu hs hf h1 => ?_⟩
      cases us with
      | nil => exact hu.elim
      | cons u us =>
        obtain ⟨⟨rfl, hrep⟩, hu⟩ := hu
        have hok := hb.1
        obtain ⟨ui, uv⟩ := u
        simp only at hi hrep hans hl
        obtain ⟨hr, hone⟩ := cells_rep hrep hok
        have hlv := all2_len hr
        have hlu : uv.cells.size = cks.length := by simp at hlv; omega
        have hbound : ui * cks.length + uv.cells.size ≤ cells.size := by
          have : (ui + 1) * cks.length ≤ n * cks.length := Nat.mul_le_mul_right _ hi
          rw [Nat.add_mul] at this
          omega
        have hst := fill_step cells uv.cells (ui * cks.length) hbound
        have hset := Flat.set (i := ui) hf (us := uv.cells.toList) (by simpa using hlu) hl1 (fun j y c hy hc' => hys _ hr j y c hy hc') (by simpa using hbound)
        obtain ⟨cells', e1, e2, e3, e4⟩ := hans us (uv.cells.zipIdx.foldl (fun cs (x : Value × Nat) => cs.setIfInBounds (ui * cks.length + x.2) x.1) cells) hu (by
          have e := congrArg List.length hst
          rw [Array.length_toList] at e
          rw [e]
          simp only [List.length_append, List.length_take, List.length_drop, Array.length_toList]
          omega) (by rw [hst]; simpa using hset) (by
          rw [hst]
          intro q hq
          rcases List.mem_append.1 hq with hq | hq
          · rcases List.mem_append.1 hq with hq | hq
            · exact h1 q (List.mem_of_mem_take hq)
            · exact hone q hq
          · exact h1 q (List.mem_of_mem_drop hq))
        refine ⟨cells', ?_, e2, e3, e4⟩
        simp only [Instr.fill]
        rw [if_neg (by simp [hlu]; omega)]
        simpa using e1

theorem run_buildSlice (w : World) {t e : TypeId} (hu : P.underlying t = some (.slice e)) {i : TypeInfo} (hi : P.info? e = some i) {z : Value} (hz : i.zero = some z) {n : Nat} (hn : n * i.size ≤ 65536) {us : Array (Nat × Value)} {cells : Array Value}
    (hf : Instr.fill (fun j => some (j * i.size, i.size)) ((Array.range (n * i.size)).map (z.cells[· % z.cells.size]!)) us.toList = some cells) :
    (Instr.buildSlice t n us).run P w = .ok (.slice (some ⟨w.heap.size, 0, none⟩) n n) (w.alloc (.cells cells e)) := by
  have b1 : ¬ (n * i.size > 2 ^ 24) := by omega
  simp only [Instr.buildSlice, Sem.run_bind, run_underlying hu, Result.andThen_ok, sizeOf, typeInfo, run_program, hi, Sem.run_pure, if_neg b1]
  by_cases hz0 : n * i.size = 0
  · have e1 : ∀ f : Nat → Value, (Array.range 0).map f = #[] := fun f => by simp
    rw [hz0] at hf ⊢
    rw [e1] at hf
    simp [e1, hf, newRow]
  · simp [hz0, zeroValue, typeInfo, hi, hz, hf, newRow]

theorem avsOf_mem : ∀ {ps : List (Nat × AV)} {p : Nat × AV}, p ∈ ps → ∀ {x : AV}, x ∈ p.2.cells → ∀ {id : Nat}, id ∈ lendC x → id ∈ lendAll (avsOf ps)
  | [], _, h, _, _, _, _ => by cases h
  | (i, v) :: r, p, h, x, hx, id, hid => by
    simp only [avsOf, lendAll, List.mem_append]
    rcases List.mem_cons.1 h with rfl | h
    · exact .inl (lend_mem hx hid)
    · exact .inr (avsOf_mem h hx hid)

theorem buildSlice_sound (HT : tabOK P T = true) (hc : CS T C s a w) {t : TypeId} {n : Nat} {parts : Array (Nat × Operand)} {o : Oper} (ho : o.op = .buildSlice t n parts) {ev : Operand → Value} {ρ : Operand → AV} (hρ : ∀ x, RpS T C s w (ρ x) (ev x)) {call : CallR} {k : KE}
    (h : xeff T call ρ o.op s.env s.heap s.nx k) : AnsE P T C s a w (execOp ev o) k := by
  rw [ho] at h
  simp only [xeff] at h
  cases he : elemOf T t with
  | none => simp [he] at h
  | some e =>
    rw [he] at h
    simp only at h
    cases hk : ckOf T e with
    | none => simp [hk] at h
    | some cks =>
      rw [hk] at h
      simp only at h
      cases hle : Nat.ble (n * len cks) 65536 with
      | false => simp [hle] at h
      | true =>
        simp only [hle, cond_true, mapK2_eq, freezeK_eq] at h
        have hle := Nat.le_of_ble_eq_true hle
        rw [len_eq] at hle
        obtain ⟨i, z, hi, hz, hs, hb, hp, hck, _⟩ := elem_zero (P := P) HT hk
        obtain ⟨xi, hx, hd⟩ := elemOf_some he
        have hu := (tab_get HT hx).slice hd
        have hps := all2_map2 hρ parts.toList
        generalize (parts.toList.map fun (p : Nat × Operand) => (p.1, ρ p.2)) = ps at h hps
        obtain ⟨hc1, E1, hfz⟩ := hc.freeze (lendAll (avsOf ps))
        obtain ⟨r, hKr, hlr, hans⟩ := placeRows_sound (s := frzs s (lendAll (avsOf ps))) hc1 (n := n) hp ps (rep n (cks.map zeroCk)) _ h (by
          have : ∀ n, (rep n (cks.map zeroCk)).length = n := fun n => by induction n with | zero => rfl | succ n ih => simp [rep, ih]
          exact this n) (fun p hp' x hx' id' hid' wr t' b' l' hb' => by
            have hm := avsOf_mem hp' hx' hid'
            cases hb0 : getB s.heap id' with
            | arr wr0 t0 b0 l0 =>
              obtain ⟨wr1, h4, h5⟩ := (hfz id').1 _ _ _ _ hb0
              rw [hb'] at h4
              injection h4 with h4
              rw [h4]; exact h5 hm
            | box t0 cs0 => have := (hfz id').2 (by simp [hb0]); rw [hb', hb0] at this; cases this
            | gone => have := (hfz id').2 (by simp [hb0]); rw [hb', hb0] at this; cases this)
        obtain ⟨cells, f1, f2, f3, f4⟩ := hans (parts.toList.map fun p => (p.1, ev p.2)) ((Array.range (n * cks.length)).map (z.cells[· % z.cells.size]!)) (all2_mono (fun _ _ h => ⟨h.1, RpS.ext E1 h.2⟩) hps) (by simp)
          (zero_flat hck n (fun i r hr => by rw [rep_get] at hr; split at hr; injection hr with hr; exact ⟨hr.symm, by assumption⟩; cases hr)) (zero_one hck hp _)
        have hrun := run_buildSlice w hu hi hz (n := n) (us := (parts.toList.map fun p => (p.1, ev p.2)).toArray) (cells := cells) (by rw [hs]; exact hle) (by simpa [hs] using f1)
        obtain ⟨C', hkp, hcs, hrp⟩ := arr_new (w' := w.alloc (.cells cells e)) hc1 (by rw [alloc_size]; omega) (alloc_same w _) hk hp (l := r) (cap := n) (by omega)
          (fun i' r' hr' => by
            obtain ⟨q1, q2⟩ := f3 i' r' hr'
            refine ⟨q1, fun j x' c' hx' hc' => ?_⟩
            obtain ⟨v, hv, hrep⟩ := q2 j x' c' hx' hc'
            refine ⟨v, ?_, hrep⟩
            have := rangeAt_new w cells e (0, 0) (i' * cks.length + j) v hv
            simpa using this)
          (by
            have := there_new w cells e
            rwa [f2] at this)
        refine ⟨_, _, _, hKr, C', .slice (some ⟨w.heap.size, 0, none⟩) n n, _, hkp, .inl ?_, hcs, by rw [hlr] at hrp; exact hrp⟩
        have ea : parts.map (fun (i, x) => (i, ev x)) = (parts.toList.map fun p => (p.1, ev p.2)).toArray := by apply Array.ext'; simp
        simp only [execOp, ho, Sem.run_bind]
        rw [ea, hrun]
        rfl

end
end Go.Proofs.Ytaghkmaelbgljaa.VX

namespace Go.Proofs.Ytaghkmaelbgljaa.VX
section
variable {P : Program} {T : Tab} {C : Cx} {s : St} {a : Act} {w w' : World}

/-- The cells of elements that lie in a block, in a row. -/
theorem flat_of_rows {X : Nat → Prop} {g o : Nat} {cks : List CK} (hp : 0 < cks.length) {l : List (List AV)} (h : RowsRep T w X g o cks l) :
    ∃ us : List Value, us.length = l.length * cks.length ∧ w.rangeAt g o us ∧ Flat T w X cks l us ∧ ∀ u ∈ us, u.oneCell' = true := by
  have key : ∀ i j, i < l.length → j < cks.length → ∃ v x c, w.cell? ⟨g, o + (i * cks.length + j), none⟩ = some v ∧ (l[i]?.getD [])[j]? = some x ∧ cks[j]? = some c ∧ RepC T w X c x v := fun i j hi hj => by
    obtain ⟨hl, hr⟩ := h i _ (List.getElem?_eq_getElem hi)
    obtain ⟨v, hv, hrep⟩ := hr j _ _ (List.getElem?_eq_getElem (by omega)) (List.getElem?_eq_getElem hj)
    exact ⟨v, _, _, hv, by rw [List.getElem?_eq_getElem hi]; simp [hl, hj], List.getElem?_eq_getElem hj, hrep⟩
  refine ⟨(List.range (l.length * cks.length)).map fun k => (w.cell? ⟨g, o + k, none⟩).getD undef, by simp, fun j v hv => ?_, fun i r hr => ?_, fun u hu => ?_⟩
  · rw [List.getElem?_map] at hv
    cases hj : (List.range (l.length * cks.length))[j]? with
    | none => simp [hj] at hv
    | some j' =>
      have hj2 := List.getElem?_eq_some_iff.1 hj
      obtain ⟨hlt, he⟩ := hj2
      simp at he hlt
      subst he
      rw [hj] at hv
      simp only [Option.map_some, Option.some.injEq] at hv
      have hdiv : j / cks.length < l.length := Nat.div_lt_of_lt_mul (by rw [Nat.mul_comm]; exact hlt)
      obtain ⟨v', _, _, hv', _⟩ := key (j / cks.length) (j % cks.length) hdiv (Nat.mod_lt _ hp)
      rw [Nat.mul_comm, Nat.div_add_mod] at hv'
      rw [hv'] at hv ⊢
      simpa using hv
  · have hi : i < l.length := (List.getElem?_eq_some_iff.1 hr).1
    refine ⟨(h i r hr).1, fun j x c hx hc => ?_⟩
    have hj : j < cks.length := (List.getElem?_eq_some_iff.1 hc).1
    obtain ⟨v, x', c', hv, hx', hc', hrep⟩ := key i j hi hj
    rw [hr] at hx'
    simp only [Option.getD_some] at hx'
    rw [hx] at hx'
    rw [hc] at hc'
    injection hx' with hx'
    injection hc' with hc'
    subst hx' hc'
    have hb : i * cks.length + j < l.length * cks.length := by
      have : (i + 1) * cks.length ≤ l.length * cks.length := Nat.mul_le_mul_right _ hi
      rw [Nat.add_mul] at this
      omega
    exact ⟨v, by simp [hb, hv], hrep⟩
  · simp only [List.mem_map, List.mem_range] at hu
    obtain ⟨k, hk, rfl⟩ := hu
    have hdiv : k / cks.length < l.length := Nat.div_lt_of_lt_mul (by rw [Nat.mul_comm]; exact hk)
    obtain ⟨v', _, _, hv', _, _, hrep⟩ := key (k / cks.length) (k % cks.length) hdiv (Nat.mod_lt _ hp)
    rw [Nat.mul_comm, Nat.div_add_mod] at hv'
    rw [hv']
    exact hrep.one

/-- The source of an append. -/
structure SrcOK (P : Program) (T : Tab) (C : Cx) (s : St) (w : World) (cks : List CK) (tx : TypeId) (v : Value) (l : List (List AV)) (us : List Value) : Prop where
  src : Src P cks.length tx v l.length us w
  flat : Flat T w (XB C s.heap) cks l us

theorem src_slice {tx e' : TypeId} (hu : P.underlying tx = some (.slice e')) {cks : List CK} {g o n c : Nat} {l : List (List AV)} {us : List Value} (hn : n = l.length) (h1 : us.length = l.length * cks.length) (h2 : w.rangeAt g o us) (h3 : Flat T w (XB C s.heap) cks l us) (h4 : ∀ u ∈ us, u.oneCell' = true) :
    SrcOK P T C s w cks tx (.slice (some ⟨g, o, none⟩) n c) l us := by
  subst hn
  exact ⟨Src.ofSlice w hu ⟨g, o, none⟩ l.length c us h1 (fun j u hj => by rw [add_mk]; exact h2 j u hj) h4, h3⟩
theorem src_empty {tx e' : TypeId} (hu : P.underlying tx = some (.slice e')) {cks : List CK} {ad : Option Addr} {c : Nat} : SrcOK P T C s w cks tx (.slice ad 0 c) [] [] := by
  refine ⟨?_, fun i r h => by simp at h⟩
  cases ad with
  | none => exact Src.ofNil w hu c
  | some ad => exact Src.ofSlice w hu ad 0 c [] (by simp) (fun j u h => by simp at h) (fun u h => by cases h)

theorem newRows_sound (HT : tabOK P T = true) (hc : CS T C s a w) {e tx : TypeId} {cks : List CK} (hk : ckOf T e = some cks) (hp : 0 < cks.length) {x : AV} {l : List (List AV)} (h : newRows T e s.heap x = some l) (hf : fitsT T tx x = true) {v : Value} (hv : RpS T C s w x v) :
    ∃ us, SrcOK P T C s w cks tx v l us := by
  have rows : ∀ {b t' l'}, rowsOf s.heap x = some (b, t', l') → (∀ q, x ≠ .str q) → (bif Nat.beq t' e then some l' else none) = some l → ∃ us, SrcOK P T C s w cks tx v l us := fun {b t' l'} hr hns hl => by
    obtain ⟨e', hu⟩ := fitsT_sl (P := P) HT hns hf
    cases ht : Nat.beq t' e with
    | false => simp [ht] at hl
    | true =>
      simp only [ht, cond_true] at hl
      injection hl with hl
      subst hl
      have ht := beq_nat ht
      subst ht
      cases x <;> simp only [rowsOf] at hr
      all_goals try (cases hr; done)
      case sl b' t2 l2 =>
        injection hr with hr; injection hr with e1 e2; injection e2 with e2 e3; subst e1 e2 e3
        have hrp := rp_sl hv
        cases hrp with
        | em _ _ ad cap hb => exact ⟨[], src_empty hu⟩
        | sl _ cks' _ g o cap vals hk' hp' hne hX hle hlen hcell hval =>
          obtain ⟨us, h1, h2, h3, h4⟩ := flat_of_rows hp (RepC.rows (RepC.sl t2 cks' l2 g o cap vals hk' hp' hne hX hle hlen hcell hval) hk)
          exact ⟨us, src_slice hu rfl h1 h2 h3 h4⟩
      case own id =>
        cases hb : getB s.heap id with
        | gone => simp [hb] at hr
        | box _ _ => simp [hb] at hr
        | arr wr t2 b2 l2 =>
          rw [hb] at hr
          injection hr with hr; injection hr with e1 e2; injection e2 with e2 e3; subst e1 e2 e3
          obtain ⟨_, rfl⟩ := rp_own hv hb
          obtain ⟨cks', hk', _, _, _, hrow⟩ := arr_facts hc hb
          rw [hk] at hk'
          injection hk' with hk'
          subst hk'
          by_cases hne : l2 = []
          · subst hne; exact ⟨[], src_empty hu⟩
          · obtain ⟨g, o, hbase, hrow⟩ := hrow hne
            obtain ⟨us, h1, h2, h3, h4⟩ := flat_of_rows hp hrow
            simp only [hdr, hbase]
            exact ⟨us, src_slice hu rfl h1 h2 h3 h4⟩
      case vw id lo n =>
        cases hb : getB s.heap id with
        | gone => simp [hb] at hr
        | box _ _ => simp [hb] at hr
        | arr wr t2 b2 l2 =>
          rw [hb] at hr
          injection hr with hr; injection hr with e1 e2; injection e2 with e2 e3; subst e1 e2 e3
          obtain ⟨_, ad, c, rfl, hnc, hlen, hnn, hz, hpos⟩ := rp_vw hv hb
          obtain ⟨cks', hk', _, _, _, hrow⟩ := arr_facts hc hb
          rw [hk] at hk'
          injection hk' with hk'
          subst hk'
          by_cases hn0 : n = 0
          · subst hn0
            simp only [List.take_zero]
            exact ⟨[], src_empty hu⟩
          · obtain ⟨g, o, cks', hbase, hk', rfl⟩ := hpos (by omega)
            rw [hk] at hk'
            injection hk' with hk'
            subst hk'
            obtain ⟨g', o', hbase', hrow⟩ := hrow (fun e => by subst e; simp at hlen; omega)
            rw [hbase] at hbase'
            injection hbase' with hbase'
            injection hbase' with e1 e2 _
            subst e1 e2
            have hl' : ((l2.drop lo).take n).length = n := by simp; omega
            have hrow' : RowsRep T w (XB C s.heap) g (o + lo * cks.length) cks ((l2.drop lo).take n) := by
              intro i r he
              rw [List.getElem?_take] at he
              split at he
              · rw [List.getElem?_drop] at he
                obtain ⟨h1, h2⟩ := hrow (lo + i) r he
                refine ⟨h1, fun j x c hx hcc => ?_⟩
                obtain ⟨v, hv, hr⟩ := h2 j x c hx hcc
                refine ⟨v, ?_, hr⟩
                rw [← hv]
                congr 2
                rw [Nat.add_mul]; omega
              · cases he
            obtain ⟨us, h1, h2, h3, h4⟩ := flat_of_rows hp hrow'
            exact ⟨us, src_slice hu hl'.symm h1 h2 h3 h4⟩
  unfold newRows at h
  split at h
  · injection h with h; subst h
    obtain ⟨e', hu⟩ := fitsT_sl (P := P) HT (fun q => by simp) hf
    have e1 : v = .slice none 0 0 := hv
    subst e1; exact ⟨[], src_empty hu⟩
  · injection h with h; subst h
    obtain ⟨e', hu⟩ := fitsT_sl (P := P) HT (fun q => by simp) hf
    obtain ⟨ad, rfl, _⟩ := hv
    exact ⟨[], src_empty hu⟩
  · rename_i q
    rw [hk] at h
    split at h
    · rename_i hck
      injection hck with hck
      injection h with h
      subst hck h
      have e1 : v = .string q := hv
      subst e1
      refine ⟨byteCells q, ⟨by simpa [byteCells_length] using Src.ofString w (fitsT_str HT hf) q, fun i r hr => ?_⟩⟩
      rw [List.getElem?_map] at hr
      cases hb : q.data.toList[i]? with
      | none => rw [hb] at hr; cases hr
      | some b =>
        rw [hb] at hr
        injection hr with hr
        subst hr
        refine ⟨rfl, fun j x c hx hc => ?_⟩
        cases j with
        | succ j => simp at hc
        | zero =>
          simp at hx hc
          subst hx hc
          refine ⟨.int .u8 b.toNat, ?_, .int .u8 _⟩
          simp only [List.length_cons, List.length_nil, Nat.zero_add, Nat.mul_one, Nat.add_zero, byteCells, List.getElem?_map, hb, Option.map_some]
    · cases h
  · rename_i hn1 hn2 hn3
    cases hr : rowsOf s.heap x with
    | none => simp [hr] at h
    | some q =>
      obtain ⟨b, t', l'⟩ := q
      rw [hr] at h
      exact rows hr (fun q e => hn3 q e) h

def St.put2 (s : St) (id : Nat) (b : AB) : St := ⟨s.env, (s.nx, b) :: (id, .gone) :: s.heap, s.nx + 1, s.gs, s.kn⟩

/-- An own slice that is given up. -/
theorem CS.kill (hc : CS T C s a w) (id : Nat) : CS T C (s.set id .gone) a w ∧ Ext C s w C (s.set id .gone) w := by
  have hle : ∀ i g, ownB C (s.set id .gone).heap i = some g → i ≠ id ∧ ownB C s.heap i = some g := fun i g h => by
    by_cases e : i = id
    · subst e; simp [ownB, St.set, getB_cons] at h
    · simp only [ownB, St.set, getB_cons, e, if_false] at h; exact ⟨e, h⟩
  have E : Ext C s w C (s.set id .gone) w := by
    refine ⟨fun _ _ _ => rfl, fun g _ hx => ?_, Nat.le_refl _, fun _ _ => ⟨rfl, rfl, rfl⟩, fun i hi wr' t' b' l' h => ?_⟩
    · rcases hx with hx | ⟨i, hx⟩
      · exact .inl hx
      · exact .inr ⟨i, (hle i g hx).2⟩
    · by_cases e : i = id
      · subst e; simp [St.set, getB_cons] at h
      · simp only [St.set, getB_cons, e, if_false] at h
        exact ⟨wr', b', l', h, rfl⟩
  refine ⟨hc.heap E rfl rfl rfl (fun i => ?_) (fun i hi => ?_) (fun i i' g h h' => hc.inj i i' g (hle i g h).2 (hle i' g h').2) (fun i g h => hc.own i g (hle i g h).2) (Nat.le_refl _) (fun _ _ => rfl) ⟨rfl, rfl, rfl, rfl, rfl⟩ ⟨rfl, rfl, rfl⟩, E⟩
  · by_cases e : i = id
    · subst e; right; simp only [St.set, getB_cons, if_true]; trivial
    · by_cases hlt : i < s.nx
      · left; exact ⟨hlt, by simp only [St.set, getB_cons, e, if_false], fun _ _ => rfl⟩
      · right; simp only [St.set, getB_cons, e, if_false]; rw [hc.nx i (by omega)]; trivial
  · by_cases e : i = id
    · subst e; simp [St.set, getB_cons]
    · simp only [St.set, getB_cons, e, if_false]
      exact hc.nx i (by simpa [St.set] using hi)

theorem Flat.append {X : Nat → Prop} {cks : List CK} {l l' : List (List AV)} {us us' : List Value} (h : Flat T w X cks l us) (h' : Flat T w X cks l' us') (hl : us.length = l.length * cks.length) (rest : List Value) : Flat T w X cks (l ++ l') (us ++ us' ++ rest) := by
  intro i r hr
  by_cases hi : i < l.length
  · rw [List.getElem?_append_left hi] at hr
    obtain ⟨h1, h2⟩ := h i r hr
    refine ⟨h1, fun j x c hx hc => ?_⟩
    obtain ⟨v, hv, hrep⟩ := h2 j x c hx hc
    have hb := (List.getElem?_eq_some_iff.1 hv).1
    exact ⟨v, by rw [List.append_assoc, List.getElem?_append_left hb]; exact hv, hrep⟩
  · rw [List.getElem?_append_right (by omega)] at hr
    obtain ⟨h1, h2⟩ := h' _ r hr
    refine ⟨h1, fun j x c hx hc => ?_⟩
    obtain ⟨v, hv, hrep⟩ := h2 j x c hx hc
    have hb := (List.getElem?_eq_some_iff.1 hv).1
    have hm : i * cks.length = l.length * cks.length + (i - l.length) * cks.length := by rw [← Nat.add_mul]; congr 1; omega
    refine ⟨v, ?_, hrep⟩
    rw [List.append_assoc, List.getElem?_append_right (by omega), List.getElem?_append_left (by omega), ← hv]
    congr 1
    omega

/-- What is appended to: an own slice, from its head. -/
structure Dst (T : Tab) (C : Cx) (s : St) (w : World) (e : TypeId) (cks : List CK) (v : Value) (b : Bool) (l : List (List AV)) : Prop where
  ex : ∃ ad cap, v = .slice ad l.length cap ∧ l.length ≤ cap ∧ b = ad.isNone ∧
    ((cap = 0) ∨ (0 < cap ∧ b = false ∧ ∃ id g o wl, getB s.heap id = .arr true e b wl ∧ C.base id = some ⟨g, o, none⟩ ∧ C.cap id = cap ∧ ad = some ⟨g, o, none⟩ ∧ RowsRep T w (XB C s.heap) g o cks l ∧ w.there g o (cap * cks.length)))

theorem run_append_grow (w : World) {t tx ty e : TypeId} (hu : P.underlying t = some (.slice e)) {i : TypeInfo} (hi : P.info? e = some i) {z : Value} (hz : i.zero = some z) {ad : Option Addr} {n cap : Nat} {olds : List Value} (hol : olds.length = n * i.size) (hold : n = 0 ∨ ∃ g o, ad = some ⟨g, o, none⟩ ∧ w.rangeAt g o olds)
    {x : Value} {m : Nat} {us : List Value} (hs : Src P i.size tx x m us w) (hg : cap < n + m) (hb : (n + m) * i.bytes ≤ 140737488355328) (hb0 : 0 < i.bytes) :
    (Builtin.append_ #[t, tx] ty #[.slice ad n cap, x]).run P w = .ok (.slice (some ⟨w.heap.size, 0, none⟩) (n + m) (grownCap w (n + m) cap e))
        (w.drew.alloc (.cells ((olds ++ us).toArray ++ Builtin.zeroCells z.cells (grownCap w (n + m) cap e - (n + m))) e)) := by
  have h63 : n + m ≤ 140737488355328 := Nat.le_trans (Nat.le_mul_of_pos_right _ hb0) hb
  refine run_append_grow_src w t tx ty e i z hu hi hz ad n cap olds ?_ x m us hs hg (by omega) (growslice_fits hg (by omega))
  rcases hold with rfl | ⟨g, o, rfl, hr⟩
  · have : olds = [] := List.length_eq_zero_iff.1 (by omega)
    subst this
    cases ad with
    | none => exact run_firstCells_none _ _ _ _ _
    | some ad => exact run_firstCells_some _ _ _ _ _ _ _ (by simp) (fun j v h => by simp at h)
  · refine run_firstCells_some _ _ _ _ _ _ _ hol (fun j v hv => ?_)
    rw [add_mk]
    simpa using hr j v hv
end
end Go.Proofs.Ytaghkmaelbgljaa.VX

namespace Go.Proofs.Ytaghkmaelbgljaa.VX
section
variable {P : Program} {T : Tab} {C : Cx} {s : St} {a : Act} {w w' : World}

/-- What an append comes to: the state behind it. -/
def AppOK (P : Program) (T : Tab) (C : Cx) (s0 : St) (a : Act) (w : World) (m : Sem Value) (blk : AB) : Prop :=
  ∃ C' val w', KeepC C C' ∧ m.run P w = .ok val w' ∧ CS T C' (s0.add blk) a w' ∧ RpS T C' (s0.add blk) w' (.own s0.nx) val

theorem app_none (hc0 : CS T C s a w) {e : TypeId} {cks : List CK} (hk : ckOf T e = some cks) (hp : 0 < cks.length) {ad : Option Addr} {b : Bool} (hb : b = ad.isNone) {m : Sem Value} (hr : m.run P w = .ok (.slice ad 0 0) w) :
    AppOK P T C s a w m (.arr true e b []) := by
  have hnone : ownB (C.at s.nx 0 ad 0) (s.add (.arr true e b [])).heap s.nx = none := by simp [ownB, St.add, getB_cons, Cx.at, upd_same]
  refine ⟨C.at s.nx 0 ad 0, .slice ad 0 0, w, KeepC.at _ _ _ _ _, hr, hc0.add (Nat.le_refl _) (fun _ _ => rfl) (fun g h => by rw [hnone] at h; cases h) ⟨cks, hk, hp, .inl ⟨rfl, by simp [Cx.at, upd_same], by simp [Cx.at, upd_same, hb]⟩⟩, Nat.lt_succ_self _, ?_⟩
  simp only [St.add, getB_cons, if_true, hdr, Cx.at, upd_same]
  rfl

theorem app_grow (HT : tabOK P T = true) {s0 : St} (hc0 : CS T C s0 a w) (E0 : Ext C s w C s0 w) {t tx ty e : TypeId} (hu : P.underlying t = some (.slice e)) {cks : List CK} (hk : ckOf T e = some cks) {ad : Option Addr} {cap : Nat} {b : Bool} {l news : List (List AV)} {us : List Value}
    {x : Value} (hs : SrcOK P T C s w cks tx x news us) (hg : cap < l.length + news.length) (hle : l.length ≤ cap) (hbytes : (l.length + news.length) * bytesOf T e ≤ 140737488355328)
    (hd : cap = 0 ∨ ∃ g o, ad = some ⟨g, o, none⟩ ∧ RowsRep T w (XB C s.heap) g o cks l) :
    AppOK P T C s0 a w (Builtin.append_ #[t, tx] ty #[.slice ad l.length cap, x]) (.arr true e (b && news.isEmpty) (l ++ news)) := by
  obtain ⟨i, z, hi, hz, hsz, hby, hp, hck, hb0⟩ := elem_zero (P := P) HT hk
  have hol : ∃ olds : List Value, olds.length = l.length * cks.length ∧ (l.length = 0 ∨ ∃ g o, ad = some ⟨g, o, none⟩ ∧ w.rangeAt g o olds) ∧ Flat T w (XB C s.heap) cks l olds := by
    rcases hd with h0 | ⟨g, o, had, hrow⟩
    · have : l = [] := List.length_eq_zero_iff.1 (by omega)
      subst this
      exact ⟨[], by simp, .inl rfl, fun i r h => by simp at h⟩
    · obtain ⟨us', h1, h2, h3, _⟩ := flat_of_rows hp hrow
      exact ⟨us', h1, .inr ⟨g, o, had, h2⟩, h3⟩
  obtain ⟨olds, ho1, ho2, ho3⟩ := hol
  have hrun := run_append_grow (ty := ty) w hu hi hz (n := l.length) (cap := cap) (olds := olds) (by rw [hsz]; exact ho1) ho2 (m := news.length) (us := us) (by rw [hsz]; exact hs.src) hg (by rw [hby]; exact hbytes) hb0
  have hge := grownCap_ge w (l.length + news.length) cap e
  have hzs : z.cells.size = cks.length := by have := (ck_zero (T := T) (w := w) hck).1; simpa using this
  have hul : us.length = news.length * cks.length := hs.src.newsLen
  generalize hw' : (w.drew.alloc (.cells ((olds ++ us).toArray ++ Builtin.zeroCells z.cells (grownCap w (l.length + news.length) cap e - (l.length + news.length))) e)) = w' at hrun
  generalize hgc : grownCap w (l.length + news.length) cap e = gc at hrun hge hw'
  have hc1 : CS T C s0 a w.drew := hc0.world rfl
  have hflat : Flat T w.drew (XB C s0.heap) cks (l ++ news) (olds ++ us ++ (Builtin.zeroCells z.cells (gc - (l.length + news.length))).toList) := by
    have := Flat.append ho3 hs.flat ho1 (Builtin.zeroCells z.cells (gc - (l.length + news.length))).toList
    intro i r hr
    obtain ⟨h1, h2⟩ := this i r hr
    refine ⟨h1, fun j x c hx hcc => ?_⟩
    obtain ⟨v, hv, hrep⟩ := h2 j x c hx hcc
    exact ⟨v, hv, RepC.keep (w := w) (w' := w.drew) (fun _ _ _ => rfl) (fun g hg' hx' => E0.h2 g hg' hx') hrep⟩
  have hsize : (((olds ++ us).toArray ++ Builtin.zeroCells z.cells (gc - (l.length + news.length)))).size = gc * cks.length := by
    simp only [Array.size_append, List.size_toArray, List.length_append, ho1, hul, size_zeroCells, hzs]
    rw [← Nat.add_mul, ← Nat.add_mul]
    congr 1
    omega
  obtain ⟨C', hkp, hcs, hrp⟩ := arr_new (w' := w') (hio := by rw [← hw']; exact ⟨rfl, rfl, rfl⟩) hc1 (by rw [← hw', alloc_size]; exact Nat.lt_succ_self _) (fun b hb => by rw [← hw']; exact alloc_same _ _ b hb) hk hp (l := l ++ news) (cap := gc) (by simp; omega)
    (fun i' r hr => by
      obtain ⟨q1, q2⟩ := hflat i' r hr
      refine ⟨q1, fun j x' c' hx' hc' => ?_⟩
      obtain ⟨v, hv, hrep⟩ := q2 j x' c' hx' hc'
      refine ⟨v, ?_, hrep⟩
      have := rangeAt_new w.drew ((olds ++ us).toArray ++ Builtin.zeroCells z.cells (gc - (l.length + news.length))) e (0, 0) (i' * cks.length + j) v (by simpa using hv)
      rw [hw'] at this
      simpa using this)
    (by
      have := there_new w.drew ((olds ++ us).toArray ++ Builtin.zeroCells z.cells (gc - (l.length + news.length))) e
      rw [hw', hsize] at this
      exact this)
  have hne : news.isEmpty = false := by
    cases news with
    | nil => simp at hg; omega
    | cons _ _ => rfl
  rw [hne, Bool.and_false]
  refine ⟨C', _, w', hkp, hrun, hcs, ?_⟩
  have e1 : (l ++ news).length = l.length + news.length := by simp
  rw [e1] at hrp
  exact hrp

theorem app_room (HT : tabOK P T = true) (hc : CS T C s a w) {t tx ty e : TypeId} (hu : P.underlying t = some (.slice e)) {cks : List CK} (hk : ckOf T e = some cks) {id g o : Nat} {wl : List (List AV)} (hb : getB s.heap id = .arr true e false wl) (hbase : C.base id = some ⟨g, o, none⟩) (hcap : 0 < C.cap id)
    {l news : List (List AV)} {us : List Value} {x : Value} (hs : SrcOK P T C s w cks tx x news us) (hg : l.length + news.length ≤ C.cap id) (hrow : RowsRep T w (XB C s.heap) g o cks l) (hth : w.there g o (C.cap id * cks.length)) :
    AppOK P T C (s.set id .gone) a w (Builtin.append_ #[t, tx] ty #[.slice (some ⟨g, o, none⟩) l.length (C.cap id), x]) (.arr true e false (l ++ news)) := by
  obtain ⟨i, z, hi, hz, hsz, hby, hp, hck, hb0⟩ := elem_zero (P := P) HT hk
  have hul : us.length = news.length * cks.length := hs.src.newsLen
  have hid := gone_lt hc hb (by simp)
  have ho : ownB C s.heap id = some g := by simp [ownB, hb, hbase, Nat.ne_of_gt hcap]
  have hbnd : l.length * cks.length + us.length ≤ C.cap id * cks.length := by
    rw [hul, ← Nat.add_mul]; exact Nat.mul_le_mul_right _ hg
  have hcl : ∀ j, j < us.length → (w.cell? ⟨g, o + l.length * cks.length + j, none⟩).isSome = true ∧ w.frozen? ⟨g, o + l.length * cks.length + j, none⟩ = false := fun j hj => by
    have := hth (l.length * cks.length + j) (by omega)
    rwa [← Nat.add_assoc] at this
  have hrun := run_append_room_src w t tx ty e i hu hi g o l.length (C.cap id) x news.length us (by rw [hsz]; exact hs.src) hg (fun j hj => by rw [hsz]; exact (hcl j hj).1) (fun j hj => by rw [hsz]; exact (hcl j hj).2)
  rw [hsz] at hrun
  generalize hw' : w.setCells g (o + l.length * cks.length) us = w' at hrun
  have hsame : ∀ q, q ≠ g → w'.heap[q]? = w.heap[q]? := fun q hq => by rw [← hw']; exact setCells_same _ _ _ _ q hq
  have hsize : w'.heap.size = w.heap.size := by rw [← hw']; exact setCells_size _ _ _ _
  have hne : ∀ i', i' ≠ s.nx → i' ≠ id → getB ((s.set id .gone).add (.arr true e false (l ++ news))).heap i' = getB s.heap i' := fun i' h1 h2 => by
    simp only [St.add, St.set, getB_cons]
    rw [if_neg h1, if_neg h2]
  have hidne : id ≠ s.nx := by omega
  have hgone : getB ((s.set id .gone).add (.arr true e false (l ++ news))).heap id = .gone := by
    simp only [St.add, St.set, getB_cons, if_true]
    rw [if_neg hidne]
  have hnew : getB ((s.set id .gone).add (.arr true e false (l ++ news))).heap s.nx = .arr true e false (l ++ news) := by
    simp only [St.add, St.set, getB_cons, if_true]
  have hownnew : ownB (C.at s.nx 0 (some ⟨g, o, none⟩) (C.cap id)) ((s.set id .gone).add (.arr true e false (l ++ news))).heap s.nx = some g := by
    simp only [ownB, hnew, Cx.at, upd_same]
    rw [if_neg (Nat.ne_of_gt hcap)]; rfl
  have hownle : ∀ i' q, ownB (C.at s.nx 0 (some ⟨g, o, none⟩) (C.cap id)) ((s.set id .gone).add (.arr true e false (l ++ news))).heap i' = some q → (i' = s.nx ∧ q = g) ∨ (i' ≠ s.nx ∧ i' ≠ id ∧ ownB C s.heap i' = some q) := fun i' q h => by
    by_cases h1 : i' = s.nx
    · subst h1; rw [hownnew] at h; injection h with h; exact .inl ⟨rfl, h.symm⟩
    · by_cases h2 : i' = id
      · subst h2; simp [ownB, hgone] at h
      · right
        refine ⟨h1, h2, ?_⟩
        simp only [ownB, hne i' h1 h2, Cx.at, upd_ne _ _ h1] at h
        exact h
  have E : Ext C s w (C.at s.nx 0 (some ⟨g, o, none⟩) (C.cap id)) ((s.set id .gone).add (.arr true e false (l ++ news))) w' := by
    refine ⟨fun q _ hx => hsame q (fun e' => hx (.inr ⟨id, by rw [e']; exact ho⟩)), fun q _ hx => ?_, Nat.le_succ _, fun i' hi' => ?_, fun i' hi' wr' t' b' l' h => ?_⟩
    · rcases hx with hx | ⟨i', hx⟩
      · exact .inl hx
      · rcases hownle i' q hx with ⟨_, rfl⟩ | ⟨_, _, h⟩
        · exact .inr ⟨id, ho⟩
        · exact .inr ⟨i', h⟩
    · have : i' ≠ s.nx := by omega
      simp only [Cx.at, upd_ne _ _ this, and_self]
    · have h1 : i' ≠ s.nx := by omega
      by_cases h2 : i' = id
      · subst h2; rw [hgone] at h; cases h
      · rw [hne i' h1 h2] at h; exact ⟨wr', b', l', h, rfl⟩
  refine ⟨C.at s.nx 0 (some ⟨g, o, none⟩) (C.cap id), _, w', KeepC.at _ _ _ _ _, hrun, hc.heap E rfl rfl rfl (fun i' => ?_) (fun i' hi' => ?_) (fun i1 i2 q h h' => ?_) (fun i' q h => ?_) (by omega) (fun q hq => hsame q (fun e' => ?_)) ⟨rfl, rfl, rfl, rfl, rfl⟩ (by rw [← hw']; exact setCells_io _ _ _ _), ?_⟩
  · by_cases h1 : i' = s.nx
    · subst h1
      right
      rw [hnew]
      refine ⟨cks, hk, hp, .inr ⟨rfl, by simpa [Cx.at, upd_same] using hcap, g, o, by simp [Cx.at, upd_same], by simpa [Cx.at, upd_same] using hg, fun j r hr => ?_, fun _ => ?_, fun h => by cases h⟩⟩
      · by_cases hj : j < l.length
        · rw [List.getElem?_append_left hj] at hr
          obtain ⟨q1, q2⟩ := hrow j r hr
          refine ⟨q1, fun j2 x' c' hx' hc' => ?_⟩
          obtain ⟨v, hv, hrep⟩ := q2 j2 x' c' hx' hc'
          have hj2 : j2 < cks.length := (List.getElem?_eq_some_iff.1 hc').1
          refine ⟨v, ?_, hrep.keep E.h1 E.h2⟩
          rw [← hw', World.cell?_setCells_out g _ _ w _ (fun _ _ => .inl (by
            have : (j + 1) * cks.length ≤ l.length * cks.length := Nat.mul_le_mul_right _ hj
            rw [Nat.add_mul] at this
            simp; omega))]
          exact hv
        · rw [List.getElem?_append_right (by omega)] at hr
          obtain ⟨q1, q2⟩ := hs.flat _ r hr
          refine ⟨q1, fun j2 x' c' hx' hc' => ?_⟩
          obtain ⟨v, hv, hrep⟩ := q2 j2 x' c' hx' hc'
          have hb2 := (List.getElem?_eq_some_iff.1 hv).1
          have hm : j * cks.length = l.length * cks.length + (j - l.length) * cks.length := by rw [← Nat.add_mul]; congr 1; omega
          refine ⟨v, ?_, hrep.keep E.h1 E.h2⟩
          have := World.cell?_setCells_in g us (o + l.length * cks.length) w (fun q hq => (hcl q hq).1) _ hb2
          rw [← hw', show o + (j * cks.length + j2) = o + l.length * cks.length + ((j - l.length) * cks.length + j2) by omega, this, ← hv, List.getElem?_eq_getElem hb2]
      · simp only [Cx.at, upd_same]
        rw [← hw']
        exact World.there_setCells hth _ _ _
    · by_cases h2 : i' = id
      · subst h2; right; rw [hgone]; trivial
      · by_cases hlt : i' < s.nx
        · left
          refine ⟨hlt, hne i' h1 h2, fun q hq => hsame q (fun e' => ?_)⟩
          subst e'
          exact h2 (hc.inj i' id q hq ho)
        · right; rw [hne i' h1 h2, hc.nx i' (by omega)]; trivial
  · have h1 : i' ≠ s.nx := by simp [St.add, St.set] at hi'; omega
    have h2 : i' ≠ id := by simp [St.add, St.set] at hi'; omega
    rw [hne i' h1 h2]
    exact hc.nx i' (by simp [St.add, St.set] at hi'; omega)
  · rcases hownle i1 q h with ⟨e1, e1'⟩ | ⟨n1, n1', h1⟩
    · rcases hownle i2 q h' with ⟨e2, _⟩ | ⟨n2, n2', h2⟩
      · rw [e1, e2]
      · subst e1'; exact absurd (hc.inj i2 id q h2 ho) n2'
    · rcases hownle i2 q h' with ⟨e2, e2'⟩ | ⟨n2, n2', h2⟩
      · subst e2'; exact absurd (hc.inj i1 id q h1 ho) n1'
      · exact hc.inj i1 i2 q h1 h2
  · rw [hsize]
    rcases hownle i' q h with ⟨_, rfl⟩ | ⟨_, _, h⟩
    · exact hc.own id q ho
    · exact hc.own i' q h
  · subst e'; exact (hc.own id q ho).2.1 hq
  · refine ⟨Nat.lt_succ_self _, ?_⟩
    have hnew' : getB ((s.set id .gone).add (.arr true e false (l ++ news))).heap (s.set id .gone).nx = .arr true e false (l ++ news) := hnew
    rw [hnew']
    simp only [hdr, List.length_append]
    show Value.slice _ _ _ = Value.slice (upd C.base s.nx _ s.nx) _ (upd C.cap s.nx _ s.nx)
    rw [upd_same, upd_same]

theorem AppOK.ans {s0 : St} {m : Sem Value} {blk : AB} (h : AppOK P T C s0 a w m blk) (hs0 : s0.nx = s.nx ∧ s0.env = s.env ∧ s0.gs = s.gs ∧ s0.kn = s.kn) {n : Sem Next} (hn : n = (do pure (.value (← m)))) {k : KE} (hk : k (.own s.nx) s.env ((s.nx, blk) :: s0.heap) (s.nx + 1)) : AnsE P T C s a w n k := by
  obtain ⟨C', val, w', h1, h2, h3, h4⟩ := h
  obtain ⟨e1, e2, e3, e4⟩ := hs0
  refine ⟨_, _, _, hk, C', val, w', h1, .inl ?_, ?_, ?_⟩
  · rw [hn]; simp only [Sem.run_bind, h2, Result.andThen_ok, Sem.run_pure]
  · simp only [St.add, e1, e2, e3, e4] at h3; exact h3
  · simp only [St.add, e1, e2, e3, e4] at h4; exact h4

theorem append_sound (HT : tabOK P T = true) (hc : CS T C s a w) {c : Call} {o : Oper} (ho : o.op = .call c) (hcal : c.callee = .builtin .append) {ev : Operand → Value} {ρ : Operand → AV} (hρ : ∀ x, RpS T C s w (ρ x) (ev x)) {call : CallR} {k : KE}
    (h : xeff T call ρ o.op s.env s.heap s.nx k) : AnsE P T C s a w (execOp ev o) k := by
  rw [ho] at h
  simp only [xeff, hcal] at h
  split at h
  · rename_i sx xx t tx ha ht
    rw [forceK_eq] at h
    have hargs : c.args = #[sx, xx] := by rw [← Array.toArray_toList (xs := c.args), ha]
    have htys : c.argTypes = #[t, tx] := by rw [← Array.toArray_toList (xs := c.argTypes), ht]
    have hex : execOp ev o = (do pure (.value (← Builtin.append_ #[t, tx] o.type #[ev sx, ev xx]))) := by
      simp only [execOp, ho, resolve, hcal, hargs, htys, invoke, builtin, pure_bind, List.map_toArray, List.map_cons, List.map_nil]
    unfold xappend at h
    cases hf : fitsT T tx (ρ xx) with
    | false => simp [hf] at h
    | true =>
      simp only [hf, cond_true] at h
      cases he : elemOf T t with
      | none => simp [he] at h
      | some e =>
        rw [he] at h
        simp only at h
        cases hn : newRows T e s.heap (ρ xx) with
        | none => simp [hn] at h
        | some news =>
          rw [hn] at h
          simp only at h
          cases hk : ckOf T e with
          | none => simp [hk] at h
          | some cks =>
            rw [hk] at h
            simp only at h
            obtain ⟨i, z, hi, hz, hsz, hby, hp, hck, hb0⟩ := elem_zero (P := P) HT hk
            obtain ⟨xi, hx, hd⟩ := elemOf_some he
            have hu := (tab_get HT hx).slice hd
            obtain ⟨us, hs⟩ := newRows_sound (P := P) HT hc hk hp hn hf (hρ xx)
            have hsrc0 : news = [] → Src P i.size tx (ev xx) 0 [] w := fun hne => by
              subst hne
              have h1 := hs.src
              have e0 : us = [] := List.length_eq_zero_iff.1 (by simpa using h1.newsLen)
              subst e0
              rw [hsz]; exact h1
            have empty : ∀ (ad : Option Addr) (b : Bool), ev sx = .slice ad 0 0 → b = ad.isNone → (news.length * bytesOf T e ≤ 140737488355328) → AppOK P T C s a w (Builtin.append_ #[t, tx] o.type #[ev sx, ev xx]) (.arr true e (b && news.isEmpty) news) := fun ad b hv hb hbytes => by
              rw [hv]
              by_cases hne : news = []
              · have h0 := app_none (P := P) hc hk hp hb (run_append_nothing w t tx o.type e i hu hi ad 0 0 (Nat.le_refl _) (ev xx) (hsrc0 hne))
                subst hne
                simpa using h0
              · have hpos : 0 < news.length := List.length_pos_iff.2 hne
                have := app_grow (P := P) (ty := o.type) HT hc (Ext.refl _ _ _) hu hk (ad := ad) (cap := 0) (b := b) (l := []) hs (by simpa using hpos) (Nat.le_refl _) (by simpa using hbytes) (.inl rfl)
                simpa using this
            have own : ∀ (id : Nat) (b : Bool) (wl l : List (List AV)), getB s.heap id = .arr true e b wl → ev sx = .slice (C.base id) l.length (C.cap id) → l.length ≤ wl.length → (∀ i r, l[i]? = some r → wl[i]? = some r) → ((l.length + news.length) * bytesOf T e ≤ 140737488355328) →
                AppOK P T C (s.set id .gone) a w (Builtin.append_ #[t, tx] o.type #[ev sx, ev xx]) (.arr true e (b && news.isEmpty) (l ++ news)) := fun id b wl l hb hv hlw hsub hbytes => by
              rw [hv]
              have hblk := hc.blk id
              rw [hb] at hblk
              obtain ⟨cks', hk', _, hblk⟩ := hblk
              rw [hk] at hk'
              injection hk' with hk'
              subst hk'
              obtain ⟨hc0, E0⟩ := hc.kill id
              rcases hblk with ⟨rfl, hcap, hnil⟩ | ⟨hnil, hcap, g, og, hbase, hle, hrow, hth, _⟩
              · have e0 : l = [] := List.length_eq_zero_iff.1 (by simpa using hlw)
                subst e0
                rw [hcap]
                by_cases hne : news = []
                · have h0 := app_none (P := P) hc0 hk hp hnil (run_append_nothing w t tx o.type e i hu hi (C.base id) 0 0 (Nat.le_refl _) (ev xx) (hsrc0 hne))
                  subst hne
                  simpa using h0
                · have hpos : 0 < news.length := List.length_pos_iff.2 hne
                  have := app_grow (P := P) (ty := o.type) HT hc0 E0 hu hk (ad := C.base id) (cap := 0) (b := b) (l := []) hs (by simpa using hpos) (Nat.le_refl _) (by simpa using hbytes) (.inl rfl)
                  simpa using this
              · have hrow' : RowsRep T w (XB C s.heap) g og cks l := fun i r hr => hrow i r (hsub i r hr)
                by_cases hg : l.length + news.length ≤ C.cap id
                · subst hnil
                  have := app_room (P := P) (ty := o.type) HT hc hu hk hb hbase hcap hs hg hrow' (hth rfl)
                  rw [hbase]
                  simpa using this
                · have := app_grow (P := P) (ty := o.type) HT hc0 E0 hu hk (ad := C.base id) (cap := C.cap id) (b := b) (l := l) hs (by omega) (by omega) hbytes (.inr ⟨g, og, hbase, hrow'⟩)
                  exact this
            have hsx := hρ sx
            cases hrs : ρ sx <;> rw [hrs] at h hsx <;> (try simp only at h)
            case nils =>
              have hv : ev sx = .slice none 0 0 := hsx
              exact (by simpa using empty none true hv rfl h.c : AppOK P T C s a w _ (.arr true e news.isEmpty news)).ans ⟨rfl, rfl, rfl, rfl⟩ hex h.x
            case em b =>
              obtain ⟨ad, hv, hb⟩ := hsx
              exact (empty ad b hv hb h.c).ans ⟨rfl, rfl, rfl, rfl⟩ hex h.x
            case own id =>
              cases hb : getB s.heap id with
              | gone => simp [hb] at h
              | box _ _ => simp [hb] at h
              | arr wr e' b l =>
                cases wr with
                | false => simp [hb] at h
                | true =>
                  rw [hb] at h
                  simp only at h
                  cases hee : Nat.beq e e' with
                  | false => simp [hee] at h
                  | true =>
                    simp only [hee, cond_true] at h
                    have hee := beq_nat hee
                    subst hee
                    obtain ⟨_, hv⟩ := rp_own hsx hb
                    exact (own id b l l hb hv (Nat.le_refl _) (fun _ _ h => h) h.c).ans ⟨rfl, rfl, rfl, rfl⟩ hex h.x
            case vw id lo n =>
              cases lo with
              | succ _ => exact h.elim
              | zero =>
                simp only at h
                cases hb : getB s.heap id with
                | gone => simp [hb] at h
                | box _ _ => simp [hb] at h
                | arr wr e' b l =>
                  cases wr with
                  | false => simp [hb] at h
                  | true =>
                    rw [hb] at h
                    simp only at h
                    cases hee : Nat.beq e e' with
                    | false => simp [hee] at h
                    | true =>
                      simp only [hee, cond_true] at h
                      have hee := beq_nat hee
                      subst hee
                      obtain ⟨_, ad, cc, hv, _, hlen, _, hz0, _⟩ := rp_vw hsx hb
                      obtain ⟨rfl, rfl⟩ := hz0 rfl
                      have hl : (l.take n).length = n := by simp; omega
                      have := own id b l (l.take n) hb (by rw [hl]; exact hv) (by simp; omega) (fun i r hr => by
                        rw [List.getElem?_take] at hr
                        split at hr
                        · exact hr
                        · cases hr) (by rw [hl]; exact h.c)
                      exact this.ans ⟨rfl, rfl, rfl, rfl⟩ hex h.x
  · exact h.elim
end
end Go.Proofs.Ytaghkmaelbgljaa.VX

namespace Go.Proofs.Ytaghkmaelbgljaa.VX
section
variable {P : Program} {T : Tab} {C C' : Cx} {s s' : St} {a : Act} {w w' : World}

def hpOf : Nat → List AB → Hp
  | _, [] => []
  | i, b :: r => (i, b) :: hpOf (i + 1) r
def stOf (h : List AB) : St := ⟨[], hpOf 0 h, h.length, [], []⟩
def noAct : Act := ⟨#[], []⟩
/-- Blocks alone. -/
def HS (T : Tab) (C : Cx) (h : List AB) (w : World) : Prop := CS T C (stOf h) noAct w

/-- The contract of a function: of whatever stands for these arguments over these blocks, it returns what R says. -/
structure ACalls (P : Program) (T : Tab) (f : FuncId) (args : List AV) (h : List AB) (R : AV → List AB → Prop) : Prop where
  fn : ∃ fn, P.funcs[f]? = some fn ∧ fn.body.isSome = true ∧ (fn.name == "runtime.NumGoroutine") = false
  calls : ∀ (C : Cx) (w : World) (vals : List Value), HS T C h w → all2 (RpS T C (stOf h) w) args vals →
    Calls P f vals.toArray w fun e w' => ∃ r h' v C', e = .returned v ∧ R r h' ∧ KeepC C C' ∧ HS T C' h' w' ∧ RpS T C' (stOf h') w' r v ∧ h.length ≤ h'.length ∧ ∀ t y, r ≠ .iface t y
theorem ACalls.mono {f : FuncId} {args : List AV} {h : List AB} {R R' : AV → List AB → Prop} (hc : ACalls P T f args h R) (hr : ∀ r h', R r h' → R' r h') : ACalls P T f args h R' :=
  ⟨hc.1, fun C w vals hs ha => (hc.2 C w vals hs ha).mono fun _ _ ⟨r, h', v, C', h1, h2, h3⟩ => ⟨r, h', v, C', h1, hr _ _ h2, h3⟩⟩

theorem getB_hpOf : ∀ (h : List AB) (i id : Nat), getB (hpOf i h) id = if i ≤ id then (h[id - i]?).getD .gone else .gone
  | [], i, id => by simp [hpOf, getB]
  | b :: r, i, id => by
    simp only [hpOf, getB_cons, getB_hpOf r (i + 1) id]
    by_cases e : id = i
    · subst e; simp
    · rw [if_neg e]
      by_cases h1 : i ≤ id
      · rw [if_pos (by omega), if_pos h1, show id - i = (id - (i + 1)) + 1 by omega, List.getElem?_cons_succ]
      · rw [if_neg (by omega), if_neg h1]
theorem getB_hpOf0 (h : List AB) (id : Nat) : getB (hpOf 0 h) id = (h[id]?).getD .gone := by simp [getB_hpOf]

def shift (n : Nat) : Nat → Nat := fun i => n + i
/-- Behind the call: the blocks that it hands on lie behind the caller's. -/
def layed (nx : Nat) (bs : List AB) (h : Hp) : Hp × Nat :=
  match bs with
  | [] => (h, nx)
  | b :: r => layed (nx + 1) r ((nx, b) :: h)

def renB' (σ : Nat → Nat) : AB → AB
  | .box t cs => .box t (cs.map (renC σ))
  | b => b
theorem renB_eq (σ : Nat → Nat) (b : AB) (K : AB → Prop) : renB σ b K = K (renB' σ b) := by
  cases b <;> simp [renB, renB', mapK_eq]
def renA' (σ : Nat → Nat) : AV → AV
  | .agg l => .agg (l.map (renC σ))
  | v => renC σ v
def renV' (σ : Nat → Nat) : AV → AV
  | .tup l => .tup (l.map (renA' σ))
  | v => renA' σ v
theorem renA_eq (σ : Nat → Nat) (v : AV) (K : AV → Prop) : renA σ v K = K (renA' σ v) := by
  unfold renA renA'; cases v <;> simp [mapK_eq, forceK_eq]
theorem renAL_eq (σ : Nat → Nat) : ∀ (l : List AV) (K : List AV → Prop), renAL σ l K = K (l.map (renA' σ))
  | [], _ => rfl
  | v :: r, K => by simp [renAL, renA_eq, renAL_eq σ r]
theorem renV_eq (σ : Nat → Nat) (v : AV) (K : AV → Prop) : renV σ v K = K (renV' σ v) := by
  unfold renV renV'; cases v <;> simp [renAL_eq, renA_eq]
theorem layBack_eq (σ : Nat → Nat) : ∀ (bs : List AB) (h : Hp) (nx : Nat) (K : Hp → Nat → Prop), layBack σ [] bs h nx K = K (layed nx (bs.map (renB' σ)) h).1 (layed nx (bs.map (renB' σ)) h).2
  | [], h, nx, K => rfl
  | b :: r, h, nx, K => by simp [layBack, renB_eq, layBack_eq σ r, layed]
theorem layed_nx : ∀ (bs : List AB) (nx : Nat) (h : Hp), (layed nx bs h).2 = nx + bs.length
  | [], _, _ => rfl
  | b :: r, nx, h => by simp [layed, layed_nx r (nx + 1)]; omega
theorem layed_get : ∀ (bs : List AB) (nx : Nat) (h : Hp) (id : Nat), getB (layed nx bs h).1 id = if nx ≤ id ∧ id < nx + bs.length then (bs[id - nx]?).getD .gone else getB h id
  | [], nx, h, id => by simp [layed]; omega
  | b :: r, nx, h, id => by
    simp only [layed, layed_get r (nx + 1), getB_cons]
    by_cases e : id = nx
    · subst e; rw [if_neg (by omega), if_pos rfl, if_pos (by simp), Nat.sub_self]; rfl
    · by_cases h1 : nx ≤ id ∧ id < nx + (b :: r).length
      · rw [if_pos (by simp at h1 ⊢; omega), if_pos h1, show id - nx = (id - (nx + 1)) + 1 by omega, List.getElem?_cons_succ]
      · rw [if_neg (by simp at h1 ⊢; omega), if_neg h1, if_neg e]

/-- The context behind the call. -/
def Cx.join (C C' : Cx) (n : Nat) : Cx :=
  { C with β := fun i => if i < n then C.β i else C'.β (i - n), base := fun i => if i < n then C.base i else C'.base (i - n), cap := fun i => if i < n then C.cap i else C'.cap (i - n) }
theorem KeepC.join (C C' : Cx) (n : Nat) : KeepC C (C.join C' n) := ⟨rfl, rfl, rfl, rfl, rfl⟩

/-- Values of the callee's, in the caller's numbers. -/
theorem RpC_join {h' : List AB} {s2 : St} (hnx : s2.nx = s.nx + h'.length) (hget : ∀ id, getB s2.heap id = if s.nx ≤ id ∧ id < s.nx + h'.length then ((h'.map (renB' (shift s.nx)))[id - s.nx]?).getD .gone else getB s.heap id)
    {x : AV} (hX : hasSlC x = true → ∀ b, XB (C.join C' s.nx) s2.heap b → XB C' (hpOf 0 h') b) {v : Value} (h : RpK T C' (stOf h') w' x v) : RpK T (C.join C' s.nx) s2 w' (renC (shift s.nx) x) v := by
  have hj : ∀ j, j < h'.length → getB s2.heap (s.nx + j) = renB' (shift s.nx) ((h'[j]?).getD .gone) := fun j hj => by
    rw [hget, if_pos (by omega), Nat.add_sub_cancel_left, List.getElem?_map]
    rw [List.getElem?_eq_getElem hj]; rfl
  have hst : ∀ j, getB (stOf h').heap j = (h'[j]?).getD .gone := fun j => getB_hpOf0 h' j
  have harr : ∀ j wr t b l, j < h'.length → (getB s2.heap (s.nx + j) = .arr wr t b l ↔ getB (stOf h').heap j = .arr wr t b l) := fun j wr t b l hlt => by
    rw [hj j hlt, hst]
    cases (h'[j]?).getD .gone <;> simp [renB']
  have e1 : ∀ j, (C.join C' s.nx).β (s.nx + j) = C'.β j := fun j => by simp only [Cx.join]; rw [if_neg (by omega), Nat.add_sub_cancel_left]
  have e2 : ∀ j, (C.join C' s.nx).base (s.nx + j) = C'.base j := fun j => by simp only [Cx.join]; rw [if_neg (by omega), Nat.add_sub_cancel_left]
  have e3 : ∀ j, (C.join C' s.nx).cap (s.nx + j) = C'.cap j := fun j => by simp only [Cx.join]; rw [if_neg (by omega), Nat.add_sub_cancel_left]
  cases x <;> simp only [RpK, renC] at h ⊢
  all_goals try exact h
  case ptr id off =>
    obtain ⟨rfl, hid⟩ := h
    exact ⟨by simp only [shift]; rw [e1], by simp only [shift, hnx]; simp [stOf] at hid; omega⟩
  case sl b t l => exact h.weak (hX rfl)
  case own id =>
    obtain ⟨hid, h⟩ := h
    have hid' : id < h'.length := hid
    refine ⟨by simp only [shift, hnx]; omega, ?_⟩
    simp only [shift]
    cases hb : getB s2.heap (s.nx + id) with
    | arr wr t b l =>
      have := (harr id wr t b l hid').1 hb
      rw [this] at h
      simp only [hdr, e2, e3] at h ⊢
      exact h
    | _ => trivial
  case vw id lo n =>
    obtain ⟨hid, h⟩ := h
    have hid' : id < h'.length := hid
    refine ⟨by simp only [shift, hnx]; omega, ?_⟩
    simp only [shift]
    cases hb : getB s2.heap (s.nx + id) with
    | arr wr t b l =>
      have := (harr id wr t b l hid').1 hb
      rw [this] at h
      simp only [e2, e3] at h ⊢
      exact h
    | _ => trivial
  case elt id i off =>
    obtain ⟨hid, h⟩ := h
    have hid' : id < h'.length := hid
    refine ⟨by simp only [shift, hnx]; omega, ?_⟩
    simp only [shift]
    cases hb : getB s2.heap (s.nx + id) with
    | arr wr t b l =>
      have := (harr id wr t b l hid').1 hb
      rw [this] at h
      simp only [e2] at h ⊢
      exact h
    | _ => trivial
  case rel t l i off =>
    obtain ⟨hi, g, o, cap, cks, hk, hr, rfl⟩ := h
    exact ⟨hi, g, o, cap, cks, hk, hr.weak (hX rfl), rfl⟩
  case fn f first cap =>
    obtain ⟨fs, cs, rfl, h1, h2⟩ := h
    have key : ∀ (l : List AV) (us : List Value), all2 (RpF C' (stOf h')) l us → all2 (RpF (C.join C' s.nx) s2) (l.map (renF (shift s.nx))) us := by
      intro l
      induction l with
      | nil => intro us h; cases us with | nil => trivial | cons _ _ => exact h.elim
      | cons y r ih =>
        intro us h
        cases us with
        | nil => exact h.elim
        | cons u us =>
          obtain ⟨h0, hr⟩ := h
          refine ⟨?_, ih us hr⟩
          clear hr ih
          cases y <;> simp only [RpF, renF] at h0 ⊢
          all_goals try exact h0
          case ptr id off =>
            obtain ⟨rfl, hid⟩ := h0
            exact ⟨by simp only [shift]; rw [e1], by simp only [shift, hnx]; simp [stOf] at hid; omega⟩
          case own id =>
            obtain ⟨hid, h0⟩ := h0
            have hid' : id < h'.length := hid
            refine ⟨by simp only [shift, hnx]; omega, ?_⟩
            simp only [shift]
            cases hb : getB s2.heap (s.nx + id) with
            | arr wr t b l =>
              have := (harr id wr t b l hid').1 hb
              rw [this] at h0
              simp only [hdr, e2, e3] at h0 ⊢
              exact h0
            | _ => trivial
    exact ⟨fs, cs, rfl, key _ _ h1, key _ _ h2⟩

theorem RpA_join {h' : List AB} {s2 : St} (hnx : s2.nx = s.nx + h'.length) (hget : ∀ id, getB s2.heap id = if s.nx ≤ id ∧ id < s.nx + h'.length then ((h'.map (renB' (shift s.nx)))[id - s.nx]?).getD .gone else getB s.heap id)
    {x : AV} (hX : hasSlA x = true → ∀ b, XB (C.join C' s.nx) s2.heap b → XB C' (hpOf 0 h') b) {v : Value} (h : RpA T C' (stOf h') w' x v) : RpA T (C.join C' s.nx) s2 w' (renA' (shift s.nx) x) v := by
  cases x
  case agg l =>
    obtain ⟨cs, rfl, h⟩ := h
    refine ⟨cs, rfl, ?_⟩
    have key : ∀ (l : List AV) (us : List Value), (hasSlL l = true → ∀ b, XB (C.join C' s.nx) s2.heap b → XB C' (hpOf 0 h') b) → all2 (RpK T C' (stOf h') w') l us → all2 (RpK T (C.join C' s.nx) s2 w') (l.map (renC (shift s.nx))) us := by
      intro l
      induction l with
      | nil => intro us _ h; cases us with | nil => trivial | cons _ _ => exact h.elim
      | cons y r ih =>
        intro us hX h
        cases us with
        | nil => exact h.elim
        | cons u us => exact ⟨RpC_join hnx hget (fun e => hX (by simp [hasSlL, e])) h.1, ih us (fun e => hX (by simp [hasSlL, e])) h.2⟩
    exact key l _ hX h
  all_goals
    simp only [RpA, renA'] at h ⊢
    refine RpC_join hnx hget ?_ h
    exact hX
theorem RpS_join {h' : List AB} {s2 : St} (hnx : s2.nx = s.nx + h'.length) (hget : ∀ id, getB s2.heap id = if s.nx ≤ id ∧ id < s.nx + h'.length then ((h'.map (renB' (shift s.nx)))[id - s.nx]?).getD .gone else getB s.heap id)
    {x : AV} (hni : ∀ t y, x ≠ .iface t y) (hX : hasSl x = true → ∀ b, XB (C.join C' s.nx) s2.heap b → XB C' (hpOf 0 h') b) {v : Value} (h : RpS T C' (stOf h') w' x v) : RpS T (C.join C' s.nx) s2 w' (renV' (shift s.nx) x) v := by
  cases x
  case tup l =>
    obtain ⟨cs, rfl, h⟩ := h
    refine ⟨cs, rfl, ?_⟩
    have key : ∀ (l : List AV) (us : List Value), (hasSlAL l = true → ∀ b, XB (C.join C' s.nx) s2.heap b → XB C' (hpOf 0 h') b) → all2 (RpA T C' (stOf h') w') l us → all2 (RpA T (C.join C' s.nx) s2 w') (l.map (renA' (shift s.nx))) us := by
      intro l
      induction l with
      | nil => intro us _ h; cases us with | nil => trivial | cons _ _ => exact h.elim
      | cons y r ih =>
        intro us hX h
        cases us with
        | nil => exact h.elim
        | cons u us => exact ⟨RpA_join hnx hget (fun e => hX (by simp [hasSlAL, e])) h.1, ih us (fun e => hX (by simp [hasSlAL, e])) h.2⟩
    exact key l _ hX h
  case iface t y => exact absurd rfl (hni t y)
  all_goals
    simp only [RpS, renV'] at h ⊢
    refine RpA_join hnx hget ?_ h
    exact hX
end
end Go.Proofs.Ytaghkmaelbgljaa.VX

namespace Go.Proofs.Ytaghkmaelbgljaa.VX
section
variable {P : Program} {T : Tab} {C C' : Cx} {s s' : St} {a : Act} {w w' : World}

/-- The callee's context: what isn't lent is kept clear of, and nothing that is there changes. -/
def calleeC (C : Cx) (h : Hp) (w : World) (lent : List Nat) : Cx :=
  { β := fun _ => 0, base := fun _ => none, cap := fun _ => 0, F := fun b => C.F b ∨ ∃ id, ownB C h id = some b ∧ (id ∈ lent → ∃ t cs, getB h id = .box t cs), G := fun b => b < w.heap.size, w0 := w, pin := fun _ => none, N := 0 }
theorem calleeHS (hc : CS T C s a w) (lent : List Nat) : HS T (calleeC C s.heap w lent) [] w := by
  have hno : ∀ id, ownB (calleeC C s.heap w lent) (stOf []).heap id = none := fun id => rfl
  refine ⟨fun t => ?_, fun id => trivial, fun id _ => rfl, (fun id id' b h => by rw [hno] at h; cases h), (fun id b h => by rw [hno] at h; cases h), fun b h => ⟨h, rfl⟩, Nat.le_refl _, (fun id b h => by cases h), (fun p hp => by cases hp), rfl, rfl, fun b h => ?_, ⟨rfl, rfl, rfl⟩⟩
  · exact trivial
  · rcases h with h | ⟨id, h, _⟩
    · exact hc.f b h
    · exact (hc.own id b h).1

theorem XB_callee (lent : List Nat) {b : Nat} (h : XB (calleeC C s.heap w lent) (stOf []).heap b) : C.F b ∨ ∃ id, ownB C s.heap id = some b ∧ (id ∈ lent → ∃ t cs, getB s.heap id = .box t cs) := by
  rcases h with h | ⟨id, h⟩
  · exact h
  · cases h

theorem argC1_rep (hc : CS T C s a w) {x : AV} {v : Value} (h : RpK T C s w x v) {lent : List Nat} (hl : ∀ id ∈ lendC x, id ∈ lent) : RpK T (calleeC C s.heap w lent) (stOf []) w (argC1 s.heap x) v := by
  have weak : ∀ b, XB (calleeC C s.heap w lent) (stOf []).heap b → XB C s.heap b := fun b hb => (XB_callee lent hb).imp id (fun ⟨id, h, _⟩ => ⟨id, h⟩)
  have own : ∀ (id : Nat) (x : AV), x = .own id ∨ (∃ lo n, x = .vw id lo n) → id ∈ lent → RpK T C s w x v → RpK T (calleeC C s.heap w lent) (stOf []) w (match rowsOf s.heap x with | some (b, t, l) => .sl b t l | none => .dead) v := fun id x hx hid h => by
    cases hr : rowsOf s.heap x with
    | none => trivial
    | some q =>
      obtain ⟨b, t, l⟩ := q
      simp only
      -- freeze it in thought
      obtain ⟨hc1, E1, hfz⟩ := hc.freeze [id]
      have hrep : RepC T w (XB C (frzs s [id]).heap) (.sl t) (.sl b 0 l) v := by
        have hfit : fitC (frzs s [id]).heap (.sl t) x = some (.sl b 0 l) := by
          have hrow : rowsOf (frzs s [id]).heap x = some (b, t, l) := by
            rcases hx with rfl | ⟨lo, n, rfl⟩
            · simp only [rowsOf] at hr ⊢
              cases hb : getB s.heap id with
              | gone => simp [hb] at hr
              | box _ _ => simp [hb] at hr
              | arr wr t' b' l' =>
                obtain ⟨wr', h1, _⟩ := (hfz id).1 _ _ _ _ hb
                rw [h1]
                rw [hb] at hr
                exact hr
            · simp only [rowsOf] at hr ⊢
              cases hb : getB s.heap id with
              | gone => simp [hb] at hr
              | box _ _ => simp [hb] at hr
              | arr wr t' b' l' =>
                obtain ⟨wr', h1, _⟩ := (hfz id).1 _ _ _ _ hb
                rw [h1]
                rw [hb] at hr
                exact hr
          rcases hx with rfl | ⟨lo, n, rfl⟩ <;> simp only [fitC, hrow, Nat.beq_refl, cond_true]
        refine fitC_sound hc1 hfit (RpK.ext E1 h) (fun id' hid' wr t' b' l' hb' => ?_)
        have : id' = id := by rcases hx with rfl | ⟨lo, n, rfl⟩ <;> simpa [lendC] using hid'
        subst this
        cases hb0 : getB s.heap id' with
        | arr wr0 t0 b0 l0 =>
          obtain ⟨wr1, h4, h5⟩ := (hfz id').1 _ _ _ _ hb0
          rw [hb'] at h4
          injection h4 with h4
          rw [h4]; exact h5 (by simp)
        | box t0 cs0 => have := (hfz id').2 (by simp [hb0]); rw [hb', hb0] at this; cases this
        | gone => have := (hfz id').2 (by simp [hb0]); rw [hb', hb0] at this; cases this
      refine hrep.weak (fun q hq => ?_)
      rcases XB_callee lent hq with hF | ⟨i, hi, hn⟩
      · exact .inl hF
      · refine .inr ⟨i, ?_⟩
        have hne : i ≠ id := fun e => by
          obtain ⟨t0, cs0, h0⟩ := hn (e ▸ hid)
          rw [e] at h0
          rcases hx with rfl | ⟨lo, n, rfl⟩ <;> simp [rowsOf, h0] at hr
        have : getB (frzs s [id]).heap i = getB s.heap i := by
          cases hb0 : getB s.heap id with
          | arr wr t0 b0 l0 => simp only [frzs, Go.Proofs.Ytaghkmaelbgljaa.VX.freeze, hb0, getB_cons, hne, if_false]
          | box _ _ => simp only [frzs, Go.Proofs.Ytaghkmaelbgljaa.VX.freeze, hb0]
          | gone => simp only [frzs, Go.Proofs.Ytaghkmaelbgljaa.VX.freeze, hb0]
        simp only [ownB, this] at hi ⊢
        exact hi
  cases x <;> simp only [argC1, argC]
  case own id => exact own id _ (.inl rfl) (hl id (by simp [lendC])) h
  case vw id lo n => exact own id _ (.inr ⟨lo, n, rfl⟩) (hl id (by simp [lendC])) h
  case sl b t l => exact RepC.weak (show RepC T w (XB C s.heap) (.sl t) (.sl b 0 l) v from h) weak
  case rel t l i off =>
    obtain ⟨hi, g, o, cap, cks, hk, hr, rfl⟩ := h
    exact ⟨hi, g, o, cap, cks, hk, hr.weak weak, rfl⟩
  case fn f first cap =>
    cases first with
    | nil =>
      cases cap with
      | nil =>
        obtain ⟨fs, cs, rfl, h1, h2⟩ := h
        refine ⟨fs, cs, rfl, ?_, ?_⟩
        · cases hh : fs.toList with
          | nil => trivial
          | cons _ _ => rw [hh] at h1; exact h1.elim
        · cases hh : cs.toList with
          | nil => trivial
          | cons _ _ => rw [hh] at h2; exact h2.elim
      | cons _ _ => trivial
    | cons _ _ => trivial
  all_goals first | exact h | trivial

def argV1' (h : Hp) : AV → AV
  | .agg l => .agg (l.map (argC1 h))
  | .tup _ => .dead
  | .iface _ _ => .dead
  | v => argC1 h v
theorem argV1_eq (h : Hp) (v : AV) (K : AV → Prop) : argV1 h v K = K (argV1' h v) := by
  unfold argV1 argV1'; cases v <;> simp [mapK_eq, forceK_eq]
theorem argVs1_eq (h : Hp) : ∀ (l : List AV) (K : List AV → Prop), argVs1 h l K = K (l.map (argV1' h))
  | [], _ => rfl
  | v :: r, K => by simp [argVs1, argV1_eq, argVs1_eq h r]
theorem argV1_rep (hc : CS T C s a w) {x : AV} {v : Value} (h : RpS T C s w x v) {lent : List Nat} (hl : ∀ id ∈ lend x, id ∈ lent) : RpS T (calleeC C s.heap w lent) (stOf []) w (argV1' s.heap x) v := by
  cases x
  case agg l =>
    obtain ⟨cs, rfl, h⟩ := h
    refine ⟨cs, rfl, ?_⟩
    have key : ∀ (l : List AV) (us : List Value), (∀ id ∈ lendL l, id ∈ lent) → all2 (RpK T C s w) l us → all2 (RpK T (calleeC C s.heap w lent) (stOf []) w) (l.map (argC1 s.heap)) us := by
      intro l
      induction l with
      | nil => intro us _ h; cases us with | nil => trivial | cons _ _ => exact h.elim
      | cons y r ih =>
        intro us hl h
        cases us with
        | nil => exact h.elim
        | cons u us => exact ⟨argC1_rep hc h.1 (fun id hid => hl id (by simp [lendL, hid])), ih us (fun id hid => hl id (by simp [lendL, hid])) h.2⟩
    exact key l _ hl h
  case tup l => trivial
  case iface t y => trivial
  all_goals
    simp only [RpS, RpA] at h
    exact RpS_of_RpK (argC1_rep hc h hl)
theorem argVs1_rep (hc : CS T C s a w) {lent : List Nat} : ∀ (xs : List AV) (vs : List Value), all2 (RpS T C s w) xs vs → (∀ id ∈ lendAll xs, id ∈ lent) → all2 (RpS T (calleeC C s.heap w lent) (stOf []) w) (xs.map (argV1' s.heap)) vs
  | [], [], _, _ => trivial
  | x :: xs, v :: vs, h, hl => ⟨argV1_rep hc h.1 (fun id hid => hl id (by simp [lendAll, hid])), argVs1_rep hc xs vs h.2 (fun id hid => hl id (by simp [lendAll, hid]))⟩
  | [], _ :: _, h, _ => h.elim
  | _ :: _, [], h, _ => h.elim

/-- The caller's state behind the call. s1: where what was lent is frozen, if need be. -/
theorem join_state (hc : CS T C s a w) {Cc : Cx} (hG : Cc.G = fun b => b < w.heap.size) (hw0 : Cc.w0 = w) {h' : List AB} (hs : HS T C' h' w') (hk : KeepC Cc C')
    (hX : hasSlBs T h' = true → ∀ b, XB (C.join C' s.nx) (layed s.nx (h'.map (renB' (shift s.nx))) s.heap).1 b → XB C' (hpOf 0 h') b) :
    CS T (C.join C' s.nx) ⟨s.env, (layed s.nx (h'.map (renB' (shift s.nx))) s.heap).1, s.nx + h'.length, s.gs, s.kn⟩ a w' := by
  obtain ⟨hF', hG', hw0', hpin', hN'⟩ := hk
  have hget : ∀ id, getB (layed s.nx (h'.map (renB' (shift s.nx))) s.heap).1 id = if s.nx ≤ id ∧ id < s.nx + h'.length then ((h'.map (renB' (shift s.nx)))[id - s.nx]?).getD .gone else getB s.heap id := fun id => by
    rw [layed_get]; simp
  have hsame : ∀ b, b < w.heap.size → w'.heap[b]? = w.heap[b]? := fun b hb => by
    have := (hs.g b (by rw [hG', hG]; exact hb)).2
    rw [hw0', hw0] at this
    exact this
  have hge : w.heap.size ≤ w'.heap.size := by have := hs.ge; rw [hw0', hw0] at this; exact this
  have hlow : ∀ id, id < s.nx → getB (layed s.nx (h'.map (renB' (shift s.nx))) s.heap).1 id = getB s.heap id := fun id hid => by rw [hget, if_neg (by omega)]
  have hhigh : ∀ j, j < h'.length → getB (layed s.nx (h'.map (renB' (shift s.nx))) s.heap).1 (s.nx + j) = renB' (shift s.nx) ((h'[j]?).getD .gone) := fun j hj => by
    rw [hget, if_pos (by omega), Nat.add_sub_cancel_left, List.getElem?_map, List.getElem?_eq_getElem hj]; rfl
  have ownlow : ∀ id, id < s.nx → ownB (C.join C' s.nx) (layed s.nx (h'.map (renB' (shift s.nx))) s.heap).1 id = ownB C s.heap id := fun id hid => by
    simp only [ownB, hlow id hid, Cx.join, hid, if_true]
  have ownhigh : ∀ j, j < h'.length → ownB (C.join C' s.nx) (layed s.nx (h'.map (renB' (shift s.nx))) s.heap).1 (s.nx + j) = ownB C' (hpOf 0 h') j := fun j hj => by
    have hn : ¬ (s.nx + j < s.nx) := by omega
    simp only [ownB, hhigh j hj, getB_hpOf0, Cx.join, hn, if_false, Nat.add_sub_cancel_left]
    cases (h'[j]?).getD .gone with
    | box _ _ => rfl
    | gone => rfl
    | arr wr _ _ _ => cases wr <;> rfl
  have hcase : ∀ id q, ownB (C.join C' s.nx) (layed s.nx (h'.map (renB' (shift s.nx))) s.heap).1 id = some q → (id < s.nx ∧ ownB C s.heap id = some q) ∨ ∃ j, j < h'.length ∧ id = s.nx + j ∧ ownB C' (hpOf 0 h') j = some q := fun id q h => by
    by_cases hid : id < s.nx
    · rw [ownlow id hid] at h; exact .inl ⟨hid, h⟩
    · by_cases hj : id - s.nx < h'.length
      · right
        refine ⟨id - s.nx, hj, by omega, ?_⟩
        have e : id = s.nx + (id - s.nx) := by omega
        rw [e, ownhigh _ hj] at h
        simpa using h
      · exfalso
        simp only [ownB] at h
        rw [hget, if_neg (by omega), hc.nx id (by omega)] at h
        cases h
  have hnew : ∀ j q, ownB C' (hpOf 0 h') j = some q → w.heap.size ≤ q := fun j q h => by
    have := (hs.own j q h).2.1
    rw [hG', hG] at this
    omega
  have E : Ext C s w (C.join C' s.nx) ⟨s.env, (layed s.nx (h'.map (renB' (shift s.nx))) s.heap).1, s.nx + h'.length, s.gs, s.kn⟩ w' := by
    refine ⟨fun b hb _ => hsame b hb, fun b hb hx => ?_, Nat.le_add_right _ _, fun id hid => ?_, fun id hid wr' t' b' l' h => ?_⟩
    · rcases hx with hx | ⟨id, hx⟩
      · exact .inl hx
      · rcases hcase id b hx with ⟨_, h⟩ | ⟨j, _, _, h⟩
        · exact .inr ⟨id, h⟩
        · have := hnew j b h; omega
    · simp only [Cx.join, hid, if_true, and_self]
    · rw [hlow id hid] at h; exact ⟨wr', b', l', h, rfl⟩
  refine hc.heap E rfl rfl rfl (fun id => ?_) (fun id hid => ?_) (fun id id' q h h' => ?_) (fun id q h => ?_) hge (fun q hq => hsame q (Nat.lt_of_lt_of_le (hc.g q hq).1 hc.ge)) ⟨rfl, rfl, rfl, rfl, rfl⟩ (by have := hs.io; rw [hw0', hw0] at this; exact this)
  · by_cases hid : id < s.nx
    · left; exact ⟨hid, hlow id hid, fun q hq => hsame q (hc.own id q hq).1⟩
    · right
      by_cases hj : id - s.nx < h'.length
      · obtain ⟨j, rfl⟩ : ∃ j, id = s.nx + j := ⟨id - s.nx, by omega⟩
        have hj : j < h'.length := by omega
        have hbj := hs.blk j
        have hg0 : getB (stOf h').heap j = h'[j] := by show getB (hpOf 0 h') j = _; rw [getB_hpOf0, List.getElem?_eq_getElem hj]; rfl
        rw [hg0] at hbj
        rw [hhigh j hj, List.getElem?_eq_getElem hj, Option.getD_some]
        have hslB : hasSlB T h'[j] = true → hasSlBs T h' = true := fun e => by
          have key : ∀ (l : List AB) (j : Nat) (hj : j < l.length), hasSlB T l[j] = true → hasSlBs T l = true := by
            intro l
            induction l with
            | nil => intro j hj; simp at hj
            | cons b r ih =>
              intro j hj e
              cases j with
              | zero => simp at e; simp [hasSlBs, e]
              | succ j => simp [hasSlBs, ih j (by simpa using hj) (by simpa using e)]
          exact key h' j hj e
        have hn : ¬ (s.nx + j < s.nx) := by omega
        cases hbk : h'[j] with
        | gone => trivial
        | box t cs =>
          rw [hbk] at hbj
          obtain ⟨vs, h1, h2, h3, h4⟩ := hbj
          have hb' : (C.join C' s.nx).β (s.nx + j) = C'.β j := by simp only [Cx.join, hn, if_false, Nat.add_sub_cancel_left]
          refine ⟨vs, by rw [hb']; exact h1, by rw [hb']; exact h2, ?_, h4⟩
          have key : ∀ (l : List AV) (us : List Value), (hasSlL l = true → hasSlL cs = true) → all2 (RpK T C' (stOf h') w') l us → all2 (RpK T (C.join C' s.nx) ⟨s.env, (layed s.nx (h'.map (renB' (shift s.nx))) s.heap).1, s.nx + h'.length, s.gs, s.kn⟩ w') (l.map (renC (shift s.nx))) us := by
            intro l
            induction l with
            | nil => intro us _ h; cases us with | nil => trivial | cons _ _ => exact h.elim
            | cons y r ih =>
              intro us hsl h
              cases us with
              | nil => exact h.elim
              | cons u us => exact ⟨RpC_join rfl hget (fun e => hX (hslB (by rw [hbk]; exact hsl (by simp [hasSlL, e])))) h.1, ih us (fun e => hsl (by simp [hasSlL, e])) h.2⟩
          exact key cs vs id h3
        | arr wr t b l =>
          rw [hbk] at hbj
          obtain ⟨cks, hk, hp, hbj⟩ := hbj
          have e2 : (C.join C' s.nx).base (s.nx + j) = C'.base j := by simp only [Cx.join, hn, if_false, Nat.add_sub_cancel_left]
          have e3 : (C.join C' s.nx).cap (s.nx + j) = C'.cap j := by simp only [Cx.join, hn, if_false, Nat.add_sub_cancel_left]
          refine ⟨cks, hk, hp, ?_⟩
          rw [e2, e3]
          rcases hbj with h | ⟨q1, q2, g, o, q3, q4, q5, q6, q7⟩
          · exact .inl h
          · refine .inr ⟨q1, q2, g, o, q3, q4, ?_, q6, fun hw hne => ?_⟩
            · intro i r hr
              obtain ⟨r1, r2⟩ := q5 i r hr
              refine ⟨r1, fun j2 x c hx hcc => ?_⟩
              obtain ⟨v, hv, hrep⟩ := r2 j2 x c hx hcc
              refine ⟨v, hv, ?_⟩
              cases c with
              | sl t2 =>
                have hslT : hasSlBs T h' = true := hslB (by
                  rw [hbk]
                  simp only [hasSlB, hk]
                  have key : ∀ (l : List CK) (j : Nat) (t2 : TypeId), l[j]? = some (.sl t2) → ckSl l = true := by
                    intro l
                    induction l with
                    | nil => intro j t2 h; simp at h
                    | cons c r ih =>
                      intro j t2 h
                      cases j with
                      | zero => simp at h; subst h; rfl
                      | succ j => have := ih j t2 (by simpa using h); cases c <;> simp [ckSl, this]
                  rw [Bool.or_eq_true]
                  exact .inr (key cks j2 t2 hcc))
                exact hrep.weak (hX hslT)
              | int k => cases hrep; exact .int _ _
              | bool => cases hrep; exact .bool _
              | str => cases hrep; exact .str _
            · have hslT : hasSlBs T h' = true := hslB (by rw [hbk, hw]; simp [hasSlB])
              exact fun hx => q7 hw hne (hX hslT g hx)
      · rw [hget, if_neg (by omega), hc.nx id (by omega)]; trivial
  · rw [hget, if_neg (by simp at hid; omega)]
    exact hc.nx id (by simp at hid; omega)
  · rcases hcase id q h with ⟨l1, h1⟩ | ⟨j1, l1, rfl, h1⟩ <;> rcases hcase id' q h' with ⟨l2, h2⟩ | ⟨j2, l2, rfl, h2⟩
    · exact hc.inj id id' q h1 h2
    · have := hnew j2 q h2; have := (hc.own id q h1).1; omega
    · have := hnew j1 q h1; have := (hc.own id' q h2).1; omega
    · rw [hs.inj j1 j2 q h1 h2]
  · rcases hcase id q h with ⟨_, h⟩ | ⟨j, _, _, h⟩
    · have := hc.own id q h
      exact ⟨Nat.lt_of_lt_of_le this.1 hge, this.2.1, this.2.2⟩
    · refine ⟨(hs.own j q h).1, fun hq => ?_, fun hq => ?_⟩
      · have := hnew j q h; have := (hc.g q hq).1; have := hc.ge; omega
      · have := hnew j q h; have := hc.f q hq; omega

theorem RpF_K {x : AV} {v : Value} (h : RpF C s x v) : RpK T C s w x v := by
  cases x <;> simp only [RpF] at h
  all_goals try (exact h.elim)
  case int => exact h
  case ptr => exact h
  case own => exact h

theorem lendAll_frz {ids : List Nat} (hc : CS T C s a w) {id b : Nat} (h : ownB C (frzs s ids).heap id = some b) (hid : id ∈ ids) (hbox : ∀ i ∈ ids, ∀ t cs, getB s.heap i ≠ .box t cs) : False := by
  obtain ⟨_, _, hfz⟩ := hc.freeze ids
  cases hb : getB s.heap id with
  | arr wr t n l =>
    obtain ⟨wr', h1, h2⟩ := (hfz id).1 _ _ _ _ hb
    have := h2 hid
    subst this
    simp [ownB, h1] at h
  | box t cs => exact hbox id hid t cs hb
  | gone =>
    have := (hfz id).2 (by simp [hb])
    simp [ownB, this, hb] at h

theorem own_frz (hc : CS T C s a w) {ids : List Nat} {id b : Nat} (h : ownB C (frzs s ids).heap id = some b) : ownB C s.heap id = some b := by
  obtain ⟨_, _, hfz⟩ := hc.freeze ids
  cases hb : getB s.heap id with
  | arr wr t n l =>
    obtain ⟨wr', h1, h2⟩ := (hfz id).1 _ _ _ _ hb
    cases wr' with
    | false => simp [ownB, h1] at h
    | true =>
      have hw : wr = true := by
        cases wr with
        | true => rfl
        | false =>
          exfalso
          have key : ∀ (ids : List Nat) (hp : Hp), getB hp id = .arr false t n l → ∀ wr t' n' l', getB (Go.Proofs.Ytaghkmaelbgljaa.VX.freeze hp ids) id = .arr wr t' n' l' → wr = false := fun ids hp h0 wr t' n' l' h' => frz_stays ids h0 h'
          have := key ids s.heap hb _ _ _ _ h1
          cases this
      subst hw
      simp only [ownB, h1, hb] at h ⊢
      exact h
  | box t cs => have := (hfz id).2 (by simp [hb]); simp only [ownB, this, hb] at h ⊢; exact h
  | gone => have := (hfz id).2 (by simp [hb]); simp only [ownB, this, hb] at h; cases h

/-- What is wanted of a call. -/
def AnsC (P : Program) (T : Tab) (C : Cx) (s : St) (a : Act) (w : World) (m : Sem Next) (k : KE) : Prop :=
  ∃ f args, m.run P w = .ok (.enter f args) w ∧ Calls P f args w fun e w' => ∃ v h' nx' C' val, e = .returned val ∧ k v s.env h' nx' ∧ KeepC C C' ∧ CS T C' ⟨s.env, h', nx', s.gs, s.kn⟩ a w' ∧ RpS T C' ⟨s.env, h', nx', s.gs, s.kn⟩ w' v val ∧ (∀ b, b < w.heap.size → w'.heap[b]? = w.heap[b]?) ∧ w.heap.size ≤ w'.heap.size ∧ ∀ id, id < s.nx → C'.β id = C.β id

theorem XB_join_of {Cc : Cx} {lent : List Nat} (hCc : Cc = calleeC C s.heap w lent) {h' : List AB} (hk : KeepC Cc C') {s1 : St} (hs1 : ∀ id b, ownB C s1.heap id = some b → ownB C s.heap id = some b ∧ (id ∈ lent → ∃ t cs, getB s.heap id = .box t cs)) (hnx1 : ∀ id, s1.nx ≤ id → getB s1.heap id = .gone) :
    ∀ b, XB (C.join C' s1.nx) (layed s1.nx (h'.map (renB' (shift s1.nx))) s1.heap).1 b → XB C' (hpOf 0 h') b := by
  intro b hb
  rcases hb with hb | ⟨id, hb⟩
  · left; rw [hk.1, hCc]; exact .inl hb
  · by_cases hid : id < s1.nx
    · left
      rw [hk.1, hCc]
      right
      refine ⟨id, ?_⟩
      apply hs1
      have : getB (layed s1.nx (h'.map (renB' (shift s1.nx))) s1.heap).1 id = getB s1.heap id := by rw [layed_get, if_neg (by omega)]
      simp only [ownB, this, Cx.join, hid, if_true] at hb ⊢
      exact hb
    · by_cases hj : id - s1.nx < h'.length
      · right
        refine ⟨id - s1.nx, ?_⟩
        have : getB (layed s1.nx (h'.map (renB' (shift s1.nx))) s1.heap).1 id = renB' (shift s1.nx) ((h'[id - s1.nx]?).getD .gone) := by
          rw [layed_get, if_pos (by simp; omega), List.getElem?_map, List.getElem?_eq_getElem hj]; rfl
        simp only [ownB, this, Cx.join, hid, if_false, getB_hpOf0] at hb ⊢
        cases hq : (h'[id - s1.nx]?).getD .gone with
        | box _ _ => rw [hq] at hb; exact hb
        | gone => rw [hq] at hb; exact hb
        | arr wr _ _ _ => rw [hq] at hb; cases wr <;> exact hb
      · exfalso
        have h0 : getB (layed s1.nx (h'.map (renB' (shift s1.nx))) s1.heap).1 id = getB s1.heap id := by rw [layed_get, if_neg (by simp; omega)]
        simp only [ownB, h0, hnx1 id (by omega)] at hb
        cases hb

theorem lendAll_box : ∀ (xs : List AV) (vs : List Value), all2 (RpS T C s w) xs vs → ∀ id ∈ lendAll xs, True := fun _ _ _ _ _ => trivial

theorem xcall_sound (hc : CS T C s a w) {f : FuncId} {args : List AV} {vals : List Value} (hv : all2 (RpS T C s w) args vals) {k : KE}
    (h : xcall T (ACalls P T) f args s.env s.heap s.nx k) :
    (∃ fn, P.funcs[f]? = some fn ∧ fn.body.isSome = true ∧ (fn.name == "runtime.NumGoroutine") = false) ∧
    Calls P f vals.toArray w fun e w' => ∃ v h' nx' C' val, e = .returned val ∧ k v s.env h' nx' ∧ KeepC C C' ∧ CS T C' ⟨s.env, h', nx', s.gs, s.kn⟩ a w' ∧ RpS T C' ⟨s.env, h', nx', s.gs, s.kn⟩ w' v val ∧ (∀ b, b < w.heap.size → w'.heap[b]? = w.heap[b]?) ∧ w.heap.size ≤ w'.heap.size ∧ ∀ id, id < s.nx → C'.β id = C.β id := by
  unfold xcall at h
  cases hok : okVs args with
  | false => simp [hok] at h
  | true =>
    simp only [hok, cond_true] at h
    split at h
    · rw [argVs1_eq] at h
      refine ⟨h.fn, ?_⟩
      have hHS := calleeHS (T := T) hc (lendAll args)
      have hargs := argVs1_rep hc args vals hv (fun id h => h)
      refine (h.calls (calleeC C s.heap w (lendAll args)) w vals hHS hargs).mono ?_
      rintro e w' ⟨r, h', v, C', rfl, hr, hk, hs, hrp, _, hni⟩
      have hfr : (∀ b, b < w.heap.size → w'.heap[b]? = w.heap[b]?) ∧ w.heap.size ≤ w'.heap.size ∧ ∀ id, id < s.nx → (C.join C' s.nx).β id = C.β id := by
        refine ⟨fun b hb => ?_, ?_, fun id hid => by simp only [Cx.join]; rw [if_pos hid]⟩
        · have := (hs.g b (by rw [hk.2.1]; exact hb)).2
          rw [hk.2.2.1] at this
          exact this
        · have := hs.ge
          rw [hk.2.2.1] at this
          exact this
      cases hfl : (hasSl r || hasSlBs T h') with
      | true =>
        rw [hfl] at hr
        simp only [freezeK_eq, layBack_eq, renV_eq] at hr
        obtain ⟨hc1, E1, hfz⟩ := hc.freeze (lendAll args)
        have hX := XB_join_of (C' := C') (s1 := frzs s (lendAll args)) (h' := h') (lent := lendAll args) (s := s) (w := w) rfl hk (fun id b hb => ⟨own_frz hc hb, fun hm => by
          have hw : getB (frzs s (lendAll args)).heap id ≠ .gone := fun e => by simp [ownB, e] at hb
          cases hb0 : getB s.heap id with
          | arr wr t n l =>
            obtain ⟨wr', q1, q2⟩ := (hfz id).1 _ _ _ _ hb0
            have := q2 hm
            subst this
            simp [ownB, q1] at hb
          | box t cs => exact ⟨t, cs, rfl⟩
          | gone =>
            have := (hfz id).2 (by simp [hb0])
            rw [this, hb0] at hw; exact absurd rfl hw⟩) hc1.nx
        have hcs := join_state hc1 (C' := C') rfl rfl hs hk (fun _ => hX)
        exact ⟨_, _, _, C.join C' s.nx, v, rfl, hr, KeepC.join _ _ _, by rw [layed_nx, List.length_map]; exact hcs,
          by rw [layed_nx, List.length_map]; exact RpS_join (s := frzs s (lendAll args)) (C := C) (s2 := ⟨s.env, (layed s.nx (h'.map (renB' (shift s.nx))) (frzs s (lendAll args)).heap).1, s.nx + h'.length, s.gs, s.kn⟩) rfl (fun id => by rw [layed_get, List.length_map]; rfl) hni (fun _ => hX) hrp, hfr⟩
      | false =>
        rw [hfl] at hr
        simp only [layBack_eq, renV_eq] at hr
        simp only [Bool.or_eq_false_iff] at hfl
        have hcs := join_state hc (C' := C') rfl rfl hs hk (fun e => by rw [hfl.2] at e; cases e)
        exact ⟨_, _, _, C.join C' s.nx, v, rfl, hr, KeepC.join _ _ _, by rw [layed_nx, List.length_map]; exact hcs,
          by rw [layed_nx, List.length_map]; exact RpS_join (s := s) (C := C) (s2 := ⟨s.env, (layed s.nx (h'.map (renB' (shift s.nx))) s.heap).1, s.nx + h'.length, s.gs, s.kn⟩) rfl (fun id => by rw [layed_get, List.length_map]) hni (fun e => by rw [hfl.1] at e; cases e) hrp, hfr⟩
    · exact h.elim
end
end Go.Proofs.Ytaghkmaelbgljaa.VX

namespace Go.Proofs.Ytaghkmaelbgljaa.VX
section
variable {P : Program} {T : Tab} {C C' : Cx} {s s' : St} {a : Act} {w w' : World}

theorem all2_app3 {xs1 xs2 xs3 : List AV} {vs1 vs2 vs3 : List Value} (h1 : all2 (RpS T C s w) xs1 vs1) (h2 : all2 (RpS T C s w) xs2 vs2) (h3 : all2 (RpS T C s w) xs3 vs3) : all2 (RpS T C s w) (xs1 ++ (xs2 ++ xs3)) (vs1 ++ (vs2 ++ vs3)) :=
  all2_append h1 (all2_append h2 h3)

theorem callop_sound (hc : CS T C s a w) {c : Call} {g : Operand} {o : Oper} (ho : o.op = .call c) (hcal : c.callee = .value g) {ev : Operand → Value} {ρ : Operand → AV} (hρ : ∀ x, RpS T C s w (ρ x) (ev x)) {k : KE}
    (h : xeff T (ACalls P T) ρ o.op s.env s.heap s.nx k) : AnsC P T C s a w (execOp ev o) k := by
  rw [ho] at h
  simp only [xeff, hcal] at h
  split at h
  · rename_i f first cap hg
    simp only [mapK_eq, appK_eq] at h
    have hgv := hρ g
    rw [hg] at hgv
    obtain ⟨fs, cs, hfn, h1, h2⟩ := hgv
    have hv : all2 (RpS T C s w) (first ++ (c.args.toList.map ρ ++ cap)) (fs.toList ++ (c.args.toList.map ev ++ cs.toList)) :=
      all2_app3 (all2_mono (fun _ _ q => RpS_of_RpK (RpF_K q)) h1) (all2_map hρ _) (all2_mono (fun _ _ q => RpS_of_RpK (RpF_K q)) h2)
    obtain ⟨⟨fn, q1, q2, q3⟩, hcalls⟩ := xcall_sound hc hv h
    refine ⟨f, (fs.toList ++ (c.args.toList.map ev ++ cs.toList)).toArray, ?_, hcalls⟩
    have e : (fs ++ c.args.map ev ++ cs) = (fs.toList ++ (c.args.toList.map ev ++ cs.toList)).toArray := by apply Array.ext'; simp
    have q4 : fn.body.isNone = false := by cases hb : fn.body <;> simp [hb] at q2 ⊢
    simp only [execOp, ho, resolve, hcal, hfn, Deferred.ofValue, pure_bind, invoke, e, callFunc, Sem.run_bind, run_program, Result.andThen_ok, q1, q3, q4, Bool.false_eq_true, if_false, Sem.run_pure]
  · exact h.elim

/-- An operation with an effect, whichever. -/
theorem xeff_sound (HT : tabOK P T = true) (hc : CS T C s a w) {o : Oper} {ev : Operand → Value} {ρ : Operand → AV} (hρ : ∀ x, RpS T C s w (ρ x) (ev x)) {k : KE}
    (h : xeff T (ACalls P T) ρ o.op s.env s.heap s.nx k) : AnsE P T C s a w (execOp ev o) k ∨ AnsC P T C s a w (execOp ev o) k := by
  cases ho : o.op with
  | alloc t => exact .inl (alloc_sound HT hc ho h)
  | box t x => exact .inl (box_sound hc ho hρ h)
  | buildSlice t n ps => exact .inl (buildSlice_sound HT hc ho hρ h)
  | store t x y => exact .inl (store_sound HT hc ho hρ h)
  | makeSlice t x y => exact .inl (makeSlice_sound HT hc ho hρ h)
  | call c =>
    cases hcal : c.callee with
    | value g => exact .inr (callop_sound hc ho hcal hρ h)
    | invoke _ _ => rw [ho] at h; simp [xeff, hcal] at h
    | builtin b =>
      cases b
      case append => exact .inl (append_sound HT hc ho hcal hρ h)
      all_goals (rw [ho] at h; simp [xeff, hcal] at h)
  | _ => rw [ho] at h; exact h.elim

/-- From an effect to the operation's rule. -/
theorem eff_wp {o : Oper} {k : KE} {next : Act → World → Prop} {Q : Exit → Act → World → Prop} (h : AnsE P T C s a w (execOp a.eval o) k ∨ AnsC P T C s a w (execOp a.eval o) k)
    (hd : ∀ d, o.dst = some d → d < C.N) (hnext : ∀ v h' nx' C' val w', k v s.env h' nx' → KeepC C C' → CS T C' ⟨putE s.env o.dst v, h', nx', s.gs, s.kn⟩ (a.put o.dst val) w' → next (a.put o.dst val) w') : o.wp P a w next Q := by
  have ent : ∀ {C' : Cx} {h' : Hp} {nx' : Nat} {w' : World} {v : AV} {val : Value}, KeepC C C' → CS T C' ⟨s.env, h', nx', s.gs, s.kn⟩ a w' → RpS T C' ⟨s.env, h', nx', s.gs, s.kn⟩ w' v val → (∀ ch y, v ≠ .opt ch y) → CS T C' ⟨putE s.env o.dst v, h', nx', s.gs, s.kn⟩ (a.put o.dst val) w' := fun {C' h' nx' w' v val} hk hcs hrp hno => by
    have hN : C'.N = C.N := hk.2.2.2.2
    refine hcs.put o.dst (fun d hd' => by rw [hN]; exact hd d hd') ?_
    cases v
    case opt ch y => exact absurd rfl (hno ch y)
    all_goals exact hrp
  unfold Oper.wp
  rcases h with ⟨v, h', nx', hk, C', val, w', hkc, hrun, hcs, hrp⟩ | ⟨f, args, hrun, hcalls⟩
  · have hno : ∀ ch y, v ≠ .opt ch y := fun ch y e => by subst e; exact hrp.elim
    rcases hrun with hrun | ⟨hrun, rfl⟩
    · rw [hrun]; exact hnext _ _ _ _ _ _ hk hkc (ent hkc hcs hrp hno)
    · rw [hrun]; exact hnext _ _ _ _ _ _ hk hkc (ent hkc hcs hrp hno)
  · rw [hrun]
    refine Calls.mono hcalls ?_
    rintro e w' ⟨v, h', nx', C', val, rfl, hk, hkc, hcs, hrp, _⟩
    have hno : ∀ ch y, v ≠ .opt ch y := fun ch y e => by subst e; exact hrp.elim
    exact hnext _ _ _ _ _ _ hk hkc (ent hkc hcs hrp hno)

/-! ### Guards -/
theorem nth_some {α : Type} {l : List α} {i : Nat} {x : α} (h : nth l i = some x) : l[i]? = some x := by rw [← nth_eq]; exact h
theorem dstOf_eq {all : List Oper} {j d : Nat} (h : dstOf all j = some d) : ∃ o, all[j]? = some o ∧ o.dst = some d := by
  unfold dstOf at h
  cases ho : nth all j with
  | none => simp [ho] at h
  | some o => exact ⟨o, nth_some ho, by simpa [ho] using h⟩
theorem yielded_eq {ops : Array Oper} {all : List Oper} (hall : ops.toList = all) {j d : Nat} (h : dstOf all j = some d) (a : Act) : yielded ops a.tmps j = (match a.tmps.getD d undef with | .bool b => some b | _ => none) := by
  obtain ⟨o, h1, h2⟩ := dstOf_eq h
  have h3 : ops[j]? = some o := by rw [← hall] at h1; simpa using h1
  simp only [yielded, h3, Option.bind_some, h2, Array.getD_eq_getD_getElem?]
  cases hd : a.tmps[d]? with
  | none => rfl
  | some v => cases v <;> rfl

/-- The guards that were looked at yield what was noted. -/
def GI (ops : Array Oper) (s : St) (a : Act) : Prop := ∀ j b, gsGet s.gs j = some b → yielded ops a.tmps j = some b

theorem chProp_iff {gs : List (Nat × Bool)} : ∀ {ch : List (Nat × Bool)}, chProp gs ch ↔ ∀ p ∈ ch, gsGet gs p.1 = some p.2
  | [] => by simp [chProp]
  | (j, w) :: r => by
    simp only [chProp, chProp_iff (ch := r), List.mem_cons, forall_eq_or_imp]
    cases gsGet gs j <;> simp
theorem inCh_mem {ch : List (Nat × Bool)} {j : Nat} {w : Bool} (h : inCh ch j w = true) : (j, w) ∈ ch := by
  induction ch with
  | nil => simp [inCh] at h
  | cons p r ih =>
    obtain ⟨i, v⟩ := p
    simp only [inCh, Bool.or_eq_true, Bool.and_eq_true] at h
    rcases h with ⟨h1, h2⟩ | h
    · have := beq_nat h1
      subst this
      have : v = w := by cases v <;> cases w <;> simp_all
      subst this
      simp
    · exact List.mem_cons_of_mem _ (ih h)
theorem subCh_mem {ch ch' : List (Nat × Bool)} (h : subCh ch ch' = true) : ∀ p ∈ ch', p ∈ ch := by
  induction ch' with
  | nil => simp
  | cons p r ih =>
    obtain ⟨i, v⟩ := p
    simp only [subCh, Bool.and_eq_true] at h
    intro q hq
    rcases List.mem_cons.1 hq with rfl | hq
    · exact inCh_mem h.1
    · exact ih h.2 q hq

theorem strip_rep {x : AV} {v : Value} (h : RpE T C s w x v) {ch : List (Nat × Bool)} (hch : ∀ p ∈ ch, gsGet s.gs p.1 = some p.2 ∨ gsGet s.gs p.1 = none) : RpS T C s w (strip ch x) v := by
  cases x
  case opt ch' y =>
    simp only [strip]
    cases hs : subCh ch ch' with
    | false => exact trivial
    | true =>
      obtain ⟨h0, h⟩ := h
      have hp : chProp s.gs ch' := chProp_iff.2 fun p hp => by
        rcases hch p (subCh_mem hs p hp) with h | h
        · exact h
        · exact absurd h (h0 p hp)
      rcases h with ⟨_, h⟩ | ⟨hn, _⟩
      · exact h
      · exact absurd hp hn
  all_goals exact h
theorem ofC_rep (v : Value) : RpK T C s w (ofC v) v := by
  unfold ofC
  split <;> first | rfl | trivial
theorem ofV_rep (v : Value) : RpS T C s w (ofV v) v := by
  cases v
  case agg cs =>
    refine ⟨cs, rfl, ?_⟩
    have key : ∀ l : List Value, all2 (RpK T C s w) (l.map ofC) l := by
      intro l
      induction l with
      | nil => trivial
      | cons x r ih => exact ⟨ofC_rep x, ih⟩
    exact key _
  all_goals (simp only [ofV]; exact RpS_of_RpK (ofC_rep _))
theorem opr_rep (hc : CS T C s a w) (x : Operand) : RpE T C s w (opr s.env x) (a.eval x) := by
  cases x with
  | tmp t => exact hc.env t
  | const v =>
    have := ofV_rep (T := T) (C := C) (s := s) (w := w) v
    simp only [opr, Act.eval]
    revert this
    cases ofV v <;> intro this <;> first | exact this | exact this.elim
  | global g => exact trivial
  | func f => exact ⟨#[], #[], rfl, trivial, trivial⟩
theorem opd_eq (env : List (Nat × AV)) (ch : List (Nat × Bool)) (x : Operand) : opd env ch x = strip ch (opr env x) := by
  cases x with
  | tmp t => rfl
  | const v =>
    simp only [opd, opr]
    cases v <;> (try rfl)
    all_goals (simp only [ofV]; unfold ofC; split <;> rfl)
  | global g => rfl
  | func f => rfl
theorem opd_rep (hc : CS T C s a w) {ch : List (Nat × Bool)} (hch : ∀ p ∈ ch, gsGet s.gs p.1 = some p.2) (x : Operand) : RpS T C s w (opd s.env ch x) (a.eval x) := by
  rw [opd_eq]; exact strip_rep (opr_rep hc x) (fun p hp => .inl (hch p hp))
end
end Go.Proofs.Ytaghkmaelbgljaa.VX

namespace Go.Proofs.Ytaghkmaelbgljaa.VX
section
variable {P : Program} {T : Tab} {C C' : Cx} {s s' : St} {a : Act} {w w' : World}

theorem noDst_spec {l : List Oper} {t : Nat} (h : noDst l t = true) : ∀ o ∈ l, o.dst ≠ some t := by
  induction l with
  | nil => simp
  | cons o r ih =>
    simp only [noDst, Bool.and_eq_true] at h
    intro o' ho'
    rcases List.mem_cons.1 ho' with rfl | ho'
    · intro e
      rw [e] at h
      simp [Nat.beq_refl] at h
    · exact ih h.2 o' ho'
theorem noDst_tail {o : Oper} {l : List Oper} {t : Nat} (h : noDst (o :: l) t = true) : noDst l t = true := by
  simp only [noDst, Bool.and_eq_true] at h; exact h.2

def boolOf : AV → Option Bool
  | .bool b => some b
  | .opt _ (.bool b) => some b
  | .opt _ (.opt _ (.bool b)) => some b
  | _ => none

structure GInv (all l : List Oper) (s : St) : Prop where
  gi : ∀ j b d b', gsGet s.gs j = some b → dstOf all j = some d → boolOf (getE s.env d) = some b' → b' = b
  nd : ∀ j d, gsGet s.gs j ≠ none → dstOf all j = some d → noDst l d = true
  dm : ∀ j, gsGet s.gs j ≠ none → dstOf all j ≠ none

theorem CS.gsx (hc : CS T C s a w) {gs' kn' : List (Nat × Bool)} (hext : ∀ j b, gsGet s.gs j = some b → gsGet gs' j = some b) (hkn : ∀ p ∈ kn', gsGet gs' p.1 = some p.2) : CS T C ⟨s.env, s.heap, s.nx, gs', kn'⟩ a w := by
  refine ⟨fun t => ?_, hc.blk, hc.nx, hc.inj, hc.own, hc.g, hc.ge, hc.pin, hkn, hc.defers, hc.sz, hc.f, hc.io⟩
  have h := hc.env t
  revert h
  show RpE T C s w (getE s.env t) _ → RpE T C ⟨s.env, s.heap, s.nx, gs', kn'⟩ w (getE s.env t) _
  cases getE s.env t
  case opt ch y =>
    intro ⟨h0, h⟩
    have hh : ∀ p ∈ ch, ∃ b, gsGet s.gs p.1 = some b ∧ gsGet gs' p.1 = some b := fun p hp => by
      cases hb : gsGet s.gs p.1 with
      | none => exact absurd hb (h0 p hp)
      | some b => exact ⟨b, rfl, hext _ _ hb⟩
    have e : chProp gs' ch ↔ chProp s.gs ch := by
      rw [chProp_iff, chProp_iff]
      refine ⟨fun q p hp => ?_, fun q p hp => ?_⟩
      · obtain ⟨b, h1, h2⟩ := hh p hp; have := q p hp; rw [h2] at this; rw [h1]; exact this
      · obtain ⟨b, h1, h2⟩ := hh p hp; have := q p hp; rw [h1] at this; rw [h2]; exact this
    refine ⟨fun p hp => ?_, ?_⟩
    · obtain ⟨b, h1, h2⟩ := hh p hp; simp [h2]
    · rcases h with ⟨h1, h2⟩ | ⟨h1, h2⟩
      · exact .inl ⟨e.2 h1, h2⟩
      · exact .inr ⟨fun q => h1 (e.1 q), h2⟩
  all_goals exact id

theorem CS.ref (hc : CS T C s a w) {d : Nat} {v : AV} (hv : RpE T C s w v (a.tmps.getD d undef)) : CS T C ⟨(d, v) :: s.env, s.heap, s.nx, s.gs, s.kn⟩ a w := by
  refine ⟨fun t => ?_, hc.blk, hc.nx, hc.inj, hc.own, hc.g, hc.ge, hc.pin, hc.kn, hc.defers, hc.sz, hc.f, hc.io⟩
  simp only [getE_cons]
  split
  · rename_i e; subst e; exact hv
  · exact hc.env t

theorem stripKn_rep {x : AV} {v : Value} (h : RpE T C s w x v) (hch : ∀ p ∈ s.kn, gsGet s.gs p.1 = some p.2) : RpE T C s w (stripKn s.kn x) v := by
  cases x
  case opt ch y =>
    simp only [stripKn]
    cases hs : subCh s.kn ch with
    | false => exact h
    | true =>
      have hp : chProp s.gs ch := chProp_iff.2 fun p hp => hch p (subCh_mem hs p hp)
      rcases h.2 with ⟨_, h⟩ | ⟨hn, _⟩
      · rw [cond_true]
        cases y <;> first | exact h | exact h.elim
      · exact absurd hp hn
  all_goals exact h
theorem boolOf_strip {kn : List (Nat × Bool)} {x : AV} {b : Bool} : stripKn kn x = .bool b → boolOf x = some b := by
  intro h
  cases x <;> simp only [stripKn] at h <;> try (cases h; done)
  case bool b' => cases h; rfl
  case opt ch y => cases hs : subCh kn ch <;> simp only [hs, cond_true, cond_false] at h <;> cases h; rfl
theorem boolOf_strip' {kn ch : List (Nat × Bool)} {x : AV} {b : Bool} : stripKn kn x = .opt ch (.bool b) → boolOf x = some b := by
  intro h
  cases x <;> simp only [stripKn] at h <;> try (cases h; done)
  case opt ch y => cases hs : subCh kn ch <;> simp only [hs, cond_true, cond_false] at h <;> cases h <;> rfl

theorem GInv.gs' {all l : List Oper} (x : GInv all l s) {j d : Nat} {b : Bool} (hd : dstOf all j = some d) (hb : boolOf (getE s.env d) = some b) (hn : noDst l d = true) : GInv all l ⟨s.env, s.heap, s.nx, (j, b) :: s.gs, s.kn⟩ ∧ ∀ i b0, gsGet s.gs i = some b0 → gsGet ((j, b) :: s.gs) i = some b0 := by
  have hext : ∀ i b0, gsGet s.gs i = some b0 → gsGet ((j, b) :: s.gs) i = some b0 := fun i b0 hi => by
    simp only [gsGet]
    cases hji : Nat.beq j i with
    | false => exact hi
    | true => have := beq_nat hji; subst this; rw [cond_true, x.gi j b0 d b hi hd hb]
  have hcase : ∀ i, gsGet ((j, b) :: s.gs) i ≠ none → i = j ∨ gsGet s.gs i ≠ none := fun i hi => by
    simp only [gsGet] at hi
    cases hji : Nat.beq j i with
    | false => rw [hji] at hi; exact .inr hi
    | true => exact .inl (beq_nat hji).symm
  refine ⟨⟨fun i b0 d0 b' hi hd0 hb' => ?_, fun i d0 hi hd0 => ?_, fun i hi => ?_⟩, hext⟩
  · simp only [gsGet] at hi
    cases hji : Nat.beq j i with
    | false => rw [hji] at hi; exact x.gi i b0 d0 b' hi hd0 hb'
    | true =>
      rw [hji] at hi
      have := beq_nat hji
      subst this
      rw [hd] at hd0; cases hd0
      change boolOf (getE s.env d) = some b' at hb'
      rw [hb] at hb'; cases hb'; cases hi; rfl
  · rcases hcase i hi with rfl | hi
    · rw [hd] at hd0; cases hd0; exact hn
    · exact x.nd i d0 hi hd0
  · rcases hcase i hi with rfl | hi
    · simp [hd]
    · exact x.dm i hi

theorem eqb_prop {b w0 : Bool} : (bif b then w0 else !w0) = true ↔ b = w0 := by cases b <;> cases w0 <;> simp

theorem guard_sound (hc : CS T C s a w) {all l : List Oper} (x : GInv all l s) {ops : Array Oper} (hall : ops.toList = all) (o : Oper) :
    match guardOf all l o s.env s.gs s.kn with
    | .bad => True
    | .skip => Region.wanted o (yielded ops a.tmps) = false
    | .run ch gs' => CS T C ⟨s.env, s.heap, s.nx, gs', s.kn⟩ a w ∧ GInv all l ⟨s.env, s.heap, s.nx, gs', s.kn⟩ ∧ (∀ p ∈ ch, gsGet gs' p.1 ≠ none) ∧ (chProp gs' ch ↔ Region.wanted o (yielded ops a.tmps) = true) := by
  unfold guardOf
  cases hg : o.guard with
  | none => exact ⟨hc, x, by simp, by simp [chProp, Region.wanted, hg]⟩
  | some p =>
    obtain ⟨j, w0⟩ := p
    dsimp only
    cases hd : dstOf all j with
    | none => exact trivial
    | some d =>
      dsimp only
      have hw : Region.wanted o (yielded ops a.tmps) = ((match a.tmps.getD d undef with | .bool b => some b | _ => none) == some w0) := by
        simp only [Region.wanted, hg]; rw [yielded_eq hall hd a]; try rfl
      have he := stripKn_rep (hc.env d) hc.kn
      have hb1 := fun b => @boolOf_strip s.kn (getE s.env d) b
      have hb2 := fun ch b => @boolOf_strip' s.kn ch (getE s.env d) b
      simp only [hw]
      generalize a.tmps.getD d undef = v at he
      generalize stripKn s.kn (getE s.env d) = y at he hb1 hb2
      cases y
      case kb b =>
        have he : v = .bool b := he
        subst he
        simp only
        cases hq : (bif b then w0 else !w0) with
        | true =>
          have := eqb_prop.1 hq
          subst this
          exact ⟨hc, x, by simp, by simp [chProp]⟩
        | false =>
          have : b ≠ w0 := fun e => by rw [eqb_prop.2 e] at hq; cases hq
          simpa using this
      case undef =>
        have he : v = undef := he
        subst he
        rfl
      case bool b =>
        have he : v = .bool b := he
        subst he
        simp only
        cases hn : noDst l d with
        | false => exact trivial
        | true =>
          obtain ⟨q1, q2⟩ := x.gs' hd (hb1 b rfl) hn
          refine ⟨hc.gsx q2 (fun p hp => q2 _ _ (hc.kn p hp)), q1, by simp [gsGet, Nat.beq_refl], ?_⟩
          simp [chProp, gsGet, Nat.beq_refl]
      case opt ch y =>
        obtain ⟨h0, he⟩ := he
        cases y
        case bool b =>
          simp only
          cases hn : noDst l d with
          | false => exact trivial
          | true =>
            obtain ⟨q1, q2⟩ := x.gs' hd (hb2 ch b rfl) hn
            have hdom : ∀ p ∈ ch, gsGet ((j, b) :: s.gs) p.1 ≠ none := fun p hp => by
              cases hh : gsGet s.gs p.1 with
              | none => exact absurd hh (h0 p hp)
              | some b0 => rw [q2 _ _ hh]; simp
            have hiff : chProp ((j, b) :: s.gs) ch ↔ chProp s.gs ch := by
              rw [chProp_iff, chProp_iff]
              refine ⟨fun q p hp => ?_, fun q p hp => q2 _ _ (q p hp)⟩
              cases hh : gsGet s.gs p.1 with
              | none => exact absurd hh (h0 p hp)
              | some b0 => have := q p hp; rw [q2 _ _ hh] at this; exact this
            refine ⟨hc.gsx q2 (fun p hp => q2 _ _ (hc.kn p hp)), q1, ?_, ?_⟩
            · intro p hp
              rcases List.mem_cons.1 hp with rfl | hp
              · simp [gsGet, Nat.beq_refl]
              · exact hdom p hp
            · simp only [chProp, hiff]
              rcases he with ⟨h1, he⟩ | ⟨h1, he⟩
              · have he : v = .bool b := he
                subst he
                simp [gsGet, Nat.beq_refl, h1]
              · subst he
                simp [h1, undef]
        case kb b =>
          simp only
          cases hq : (bif b then w0 else !w0) with
          | true =>
            have := eqb_prop.1 hq
            subst this
            refine ⟨hc, x, h0, ?_⟩
            rcases he with ⟨h1, he⟩ | ⟨h1, he⟩
            · have he : v = .bool b := he
              subst he
              simp [h1]
            · subst he
              simp [h1, undef]
          | false =>
            have : b ≠ w0 := fun e => by rw [eqb_prop.2 e] at hq; cases hq
            rcases he with ⟨h1, he⟩ | ⟨h1, he⟩
            · have he : v = .bool b := he
              subst he
              simpa using this
            · subst he
              simp [undef]
        all_goals exact trivial
      all_goals exact trivial
end
end Go.Proofs.Ytaghkmaelbgljaa.VX

namespace Go.Proofs.Ytaghkmaelbgljaa.VX
section
variable {P : Program} {T : Tab} {C C' : Cx} {s s' : St} {a : Act} {w w' : World}

theorem undefs_sound {all l : List Oper} {j : Nat} {w0 b : Bool} {h : Hp} {nx : Nat} {gs kn : List (Nat × Bool)} (hgs : gsGet gs j = some b) (hb : b ≠ w0) {K : List (Nat × AV) → Prop} : ∀ (r : List (Nat × Bool)) (env : List (Nat × AV)),
    CS T C ⟨env, h, nx, gs, kn⟩ a w → GInv all l ⟨env, h, nx, gs, kn⟩ → undefs all j w0 r env K → ∃ env', CS T C ⟨env', h, nx, gs, kn⟩ a w ∧ GInv all l ⟨env', h, nx, gs, kn⟩ ∧ K env' ∧ (∀ d, getE env d = getE env' d ∨ getE env' d = .undef) := by
  intro r
  induction r with
  | nil => exact fun env hc x h => ⟨env, hc, x, h, fun d => .inl rfl⟩
  | cons p r ih =>
    obtain ⟨i, w1⟩ := p
    intro env hc x hu
    simp only [undefs] at hu
    split at hu
    · rename_i d hd
      split at hu
      · rename_i ch y he
        cases hin : inCh ch j w0 with
        | false => simp [hin] at hu
        | true =>
          rw [hin, cond_true] at hu
          have hm := inCh_mem hin
          have hv := hc.env d
          dsimp only at hv
          rw [he] at hv
          have hn : ¬ chProp gs ch := fun q => by
            have := chProp_iff.1 q _ hm
            rw [hgs] at this
            cases this; exact hb rfl
          have hval : a.tmps.getD d undef = undef := by
            rcases hv.2 with ⟨q, _⟩ | ⟨_, q⟩
            · exact absurd q hn
            · exact q
          have hc' : CS T C ⟨(d, .undef) :: env, h, nx, gs, kn⟩ a w := hc.ref (show RpE T C _ w .undef _ from hval)
          have x' : GInv all l ⟨(d, .undef) :: env, h, nx, gs, kn⟩ := ⟨fun i' b1 d1 b' q1 q2 q3 => by
            dsimp only at q3
            rw [getE_cons] at q3
            split at q3
            · cases q3
            · exact x.gi i' b1 d1 b' q1 q2 q3, x.nd, x.dm⟩
          obtain ⟨env', r1, r2, r3, r4⟩ := ih _ hc' x' hu
          refine ⟨env', r1, r2, r3, fun d' => ?_⟩
          rcases r4 d' with q | q
          · rw [getE_cons] at q
            split at q
            · exact .inr q.symm
            · exact .inl q
          · exact .inr q
      · exact hu.elim
    · exact hu.elim

theorem xsplit_sound {all l : List Oper} {h : Hp} {nx : Nat} {gs : List (Nat × Bool)} {run skip : List (Nat × AV) → List (Nat × Bool) → Prop} : ∀ (c : List (Nat × Bool)) (env : List (Nat × AV)) (kn : List (Nat × Bool)),
    CS T C ⟨env, h, nx, gs, kn⟩ a w → GInv all l ⟨env, h, nx, gs, kn⟩ → (∀ p ∈ c, gsGet gs p.1 ≠ none) → xsplit all run skip c env kn →
    ∃ env' kn', CS T C ⟨env', h, nx, gs, kn'⟩ a w ∧ GInv all l ⟨env', h, nx, gs, kn'⟩ ∧ ((chProp gs c ∧ run env' kn') ∨ (¬ chProp gs c ∧ skip env' kn')) := by
  intro c
  induction c with
  | nil => exact fun env kn hc x _ h => ⟨env, kn, hc, x, .inl ⟨trivial, h⟩⟩
  | cons p r ih =>
    obtain ⟨j, w0⟩ := p
    intro env kn hc x hdom hs
    simp only [xsplit_cons] at hs
    split at hs
    · rename_i d hd
      split at hs
      · rename_i b he
        have hbo : boolOf (getE env d) = some b := boolOf_strip he
        obtain ⟨b0, hb0⟩ : ∃ b0, gsGet gs j = some b0 := Option.ne_none_iff_exists'.1 (hdom (j, w0) (by simp))
        have : b = b0 := x.gi j b0 d b hb0 hd hbo
        subst this
        have hval : a.tmps.getD d undef = .bool b := by
          have := stripKn_rep (hc.env d) hc.kn
          dsimp only at this
          rw [he] at this
          exact this
        have href : ∀ {env1 : List (Nat × AV)} {kn1 : List (Nat × Bool)} (b1 : Bool), b1 = b → CS T C ⟨env1, h, nx, gs, kn1⟩ a w → CS T C ⟨(d, .kb b1) :: env1, h, nx, gs, kn1⟩ a w := fun b1 e hc1 => by
          subst e
          exact hc1.ref (show RpE T C _ w (.kb b1) _ from hval)
        have hkn : ∀ {env1 : List (Nat × AV)} {kn1 : List (Nat × Bool)}, CS T C ⟨env1, h, nx, gs, kn1⟩ a w → CS T C ⟨env1, h, nx, gs, (j, b) :: kn1⟩ a w := fun hc1 => ⟨hc1.env, hc1.blk, hc1.nx, hc1.inj, hc1.own, hc1.g, hc1.ge, hc1.pin, fun p hp => by
          rcases List.mem_cons.1 hp with rfl | hp
          · exact hb0
          · exact hc1.kn p hp, hc1.defers, hc1.sz, hc1.f, hc1.io⟩
        have hgi : ∀ {env1 : List (Nat × AV)} {kn1 kn2 : List (Nat × Bool)} (b1 : Bool), GInv all l ⟨env1, h, nx, gs, kn1⟩ → GInv all l ⟨(d, .kb b1) :: env1, h, nx, gs, kn2⟩ := fun b1 x1 => ⟨fun i' b1 d1 b' q1 q2 q3 => by
            dsimp only at q3
            rw [getE_cons] at q3
            split at q3
            · cases q3
            · exact x1.gi i' b1 d1 b' q1 q2 q3, x1.nd, x1.dm⟩
        have hpos : ∀ (e : b = w0), xsplit all run skip r ((d, .kb b) :: env) ((j, b) :: kn) → ∃ env' kn', CS T C ⟨env', h, nx, gs, kn'⟩ a w ∧ GInv all l ⟨env', h, nx, gs, kn'⟩ ∧ ((chProp gs ((j, w0) :: r) ∧ run env' kn') ∨ (¬ chProp gs ((j, w0) :: r) ∧ skip env' kn')) := fun e q => by
          obtain ⟨env', kn', r1, r2, r3⟩ := ih _ _ (hkn (href b rfl hc)) (hgi b x) (fun p hp => hdom p (List.mem_cons_of_mem _ hp)) q
          refine ⟨env', kn', r1, r2, ?_⟩
          simp only [chProp, hb0, e, true_and]
          exact r3
        have hneg : ∀ (e : b ≠ w0), (undefs all j w0 r env fun env' => skip ((d, .kb b) :: env') kn) → ∃ env' kn', CS T C ⟨env', h, nx, gs, kn'⟩ a w ∧ GInv all l ⟨env', h, nx, gs, kn'⟩ ∧ ((chProp gs ((j, w0) :: r) ∧ run env' kn') ∨ (¬ chProp gs ((j, w0) :: r) ∧ skip env' kn')) := fun e q => by
          obtain ⟨env', r1, r2, r3, _⟩ := undefs_sound hb0 e r env hc x q
          refine ⟨_, _, href b rfl r1, hgi b r2, .inr ⟨?_, r3⟩⟩
          simp only [chProp, hb0]
          exact fun q => e q.1
        cases w0 <;> simp only [cond_true, cond_false] at hs
        · cases b
          · exact hpos rfl (hs.f rfl)
          · exact hneg (by decide) (hs.t rfl)
        · cases b
          · exact hneg (by decide) (hs.f rfl)
          · exact hpos rfl (hs.t rfl)
      · exact hs.elim
    · exact hs.elim

/-- What holds between two operations. -/
structure XAt (P : Program) (T : Tab) (C : Cx) (all l : List Oper) (k : St → Prop) (s : St) (a : Act) (w : World) : Prop where
  cs : CS T C s a w
  gi : GInv all l s
  go : xops T (ACalls P T) all l s.env s.heap s.nx s.gs s.kn k

theorem GInv.put {all r : List Oper} {o : Oper} (x : GInv all (o :: r) s) (v : AV) (h' : Hp) (nx' : Nat) : GInv all r ⟨putE s.env o.dst v, h', nx', s.gs, s.kn⟩ := by
  refine ⟨fun j b d b' h1 h2 h3 => ?_, fun j d h1 h2 => noDst_tail (x.nd j d h1 h2), x.dm⟩
  have hne := noDst_spec (x.nd j d (by rw [h1]; simp) h2) o (by simp)
  refine x.gi j b d b' h1 h2 ?_
  revert h3
  cases hd : o.dst with
  | none => exact id
  | some d' =>
    simp only [putE, getE_cons]
    rw [if_neg (fun e => hne (by rw [hd, e]))]
    exact id

theorem whose_spec : ∀ (l : List Oper) (n t : Nat), (∃ i, whoseIn l n t = n + i ∧ dstOf l i = some t) ∨ whoseIn l n t = n + l.length
  | [], n, t => .inr (by simp [whoseIn])
  | o :: r, n, t => by
    have hrec := whose_spec r (n + 1) t
    have lift : ∀ i, dstOf (o :: r) (i + 1) = dstOf r i := fun i => by simp [dstOf, nth]
    have h2 : (∃ i, whoseIn r (n + 1) t = n + i ∧ dstOf (o :: r) i = some t) ∨ whoseIn r (n + 1) t = n + (r.length + 1) := by
      rcases hrec with ⟨i, h1, h2⟩ | h1
      · exact .inl ⟨i + 1, by omega, by rw [lift]; exact h2⟩
      · exact .inr (by omega)
    simp only [whoseIn]
    cases hd : o.dst with
    | none => exact h2
    | some d =>
      dsimp only
      cases hdt : Nat.beq d t with
      | false => rw [cond_false]; exact h2
      | true => rw [cond_true]; exact .inl ⟨0, rfl, by simp [dstOf, nth, hd, beq_nat hdt]⟩
theorem dstOf_len (l : List Oper) : dstOf l l.length = none := by simp [dstOf, nth_eq]

/-- A reading under the condition that is being picked. -/
theorem pick_rep (hc : CS T C s a w) {all l : List Oper} (x : GInv all l s) {ch : List (Nat × Bool)} (hch : ∀ p ∈ ch, gsGet s.gs p.1 = some p.2) :
    ∀ t b, opd s.env ch (.tmp t) = .bool b → a.eval (.tmp t) = .bool b → ∀ y, RpS T C s w (strip ((whoseIn all 0 t, b) :: ch) (opr s.env y)) (a.eval y) := by
  intro t b h1 _ y
  refine strip_rep (opr_rep hc y) fun p hp => ?_
  rcases List.mem_cons.1 hp with rfl | hp
  · dsimp only
    cases hg : gsGet s.gs (whoseIn all 0 t) with
    | none => exact .inr rfl
    | some b0 =>
      left
      rcases whose_spec all 0 t with ⟨i, q1, q2⟩ | q
      · rw [Nat.zero_add] at q1
        rw [q1] at hg
        have hb : boolOf (getE s.env t) = some b := by
          simp only [opd] at h1
          cases hx : getE s.env t <;> rw [hx] at h1 <;> simp only [strip] at h1 <;> try (cases h1; done)
          case bool b' => cases h1; rfl
          case opt ch' y =>
            cases hs : subCh ch ch' <;> simp only [hs, cond_true, cond_false] at h1 <;> cases h1; rfl
        rw [x.gi i b0 t b hg q2 hb]
      · rw [Nat.zero_add] at q
        rw [q] at hg
        exact absurd (dstOf_len all) (x.dm _ (by rw [hg]; simp))
  · exact .inl (hch p hp)
end
end Go.Proofs.Ytaghkmaelbgljaa.VX

namespace Go.Proofs.Ytaghkmaelbgljaa.VX
section
variable {P : Program} {T : Tab} {C C' : Cx} {s s' : St} {a : Act} {w w' : World}

theorem xop_quiet (HT : tabOK P T = true) {ops : Array Oper} {o : Oper} {r : List Oper} {k : St → Prop} (hN : ∀ d, o.dst = some d → d < C.N) (hq : isQuiet T o.op = true) (x : XAt P T C ops.toList (o :: r) k s a w) :
    ∃ val, YieldsIf P ops (Same C w) o val a ∧ ∃ s', XAt P T C ops.toList r k s' (a.put o.dst val) w := by
  obtain ⟨hc, hi, hgo⟩ := x
  simp only [xops_cons] at hgo
  have hg := guard_sound hc hi rfl o
  generalize guardOf ops.toList (o :: r) o s.env s.gs s.kn = gv at hgo hg
  cases gv with
  | bad => exact hgo.elim
  | skip =>
    rw [putK_eq] at hgo
    exact ⟨undef, .inr ⟨hg, rfl⟩, _, hc.put o.dst hN (show RpE T C s w .undef undef from rfl), hi.put .undef s.heap s.nx, hgo⟩
  | run ch gs' =>
    obtain ⟨hc1, hi1, hdom, hch⟩ := hg
    dsimp only at hgo
    rw [hq] at hgo
    cases ch with
    | nil =>
      dsimp only at hgo
      have hw : Region.wanted o (yielded ops a.tmps) = true := hch.1 trivial
      obtain ⟨v, hv, hval⟩ := xquiet_sound (P := P) (Hyp := True) (nd := XNeed) HT hc1 (fun c X h => ⟨h.x, fun _ => h.c⟩) (fun _ => opd_rep hc1 hc1.kn)
        (fun _ y => strip_rep (opr_rep hc1 y) (fun p hp => .inl (hc1.kn p hp))) (fun _ => pick_rep hc1 hi1 hc1.kn) hgo
      obtain ⟨val, h1, h2⟩ := hval trivial
      rw [putK_eq] at hv
      have hno : ∀ ch y, v ≠ .opt ch y := fun ch y e => by subst e; exact h2.elim
      refine ⟨val, .inl ⟨hw, fun w' e => h1 w' e⟩, _, hc1.put o.dst hN ?_, hi1.put v s.heap s.nx, hv⟩
      cases v
      case opt ch y => exact absurd rfl (hno ch y)
      all_goals exact h2
    | cons c cs =>
      dsimp only at hgo
      have hall : chProp gs' (c :: cs) → ∀ p ∈ (c :: cs) ++ s.kn, gsGet gs' p.1 = some p.2 := fun hh p hp => by
        rcases List.mem_append.1 hp with hp | hp
        · exact chProp_iff.1 hh p hp
        · exact hc1.kn p hp
      obtain ⟨v, hv, hval⟩ := xquiet_sound (P := P) (Hyp := chProp gs' (c :: cs)) (nd := ndOf gs' (c :: cs)) HT hc1 (fun c' X h => ⟨XNeed.x h, XNeed.c h⟩) (fun hh => opd_rep hc1 (hall hh))
        (fun hh y => strip_rep (opr_rep hc1 y) (fun p hp => .inl (hall hh p hp))) (fun hh => pick_rep hc1 hi1 (hall hh)) hgo
      rw [putK_eq] at hv
      by_cases hp : chProp gs' (c :: cs)
      · obtain ⟨val, h1, h2⟩ := hval hp
        exact ⟨val, .inl ⟨hch.1 hp, fun w' e => h1 w' e⟩, _, hc1.put o.dst hN (show RpE T C _ w (.opt (c :: cs) v) val from ⟨hdom, .inl ⟨hp, h2⟩⟩), hi1.put _ s.heap s.nx, hv⟩
      · have hw : Region.wanted o (yielded ops a.tmps) = false := by
          cases hh : Region.wanted o (yielded ops a.tmps) with
          | false => rfl
          | true => exact absurd (hch.2 hh) hp
        exact ⟨undef, .inr ⟨hw, rfl⟩, _, hc1.put o.dst hN (show RpE T C _ w (.opt (c :: cs) v) undef from ⟨hdom, .inr ⟨hp, rfl⟩⟩), hi1.put _ s.heap s.nx, hv⟩

theorem xop_eff (HT : tabOK P T = true) {ops : Array Oper} {i : Nat} {o : Oper} {r : List Oper} {k : St → Prop} {Q : Exit → Act → World → Prop} (hi : ops[i]? = some o) (hN : ∀ d, o.dst = some d → d < C.N) (hq : isQuiet T o.op = false) (x : XAt P T C ops.toList (o :: r) k s a w) :
    wpOp P ops Q i (fun a' w' => ∃ C' s', KeepC C C' ∧ XAt P T C' ops.toList r k s' a' w') a w := by
  obtain ⟨hc, hgi, hgo⟩ := x
  simp only [xops_cons] at hgo
  have hg := guard_sound hc hgi rfl o
  generalize guardOf ops.toList (o :: r) o s.env s.gs s.kn = gv at hgo hg
  unfold wpOp
  simp only [hi]
  have skip : ∀ {s1 : St}, CS T C s1 a w → GInv ops.toList (o :: r) s1 → Region.wanted o (yielded ops a.tmps) = false → xops T (ACalls P T) ops.toList r (putE s1.env o.dst .undef) s1.heap s1.nx s1.gs s1.kn k →
      ∃ C' s', KeepC C C' ∧ XAt P T C' ops.toList r k s' (a.put o.dst undef) w := fun {s1} q1 q2 q3 q4 =>
    ⟨C, _, KeepC.refl C, q1.put o.dst hN (show RpE T C s1 w .undef undef from rfl), q2.put .undef s1.heap s1.nx, q4⟩
  have run : ∀ {s1 : St}, CS T C s1 a w → GInv ops.toList (o :: r) s1 → (xeff T (ACalls P T) (opd s1.env s1.kn) o.op s1.env s1.heap s1.nx fun v env1 h' nx' => putK env1 o.dst v fun env' => xops T (ACalls P T) ops.toList r env' h' nx' s1.gs s1.kn k) →
      o.wp P a w (fun a' w' => ∃ C' s', KeepC C C' ∧ XAt P T C' ops.toList r k s' a' w') Q := fun {s1} q1 q2 q3 => by
    refine eff_wp (xeff_sound HT q1 (opd_rep q1 q1.kn) q3) hN ?_
    intro v h' nx' C' val w' hk hkc hcs
    rw [putK_eq] at hk
    exact ⟨C', _, hkc, hcs, q2.put v h' nx', hk⟩
  cases gv with
  | bad => exact hgo.elim
  | skip =>
    rw [putK_eq] at hgo
    simp only [hg, Bool.false_eq_true, if_false]
    exact skip hc hgi hg hgo
  | run ch gs' =>
    obtain ⟨hc1, hi1, hdom, hch⟩ := hg
    dsimp only at hgo
    rw [hq] at hgo
    cases ch with
    | nil =>
      dsimp only at hgo
      have hw : Region.wanted o (yielded ops a.tmps) = true := hch.1 trivial
      simp only [hw, if_true]
      exact .inl (run hc1 hi1 hgo)
    | cons c cs =>
      dsimp only at hgo
      have hrev : ∀ (gs : List (Nat × Bool)), chProp gs (c :: cs).reverse ↔ chProp gs (c :: cs) := fun gs => by simp only [chProp_iff, List.mem_reverse]
      obtain ⟨env', kn', q1, q2, q3⟩ := xsplit_sound _ _ _ hc1 hi1 (fun p hp => hdom p (List.mem_reverse.1 hp)) hgo
      rcases q3 with ⟨q3, q4⟩ | ⟨q3, q4⟩
      · have hw : Region.wanted o (yielded ops a.tmps) = true := hch.1 ((hrev _).1 q3)
        simp only [hw, if_true]
        exact .inl (run q1 q2 q4)
      · have hw : Region.wanted o (yielded ops a.tmps) = false := by
          cases hh : Region.wanted o (yielded ops a.tmps) with
          | false => rfl
          | true => exact absurd ((hrev _).2 (hch.2 hh)) q3
        simp only [hw, Bool.false_eq_true, if_false]
        rw [putK_eq] at q4
        exact skip q1 q2 hw q4

theorem wpOp_of_yields {ops : Array Oper} {Q : Exit → Act → World → Prop} {i : Nat} {o : Oper} {v : Value} (hi : ops[i]? = some o) (hy : YieldsIf P ops (Same C w) o v a) {K : Act → World → Prop} (h : K (a.put o.dst v) w) : wpOp P ops Q i K a w :=
  hy.wpOp hi (Same.refl C w) h

/-- The operations in their order. -/
theorem xops_sound (HT : tabOK P T = true) {ops : Array Oper} {k : St → Prop} {Q : Exit → Act → World → Prop} : ∀ (l : List Oper) (is : List Nat), all2 (fun o i => ops[i]? = some o) l is → (∀ o ∈ l, ∀ d, o.dst = some d → d < C.N) →
    ∀ (C' : Cx) (s : St) (a : Act) (w : World), KeepC C C' → XAt P T C' ops.toList l k s a w → (∀ C' s' a' w', KeepC C C' → CS T C' s' a' w' → k s' → Q .normal a' w') → wpOps P ops Q is a w := by
  intro l
  induction l with
  | nil =>
    intro is hall _ C' s a w hk x hQ
    cases is with
    | nil =>
      have := x.go
      simp only [xops_nil] at this
      exact hQ C' s a w hk x.cs this
    | cons _ _ => exact hall.elim
  | cons o r ih =>
    intro is hall hN C' s a w hk x hQ
    cases is with
    | nil => exact hall.elim
    | cons i is =>
      rw [wpOps_cons]
      have hN' : ∀ d, o.dst = some d → d < C'.N := fun d hd => by rw [hk.2.2.2.2]; exact hN o (by simp) d hd
      cases hq : isQuiet T o.op with
      | true =>
        obtain ⟨val, h1, s', h2⟩ := xop_quiet HT hN' hq x
        exact wpOp_of_yields hall.1 h1 (ih is hall.2 (fun o' ho' => hN o' (List.mem_cons_of_mem _ ho')) C' s' _ w hk h2 hQ)
      | false =>
        refine wpOp_mono ?_ (xop_eff HT hall.1 hN' hq x)
        rintro a' w' ⟨C2, s', hk2, h2⟩
        exact ih is hall.2 (fun o' ho' => hN o' (List.mem_cons_of_mem _ ho')) C2 s' a' w' (hk.trans hk2) h2 hQ
end
end Go.Proofs.Ytaghkmaelbgljaa.VX

namespace Go.Proofs.Ytaghkmaelbgljaa.VX
section
variable {P : Program} {ops : Array Oper} {Q : Exit → Act → World → Prop} {md : Region.Mode}

/-- Whatever order is picked from here on; S: what is known to last, which may grow. -/
def wpAnyF (P : Program) (md : Region.Mode) (ops : Array Oper) (Q : Exit → Act → World → Prop) : Nat → Array Bool → Act → World → (World → Prop) → Prop
  | 0, listed, a, w, _ => Region.ready md ops listed = [] ∧ Q .normal a w
  | fuel + 1, listed, a, w, S =>
    (Region.ready md ops listed = [] → Q .normal a w) ∧
    ∀ i ∈ Region.ready md ops listed, wpOp P ops Q i (fun a' w' => ∃ S' : World → Prop, (∀ x, S' x → S x) ∧ S' w' ∧ wpAnyF P md ops Q fuel (listed.setIfInBounds i true) a' w' S') a w

theorem wpAny_of_grown : ∀ (fuel : Nat) (listed : Array Bool) (a : Act) (w : World) (S : World → Prop), wpAnyF P md ops Q fuel listed a w S → wpAny P md ops Q fuel listed a w
  | 0, _, _, _, _, h => h
  | fuel + 1, _, _, _, _, h => ⟨h.1, fun i hi => wpOp_mono (fun a' w' ⟨S', _, _, h'⟩ => wpAny_of_grown fuel _ a' w' S' h') (h.2 i hi)⟩

theorem yields_sub {S S' : World → Prop} (hs : ∀ x, S' x → S x) {o : Oper} {v : Value} {a : Act} (h : YieldsIf P ops S o v a) : YieldsIf P ops S' o v a :=
  h.imp (fun ⟨h1, h2⟩ => ⟨h1, fun w hw => h2 w (hs w hw)⟩) id

theorem wpAnyF_first {i : Nat} {oi : Oper} {v : Value} (hi : ops[i]? = some oi) (hsel : ∀ (j : Nat) (o : Oper) cs b, ops[j]? = some o → o.op ≠ .select cs b)
    (hQ : ∀ c a w, Q (.panic c) (a.put oi.dst v) w → Q (.panic c) a w) :
    ∀ (fuel : Nat) (listed : Array Bool) (a : Act) (w : World) (S : World → Prop),
      (∀ j oj, ops[j]? = some oj → j ≠ i → listed.getD j true = false → (∀ e ∈ oj.after, Region.binds md e = true → e.on ≠ i) → oi.apart ops oj = true) →
      i ∈ Region.ready md ops listed → YieldsIf P ops S oi v a → S w →
      wpAnyF P md ops Q fuel (listed.setIfInBounds i true) (a.put oi.dst v) w S → wpAnyF P md ops Q (fuel + 1) listed a w S := by
  intro fuel
  induction fuel with
  | zero =>
    intro listed a w S _ hr hy hS H
    refine ⟨fun h => (by rw [h] at hr; cases hr), fun j hj => ?_⟩
    by_cases hji : j = i
    · subst hji; exact hy.wpOp hi hS ⟨S, fun _ => id, hS, H⟩
    · have := ready_mono hj hji
      rw [H.1] at this
      cases this
  | succ fuel ih =>
    intro listed a w S hfree hr hy hS H
    refine ⟨fun h => (by rw [h] at hr; cases hr), fun j hj => ?_⟩
    by_cases hji : j = i
    · subst hji; exact hy.wpOp hi hS ⟨S, fun _ => id, hS, H⟩
    · have h1 := H.2 j (ready_mono hj hji)
      obtain ⟨hjun, oj, hoj, hall⟩ := mem_ready.1 hj
      have hnot : ∀ e ∈ oj.after, Region.binds md e = true → e.on ≠ i := fun e he hb heq => by
        have h1 := hall e he hb
        have h0 := (mem_ready.1 hr).1
        rw [heq] at h1
        rcases Nat.lt_or_ge i listed.size with h' | h'
        · simp [h'] at h0 h1; rw [h0] at h1; cases h1
        · simp [Array.getElem?_eq_none h'] at h1
      have h2 := wpOp_putIf hoj (hfree j oj hoj hji hjun hnot) (fun cs b => hsel i oi cs b hi) (fun cs b => hsel j oj cs b hoj) hQ hy h1
      have hfree' : ∀ k ok, ops[k]? = some ok → k ≠ i → (listed.setIfInBounds j true).getD k true = false →
          (∀ e ∈ ok.after, Region.binds md e = true → e.on ≠ i) → oi.apart ops ok = true := fun k ok hk hki hun hno => by
        refine hfree k ok hk hki ?_ hno
        by_cases hjk : j = k
        · subst hjk; exact hjun
        · rw [getD_set_ne true hjk] at hun; exact hun
      refine wpOp_mono (fun a' w' h3 => ?_) h2
      obtain ⟨hy', S', hsub, hS', h3⟩ := h3
      refine ⟨S', hsub, hS', ih (listed.setIfInBounds j true) a' w' S' hfree' (ready_mono hr (Ne.symm hji)) (yields_sub hsub hy') hS' ?_⟩
      rw [Array.setIfInBounds_comm _ _ hji]
      exact h3

theorem wpAnyF_take {i : Nat} {oi : Oper} {v : Value} {fuel : Nat} {listed : Array Bool} {a : Act} {w : World} {S : World → Prop} (hi : ops[i]? = some oi)
    (hs : Region.noSelect ops = true) (hf : Region.free md ops listed i = true) (hr : (Region.ready md ops listed).contains i = true)
    (hQ : ∀ c a w, Q (.panic c) (a.put oi.dst v) w → Q (.panic c) a w) (hy : YieldsIf P ops S oi v a) (hS : S w)
    (h : wpAnyF P md ops Q fuel (listed.setIfInBounds i true) (a.put oi.dst v) w S) : wpAnyF P md ops Q (fuel + 1) listed a w S :=
  wpAnyF_first hi (Region.noSelect_spec hs) hQ fuel listed a w S (Region.free_spec hi hf) (by simpa using hr) hy hS h

theorem wpAnyF_one {i : Nat} {fuel : Nat} {listed : Array Bool} {a : Act} {w : World} {S : World → Prop} (hr : Region.ready md ops listed = [i])
    (h : wpOp P ops Q i (fun a' w' => ∃ S' : World → Prop, (∀ x, S' x → S x) ∧ S' w' ∧ wpAnyF P md ops Q fuel (listed.setIfInBounds i true) a' w' S') a w) : wpAnyF P md ops Q (fuel + 1) listed a w S :=
  ⟨fun h0 => (by rw [hr] at h0; cases h0), fun j hj => by rw [hr] at hj; cases List.mem_singleton.1 hj; exact h⟩

theorem wpAnyF_done {listed : Array Bool} {a : Act} {w : World} {S : World → Prop} (hr : Region.ready md ops listed = []) (h : Q .normal a w) :
    ∀ fuel, wpAnyF P md ops Q fuel listed a w S
  | 0 => ⟨hr, h⟩
  | _ + 1 => ⟨fun _ => h, by rw [hr]; simp⟩

theorem wp_region_grown {id : Nat} {a : Act} {w : World} {S : World → Prop} (hm : P.follows .mixedOrders = true)
    (h : wpAnyF P .any ops Q ops.size (Array.replicate ops.size false) a { w with drawn := w.drawn + 1 } S) : (Code.region id ops true).wp P Q a w :=
  wp_region_any hm (wpAny_of_grown _ _ _ _ _ h)
end
end Go.Proofs.Ytaghkmaelbgljaa.VX

namespace Go.Proofs.Ytaghkmaelbgljaa.VX
section
variable {P : Program} {T : Tab} {C C' : Cx} {s s' : St} {a : Act} {w w' : World}

theorem memN_iff {l : List Nat} {i : Nat} : memN l i = true ↔ i ∈ l := by
  induction l with
  | nil => simp [memN]
  | cons x r ih =>
    simp only [memN, Bool.or_eq_true, ih, List.mem_cons]
    constructor
    · rintro (h | h)
      · exact .inl (beq_nat h).symm
      · exact .inr h
    · rintro (rfl | h)
      · exact .inl (Nat.beq_refl _)
      · exact .inr h
theorem era_eq (Wr : List Nat) : ∀ {h : Hp} {K : Hp → Prop}, era Wr h K → ∃ hq, K hq ∧ ∀ id, getB hq id = if id ∈ Wr then .gone else getB h id
  | [], K, h => ⟨[], h, fun id => by simp [getB]⟩
  | (i, b) :: r, K, h => by
    simp only [era] at h
    cases hm : memN Wr i with
    | true =>
      rw [hm] at h
      obtain ⟨hq, h1, h2⟩ := era_eq Wr h
      refine ⟨hq, h1, fun id => ?_⟩
      rw [h2, getB_cons]
      split
      · rfl
      · rename_i hn
        rw [if_neg (fun e => hn (by rw [e]; exact memN_iff.1 hm))]
    | false =>
      rw [hm] at h
      obtain ⟨hq, h1, h2⟩ := era_eq Wr h
      have hni : i ∉ Wr := fun hn => by rw [memN_iff.2 hn] at hm; cases hm
      refine ⟨_, h1, fun id => ?_⟩
      rw [getB_cons, getB_cons, h2]
      by_cases e : id = i
      · subst e; rw [if_pos rfl, if_neg hni, if_pos rfl]
      · rw [if_neg e, if_neg e]
theorem boxes_spec {h : Hp} : ∀ {Wr : List Nat}, boxes h Wr = true → ∀ id ∈ Wr, ∃ t cs, getB h id = .box t cs
  | [], _ => by simp
  | i :: r, hb => by
    simp only [boxes, Bool.and_eq_true] at hb
    intro id hid
    rcases List.mem_cons.1 hid with rfl | hid
    · cases hg : getB h id with
      | box t cs => exact ⟨t, cs, rfl⟩
      | arr _ _ _ _ => rw [hg] at hb; cases hb.1
      | gone => rw [hg] at hb; cases hb.1
    · exact boxes_spec hb.2 id hid

/-- The written ones are others'. -/
def eraCx (C : Cx) (Wr : List Nat) : Cx := { C with F := fun b => C.F b ∨ ∃ id, id ∈ Wr ∧ b = C.β id }

theorem ownB_era {Wr : List Nat} {h hq : Hp} (hg : ∀ id, getB hq id = if id ∈ Wr then .gone else getB h id) {id b : Nat} (ho : ownB (eraCx C Wr) hq id = some b) : id ∉ Wr ∧ ownB C h id = some b := by
  unfold ownB at ho
  rw [hg] at ho
  by_cases hm : id ∈ Wr
  · rw [if_pos hm] at ho; cases ho
  · rw [if_neg hm] at ho; exact ⟨hm, ho⟩
theorem XB_era {Wr : List Nat} {h hq : Hp} (hg : ∀ id, getB hq id = if id ∈ Wr then .gone else getB h id) (hb : ∀ id ∈ Wr, ∃ t cs, getB h id = .box t cs) (b : Nat) : XB (eraCx C Wr) hq b ↔ XB C h b := by
  constructor
  · rintro ((hF | ⟨id, hid, rfl⟩) | ⟨id, ho⟩)
    · exact .inl hF
    · obtain ⟨t, cs, hg⟩ := hb id hid
      exact .inr ⟨id, by simp [ownB, hg]⟩
    · exact .inr ⟨id, (ownB_era hg ho).2⟩
  · rintro (hF | ⟨id, ho⟩)
    · exact .inl (.inl hF)
    · by_cases hm : id ∈ Wr
      · obtain ⟨t, cs, hgb⟩ := hb id hm
        have : b = C.β id := by simp [ownB, hgb] at ho; exact ho.symm
        exact .inl (.inr ⟨id, hm, this⟩)
      · refine .inr ⟨id, ?_⟩
        unfold ownB
        rw [hg, if_neg hm]
        exact ho

theorem ext_era {Wr : List Nat} {hq : Hp} (hg : ∀ id, getB hq id = if id ∈ Wr then .gone else getB s.heap id) (hb : ∀ id ∈ Wr, ∃ t cs, getB s.heap id = .box t cs) :
    Ext C s w (eraCx C Wr) ⟨s.env, hq, s.nx, s.gs, s.kn⟩ w ∧ Ext (eraCx C Wr) ⟨s.env, hq, s.nx, s.gs, s.kn⟩ w C s w := by
  refine ⟨⟨fun _ _ _ => rfl, fun b _ h => (XB_era hg hb b).1 h, Nat.le_refl _, fun _ _ => ⟨rfl, rfl, rfl⟩, fun id _ wr' t' b' l' h => ?_⟩, ⟨fun _ _ _ => rfl, fun b _ h => (XB_era hg hb b).2 h, Nat.le_refl _, fun _ _ => ⟨rfl, rfl, rfl⟩, fun id _ wr' t' b' l' h => ?_⟩⟩
  · change getB hq id = _ at h
    rw [hg] at h
    split at h
    · cases h
    · exact ⟨wr', b', l', h, rfl⟩
  · refine ⟨wr', b', l', ?_, rfl⟩
    show getB hq id = _
    rw [hg, if_neg]
    · exact h
    · intro hm
      obtain ⟨t, cs, hgb⟩ := hb id hm
      rw [hgb] at h; cases h

theorem CS.era (hc : CS T C s a w) {Wr : List Nat} {hq : Hp} (hg : ∀ id, getB hq id = if id ∈ Wr then .gone else getB s.heap id) (hb : ∀ id ∈ Wr, ∃ t cs, getB s.heap id = .box t cs) :
    CS T (eraCx C Wr) ⟨s.env, hq, s.nx, s.gs, s.kn⟩ a w := by
  obtain ⟨E, _⟩ := ext_era (C := C) (w := w) hg hb
  have hbo : ∀ id ∈ Wr, ownB C s.heap id = some (C.β id) := fun id hid => by obtain ⟨t, cs, h⟩ := hb id hid; simp [ownB, h]
  refine ⟨fun t => (hc.env t).ext E rfl, fun id => ?_, fun id hid => ?_, fun i j b h1 h2 => hc.inj i j b (ownB_era hg h1).2 (ownB_era hg h2).2, fun id b ho => ?_, hc.g, hc.ge, hc.pin, hc.kn, hc.defers, hc.sz, fun b hF => ?_, hc.io⟩
  · show RepB T _ _ w id (getB hq id)
    rw [hg]
    split
    · exact trivial
    · by_cases hid : id < s.nx
      · exact (hc.blk id).ext E hid rfl (fun _ _ => rfl)
      · rw [hc.nx id (by omega)]; exact trivial
  · show getB hq id = _
    rw [hg]
    split
    · rfl
    · exact hc.nx id hid
  · obtain ⟨hn, ho⟩ := ownB_era hg ho
    obtain ⟨h1, h2, h3⟩ := hc.own id b ho
    refine ⟨h1, h2, ?_⟩
    rintro (hF | ⟨i, hi, rfl⟩)
    · exact h3 hF
    · have := hc.inj id i _ ho (hbo i hi)
      subst this
      exact hn hi
  · rcases hF with hF | ⟨i, hi, rfl⟩
    · exact hc.f b hF
    · exact (hc.own i _ (hbo i hi)).1

theorem RpE_of_S {x : AV} {v : Value} (h : RpS T C s w x v) : RpE T C s w x v := by
  cases x <;> first | exact h | exact h.elim

/-- What holds between two operations. -/
structure XAtD (P : Program) (T : Tab) (C : Cx) (Wr : List Nat) (all l : List Oper) (k : St → Prop) (s : St) (a : Act) (w : World) : Prop where
  cs : CS T C s a w
  gi : GInv all l s
  go : xopsD T (ACalls P T) Wr all l s.env s.heap s.nx s.gs s.kn k

theorem xopD_quiet (HT : tabOK P T = true) {Wr : List Nat} {ops : Array Oper} {o : Oper} {r : List Oper} {k : St → Prop} (hN : ∀ d, o.dst = some d → d < C.N) (hq : isQuiet T o.op = true) (x : XAtD P T C Wr ops.toList (o :: r) k s a w) :
    ∃ val, YieldsIf P ops (Same (eraCx C Wr) w) o val a ∧ ∃ s', XAtD P T C Wr ops.toList r k s' (a.put o.dst val) w := by
  obtain ⟨hc, hi, hgo⟩ := x
  simp only [xopsD_cons] at hgo
  cases hbx : boxes s.heap Wr with
  | false => rw [hbx] at hgo; exact hgo.elim
  | true =>
  rw [hbx, cond_true] at hgo
  have hbs := boxes_spec hbx
  have hg := guard_sound hc hi rfl o
  generalize guardOf ops.toList (o :: r) o s.env s.gs s.kn = gv at hgo hg
  cases gv with
  | bad => exact hgo.elim
  | skip =>
    rw [putK_eq] at hgo
    exact ⟨undef, .inr ⟨hg, rfl⟩, _, hc.put o.dst hN (show RpE T C s w .undef undef from rfl), hi.put .undef s.heap s.nx, hgo⟩
  | run ch gs' =>
    obtain ⟨hc1, hi1, hdom, hch⟩ := hg
    dsimp only at hgo
    rw [hq] at hgo
    cases ch with
    | nil =>
      dsimp only at hgo
      obtain ⟨hh, hgo, hget⟩ := era_eq Wr hgo
      have hcq := hc1.era (hq := hh) hget hbs
      obtain ⟨_, E⟩ := ext_era (C := C) (w := w) (s := ⟨s.env, s.heap, s.nx, gs', s.kn⟩) (hq := hh) hget hbs
      have hiq : GInv ops.toList (o :: r) ⟨s.env, hh, s.nx, gs', s.kn⟩ := ⟨hi1.gi, hi1.nd, hi1.dm⟩
      have hw : Region.wanted o (yielded ops a.tmps) = true := hch.1 trivial
      obtain ⟨v, hv, hval⟩ := xquiet_sound (P := P) (Hyp := True) (nd := XNeed) HT hcq (fun c X h => ⟨h.x, fun _ => h.c⟩) (fun _ => opd_rep hcq hcq.kn)
        (fun _ y => strip_rep (opr_rep hcq y) (fun p hp => .inl (hcq.kn p hp))) (fun _ => pick_rep hcq hiq hcq.kn) hgo
      obtain ⟨val, h1, h2⟩ := hval trivial
      rw [putK_eq] at hv
      have hno : ∀ ch y, v ≠ .opt ch y := fun ch y e => by subst e; exact h2.elim
      refine ⟨val, .inl ⟨hw, h1⟩, _, hc1.put o.dst hN ?_, hi1.put v s.heap s.nx, hv⟩
      exact RpE_of_S (RpS.ext E h2)
    | cons c cs =>
      dsimp only at hgo
      obtain ⟨hh, hgo, hget⟩ := era_eq Wr hgo
      have hcq := hc1.era (hq := hh) hget hbs
      obtain ⟨_, E⟩ := ext_era (C := C) (w := w) (s := ⟨s.env, s.heap, s.nx, gs', s.kn⟩) (hq := hh) hget hbs
      have hiq : GInv ops.toList (o :: r) ⟨s.env, hh, s.nx, gs', s.kn⟩ := ⟨hi1.gi, hi1.nd, hi1.dm⟩
      have hall : chProp gs' (c :: cs) → ∀ p ∈ (c :: cs) ++ s.kn, gsGet gs' p.1 = some p.2 := fun hp p hpm => by
        rcases List.mem_append.1 hpm with hm | hm
        · exact chProp_iff.1 hp p hm
        · exact hc1.kn p hm
      obtain ⟨v, hv, hval⟩ := xquiet_sound (P := P) (Hyp := chProp gs' (c :: cs)) (nd := ndOf gs' (c :: cs)) HT hcq (fun c' X h => ⟨XNeed.x h, XNeed.c h⟩) (fun hp => opd_rep hcq (hall hp))
        (fun hp y => strip_rep (opr_rep hcq y) (fun p hpm => .inl (hall hp p hpm))) (fun hp => pick_rep hcq hiq (hall hp)) hgo
      rw [putK_eq] at hv
      by_cases hp : chProp gs' (c :: cs)
      · obtain ⟨val, h1, h2⟩ := hval hp
        exact ⟨val, .inl ⟨hch.1 hp, h1⟩, _, hc1.put o.dst hN (show RpE T C _ w (.opt (c :: cs) v) val from ⟨hdom, .inl ⟨hp, RpS.ext E h2⟩⟩), hi1.put _ s.heap s.nx, hv⟩
      · have hw : Region.wanted o (yielded ops a.tmps) = false := by
          cases hh : Region.wanted o (yielded ops a.tmps) with
          | false => rfl
          | true => exact absurd (hch.2 hh) hp
        exact ⟨undef, .inr ⟨hw, rfl⟩, _, hc1.put o.dst hN (show RpE T C _ w (.opt (c :: cs) v) undef from ⟨hdom, .inr ⟨hp, rfl⟩⟩), hi1.put _ s.heap s.nx, hv⟩
end
end Go.Proofs.Ytaghkmaelbgljaa.VX

namespace Go.Proofs.Ytaghkmaelbgljaa.VX
section
variable {P : Program} {T : Tab} {C C' : Cx} {s s' : St} {a : Act} {w w' : World}

theorem storeF_sound (HT : tabOK P T = true) (hc : CS T C s a w) {t : TypeId} {x y : Operand} {o : Oper} (ho : o.op = .store t x y) {ev : Operand → Value} {ρ : Operand → AV} (hρ : ∀ x, RpS T C s w (ρ x) (ev x)) {id off : Nat} (hrx : ρ x = .ptr id off) {call : CallR} {k : KE}
    (h : xeff T call ρ o.op s.env s.heap s.nx k) : ∃ v h' nx' wt, k v s.env h' nx' ∧ (execOp ev o).run P w = .ok .skip wt ∧ CS T C ⟨s.env, h', nx', s.gs, s.kn⟩ a wt ∧ RpS T C ⟨s.env, h', nx', s.gs, s.kn⟩ wt v undef ∧
      (∀ b, b ≠ C.β id → wt.heap[b]? = w.heap[b]?) ∧ wt.heap.size = w.heap.size ∧ nx' = s.nx := by
  rw [ho] at h
  simp only [xeff, xstore] at h
  cases hx : T.get t with
  | none => simp [hx] at h
  | some xi =>
    rw [hx] at h
    simp only [cellsK_eq] at h
    cases hb : (okV (ρ y) && okCells s.heap (ρ y).cells && Nat.beq (len (ρ y).cells) xi.size) with
    | false => simp [hb] at h
    | true =>
      simp only [hb, cond_true] at h
      simp only [Bool.and_eq_true] at hb
      obtain ⟨⟨_, hok⟩, hn⟩ := hb
      have hn := beq_nat hn
      rw [len_eq] at hn
      have done : ∀ {wt : World}, (Instr.storeAt t (ev x) (ev y)).run P w = .ok () wt → (execOp ev o).run P w = .ok .skip wt := fun hr => by
        simp only [execOp, ho, Sem.run_bind, hr, Result.andThen_ok, Sem.run_pure]
      rw [hrx] at h
      simp only at h
      cases hbk : getB s.heap id with
      | gone => simp [hbk] at h
      | arr _ _ _ _ => simp [hbk] at h
      | box bt cs =>
        rw [hbk] at h
        simp only at h
        cases hle : Nat.ble (off + xi.size) (len cs) with
        | false => simp [hle] at h
        | true =>
          simp only [hle, cond_true] at h
          have hle := Nat.le_of_ble_eq_true hle
          rw [len_eq] at hle
          rw [spliceK_eq cs off _ _ (by omega)] at h
          have hpx := hρ x
          rw [hrx] at hpx
          obtain ⟨h1, h2⟩ := storeBox_sound HT hc hx hbk (hρ y) hok hn hle
          exact ⟨_, _, _, _, h, done (by rw [hpx.1]; exact h1), h2, rfl, fun b hb => setCells_same _ _ _ _ _ hb, setCells_size _ _ _ _, rfl⟩

/-- What lasts over an effect. -/
def FrD (Wr : List Nat) (C : Cx) (w : World) (C' : Cx) (w' : World) : Prop :=
  (∀ b, b < w.heap.size → (∀ id ∈ Wr, b ≠ C.β id) → w'.heap[b]? = w.heap[b]?) ∧ w.heap.size ≤ w'.heap.size ∧ ∀ id ∈ Wr, C'.β id = C.β id

theorem effD_wp (HT : tabOK P T = true) (hc : CS T C s a w) {Wr : List Nat} (hW : ∀ id ∈ Wr, ∃ t cs, getB s.heap id = .box t cs) {o : Oper} {k : KE} {next : Act → World → Prop} {Q : Exit → Act → World → Prop} (h : xeffD T (ACalls P T) Wr (opd s.env s.kn) o.op s.env s.heap s.nx k)
    (hd : ∀ d, o.dst = some d → d < C.N) (hnext : ∀ v h' nx' C' val w', k v s.env h' nx' → KeepC C C' → CS T C' ⟨putE s.env o.dst v, h', nx', s.gs, s.kn⟩ (a.put o.dst val) w' → FrD Wr C w C' w' → next (a.put o.dst val) w') : o.wp P a w next Q := by
  have hρ := fun x => opd_rep hc hc.kn x
  have ent : ∀ {C' : Cx} {h' : Hp} {nx' : Nat} {w' : World} {v : AV} {val : Value}, KeepC C C' → CS T C' ⟨s.env, h', nx', s.gs, s.kn⟩ a w' → RpS T C' ⟨s.env, h', nx', s.gs, s.kn⟩ w' v val → CS T C' ⟨putE s.env o.dst v, h', nx', s.gs, s.kn⟩ (a.put o.dst val) w' := fun {C' h' nx' w' v val} hk hcs hrp => by
    have hN : C'.N = C.N := hk.2.2.2.2
    exact hcs.put o.dst (fun d hd' => by rw [hN]; exact hd d hd') (RpE_of_S hrp)
  unfold xeffD at h
  unfold Oper.wp
  split at h
  · rename_i t p v hop
    split at h
    · rename_i id off hp
      cases hm : memN Wr id with
      | false => rw [hm] at h; exact h.elim
      | true =>
        rw [hm, cond_true, ← hop] at h
        obtain ⟨v', h', nx', wt, q1, q2, q3, q4, q5, q6, _⟩ := storeF_sound (P := P) HT hc hop hρ hp h
        have q2 : (execOp a.eval o).run P w = .ok .skip wt := q2
        rw [q2]
        exact hnext _ _ _ C undef _ q1 (KeepC.refl C) (ent (KeepC.refl C) q3 q4) ⟨fun b _ hne => q5 b (hne id (memN_iff.1 hm)), by rw [q6]; exact Nat.le_refl _, fun _ _ => rfl⟩
    · exact h.elim
  · rename_i c hop
    split at h
    · rename_i g hcal
      rw [← hop] at h
      obtain ⟨f, args, hrun, hcalls⟩ := callop_sound (P := P) hc hop hcal hρ h
      have hrun : (execOp a.eval o).run P w = .ok (.enter f args) w := hrun
      rw [hrun]
      refine Calls.mono hcalls ?_
      rintro e w' ⟨v, h', nx', C', val, rfl, hk, hkc, hcs, hrp, hf1, hf2, hf3⟩
      refine hnext _ _ _ _ _ _ hk hkc (ent hkc hcs hrp) ⟨fun b hb _ => hf1 b hb, hf2, fun id hid => hf3 id ?_⟩
      obtain ⟨t, cs, hb⟩ := hW id hid
      exact gone_lt hc hb (by simp)
    · exact h.elim
  · exact h.elim

theorem xopD_eff (HT : tabOK P T = true) {Wr : List Nat} {ops : Array Oper} {i : Nat} {o : Oper} {r : List Oper} {k : St → Prop} {Q : Exit → Act → World → Prop} (hi : ops[i]? = some o) (hN : ∀ d, o.dst = some d → d < C.N) (hq : isQuiet T o.op = false) (x : XAtD P T C Wr ops.toList (o :: r) k s a w) :
    wpOp P ops Q i (fun a' w' => ∃ C' s', KeepC C C' ∧ FrD Wr C w C' w' ∧ XAtD P T C' Wr ops.toList r k s' a' w') a w := by
  obtain ⟨hc, hgi, hgo⟩ := x
  simp only [xopsD_cons] at hgo
  cases hbx : boxes s.heap Wr with
  | false => rw [hbx] at hgo; exact hgo.elim
  | true =>
  rw [hbx, cond_true] at hgo
  have hbs := boxes_spec hbx
  have hg := guard_sound hc hgi rfl o
  generalize guardOf ops.toList (o :: r) o s.env s.gs s.kn = gv at hgo hg
  unfold wpOp
  simp only [hi]
  have skip : ∀ {s1 : St}, CS T C s1 a w → GInv ops.toList (o :: r) s1 → Region.wanted o (yielded ops a.tmps) = false → xopsD T (ACalls P T) Wr ops.toList r (putE s1.env o.dst .undef) s1.heap s1.nx s1.gs s1.kn k →
      ∃ C' s', KeepC C C' ∧ FrD Wr C w C' w ∧ XAtD P T C' Wr ops.toList r k s' (a.put o.dst undef) w := fun {s1} q1 q2 q3 q4 =>
    ⟨C, _, KeepC.refl C, ⟨fun _ _ _ => rfl, Nat.le_refl _, fun _ _ => rfl⟩, q1.put o.dst hN (show RpE T C s1 w .undef undef from rfl), q2.put .undef s1.heap s1.nx, q4⟩
  have run : ∀ {s1 : St}, s1.heap = s.heap → CS T C s1 a w → GInv ops.toList (o :: r) s1 → (xeffD T (ACalls P T) Wr (opd s1.env s1.kn) o.op s1.env s1.heap s1.nx fun v env1 h' nx' => putK env1 o.dst v fun env' => xopsD T (ACalls P T) Wr ops.toList r env' h' nx' s1.gs s1.kn k) →
      o.wp P a w (fun a' w' => ∃ C' s', KeepC C C' ∧ FrD Wr C w C' w' ∧ XAtD P T C' Wr ops.toList r k s' a' w') Q := fun {s1} qh q1 q2 q3 => by
    refine effD_wp HT q1 (by rw [qh]; exact hbs) q3 hN ?_
    intro v h' nx' C' val w' hk hkc hcs hfr
    rw [putK_eq] at hk
    exact ⟨C', _, hkc, hfr, hcs, q2.put v h' nx', hk⟩
  cases gv with
  | bad => exact hgo.elim
  | skip =>
    rw [putK_eq] at hgo
    simp only [hg, Bool.false_eq_true, if_false]
    exact skip hc hgi hg hgo
  | run ch gs' =>
    obtain ⟨hc1, hi1, hdom, hch⟩ := hg
    dsimp only at hgo
    rw [hq] at hgo
    cases ch with
    | nil =>
      dsimp only at hgo
      have hw : Region.wanted o (yielded ops a.tmps) = true := hch.1 trivial
      simp only [hw, if_true]
      exact .inl (run (s1 := ⟨s.env, s.heap, s.nx, gs', s.kn⟩) rfl hc1 hi1 hgo)
    | cons c cs =>
      dsimp only at hgo
      have hrev : ∀ (gs : List (Nat × Bool)), chProp gs (c :: cs).reverse ↔ chProp gs (c :: cs) := fun gs => by simp only [chProp_iff, List.mem_reverse]
      obtain ⟨env', kn', q1, q2, q3⟩ := xsplit_sound _ _ _ hc1 hi1 (fun p hp => hdom p (List.mem_reverse.1 hp)) hgo
      rcases q3 with ⟨q3, q4⟩ | ⟨q3, q4⟩
      · have hw : Region.wanted o (yielded ops a.tmps) = true := hch.1 ((hrev _).1 q3)
        simp only [hw, if_true]
        exact .inl (run (s1 := ⟨env', s.heap, s.nx, gs', kn'⟩) rfl q1 q2 q4)
      · have hw : Region.wanted o (yielded ops a.tmps) = false := by
          cases hh : Region.wanted o (yielded ops a.tmps) with
          | false => rfl
          | true => exact absurd ((hrev _).2 (hch.2 hh)) q3
        simp only [hw, Bool.false_eq_true, if_false]
        rw [putK_eq] at q4
        exact skip q1 q2 hw q4

theorem drawnD_sound (HT : tabOK P T = true) {Wr : List Nat} {ops : Array Oper} {k : St → Prop} {Q : Exit → Act → World → Prop} (hQp : ∀ c a w, ¬ Q (.panic c) a w) (hs : Region.noSelect ops = true) :
    ∀ (l : List Oper) (is : List Nat) (listed : Array Bool), all2 (fun o i => nth ops.toList i = some o) l is → drawChkD T ops is listed = true → ∀ (C : Cx), (∀ o ∈ l, ∀ d, o.dst = some d → d < C.N) →
    ∀ (s : St) (a : Act) (w : World), XAtD P T C Wr ops.toList l k s a w → (∀ C' s' a' w', KeepC C C' → CS T C' s' a' w' → k s' → Q .normal a' w') → wpAnyF P .any ops Q l.length listed a w (Same (eraCx C Wr) w) := by
  intro l
  induction l with
  | nil =>
    intro is listed hall hch C _ s a w x hQ
    cases is with
    | nil =>
      simp only [drawChkD] at hch
      have hgo := x.go
      simp only [xopsD_nil] at hgo
      refine wpAnyF_done ?_ (hQ C s a w (KeepC.refl C) x.cs hgo) _
      split at hch
      · assumption
      · cases hch
    | cons _ _ => exact hall.elim
  | cons o r ih =>
    intro is listed hall hch C hN s a w x hQ
    cases is with
    | nil => exact hall.elim
    | cons i is =>
      simp only [drawChkD, Bool.and_eq_true] at hch
      obtain ⟨h1, h2⟩ := hch
      have ho := hall.1
      rw [ho] at h1
      dsimp only at h1
      have hi : ops[i]? = some o := by have := nth_some ho; simpa using this
      cases hq : isQuiet T o.op with
      | true =>
        rw [hq, cond_true, Bool.and_eq_true] at h1
        obtain ⟨val, q1, s', q2⟩ := xopD_quiet HT (hN o (by simp)) hq x
        exact wpAnyF_take hi hs h1.2 h1.1 (fun c a w q => absurd q (hQp c _ w)) q1 (Same.refl _ w) (ih is _ hall.2 h2 C (fun o' ho' => hN o' (List.mem_cons_of_mem _ ho')) s' _ w q2 hQ)
      | false =>
        rw [hq, cond_false] at h1
        have hr : Region.ready .any ops listed = [i] := by
          split at h1
          · rename_i j e
            rw [e, beq_nat h1]
          · cases h1
        refine wpAnyF_one hr (wpOp_mono ?_ (xopD_eff HT hi (hN o (by simp)) hq x))
        rintro a' w' ⟨C', s', hk, ⟨f1, f2, f3⟩, hx⟩
        refine ⟨Same (eraCx C' Wr) w', fun y hy b hb hF => ?_, Same.refl _ w', ih is _ hall.2 h2 C' (fun o' ho' d hd => by rw [hk.2.2.2.2]; exact hN o' (List.mem_cons_of_mem _ ho') d hd) s' a' w' hx (fun C2 s2 a2 w2 hk2 => hQ C2 s2 a2 w2 (hk.trans hk2))⟩
        have hF' : ¬ (eraCx C' Wr).F b := by
          rintro (hF' | ⟨id, hid, e⟩)
          · exact hF (.inl (by rw [← hk.1]; exact hF'))
          · exact hF (.inr ⟨id, hid, by rw [e, f3 id hid]⟩)
        rw [hy b (by omega) hF']
        exact f1 b hb (fun id hid e => hF (.inr ⟨id, hid, e⟩))
end
end Go.Proofs.Ytaghkmaelbgljaa.VX

set_option linter.unusedVariables false
namespace Go.Proofs.Ytaghkmaelbgljaa.VX
structure W (α : Type) where
  pr : (α → Prop) → Prop
  mn : ∀ {R R' : α → Prop}, (∀ a, R a → R' a) → pr R → pr R'
/-- That it answers as is wanted. (A definition, not the projection: the kernel compares its arguments first.) -/
def W.run {α : Type} (x : W α) (R : α → Prop) : Prop := x.pr R
theorem W.mono {α : Type} (x : W α) {R R' : α → Prop} (h : ∀ a, R a → R' a) (r : x.run R) : x.run R' := x.mn h r
namespace W
variable {α β σ ε : Type}
def ret (a : α) : W α := ⟨fun R => R a, fun h r => h _ r⟩
def bind (x : W α) (f : α → W β) : W β := ⟨fun R => x.run fun a => (f a).run R, fun h r => x.mono (fun a q => (f a).mono h q) r⟩
def need (c : Prop) (x : W α) : W α := ⟨fun R => XNeed c (x.run R), fun h r => ⟨r.c, x.mono h r.x⟩⟩
def ite (b : Bool) (x y : W α) : W α := ⟨fun R => XSplit b (x.run R) (y.run R), fun h r => ⟨fun e => x.mono h (r.t e), fun e => y.mono h (r.f e)⟩⟩
def fail : W α := ⟨fun _ => False, fun _ r => r⟩
/-- Either of both. -/
def on {α β : Type} (f : α → Prop) (g : β → Prop) : α ⊕ β → Prop
  | .inl a => f a
  | .inr b => g b
theorem on_mono {f f' : α → Prop} {g g' : β → Prop} (h : ∀ a, f a → f' a) (h' : ∀ b, g b → g' b) : ∀ x, on f g x → on f' g' x
  | .inl a, q => h a q
  | .inr b, q => h' b q
/-- From what holds of all that is closed under the rounds. -/
def loop (f : σ → W (σ ⊕ ε)) (s : σ) : W ε :=
  ⟨fun R => ∀ I : σ → Prop, (∀ s, (f s).run (on I R) → I s) → I s, fun h r I hI => r I fun s q => hI s ((f s).mono (on_mono (fun _ => id) h) q)⟩
/-- Go on, or be done. -/
def els (f : α → W β) : α ⊕ β → W β
  | .inl a => f a
  | .inr b => ret b

theorem bindE {x : W α} {f : α → W β} {R : β → Prop} (h : (bind x f).run R) : x.run fun a => (f a).run R := h
/-- The one or the other goes on. -/
def sum {γ : Type} (f : α → W γ) (g : β → W γ) : α ⊕ β → W γ
  | .inl a => f a
  | .inr b => g b
theorem call {x : W α} {f : α → W β} {R : β → Prop} {R' : α → Prop} (h : (bind x f).run R) (k : ∀ a, (f a).run R → R' a) : x.run R' := x.mono k h
theorem loop_unroll {f : σ → W (σ ⊕ ε)} {s : σ} {R : ε → Prop} (h : (f s).run (on (fun s' => (loop f s').run R) R)) : (loop f s).run R :=
  fun I hI => hI s ((f s).mono (on_mono (fun s' q => q I hI) fun _ => id) h)
/-- A loop by what holds at its head and what falls from round to round. -/
theorem loop_inv {f : σ → W (σ ⊕ ε)} {R : ε → Prop} (I : σ → Prop) (μ : σ → Nat) (h : ∀ s, I s → (f s).run (on (fun s' => I s' ∧ μ s' < μ s) R)) {s : σ} (hs : I s) : (loop f s).run R := by
  have key : ∀ n s, μ s = n → I s → (loop f s).run R := by
    intro n
    induction n using Nat.strongRecOn with
    | _ n ih =>
      intro s hn hs
      exact loop_unroll ((f s).mono (on_mono (fun s' q => ih (μ s') (hn ▸ q.2) s' rfl q.1) fun _ => id) (h s hs))
  exact key _ s rfl hs

@[simp] theorem run_ret {a : α} {R : α → Prop} : (ret a).run R = R a := rfl
@[simp] theorem run_bind {x : W α} {f : α → W β} {R : β → Prop} : (bind x f).run R = x.run fun a => (f a).run R := rfl
@[simp] theorem run_need {c : Prop} {x : W α} {R : α → Prop} : (need c x).run R ↔ c ∧ x.run R := ⟨fun h => ⟨h.c, h.x⟩, fun h => ⟨h.1, h.2⟩⟩
@[simp] theorem run_ite {b : Bool} {x y : W α} {R : α → Prop} : (ite b x y).run R ↔ if b = true then x.run R else y.run R := by
  cases b
  · exact ⟨fun h => by simpa using h.f rfl, fun h => ⟨(fun e => nomatch e), fun _ => by simpa using h⟩⟩
  · exact ⟨fun h => by simpa using h.t rfl, fun h => ⟨fun _ => by simpa using h, (fun e => nomatch e)⟩⟩
@[simp] theorem on_inl {f : α → Prop} {g : β → Prop} {a : α} : on f g (.inl a) = f a := rfl
@[simp] theorem on_inr {f : α → Prop} {g : β → Prop} {b : β} : on f g (.inr b) = g b := rfl
@[simp] theorem sum_inl {γ : Type} {f : α → W γ} {g : β → W γ} {a : α} : sum f g (.inl a) = f a := rfl
@[simp] theorem sum_inr {γ : Type} {f : α → W γ} {g : β → W γ} {b : β} : sum f g (.inr b) = g b := rfl
@[simp] theorem els_inl {f : α → W β} {a : α} : els f (.inl a) = f a := rfl
@[simp] theorem els_inr {f : α → W β} {b : β} : els f (.inr b) = ret b := rfl
end W
/-- Rws of cells, as slices read: numbers as int64's, bools, strings, slices of no type's number. -/
abbrev Rws := List (List AV)
/-- A cell of a row, as a number, a bool, a string, the head and the rows of a slice. -/
def ri (l : Rws) (i j : Nat) : Int := (cellOf l i j).toInt
def rb (l : Rws) (i j : Nat) : Bool := (cellOf l i j).toBool
def rs (l : Rws) (i j : Nat) : ByteArray := (cellOf l i j).toStr
def rn (l : Rws) (i j : Nat) : Bool := (cellOf l i j).toNil
def rr (l : Rws) (i j : Nat) : Rws := (cellOf l i j).toRows
abbrev I (n : Int) : AV := .int .i64 n
abbrev B (b : Bool) : AV := .bool b
abbrev L (b : Bool) (l : Rws) : AV := .sl b 0 l
end Go.Proofs.Ytaghkmaelbgljaa.VX

namespace Go.Proofs.Ytaghkmaelbgljaa.VX
section
variable {P : Program} {T : Tab} {C C' : Cx} {s s' : St} {a : Act} {w w' : World}

def opsLt (N : Nat) : List Oper → Bool
  | [] => true
  | o :: r => (match o.dst with | some d => Nat.blt d N | none => true) && opsLt N r
def codeOK (N : Nat) : Code → Bool
  | .region _ ops _ => opsLt N ops.toList
  | .seq a b => codeOK N a && codeOK N b
  | .cond _ a b => codeOK N a && codeOK N b
  | .block _ b => codeOK N b
  | .loop b => codeOK N b
  | _ => true
theorem opsLt_spec {N : Nat} {l : List Oper} (h : opsLt N l = true) : ∀ o ∈ l, ∀ d, o.dst = some d → d < N := by
  induction l with
  | nil => simp
  | cons o r ih =>
    simp only [opsLt, Bool.and_eq_true] at h
    intro o' ho' d hd
    rcases List.mem_cons.1 ho' with rfl | ho'
    · rw [hd] at h; simpa [Nat.blt_eq] using h.1
    · exact ih h.2 o' ho' d hd

theorem pickAll_eq {ops : List Oper} : ∀ (is : List Nat) {K : List Oper → Prop}, pickAll ops is K → ∃ l, all2 (fun o i => nth ops i = some o) l is ∧ K l
  | [], _, h => ⟨[], trivial, h⟩
  | i :: r, K, h => by
    simp only [pickAll] at h
    cases ho : nth ops i with
    | none => rw [ho] at h; exact h.elim
    | some o =>
      rw [ho] at h
      obtain ⟨l, h1, h2⟩ := pickAll_eq r h
      exact ⟨o :: l, ⟨ho, h1⟩, h2⟩

theorem pick_mem {ops : List Oper} : ∀ (is : List Nat) (l : List Oper), all2 (fun o i => nth ops i = some o) l is → ∀ o ∈ l, o ∈ ops := by
  intro is
  induction is with
  | nil => intro l hl; cases l with
    | nil => simp
    | cons _ _ => exact hl.elim
  | cons i is ih => intro l hl; cases l with
    | nil => simp
    | cons o r =>
      intro o' ho'
      rcases List.mem_cons.1 ho' with rfl | ho'
      · exact List.mem_of_getElem? (nth_some hl.1)
      · exact ih r hl.2 o' ho'
/-- What holds at the end of a piece of code. -/
def QX (T : Tab) (C0 : Cx) (kn : St → Prop) (ke : Exit → St → Prop) (e : Exit) (a : Act) (w : World) : Prop :=
  ∃ C s, KeepC C0 C ∧ CS T C s a w ∧ s.gs = [] ∧ s.kn = [] ∧ match e with
    | .normal => kn s
    | .exit i => ke (.exit i) s
    | .ret => ke .ret s
    | _ => False

theorem clrK_eq : ∀ {env : List (Nat × AV)} {K : List (Nat × AV) → Prop}, clrK env K → ∃ env', K env' ∧ ∀ t, getE env' t = .dead ∨ (getE env' t = getE env t ∧ isOpt (getE env t) = false)
  | [], K, h => ⟨[], h, fun t => .inr ⟨rfl, rfl⟩⟩
  | (t0, v) :: r, K, h => by
    simp only [clrK] at h
    cases hv : isOpt v with
    | true =>
      rw [hv] at h
      obtain ⟨env', h1, h2⟩ := clrK_eq h
      refine ⟨_, h1, fun t => ?_⟩
      rw [getE_cons, getE_cons]
      split
      · exact .inl rfl
      · exact h2 t
    | false =>
      rw [hv] at h
      obtain ⟨env', h1, h2⟩ := clrK_eq h
      refine ⟨_, h1, fun t => ?_⟩
      rw [getE_cons, getE_cons]
      split
      · exact .inr ⟨rfl, hv⟩
      · exact h2 t

theorem endR_sound (hc : CS T C s a w) {k : St → Prop} (h : endR s k) : ∃ s', CS T C s' a w ∧ s'.gs = [] ∧ s'.kn = [] ∧ k s' := by
  unfold endR at h
  split at h
  · exact ⟨_, hc, rfl, rfl, h⟩
  · rename_i env hp nx gs kn _
    obtain ⟨env', h1, h2⟩ := clrK_eq h
    refine ⟨⟨env', hp, nx, [], []⟩, ⟨fun t => ?_, hc.blk, hc.nx, hc.inj, hc.own, hc.g, hc.ge, hc.pin, by simp, hc.defers, hc.sz, hc.f, hc.io⟩, rfl, rfl, h1⟩
    dsimp only
    rcases h2 t with q | ⟨q1, q2⟩
    · rw [q]; exact trivial
    · rw [q1]
      have := hc.env t
      revert this q2
      dsimp only
      cases getE env t
      case opt ch y => intro q2; cases q2
      all_goals exact fun _ h => h

theorem drawn_sound (HT : tabOK P T = true) {ops : Array Oper} {k : St → Prop} {Q : Exit → Act → World → Prop} (hQp : ∀ c a w, ¬ Q (.panic c) a w) (hs : Region.noSelect ops = true) {w0 : World} :
    ∀ (l : List Oper) (is : List Nat) (listed : Array Bool), all2 (fun o i => nth ops.toList i = some o) l is → drawChk T ops is listed = true → (∀ o ∈ l, ∀ d, o.dst = some d → d < C.N) →
    ∀ (s : St) (a : Act), XAt P T C ops.toList l k s a w0 → (∀ s' a', CS T C s' a' w0 → k s' → Q .normal a' w0) → wpAnyH P .any ops Q (· = w0) l.length listed a w0 := by
  intro l
  induction l with
  | nil =>
    intro is listed hall hch _ s a x hQ
    cases is with
    | nil =>
      simp only [drawChk] at hch
      have hgo := x.go
      simp only [xops_nil] at hgo
      refine wpAnyH_done ?_ (hQ s a x.cs hgo) _
      split at hch
      · assumption
      · cases hch
    | cons _ _ => exact hall.elim
  | cons o r ih =>
    intro is listed hall hch hN s a x hQ
    cases is with
    | nil => exact hall.elim
    | cons i is =>
      simp only [drawChk, Bool.and_eq_true] at hch
      obtain ⟨⟨⟨h1, h2⟩, h3⟩, h4⟩ := hch
      have ho := hall.1
      rw [ho] at h3
      obtain ⟨val, q1, s', q2⟩ := xop_quiet HT (hN o (by simp)) h3 x
      have hi : ops[i]? = some o := by have := nth_some ho; simpa using this
      exact wpAnyH_take hi hs h2 h1 (fun c a w q => absurd q (hQp c _ w)) (q1.imp (fun ⟨z1, z2⟩ => ⟨z1, fun w' e => z2 w' (by subst e; exact Same.refl C _)⟩) id) rfl (ih is _ hall.2 h4 (fun o' ho' => hN o' (List.mem_cons_of_mem _ ho')) s' _ q2 hQ)

theorem xregion_sound (HT : tabOK P T = true) (hm : P.follows .mixedOrders = true) {C0 : Cx} (hk : KeepC C0 C) (hc : CS T C s a w) (hgs : s.gs = []) (hkn : s.kn = []) {id : Nat} {ops : Array Oper} {draw : Bool} {kn : St → Prop} {ke : Exit → St → Prop} (hN : opsLt C.N ops.toList = true)
    (h : xregion T (ACalls P T) ops draw s.env s.heap s.nx fun st => endR st kn) : (Code.region id ops draw).wp P (QX T C0 kn ke) a w := by
  obtain ⟨env, hp, nx, gs, kk⟩ := s
  dsimp only at hgs hkn h
  subst hgs hkn
  have hgi : ∀ l, GInv ops.toList l ⟨env, hp, nx, [], []⟩ := fun l => ⟨fun j b d b' h1 => by simp [gsGet] at h1, fun j d h1 => by simp [gsGet] at h1, fun j h1 => by simp [gsGet] at h1⟩
  have fin : ∀ C' s' a' w', KeepC C C' → CS T C' s' a' w' → endR s' kn → QX T C0 kn ke .normal a' w' := fun C' s' a' w' q1 q2 q3 => by
    obtain ⟨s2, r1, r2, r3, r4⟩ := endR_sound q2 q3
    exact ⟨C', s2, hk.trans q1, r1, r2, r3, r4⟩
  unfold xregion at h
  cases draw with
  | false =>
    refine wp_region (xops_sound HT (C := C) ops.toList (List.range ops.size) (all2_of (by simp) ?_) (opsLt_spec hN) C _ a w (KeepC.refl C) ⟨hc, hgi _, h⟩ fin)
    intro i x y h1 h2
    have : y = i := by
      rw [List.getElem?_range] at h2
      · exact (Option.some.inj h2).symm
      · have := (List.getElem?_eq_some_iff.1 h2).1; simpa using this
    subst this
    simpa using h1
  | true =>
    rcases h.ex with ⟨order, hok, h⟩ | ⟨order, hok, h⟩
    case inr =>
      obtain ⟨Wr, h⟩ := wrK_eq h
      simp only [drawOKD, Bool.and_eq_true] at hok
      obtain ⟨⟨h1, h2⟩, h3⟩ := hok
      obtain ⟨l, q1, q2⟩ := pickAll_eq order h
      have key := drawnD_sound (P := P) (ops := ops) (k := fun st => endR st kn) (Q := QX T C0 kn ke) HT (fun c a w => by rintro ⟨_, _, _, _, _, _, h⟩; exact h) h1 l order _ q1 h3 C
        (fun o ho d hd => opsLt_spec hN o (pick_mem order l q1 o ho) d hd) _ a { w with drawn := w.drawn + 1 } ⟨hc.world rfl, hgi _, q2⟩ fin
      have hlen : l.length = ops.size := by rw [all2_len q1]; exact beq_nat h2
      rw [hlen] at key
      exact wp_region_grown hm key
    simp only [drawOK, Bool.and_eq_true] at hok
    obtain ⟨⟨h1, h2⟩, h3⟩ := hok
    obtain ⟨l, q1, q2⟩ := pickAll_eq order h
    have hmem : ∀ (is : List Nat) (l : List Oper), all2 (fun o i => nth ops.toList i = some o) l is → ∀ o ∈ l, o ∈ ops.toList := by
      intro is
      induction is with
      | nil => intro l hl; cases l with
        | nil => simp
        | cons _ _ => exact hl.elim
      | cons i is ih => intro l hl; cases l with
        | nil => simp
        | cons o r =>
          intro o' ho'
          rcases List.mem_cons.1 ho' with rfl | ho'
          · exact List.mem_of_getElem? (nth_some hl.1)
          · exact ih r hl.2 o' ho'
    refine wp_region_held (S := (· = { w with drawn := w.drawn + 1 })) hm ?_
    have hlen : l.length = ops.size := by rw [all2_len q1]; exact beq_nat h2
    have key := drawn_sound (ops := ops) (k := fun st => endR st kn) (Q := QX T C0 kn ke) HT (C := C) (w0 := { w with drawn := w.drawn + 1 }) (fun c a w => by rintro ⟨_, _, _, _, _, _, h⟩; exact h) h1 l order _ q1 h3 (fun o ho d hd => opsLt_spec hN o (hmem order l q1 o ho) d hd) _ a ⟨hc.world rfl, hgi _, q2⟩
      (fun s' a' q3 q4 => fin C s' a' _ (KeepC.refl C) q3 q4)
    rw [hlen] at key
    exact key

/-- Two pieces of code, one behind the other, where the first has several ways. -/
def ASeq (P : Program) (T : Tab) : SeqR := fun x y st kn ke => ∀ (C : Cx) (a : Act) (w : World), codeOK C.N (.seq x y) = true → (∀ id, C.pin id = none) → CS T C st a w → st.gs = [] → st.kn = [] → (Code.seq x y).wp P (QX T C kn ke) a w
/-- From the head of a loop. -/
def loopFrom (P : Program) (c : Code) (Q : Exit → Act → World → Prop) (a : Act) (w : World) : Prop :=
  ∀ (b : Frame) (k : List Item) (cs : List Frame), ∃ e a' w', Q e a' w' ∧ Arrives P (lone (b.at a (.code c :: .inLoop c :: k)) cs w) b k cs e a' w'
theorem loopFrom_wp {c : Code} {Q : Exit → Act → World → Prop} (h : loopFrom P c Q a w) : (Code.loop c).wp P Q a w := fun b k cs =>
  let ⟨e, a', w', hq, harr⟩ := h b k cs
  ⟨e, a', w', hq, .of_steps (.one step_loop) harr⟩
theorem loopFrom.unroll {c : Code} {Q : Exit → Act → World → Prop} (h : c.wp P (Exit.then (loopFrom P c Q) Q) a w) : loopFrom P c Q a w := by
  intro b k cs
  obtain ⟨e, a₁, w₁, hq, harr⟩ := h b (.inLoop c :: k) cs
  cases e with
  | normal =>
    obtain ⟨e₂, a₂, w₂, hq₂, harr₂⟩ := hq b k cs
    exact ⟨e₂, a₂, w₂, hq₂, .of_steps (Steps.trans harr (.one step_inLoop)) harr₂⟩
  | exit id => exact ⟨_, a₁, w₁, hq, .pass (x := .inLoop c) rfl (fun _ _ => .inl (by simp)) harr⟩
  | goto l => exact ⟨_, a₁, w₁, hq, .pass (x := .inLoop c) rfl (fun _ _ => .inl (by simp)) harr⟩
  | ret => exact ⟨_, a₁, w₁, hq, .pass (x := .inLoop c) rfl (fun _ _ => .inl (by simp)) harr⟩
  | panic ch => exact ⟨_, a₁, w₁, hq, .pass (x := .inLoop c) rfl (fun _ _ => .inl (by simp)) harr⟩
  | outgrown => exact ⟨_, a₁, w₁, hq, .pass (x := .inLoop c) rfl (fun _ _ => .inl (by simp)) harr⟩
theorem loopFrom.mono {c : Code} {Q Q' : Exit → Act → World → Prop} (h : loopFrom P c Q a w) (hq : ∀ e a w, Q e a w → Q' e a w) : loopFrom P c Q' a w := fun b k cs =>
  let ⟨e, a', w', q, harr⟩ := h b k cs
  ⟨e, a', w', hq _ _ _ q, harr⟩

/-- A loop: whatever stands as the state says. -/
def ALoop (P : Program) (T : Tab) : LoopR := fun b st ke => ∀ (C : Cx) (a : Act) (w : World), codeOK C.N b = true → (∀ id, C.pin id = none) → CS T C st a w → st.gs = [] → st.kn = [] → loopFrom P b (QX T C (fun _ => False) ke) a w

theorem QX.mono {C0 C1 : Cx} (hk : KeepC C0 C1) {kn kn' : St → Prop} {ke ke' : Exit → St → Prop} (h1 : ∀ s, kn s → kn' s) (h2 : ∀ e s, ke e s → ke' e s) (e : Exit) (a : Act) (w : World) : QX T C1 kn ke e a w → QX T C0 kn' ke' e a w := by
  rintro ⟨C', s', q1, q2, q3, q4, q5⟩
  refine ⟨C', s', hk.trans q1, q2, q3, q4, ?_⟩
  cases e <;> first | exact h1 _ q5 | exact h2 _ _ q5 | exact q5

theorem xcode_sound (HT : tabOK P T = true) (hm : P.follows .mixedOrders = true) (c : Code) : ∀ {C0 C : Cx} {s : St} {a : Act} {w : World} {kn : St → Prop} {ke : Exit → St → Prop}, codeOK C.N c = true → (∀ id, C.pin id = none) → KeepC C0 C → CS T C s a w → s.gs = [] → s.kn = [] →
    xcode T (ACalls P T) (ALoop P T) (ASeq P T) c s kn ke → c.wp P (QX T C0 kn ke) a w := by
  induction c with
  | skip => exact fun _ hp hk hc h1 h2 h => wp_skip ⟨_, _, hk, hc, h1, h2, h⟩
  | region id ops draw =>
    intro C0 C s a w kn ke hN hp hk hc h1 h2 h
    exact xregion_sound HT hm hk hc h1 h2 hN h
  | seq x y ihx ihy =>
    intro C0 C s a w kn ke hN hp hk hc h1 h2 h
    rw [xcode_seq] at h
    cases hpl : plainC T x with
    | false =>
      rw [hpl] at h
      exact wp_mono (h C a w hN hp hc h1 h2) (QX.mono hk (fun _ => id) (fun _ _ => id))
    | true =>
    rw [hpl] at h
    simp only [codeOK, Bool.and_eq_true] at hN
    refine wp_seq (wp_mono (ihx hN.1 hp hk hc h1 h2 h) ?_)
    rintro e a' w' ⟨C', s', q1, q2, q3, q4, q5⟩
    cases e with
    | normal => exact ihy (by rw [q1.2.2.2.2, ← hk.2.2.2.2]; exact hN.2) (fun id => by rw [q1.2.2.2.1, ← hk.2.2.2.1]; exact hp id) q1 q2 q3 q4 q5
    | _ => exact ⟨C', s', q1, q2, q3, q4, q5⟩
  | cond c x y ihx ihy =>
    intro C0 C s a w kn ke hN hp hk hc h1 h2 h
    obtain ⟨env, hp0, nx, gs, kk⟩ := s
    dsimp only at h1 h2
    subst h1 h2
    simp only [codeOK, Bool.and_eq_true] at hN
    have hv := opd_rep hc (ch := []) (by simp) c
    rw [xcode_cond] at h
    dsimp only at hv
    split at h
    · rename_i e
      rw [e] at hv
      exact wp_cond_true hv (ihx hN.1 hp hk hc rfl rfl h)
    · rename_i e
      rw [e] at hv
      exact wp_cond_false hv (ihy hN.2 hp hk hc rfl rfl h)
    · rename_i b e
      rw [e] at hv
      exact wp_cond_split hv (fun q => ihx hN.1 hp hk hc rfl rfl (h.t q)) (fun q => ihy hN.2 hp hk hc rfl rfl (h.f q))
    · exact h.elim
  | block id b ih =>
    intro C0 C s a w kn ke hN hp hk hc h1 h2 h
    refine wp_block (wp_mono (ih hN hp hk hc h1 h2 h) ?_)
    rintro e a' w' ⟨C', s', q1, q2, q3, q4, q5⟩
    cases e with
    | exit i =>
      simp only [Exit.inBlock]
      dsimp only at q5
      split
      · rename_i e
        subst e
        rw [Nat.beq_refl] at q5
        exact ⟨C', s', q1, q2, q3, q4, q5⟩
      · rename_i e
        rw [beq_false e] at q5
        exact ⟨C', s', q1, q2, q3, q4, q5⟩
    | _ => exact ⟨C', s', q1, q2, q3, q4, q5⟩
  | loop b ih =>
    intro C0 C s a w kn ke hN hp hk hc h1 h2 h
    exact wp_mono (loopFrom_wp (h C a w hN hp hc h1 h2)) (QX.mono hk (fun _ => False.elim) (fun _ _ => id))
  | exit id => exact fun _ hp hk hc h1 h2 h => wp_exit ⟨_, _, hk, hc, h1, h2, h⟩
  | label l => exact fun _ hp hk hc h1 h2 h => wp_label ⟨_, _, hk, hc, h1, h2, h⟩
  | ret => exact fun _ hp hk hc h1 h2 h => wp_ret ⟨_, _, hk, hc, h1, h2, h⟩
  | _ => intros; rename_i h; exact h.elim

/-- A round of a loop, gone through. -/
theorem ALoop.unroll (HT : tabOK P T = true) (hm : P.follows .mixedOrders = true) {b : Code} {ke : Exit → St → Prop} {kn : St → Prop} (hkn : ∀ st, kn st → ALoop P T b st ke) (h : xcode T (ACalls P T) (ALoop P T) (ASeq P T) b s kn ke) : ALoop P T b s ke := by
  intro C a w hN hp hc h1 h2
  refine loopFrom.unroll (wp_mono (xcode_sound HT hm b hN hp (KeepC.refl C) hc h1 h2 h) ?_)
  rintro e a' w' ⟨C', s', q1, q2, q3, q4, q5⟩
  cases e with
  | normal => exact (hkn _ q5 C' a' w' (by rw [q1.2.2.2.2]; exact hN) (fun id => by rw [q1.2.2.2.1]; exact hp id) q2 q3 q4).mono (QX.mono q1 (fun _ => id) (fun _ _ => id))
  | _ => exact ⟨C', s', q1, q2, q3, q4, q5⟩

/-- What stands as the one says stands as the other says. -/
def Weak (T : Tab) (st st' : St) : Prop := ∀ (C : Cx) (a : Act) (w : World), (∀ id, C.pin id = none) → CS T C st a w → st.gs = [] → st.kn = [] → ∃ C', KeepC C C' ∧ CS T C' st' a w ∧ st'.gs = [] ∧ st'.kn = []
theorem ALoop.weak {b : Code} {st st' : St} {ke : Exit → St → Prop} (h : ALoop P T b st' ke) (hw : Weak T st st') : ALoop P T b st ke := by
  intro C a w hN hp hc h1 h2
  obtain ⟨C', hk, hc', h1', h2'⟩ := hw C a w hp hc h1 h2
  exact (h C' a w (by rw [hk.2.2.2.2]; exact hN) (fun id => by rw [hk.2.2.2.1]; exact hp id) hc' h1' h2').mono (QX.mono hk (fun _ => id) (fun _ _ => id))
/-- A loop by its states and what falls from round to round. -/
theorem ALoop.inv {ι : Type} (HT : tabOK P T = true) (hm : P.follows .mixedOrders = true) {b : Code} {ke : Exit → St → Prop} (S : ι → St) (μ : ι → Nat)
    (h : ∀ i, xcode T (ACalls P T) (ALoop P T) (ASeq P T) b (S i) (fun st => ∃ j, μ j < μ i ∧ Weak T st (S j)) ke) : ∀ i, ALoop P T b (S i) ke := by
  have key : ∀ n i, μ i = n → ALoop P T b (S i) ke := by
    intro n
    induction n using Nat.strongRecOn with
    | _ n ih =>
      intro i hi
      refine ALoop.unroll HT hm ?_ (h i)
      rintro st ⟨j, hj, hw⟩
      exact (ih (μ j) (hi ▸ hj) j rfl).weak hw
  exact fun i => key _ i rfl
/-- Both, the one gone through behind each end of the other. -/
theorem ASeq.go (HT : tabOK P T = true) (hm : P.follows .mixedOrders = true) {x y : Code} {kn : St → Prop} {ke : Exit → St → Prop}
    (h : xcode T (ACalls P T) (ALoop P T) (ASeq P T) x s (fun st' => xcode T (ACalls P T) (ALoop P T) (ASeq P T) y st' kn ke) ke) : ASeq P T x y s kn ke := by
  intro C a w hN hp hc h1 h2
  simp only [codeOK, Bool.and_eq_true] at hN
  refine wp_seq (wp_mono (xcode_sound HT hm x hN.1 hp (KeepC.refl C) hc h1 h2 h) ?_)
  rintro e a' w' ⟨C', s', q1, q2, q3, q4, q5⟩
  cases e with
  | normal => exact xcode_sound HT hm y (by rw [q1.2.2.2.2]; exact hN.2) (fun id => by rw [q1.2.2.2.1]; exact hp id) q1 q2 q3 q4 q5
  | _ => exact ⟨C', s', q1, q2, q3, q4, q5⟩
/-- Both, the ends of the one brought together. -/
theorem ASeq.join {σ : Type} (HT : tabOK P T = true) (hm : P.follows .mixedOrders = true) {x y : Code} {kn : St → Prop} {ke : Exit → St → Prop} (S : σ → St) (R : σ → Prop)
    (h : xcode T (ACalls P T) (ALoop P T) (ASeq P T) x s (fun st' => ∃ v, Weak T st' (S v) ∧ R v) ke) (hy : ∀ v, R v → xcode T (ACalls P T) (ALoop P T) (ASeq P T) y (S v) kn ke) : ASeq P T x y s kn ke := by
  intro C a w hN hp hc h1 h2
  simp only [codeOK, Bool.and_eq_true] at hN
  refine wp_seq (wp_mono (xcode_sound HT hm x hN.1 hp (KeepC.refl C) hc h1 h2 h) ?_)
  rintro e a' w' ⟨C', s', q1, q2, q3, q4, q5⟩
  cases e with
  | normal =>
    obtain ⟨v, hw, hr⟩ := q5
    have hp' : ∀ id, C'.pin id = none := fun id => by rw [q1.2.2.2.1]; exact hp id
    obtain ⟨C2, hk2, hc2, r1, r2⟩ := hw C' a' w' hp' q2 q3 q4
    have q12 := q1.trans hk2
    exact xcode_sound HT hm y (by rw [q12.2.2.2.2]; exact hN.2) (fun id => by rw [q12.2.2.2.1]; exact hp id) q12 hc2 r1 r2 (hy v hr)
  | _ => exact ⟨C', s', q1, q2, q3, q4, q5⟩
/-- A loop by its pure form. -/
theorem ALoop.ofW {σ ε : Type} (HT : tabOK P T = true) (hm : P.follows .mixedOrders = true) {f : σ → W (σ ⊕ ε)} {K : ε → Prop} {b : Code} {ke : Exit → St → Prop} (S : σ → St) (Sx : ε → Exit × St)
    {s0 : σ} {st : St} (h : (W.loop f s0).run K) (hw : Weak T st (S s0))
    (hb : ∀ (s : σ) (I : σ → Prop) (Q : ε → Prop), (f s).run (W.on I Q) → xcode T (ACalls P T) (ALoop P T) (ASeq P T) b (S s) (fun st' => ∃ s', Weak T st' (S s') ∧ I s') (fun e st' => ∃ v, e = (Sx v).1 ∧ Weak T st' (Sx v).2 ∧ Q v))
    (hx : ∀ v, K v → ke (Sx v).1 (Sx v).2) : ALoop P T b st ke := by
  refine ALoop.weak ?_ hw
  refine h (fun s => ALoop P T b (S s) ke) fun s hs C a w hN hp hc h1 h2 => ?_
  refine loopFrom.unroll (wp_mono (xcode_sound HT hm b hN hp (KeepC.refl C) hc h1 h2 (hb s _ K hs)) ?_)
  rintro e a' w' ⟨C', s', q1, q2, q3, q4, q5⟩
  have hp' : ∀ id, C'.pin id = none := fun id => by rw [q1.2.2.2.1]; exact hp id
  have fin : ∀ e, (∃ v, e = (Sx v).1 ∧ Weak T s' (Sx v).2 ∧ K v) → ∃ C2 s2, KeepC C C2 ∧ CS T C2 s2 a' w' ∧ s2.gs = [] ∧ s2.kn = [] ∧ ke e s2 := by
    rintro e ⟨v, rfl, hw2, hv⟩
    obtain ⟨C2, hk2, hc2, r1, r2⟩ := hw2 C' a' w' hp' q2 q3 q4
    exact ⟨C2, _, q1.trans hk2, hc2, r1, r2, hx v hv⟩
  cases e with
  | normal =>
    obtain ⟨s'', hw2, hl⟩ := q5
    obtain ⟨C2, hk2, hc2, r1, r2⟩ := hw2 C' a' w' hp' q2 q3 q4
    have q12 := q1.trans hk2
    exact (hl C2 a' w' (by rw [q12.2.2.2.2]; exact hN) (fun id => by rw [q12.2.2.2.1]; exact hp id) hc2 r1 r2).mono (QX.mono q12 (fun _ => id) (fun _ _ => id))
  | exit i =>
    obtain ⟨C2, s2, r1, r2, r3, r4, r5⟩ := fin _ q5
    exact ⟨C2, s2, r1, r2, r3, r4, r5⟩
  | ret =>
    obtain ⟨C2, s2, r1, r2, r3, r4, r5⟩ := fin _ q5
    exact ⟨C2, s2, r1, r2, r3, r4, r5⟩
  | _ => exact q5.elim
attribute [irreducible] ALoop ASeq
end
end Go.Proofs.Ytaghkmaelbgljaa.VX

namespace Go.Proofs.Ytaghkmaelbgljaa.VX
section
variable {P : Program} {T : Tab} {C C' : Cx} {s s' : St} {a : Act} {w w' : World}

/-- What is handed on, by value. -/
def outC (h : Hp) : AV → AV
  | .own id => match getB h id with
    | .arr _ t b l => .sl b t l
    | _ => .dead
  | .ptr _ _ => .dead
  | .vw _ _ _ => .dead
  | .elt _ _ _ => .dead
  | .fn f [] [] => .fn f [] []
  | .fn _ _ _ => .dead
  | v => v
def outA (h : Hp) (v : AV) (K : AV → Prop) : Prop :=
  match v with
  | .agg l => mapK (outC h) l fun l' => K (.agg l')
  | v => forceK (outC h v) K
def outA' (h : Hp) : AV → AV
  | .agg l => .agg (l.map (outC h))
  | v => outC h v
def outL (h : Hp) : List AV → (List AV → Prop) → Prop
  | [], K => K []
  | v :: r, K => outA h v fun v' => outL h r fun l => K (v' :: l)
def isRes : AV → Bool
  | .tup _ => false
  | .iface _ _ => false
  | .opt _ _ => false
  | _ => true
def allRes : List AV → Bool
  | [] => true
  | v :: r => isRes v && allRes r
/-- Where a body ends. -/
def xend (T : Tab) (rs : List ResultVar) (R : AV → List AB → Prop) (st : St) : Prop :=
  match st with
  | ⟨env, h, _, _, _⟩ => xres T env h rs fun l => bif allRes l then match l with
    | [v] => outA h v fun v' => R v' []
    | l => outL h l fun l' => R (.tup l') []
    else False
theorem outA_eq (h : Hp) (v : AV) (K : AV → Prop) : outA h v K = K (outA' h v) := by
  unfold outA outA'
  cases v <;> simp [mapK_eq, forceK_eq]
theorem outL_eq (h : Hp) : ∀ (l : List AV) (K : List AV → Prop), outL h l K = K (l.map (outA' h))
  | [], _ => rfl
  | v :: r, K => by simp [outL, outA_eq, outL_eq h r]

/-- The world behind a body, its own blocks forgotten. -/
def outCx (C : Cx) (N : Nat) : Cx := { C with N := N }

theorem outC_rep (hc : CS T C s a w) {N : Nat} {x : AV} {v : Value} (h : RpK T C s w x v) : RpK T (outCx C N) (stOf []) w (outC s.heap x) v := by
  have hno : ∀ id, ownB (outCx C N) (stOf []).heap id = none := fun id => rfl
  have hX : ∀ b, XB (outCx C N) (stOf []).heap b → XB C s.heap b := fun b hb => by
    rcases hb with hb | ⟨id, hb⟩
    · exact .inl hb
    · rw [hno] at hb; cases hb
  have hF : ∀ b, XB (outCx C N) (stOf []).heap b → C.F b := fun b hb => by
    rcases hb with hb | ⟨id, hb⟩
    · exact hb
    · rw [hno] at hb; cases hb
  cases x
  case own id =>
    obtain ⟨hid, h⟩ := h
    have hb := hc.blk id
    have hown := hc.own id
    simp only [outC]
    cases hg : getB s.heap id with
    | arr wr t b l =>
      rw [hg] at h hb
      have h : v = hdr C id l.length := h
      subst h
      obtain ⟨cks, hk, hpos, hb⟩ := hb
      dsimp only
      rcases hb with ⟨rfl, h0, rfl⟩ | ⟨rfl, h0, g, o, hbase, hle, hrows, hwr, hnw⟩
      · exact RepC.em t _ _ _ rfl
      · simp only [hdr, hbase]
        cases l with
        | nil => exact RepC.em t _ _ _ rfl
        | cons e r =>
          have hnX : ¬ XB (outCx C N) (stOf []).heap g := fun q => by
            have hf := hF g q
            cases wr with
            | true =>
              have : ownB C s.heap id = some g := by
                simp only [ownB, hg, hbase, Option.map_some]
                rw [if_neg (by omega)]
              exact (hown g this).2.2 hf
            | false => exact hnw rfl (by simp) (.inl hf)
          refine RepC.sl t cks (e :: r) g o (C.cap id) (fun i j => (w.cell? ⟨g, o + (i * cks.length + j), none⟩).getD undef) hk hpos (by simp) hnX hle (fun i e' he => (hrows i e' he).1) ?_ ?_
          · intro i j hi hj
            obtain ⟨e', he'⟩ : ∃ e', (e :: r)[i]? = some e' := ⟨_, List.getElem?_eq_getElem hi⟩
            obtain ⟨hlen, hcell⟩ := hrows i e' he'
            obtain ⟨y, hy⟩ : ∃ y, e'[j]? = some y := ⟨_, List.getElem?_eq_getElem (by omega)⟩
            obtain ⟨u, hu, _⟩ := hcell j y _ hy (List.getElem?_eq_getElem hj)
            simp [hu]
          · intro i e' j y c he' hy hcj
            obtain ⟨u, hu, hr⟩ := (hrows i e' he').2 j y c hy hcj
            rw [hu]
            exact hr.weak hX
    | _ => exact trivial
  case sl b t l => exact RepC.weak h hX
  case rel t l i off =>
    obtain ⟨hi, g, o, cap, cks, hk, hr, rfl⟩ := h
    exact ⟨hi, g, o, cap, cks, hk, hr.weak hX, rfl⟩
  case fn f first cap =>
    cases first with
    | nil =>
      cases cap with
      | nil =>
        obtain ⟨fs, cs, rfl, h1, h2⟩ := h
        refine ⟨fs, cs, rfl, ?_, ?_⟩
        · cases hfs : fs.toList with
          | nil => exact trivial
          | cons _ _ => rw [hfs] at h1; exact h1.elim
        · cases hfs : cs.toList with
          | nil => exact trivial
          | cons _ _ => rw [hfs] at h2; exact h2.elim
      | cons _ _ => exact trivial
    | cons _ _ => exact trivial
  all_goals first | exact trivial | exact h

theorem RpA_of_K {x : AV} {v : Value} (h : RpK T C s w x v) : RpA T C s w x v := by
  cases x <;> first | exact h | exact h.elim
theorem outA_rep (hc : CS T C s a w) {N : Nat} {x : AV} {v : Value} (h : RpA T C s w x v) : RpA T (outCx C N) (stOf []) w (outA' s.heap x) v := by
  cases x
  case agg l =>
    obtain ⟨cs, rfl, h⟩ := h
    refine ⟨cs, rfl, ?_⟩
    have key : ∀ (l : List AV) (us : List Value), all2 (RpK T C s w) l us → all2 (RpK T (outCx C N) (stOf []) w) (l.map (outC s.heap)) us := by
      intro l
      induction l with
      | nil => intro us h; cases us with | nil => trivial | cons _ _ => exact h.elim
      | cons y r ih =>
        intro us h
        cases us with
        | nil => exact h.elim
        | cons u us => exact ⟨outC_rep hc h.1, ih us h.2⟩
    exact key l _ h
  all_goals
    simp only [RpA] at h
    exact RpA_of_K (outC_rep hc h)

theorem res_cases {x : AV} {v : Value} (hx : isRes x = true) (h : RpS T C s w x v) : RpA T C s w x v := by
  cases x <;> first | exact h | cases hx
theorem resA {x : AV} {v : Value} (h : RpA T C s w x v) : RpS T C s w x v := by
  cases x <;> first | exact h | exact h.elim

theorem out_rep (hc : CS T C s a w) {N : Nat} {x : AV} {v : Value} (hx : isRes x = true) (h : RpS T C s w x v) : RpA T (outCx C N) (stOf []) w (outA' s.heap x) v := outA_rep hc (res_cases hx h)

theorem outHS (hc : CS T C s a w) (hpin : ∀ id, C.pin id = none) : HS T (outCx C 0) [] w := by
  have hno : ∀ id, ownB (outCx C 0) (stOf []).heap id = none := fun id => rfl
  exact ⟨fun t => trivial, fun id => trivial, fun id _ => rfl, (fun id id' b h => by rw [hno] at h; cases h), (fun id b h => by rw [hno] at h; cases h), hc.g, hc.ge, (fun id b h => by have := hpin id; simp only [outCx] at h; rw [this] at h; cases h), (fun p hp => by cases hp), rfl, rfl, hc.f, hc.io⟩

def resM (tmps : Array Value) : ResultVar → Sem Value
  | .tmp t => pure (tmps.getD t undef)
  | .cell a t => do loadVar t (← asAddr (tmps.getD a undef))

theorem loadAt_as {t : TypeId} {v u : Value} (h : (Instr.loadAt t v).run P w = .ok u w) : (do loadVar t (← asAddr v) : Sem Value).run P w = .ok u w := by
  revert h
  simp only [Instr.loadAt]
  cases v with
  | pointer p =>
    cases p with
    | some ad => exact id
    | none => intro h; simp [Instr.sureAddr, stuck] at h
  | _ => intro h; simp [Instr.sureAddr, stuck] at h

theorem xres_sound (HT : tabOK P T = true) (hc : CS T C s a w) : ∀ (rs : List ResultVar) {K : List AV → Prop}, xres T s.env s.heap rs K → ∃ l vs, K l ∧ (rs.mapM (resM a.tmps)).run P w = .ok vs w ∧ all2 (RpS T C s w) l vs
  | [], K, h => ⟨[], [], h, by simp, trivial⟩
  | .tmp t :: rs, K, h => by
    simp only [xres, forceK_eq] at h
    have hv := hc.env t
    cases hok : okV (getE s.env t) with
    | false => rw [hok] at h; exact h.elim
    | true =>
      rw [hok] at h
      obtain ⟨l, vs, h1, h2, h3⟩ := xres_sound HT hc rs h
      refine ⟨_, a.tmps.getD t undef :: vs, h1, by simp [resM, h2], ?_, h3⟩
      revert hv hok
      cases getE s.env t <;> intro hv hok <;> first | exact hv | cases hok
  | .cell ad t :: rs, K, h => by
    simp only [xres] at h
    have hv := hc.env ad
    have hrp : RpS T C s w (getE s.env ad) (a.tmps.getD ad undef) ∨ ∃ ch y, getE s.env ad = .opt ch y := by
      revert hv
      cases getE s.env ad <;> intro hv <;> first | exact .inl hv | exact .inr ⟨_, _, rfl⟩
    rcases hrp with hrp | ⟨ch, y, e⟩
    · obtain ⟨x, hx, hval⟩ := xload_sound (P := P) (Hyp := True) HT hc h (v := a.tmps.getD ad undef) (fun _ => hrp)
      obtain ⟨u, hu, hr⟩ := hval trivial
      have hu := hu w (Same.refl C w)
      obtain ⟨l, vs, h1, h2, h3⟩ := xres_sound HT hc rs hx
      refine ⟨_, u :: vs, h1, ?_, hr, h3⟩
      have this : (resM a.tmps (.cell ad t)).run P w = .ok u w := loadAt_as hu
      rw [List.mapM_cons, Sem.run_bind, this, Result.andThen_ok, Sem.run_bind, h2, Result.andThen_ok]
      rfl
    · rw [e] at h
      unfold xload at h
      cases hx : T.get t <;> simp [hx] at h

def retV : List Value → Value
  | [v] => v
  | l => .tuple l.toArray
theorem results_eq (fn : Func) (tmps : Array Value) {vs : List Value} (h : (fn.results.toList.mapM (resM tmps)).run P w = .ok vs w) : (results fn tmps).run P w = .ok (retV vs) w := by
  have e : (fn.results.mapM (resM tmps)) = List.toArray <$> fn.results.toList.mapM (resM tmps) := Array.mapM_eq_mapM_toList ..
  have e2 : results fn tmps = (do let vs ← fn.results.mapM (resM tmps); pure (if h : vs.size = 1 then vs[0] else .tuple vs)) := by
    unfold results
    congr 1
  rw [e2, e]
  simp only [Sem.run_bind, Sem.run_map, h]
  match vs with
  | [] => rfl
  | [v] => rfl
  | x :: y :: r => simp [retV]
end
end Go.Proofs.Ytaghkmaelbgljaa.VX

namespace Go.Proofs.Ytaghkmaelbgljaa.VX
section
variable {P : Program} {T : Tab} {C C' : Cx} {s s' : St} {a : Act} {w w' : World}

def envOf : Nat → List AV → List (Nat × AV)
  | _, [] => []
  | i, v :: r => (i, v) :: envOf (i + 1) r
theorem getE_envOf : ∀ (l : List AV) (i t : Nat), getE (envOf i l) t = if i ≤ t then (l[t - i]?).getD .dead else .dead
  | [], i, t => by simp [envOf, getE]
  | v :: r, i, t => by
    simp only [envOf, getE_cons, getE_envOf r (i + 1) t]
    by_cases e : t = i
    · subst e; simp
    · rw [if_neg e]
      by_cases h1 : i ≤ t
      · rw [if_pos (by omega), if_pos h1, show t - i = (t - (i + 1)) + 1 by omega, List.getElem?_cons_succ]
      · rw [if_neg (by omega), if_neg h1]

theorem RpE_of_RpS {x : AV} {v : Value} (h : RpS T C s w x v) : RpE T C s w x v := by
  cases x <;> first | exact h | exact h.elim

/-- Where the code of a body may end. -/
def keOf (E : St → Prop) : Exit → St → Prop
  | .ret, st => E st
  | _, _ => False

theorem xend_sound (HT : tabOK P T = true) (hc : CS T C s a w) (hpin : ∀ id, C.pin id = none) {fn : Func} {R : AV → List AB → Prop} (h : xend T fn.results.toList R s) :
    ∃ v r, (results fn a.tmps).run P w = .ok v w ∧ R r [] ∧ HS T (outCx C 0) [] w ∧ RpS T (outCx C 0) (stOf []) w r v ∧ ∀ t y, r ≠ .iface t y := by
  obtain ⟨env, hp, nx, gs, kn⟩ := s
  unfold xend at h
  obtain ⟨l, vs, h1, h2, h3⟩ := xres_sound HT hc _ h
  have hrun := results_eq fn a.tmps h2
  cases hal : allRes l with
  | false => rw [hal] at h1; exact h1.elim
  | true =>
    rw [hal, cond_true] at h1
    have hHS := outHS hc hpin
    have key : ∀ (l : List AV) (vs : List Value), allRes l = true → all2 (RpS T C ⟨env, hp, nx, gs, kn⟩ w) l vs → all2 (RpA T (outCx C 0) (stOf []) w) (l.map (outA' hp)) vs := by
      intro l
      induction l with
      | nil => intro vs _ h; cases vs with | nil => trivial | cons _ _ => exact h.elim
      | cons x r ih =>
        intro vs ha h
        cases vs with
        | nil => exact h.elim
        | cons v vs =>
          simp only [allRes, Bool.and_eq_true] at ha
          exact ⟨out_rep hc ha.1 h.1, ih vs ha.2 h.2⟩
    have hk := key l vs hal h3
    have hA : ∀ {r : AV} {v : Value}, RpA T (outCx C 0) (stOf []) w r v → ∀ t y, r ≠ .iface t y := fun {r v} h t y e => by subst e; exact h.elim
    match l, vs, h1, h3, hrun, hk with
    | [x], [v], h1, _, hrun, hk =>
      dsimp only at h1
      rw [outA_eq] at h1
      exact ⟨v, _, hrun, h1, hHS, resA hk.1, hA hk.1⟩
    | [], [], h1, _, hrun, hk =>
      dsimp only at h1
      rw [outL_eq] at h1
      exact ⟨_, _, hrun, h1, hHS, ⟨_, rfl, hk⟩, fun t y => by simp⟩
    | x :: y :: l, u :: v :: vs, h1, _, hrun, hk =>
      dsimp only at h1
      rw [outL_eq] at h1
      exact ⟨_, _, hrun, h1, hHS, ⟨_, rfl, hk⟩, fun t y => by simp⟩
    | [x], [], _, h3, _, _ => exact h3.elim
    | [x], _ :: _ :: _, _, h3, _, _ => exact h3.2.elim
    | [], _ :: _, _, h3, _, _ => exact h3.elim
    | _ :: _ :: _, [], _, h3, _, _ => exact h3.elim
    | _ :: _ :: _, [_], _, h3, _, _ => exact h3.2.elim

theorem ACalls.intro (HT : tabOK P T = true) (hm : P.follows .mixedOrders = true) {f : FuncId} {fn : Func} {c : Code} {args : List AV} {R : AV → List AB → Prop} (hf : P.funcs[f]? = some fn) (hb : fn.body = some c) (hname : (fn.name == "runtime.NumGoroutine") = false)
    (hN : codeOK fn.ntmps c = true) (hlen : args.length ≤ fn.ntmps)
    (h : xcode T (ACalls P T) (ALoop P T) (ASeq P T) c ⟨envOf 0 args, [], 0, [], []⟩ (xend T fn.results.toList R) (keOf (xend T fn.results.toList R))) : ACalls P T f args [] R := by
  refine ⟨⟨fn, hf, by rw [hb]; rfl, hname⟩, fun C w vals hs ha => ?_⟩
  have hl := all2_len ha
  have hC0 : C.N = 0 := hs.sz.symm
  have hpin : ∀ id, C.pin id = none := fun id => by
    cases hp : C.pin id with
    | none => rfl
    | some b => exact absurd (hs.pin id b hp).2 (Nat.not_lt_zero _)
  have hno : ∀ id, ownB (outCx C fn.ntmps) ([] : Hp) id = none := fun id => rfl
  have hc : CS T (outCx C fn.ntmps) ⟨envOf 0 args, [], 0, [], []⟩ { tmps := vals.toArray ++ Array.replicate (fn.ntmps - vals.toArray.size) undef, defers := [] } w := by
    refine ⟨fun t => ?_, fun id => trivial, fun id _ => rfl, (fun id id' b h => by rw [hno] at h; cases h), (fun id b h => by rw [hno] at h; cases h), hs.g, hs.ge, (fun id b h => by have := hpin id; simp only [outCx] at h; rw [this] at h; cases h), (fun p hp => by cases hp), rfl, ?_, hs.f, hs.io⟩
    · dsimp only
      rw [getE_envOf, if_pos (Nat.zero_le _), Nat.sub_zero]
      cases hx : args[t]? with
      | none => exact trivial
      | some x =>
        obtain ⟨v, hv, hr⟩ := all2_get ha hx
        have hlt : t < vals.length := (List.getElem?_eq_some_iff.1 hv).1
        have e : (vals.toArray ++ Array.replicate (fn.ntmps - vals.toArray.size) undef).getD t undef = v := by
          rw [Array.getD_eq_getD_getElem?, Array.getElem?_append_left (by simpa using hlt)]
          simp [hv]
        rw [e]
        exact RpE_of_RpS hr
    · simp only [outCx, Array.size_append, List.size_toArray, Array.size_replicate]
      omega
  refine calls_of_wp hf hb (wp_mono (xcode_sound HT hm c (C0 := outCx C fn.ntmps) hN (C := outCx C fn.ntmps) hpin (KeepC.refl _) hc rfl rfl h) ?_)
  have fin : ∀ (C' : Cx) (s' : St) (a' : Act) (w' : World), KeepC (outCx C fn.ntmps) C' → CS T C' s' a' w' → xend T fn.results.toList R s' →
      a'.defers = [] ∧ ∃ v, (results fn a'.tmps).run P w' = .ok v w' ∧ ∃ r h' v' C'', Ending.returned v = .returned v' ∧ R r h' ∧ KeepC C C'' ∧ HS T C'' h' w' ∧ RpS T C'' (stOf h') w' r v' ∧ ([] : List AB).length ≤ h'.length ∧ ∀ t y, r ≠ .iface t y := by
    intro C' s' a' w' hk hc' he
    have hp' : ∀ id, C'.pin id = none := fun id => by rw [hk.2.2.2.1]; exact hpin id
    obtain ⟨v, r, q1, q2, q3, q4, q5⟩ := xend_sound HT hc' hp' he
    exact ⟨hc'.defers, v, q1, r, [], v, outCx C' 0, rfl, q2, ⟨hk.1, hk.2.1, hk.2.2.1, hk.2.2.2.1, hC0.symm⟩, q3, q4, Nat.le_refl _, q5⟩
  rintro e a' w' ⟨C', s', hk, hc', h1, h2, h3⟩
  cases e with
  | normal => exact fin C' s' a' w' hk hc' h3
  | ret => exact fin C' s' a' w' hk hc' h3
  | exit i => exact h3.elim
  | goto l => exact h3.elim
  | panic c => exact h3.elim
  | outgrown => exact h3.elim
end
end Go.Proofs.Ytaghkmaelbgljaa.VX

namespace Go.Proofs.Ytaghkmaelbgljaa.VX
section
variable {P : Program} {T : Tab} {C C' : Cx} {s s' : St} {a : Act} {w w' : World}

def posOf : List Nat → Nat → Nat → Option Nat
  | [], _, _ => none
  | i :: r, id, k => match Nat.beq i id with
    | true => some k
    | false => posOf r id (k + 1)
def exC (h : Hp) (ex : List Nat) : AV → AV
  | .own id => match posOf ex id 0 with
    | some k => .own k
    | none => outC h (.own id)
  | v => outC h v
def exA (h : Hp) (ex : List Nat) (v : AV) (K : AV → Prop) : Prop :=
  match v with
  | .agg l => mapK (exC h ex) l fun l' => K (.agg l')
  | v => forceK (exC h ex v) K
def exA' (h : Hp) (ex : List Nat) : AV → AV
  | .agg l => .agg (l.map (exC h ex))
  | v => exC h ex v
def exL (h : Hp) (ex : List Nat) : List AV → (List AV → Prop) → Prop
  | [], K => K []
  | v :: r, K => exA h ex v fun v' => exL h ex r fun l => K (v' :: l)
theorem exA_eq (h : Hp) (ex : List Nat) (v : AV) (K : AV → Prop) : exA h ex v K = K (exA' h ex v) := by
  unfold exA exA'
  cases v <;> simp [mapK_eq, forceK_eq]
theorem exL_eq (h : Hp) (ex : List Nat) : ∀ (l : List AV) (K : List AV → Prop), exL h ex l K = K (l.map (exA' h ex))
  | [], _ => rfl
  | v :: r, K => by simp [exL, exA_eq, exL_eq h ex r]
/-- The blocks that lie in a result. -/
def ownsC (h : Hp) : List AV → (List Nat → Prop) → Prop
  | [], K => K []
  | .own id :: r, K => match getB h id with
    | .arr true _ _ _ => ownsC h r fun l => K (id :: l)
    | _ => ownsC h r K
  | _ :: r, K => ownsC h r K
def ownsL (h : Hp) : List AV → (List Nat → Prop) → Prop
  | [], K => K []
  | .agg l :: r, K => ownsC h l fun l1 => ownsL h r fun l2 => K (l1 ++ l2)
  | v :: r, K => ownsC h [v] fun l1 => ownsL h r fun l2 => K (l1 ++ l2)
def fresh : List Nat → Bool
  | [] => true
  | i :: r => (match posOf r i 0 with | none => true | some _ => false) && fresh r
def blks (h : Hp) : List Nat → (List AB → Prop) → Prop
  | [], K => K []
  | i :: r, K => match getB h i with
    | .arr wr t b l => blks h r fun bs => K (.arr wr t b l :: bs)
    | _ => False
/-- Where a body ends that hands on what lies in its results. -/
def xendX (T : Tab) (rs : List ResultVar) (R : AV → List AB → Prop) (st : St) : Prop :=
  match st with
  | ⟨env, h, nx, _, _⟩ => xres T env h rs fun l => bif allRes l then ownsL h l fun ex => bif fresh ex && ex.all (fun i => Nat.blt i nx) then blks h ex fun bs => match l with
    | [v] => exA h ex v fun v' => R v' bs
    | l => exL h ex l fun l' => R (.tup l') bs
    else False else False

theorem posOf_none : ∀ {l : List Nat} {id k : Nat}, posOf l id k = none → id ∉ l
  | [], _, _, _ => by simp
  | i :: r, id, k, h => by
    simp only [posOf] at h
    cases hb : Nat.beq i id with
    | true => rw [hb] at h; cases h
    | false =>
      rw [hb] at h
      intro hm
      rcases List.mem_cons.1 hm with rfl | hm
      · simp [Nat.beq_refl] at hb
      · exact posOf_none h hm
theorem posOf_some : ∀ {l : List Nat} {id k j : Nat}, posOf l id k = some j → ∃ i, j = k + i ∧ l[i]? = some id
  | [], _, _, _, h => by simp [posOf] at h
  | i :: r, id, k, j, h => by
    simp only [posOf] at h
    cases hb : Nat.beq i id with
    | true => rw [hb] at h; cases h; exact ⟨0, rfl, by simp [beq_nat hb]⟩
    | false =>
      rw [hb] at h
      obtain ⟨i', h1, h2⟩ := posOf_some h
      exact ⟨i' + 1, by omega, by simpa using h2⟩
theorem fresh_inj : ∀ {l : List Nat}, fresh l = true → ∀ (i j x : Nat), l[i]? = some x → l[j]? = some x → i = j
  | [], _ => by simp
  | y :: r, h => by
    simp only [fresh, Bool.and_eq_true] at h
    have hy : y ∉ r := by
      refine posOf_none (k := 0) ?_
      cases hp : posOf r y 0 with
      | none => rfl
      | some _ => rw [hp] at h; cases h.1
    intro i j x hi hj
    cases i with
    | zero => cases j with
      | zero => rfl
      | succ j => simp at hi hj; subst hi; exact absurd (List.mem_of_getElem? hj) hy
    | succ i => cases j with
      | zero => simp at hi hj; subst hj; exact absurd (List.mem_of_getElem? hi) hy
      | succ j => simp at hi hj; rw [fresh_inj h.2 i j x hi hj]
theorem blks_eq {h : Hp} : ∀ {ex : List Nat} {K : List AB → Prop}, blks h ex K → K (ex.map (getB h)) ∧ ∀ i ∈ ex, ∃ wr t b l, getB h i = .arr wr t b l
  | [], K, h => ⟨h, by simp⟩
  | i :: r, K, hh => by
    simp only [blks] at hh
    cases hb : getB h i with
    | arr wr t b l =>
      rw [hb] at hh
      obtain ⟨h1, h2⟩ := blks_eq hh
      refine ⟨by simpa [hb] using h1, fun j hj => ?_⟩
      rcases List.mem_cons.1 hj with rfl | hj
      · exact ⟨_, _, _, _, hb⟩
      · exact h2 j hj
    | box _ _ => rw [hb] at hh; exact hh.elim
    | gone => rw [hb] at hh; exact hh.elim
theorem ownsC_eq {h : Hp} : ∀ {l : List AV} {K : List Nat → Prop}, ownsC h l K → ∃ ex, K ex
  | [], K, h => ⟨_, h⟩
  | v :: r, K, hh => by
    unfold ownsC at hh
    split at hh
    · rename_i e; cases e
    · rename_i e
      cases e
      split at hh
      · exact (ownsC_eq hh).elim fun _ h => ⟨_, h⟩
      · exact ownsC_eq hh
    · rename_i e
      cases e
      exact ownsC_eq hh
theorem ownsL_eq {h : Hp} : ∀ {l : List AV} {K : List Nat → Prop}, ownsL h l K → ∃ ex, K ex
  | [], K, h => ⟨_, h⟩
  | v :: r, K, hh => by
    unfold ownsL at hh
    split at hh
    · rename_i e; cases e
    · rename_i e
      cases e
      obtain ⟨_, hh⟩ := ownsC_eq hh
      obtain ⟨_, hh⟩ := ownsL_eq hh
      exact ⟨_, hh⟩
    · rename_i e
      cases e
      obtain ⟨_, hh⟩ := ownsC_eq hh
      obtain ⟨_, hh⟩ := ownsL_eq hh
      exact ⟨_, hh⟩

/-- The blocks that are handed on, anew numbered. -/
def exCx (C : Cx) (ex : List Nat) : Cx :=
  { C with β := fun k => C.β ((ex[k]?).getD 0), base := fun k => C.base ((ex[k]?).getD 0), cap := fun k => C.cap ((ex[k]?).getD 0), N := 0 }

theorem ex_get (h : Hp) (ex : List Nat) (k : Nat) : getB (stOf (ex.map (getB h))).heap k = match ex[k]? with | some id => getB h id | none => .gone := by
  show getB (hpOf 0 _) k = _
  rw [getB_hpOf0, List.getElem?_map]
  cases ex[k]? <;> rfl
theorem ex_own {ex : List Nat} {h : Hp} {k b : Nat} (hb : ownB (exCx C ex) (stOf (ex.map (getB h))).heap k = some b) : ∃ id, ex[k]? = some id ∧ ownB C h id = some b := by
  unfold ownB at hb
  rw [ex_get] at hb
  cases hk : ex[k]? with
  | none => rw [hk] at hb; cases hb
  | some id =>
    rw [hk] at hb
    refine ⟨id, rfl, ?_⟩
    unfold ownB
    dsimp only at hb
    simpa only [exCx, hk, Option.getD_some] using hb
theorem ex_XB {ex : List Nat} {h : Hp} : ∀ b, XB (exCx C ex) (stOf (ex.map (getB h))).heap b → XB C h b := fun b hb => by
  rcases hb with hb | ⟨k, hb⟩
  · exact .inl hb
  · obtain ⟨id, _, h2⟩ := ex_own hb
    exact .inr ⟨id, h2⟩

theorem exHS (hc : CS T C s a w) (hpin : ∀ id, C.pin id = none) {ex : List Nat} (hf : fresh ex = true) (harr : ∀ i ∈ ex, ∃ wr t b l, getB s.heap i = .arr wr t b l) : HS T (exCx C ex) (ex.map (getB s.heap)) w := by
  refine ⟨fun t => trivial, fun k => ?_, fun k hk => ?_, ?_, ?_, hc.g, hc.ge, (fun id b h => by have := hpin id; simp only [exCx] at h; rw [this] at h; cases h), (fun p hp => by cases hp), rfl, rfl, hc.f, hc.io⟩
  · rw [ex_get]
    cases hk : ex[k]? with
    | none => exact trivial
    | some id =>
      dsimp only
      obtain ⟨wr, t, b, l, hg⟩ := harr id (List.mem_of_getElem? hk)
      have hb := hc.blk id
      rw [hg] at hb ⊢
      obtain ⟨cks, hck, hpos, hb⟩ := hb
      refine ⟨cks, hck, hpos, ?_⟩
      simp only [exCx, hk, Option.getD_some]
      rcases hb with hb | ⟨h1, h2, g, o, h3, h4, h5, h6, h7⟩
      · exact .inl hb
      · refine .inr ⟨h1, h2, g, o, h3, h4, fun i e he => ⟨(h5 i e he).1, fun j x c hx hcj => ?_⟩, h6, fun q1 q2 q3 => h7 q1 q2 (ex_XB _ q3)⟩
        obtain ⟨v, hv, hr⟩ := (h5 i e he).2 j x c hx hcj
        exact ⟨v, hv, hr.weak ex_XB⟩
  · rw [ex_get]
    have : ex[k]? = none := by
      rw [List.getElem?_eq_none_iff]
      simpa [stOf] using hk
    rw [this]
  · intro k k' b h1 h2
    obtain ⟨i, q1, q2⟩ := ex_own h1
    obtain ⟨i', q3, q4⟩ := ex_own h2
    have := hc.inj i i' b q2 q4
    subst this
    exact fresh_inj hf k k' i q1 q3
  · intro k b h1
    obtain ⟨i, q1, q2⟩ := ex_own h1
    exact hc.own i b q2

theorem exC_rep (hc : CS T C s a w) {ex : List Nat} (hlt : ∀ i ∈ ex, i < s.nx) {x : AV} {v : Value} (h : RpK T C s w x v) : RpK T (exCx C ex) (stOf (ex.map (getB s.heap))) w (exC s.heap ex x) v := by
  cases x
  case own id =>
    obtain ⟨hid, h⟩ := h
    have hb := hc.blk id
    have hown := hc.own id
    simp only [exC]
    cases hp : posOf ex id 0 with
    | some k =>
      obtain ⟨i, q1, q2⟩ := posOf_some hp
      rw [Nat.zero_add] at q1
      subst q1
      refine ⟨?_, ?_⟩
      · have := (List.getElem?_eq_some_iff.1 q2).1
        simpa [stOf] using this
      · rw [ex_get, q2]
        dsimp only
        cases hg : getB s.heap id with
        | arr wr t b l =>
          rw [hg] at h
          simpa only [hdr, exCx, q2, Option.getD_some] using h
        | _ => exact trivial
    | none =>
      have hnot := posOf_none hp
      simp only [outC]
      cases hg : getB s.heap id with
      | arr wr t b l =>
        rw [hg] at h hb
        have h : v = hdr C id l.length := h
        subst h
        obtain ⟨cks, hk, hpos, hb⟩ := hb
        dsimp only
        rcases hb with ⟨rfl, h0, rfl⟩ | ⟨rfl, h0, g, o, hbase, hle, hrows, hwr, hnw⟩
        · exact RepC.em t _ _ _ rfl
        · simp only [hdr, hbase]
          cases l with
          | nil => exact RepC.em t _ _ _ rfl
          | cons e r =>
            have hnX : ¬ XB (exCx C ex) (stOf (ex.map (getB s.heap))).heap g := fun q => by
              cases wr with
              | true =>
                have ho : ownB C s.heap id = some g := by
                  simp only [ownB, hg, hbase, Option.map_some]
                  rw [if_neg (by omega)]
                rcases q with q | ⟨k, q⟩
                · exact (hown g ho).2.2 q
                · obtain ⟨i, q1, q2⟩ := ex_own q
                  have := hc.inj i id g q2 ho
                  subst this
                  exact hnot (List.mem_of_getElem? q1)
              | false => exact hnw rfl (by simp) (ex_XB _ q)
            refine RepC.sl t cks (e :: r) g o (C.cap id) (fun i j => (w.cell? ⟨g, o + (i * cks.length + j), none⟩).getD undef) hk hpos (by simp) hnX hle (fun i e' he => (hrows i e' he).1) ?_ ?_
            · intro i j hi hj
              obtain ⟨e', he'⟩ : ∃ e', (e :: r)[i]? = some e' := ⟨_, List.getElem?_eq_getElem hi⟩
              obtain ⟨hlen, hcell⟩ := hrows i e' he'
              obtain ⟨y, hy⟩ : ∃ y, e'[j]? = some y := ⟨_, List.getElem?_eq_getElem (by omega)⟩
              obtain ⟨u, hu, _⟩ := hcell j y _ hy (List.getElem?_eq_getElem hj)
              simp [hu]
            · intro i e' j y c he' hy hcj
              obtain ⟨u, hu, hr⟩ := (hrows i e' he').2 j y c hy hcj
              rw [hu]
              exact hr.weak ex_XB
      | _ => exact trivial
  case sl b t l => exact RepC.weak h ex_XB
  case rel t l i off =>
    obtain ⟨hi, g, o, cap, cks, hk, hr, rfl⟩ := h
    exact ⟨hi, g, o, cap, cks, hk, hr.weak ex_XB, rfl⟩
  case fn f first cap =>
    cases first with
    | nil =>
      cases cap with
      | nil =>
        obtain ⟨fs, cs, rfl, h1, h2⟩ := h
        refine ⟨fs, cs, rfl, ?_, ?_⟩
        · cases hfs : fs.toList with
          | nil => exact trivial
          | cons _ _ => rw [hfs] at h1; exact h1.elim
        · cases hfs : cs.toList with
          | nil => exact trivial
          | cons _ _ => rw [hfs] at h2; exact h2.elim
      | cons _ _ => exact trivial
    | cons _ _ => exact trivial
  all_goals first | exact trivial | exact h

theorem exA_rep (hc : CS T C s a w) {ex : List Nat} (hlt : ∀ i ∈ ex, i < s.nx) {x : AV} {v : Value} (h : RpA T C s w x v) : RpA T (exCx C ex) (stOf (ex.map (getB s.heap))) w (exA' s.heap ex x) v := by
  cases x
  case agg l =>
    obtain ⟨cs, rfl, h⟩ := h
    refine ⟨cs, rfl, ?_⟩
    have key : ∀ (l : List AV) (us : List Value), all2 (RpK T C s w) l us → all2 (RpK T (exCx C ex) (stOf (ex.map (getB s.heap))) w) (l.map (exC s.heap ex)) us := by
      intro l
      induction l with
      | nil => intro us h; cases us with | nil => trivial | cons _ _ => exact h.elim
      | cons y r ih =>
        intro us h
        cases us with
        | nil => exact h.elim
        | cons u us => exact ⟨exC_rep hc hlt h.1, ih us h.2⟩
    exact key l _ h
  all_goals
    simp only [RpA] at h
    exact RpA_of_K (exC_rep hc hlt h)

theorem xendX_sound (HT : tabOK P T = true) (hc : CS T C s a w) (hpin : ∀ id, C.pin id = none) {fn : Func} {R : AV → List AB → Prop} (h : xendX T fn.results.toList R s) :
    ∃ v r ex, (results fn a.tmps).run P w = .ok v w ∧ R r (ex.map (getB s.heap)) ∧ HS T (exCx C ex) (ex.map (getB s.heap)) w ∧ RpS T (exCx C ex) (stOf (ex.map (getB s.heap))) w r v ∧ ∀ t y, r ≠ .iface t y := by
  obtain ⟨env, hp, nx, gs, kn⟩ := s
  unfold xendX at h
  obtain ⟨l, vs, h1, h2, h3⟩ := xres_sound HT hc _ h
  have hrun := results_eq fn a.tmps h2
  cases hal : allRes l with
  | false => rw [hal] at h1; exact h1.elim
  | true =>
    rw [hal, cond_true] at h1
    obtain ⟨ex, h1⟩ := ownsL_eq h1
    cases hfr : (fresh ex && ex.all (fun i => Nat.blt i nx)) with
    | false => rw [hfr] at h1; exact h1.elim
    | true =>
    rw [hfr, cond_true] at h1
    simp only [Bool.and_eq_true, List.all_eq_true] at hfr
    have hlt : ∀ i ∈ ex, i < nx := fun i hi => by have := hfr.2 i hi; simpa [Nat.blt_eq] using this
    obtain ⟨h1, harr⟩ := blks_eq h1
    have hHS := exHS hc hpin hfr.1 harr
    have key : ∀ (l : List AV) (vs : List Value), allRes l = true → all2 (RpS T C ⟨env, hp, nx, gs, kn⟩ w) l vs → all2 (RpA T (exCx C ex) (stOf (ex.map (getB hp))) w) (l.map (exA' hp ex)) vs := by
      intro l
      induction l with
      | nil => intro vs _ h; cases vs with | nil => trivial | cons _ _ => exact h.elim
      | cons x r ih =>
        intro vs ha h
        cases vs with
        | nil => exact h.elim
        | cons v vs =>
          simp only [allRes, Bool.and_eq_true] at ha
          exact ⟨exA_rep hc hlt (res_cases ha.1 h.1), ih vs ha.2 h.2⟩
    have hk := key l vs hal h3
    have hA : ∀ {r : AV} {v : Value}, RpA T (exCx C ex) (stOf (ex.map (getB hp))) w r v → ∀ t y, r ≠ .iface t y := fun {r v} h t y e => by subst e; exact h.elim
    match l, vs, h1, h3, hrun, hk with
    | [x], [v], h1, _, hrun, hk =>
      dsimp only at h1
      rw [exA_eq] at h1
      exact ⟨v, _, ex, hrun, h1, hHS, resA hk.1, hA hk.1⟩
    | [], [], h1, _, hrun, hk =>
      dsimp only at h1
      rw [exL_eq] at h1
      exact ⟨_, _, ex, hrun, h1, hHS, ⟨_, rfl, hk⟩, fun t y => by simp⟩
    | x :: y :: l, u :: v :: vs, h1, _, hrun, hk =>
      dsimp only at h1
      rw [exL_eq] at h1
      exact ⟨_, _, ex, hrun, h1, hHS, ⟨_, rfl, hk⟩, fun t y => by simp⟩
    | [x], [], _, h3, _, _ => exact h3.elim
    | [x], _ :: _ :: _, _, h3, _, _ => exact h3.2.elim
    | [], _ :: _, _, h3, _, _ => exact h3.elim
    | _ :: _ :: _, [], _, h3, _, _ => exact h3.elim
    | _ :: _ :: _, [_], _, h3, _, _ => exact h3.2.elim

theorem ACalls.introX (HT : tabOK P T = true) (hm : P.follows .mixedOrders = true) {f : FuncId} {fn : Func} {c : Code} {args : List AV} {R : AV → List AB → Prop} (hf : P.funcs[f]? = some fn) (hb : fn.body = some c) (hname : (fn.name == "runtime.NumGoroutine") = false)
    (hN : codeOK fn.ntmps c = true) (hlen : args.length ≤ fn.ntmps)
    (h : xcode T (ACalls P T) (ALoop P T) (ASeq P T) c ⟨envOf 0 args, [], 0, [], []⟩ (xendX T fn.results.toList R) (keOf (xendX T fn.results.toList R))) : ACalls P T f args [] R := by
  refine ⟨⟨fn, hf, by rw [hb]; rfl, hname⟩, fun C w vals hs ha => ?_⟩
  have hl := all2_len ha
  have hC0 : C.N = 0 := hs.sz.symm
  have hpin : ∀ id, C.pin id = none := fun id => by
    cases hp : C.pin id with
    | none => rfl
    | some b => exact absurd (hs.pin id b hp).2 (Nat.not_lt_zero _)
  have hno : ∀ id, ownB (outCx C fn.ntmps) ([] : Hp) id = none := fun id => rfl
  have hc : CS T (outCx C fn.ntmps) ⟨envOf 0 args, [], 0, [], []⟩ { tmps := vals.toArray ++ Array.replicate (fn.ntmps - vals.toArray.size) undef, defers := [] } w := by
    refine ⟨fun t => ?_, fun id => trivial, fun id _ => rfl, (fun id id' b h => by rw [hno] at h; cases h), (fun id b h => by rw [hno] at h; cases h), hs.g, hs.ge, (fun id b h => by have := hpin id; simp only [outCx] at h; rw [this] at h; cases h), (fun p hp => by cases hp), rfl, ?_, hs.f, hs.io⟩
    · dsimp only
      rw [getE_envOf, if_pos (Nat.zero_le _), Nat.sub_zero]
      cases hx : args[t]? with
      | none => exact trivial
      | some x =>
        obtain ⟨v, hv, hr⟩ := all2_get ha hx
        have hlt : t < vals.length := (List.getElem?_eq_some_iff.1 hv).1
        have e : (vals.toArray ++ Array.replicate (fn.ntmps - vals.toArray.size) undef).getD t undef = v := by
          rw [Array.getD_eq_getD_getElem?, Array.getElem?_append_left (by simpa using hlt)]
          simp [hv]
        rw [e]
        exact RpE_of_RpS hr
    · simp only [outCx, Array.size_append, List.size_toArray, Array.size_replicate]
      omega
  refine calls_of_wp hf hb (wp_mono (xcode_sound HT hm c (C0 := outCx C fn.ntmps) hN (C := outCx C fn.ntmps) hpin (KeepC.refl _) hc rfl rfl h) ?_)
  have fin : ∀ (C' : Cx) (s' : St) (a' : Act) (w' : World), KeepC (outCx C fn.ntmps) C' → CS T C' s' a' w' → xendX T fn.results.toList R s' →
      a'.defers = [] ∧ ∃ v, (results fn a'.tmps).run P w' = .ok v w' ∧ ∃ r h' v' C'', Ending.returned v = .returned v' ∧ R r h' ∧ KeepC C C'' ∧ HS T C'' h' w' ∧ RpS T C'' (stOf h') w' r v' ∧ ([] : List AB).length ≤ h'.length ∧ ∀ t y, r ≠ .iface t y := by
    intro C' s' a' w' hk hc' he
    have hp' : ∀ id, C'.pin id = none := fun id => by rw [hk.2.2.2.1]; exact hpin id
    obtain ⟨v, r, ex, q1, q2, q3, q4, q5⟩ := xendX_sound HT hc' hp' he
    exact ⟨hc'.defers, v, q1, r, _, v, exCx C' ex, rfl, q2, ⟨hk.1, hk.2.1, hk.2.2.1, hk.2.2.2.1, hC0.symm⟩, q3, q4, Nat.zero_le _, q5⟩
  rintro e a' w' ⟨C', s', hk, hc', h1, h2, h3⟩
  cases e with
  | normal => exact fin C' s' a' w' hk hc' h3
  | ret => exact fin C' s' a' w' hk hc' h3
  | exit i => exact h3.elim
  | goto l => exact h3.elim
  | panic c => exact h3.elim
  | outgrown => exact h3.elim
end
end Go.Proofs.Ytaghkmaelbgljaa.VX

namespace Go.Proofs.Ytaghkmaelbgljaa.VX

/-! Which block of the one state stands for which of the other. -/
abbrev Pr := List (Nat × Nat)
def gaK : AV → AV → Pr → Pr
  | .own j, .own i, r => (i, j) :: r
  | .ptr j _, .ptr i _, r => (i, j) :: r
  | .vw j _ _, .vw i _ _, r => (i, j) :: r
  | .elt j _ _, .elt i _ _, r => (i, j) :: r
  | _, _, r => r
def gaF : List AV → List AV → Pr → Pr
  | x :: xs, y :: ys, r => gaF xs ys (gaK x y r)
  | _, _, r => r
def gaC (x y : AV) (r : Pr) : Pr :=
  match x, y with
  | .fn _ a b, .fn _ a' b' => gaF a a' (gaF b b' r)
  | x, y => gaK x y r
def gaL : List AV → List AV → Pr → Pr
  | x :: xs, y :: ys, r => gaL xs ys (gaC x y r)
  | _, _, r => r
def gaA (x y : AV) (r : Pr) : Pr :=
  match x, y with
  | .agg l, .agg l' => gaL l l' r
  | x, y => gaC x y r
def gaAL : List AV → List AV → Pr → Pr
  | x :: xs, y :: ys, r => gaAL xs ys (gaA x y r)
  | _, _, r => r
def gaS (x y : AV) (r : Pr) : Pr :=
  match x, y with
  | .tup l, .tup l' => gaAL l l' r
  | x, y => gaA x y r
def gaE (env : List (Nat × AV)) : List (Nat × AV) → Pr → Pr
  | [], r => r
  | (t, y) :: q, r => gaE env q (gaS (getE env t) y r)
def prGet : Pr → Nat → Option Nat
  | [], _ => none
  | (i, j) :: r, k => bif Nat.beq i k then some j else prGet r k
def gaB (h h' : Hp) : Nat → Nat → Pr → Pr
  | 0, _, r => r
  | n + 1, i, r => match prGet r i with
    | some j => match getB h j, getB h' i with
      | .box _ cs, .box _ cs' => gaB h h' n (i + 1) (gaL cs cs' r)
      | _, _ => gaB h h' n (i + 1) r
    | none => gaB h h' n (i + 1) r
def prOf (s s' : St) : Pr := gaB s.heap s'.heap s'.nx 0 (gaE s.env s'.env [])

/-! A value in the other state's form. -/
def hasV (r : Pr) (j : Nat) : Bool := match r with | [] => false | (_, k) :: q => Nat.beq k j || hasV q j
def isP (r : Pr) (i j : Nat) : Bool := match prGet r i with | some k => Nat.beq k j | none => false
def noP (r : Pr) (i : Nat) : Bool := match prGet r i with | some _ => false | none => true
def cvF (r : Pr) : AV → AV → Option AV
  | .int k n, _ => some (.int k n)
  | .own j, .own i => bif isP r i j then some (.own i) else none
  | .ptr j o, .ptr i _ => bif isP r i j then some (.ptr i o) else none
  | _, _ => none
def cvFL (r : Pr) : List AV → List AV → Option (List AV)
  | x :: xs, y :: ys => match cvF r x y with
    | some z => match cvFL r xs ys with | some zs => some (z :: zs) | none => none
    | none => none
  | [], [] => some []
  | _, _ => none
def cvO : AV → AV
  | .int k n => .int k n
  | .kb b => .kb b
  | .str s => .str s
  | .nilp => .nilp
  | .nils => .nils
  | .nili => .nili
  | .nilf => .nilf
  | .em b => .em b
  | .undef => .undef
  | .rel t l i o => .rel t l i o
  | _ => .dead
def cvK (r : Pr) (h : Hp) (x y : AV) : AV :=
  match y with
  | .dead => .dead
  | .bool _ => match x with | .kb b => .bool b | .bool b => .bool b | _ => .dead
  | .own i => match x with
    | .own j => bif isP r i j then .own i else .dead
    | .nils => bif noP r i then .own i else .dead
    | _ => .dead
  | .ptr i _ => match x with | .ptr j o => bif isP r i j then .ptr i o else .dead | _ => .dead
  | .vw i _ _ => match x with | .vw j a b => bif isP r i j then .vw i a b else .dead | _ => .dead
  | .elt i _ _ => match x with | .elt j a b => bif isP r i j then .elt i a b else .dead | _ => .dead
  | .sl _ t _ => match x with
    | .nils => .sl true t []
    | .em b => .sl b t []
    | .own j => bif hasV r j then .dead else outC h (.own j)
    | .sl b t l => .sl b t l
    | _ => .dead
  | .fn _ a' b' => match x with
    | .fn f a b => match cvFL r a a' with
      | some p => match cvFL r b b' with | some q => .fn f p q | none => .dead
      | none => .dead
    | _ => .dead
  | _ => cvO x
def cvL (r : Pr) (h : Hp) : List AV → List AV → List AV
  | x :: xs, y :: ys => cvK r h x y :: cvL r h xs ys
  | [], _ => []
  | _, [] => [.dead]
def cvA (r : Pr) (h : Hp) (x y : AV) : AV :=
  match y with
  | .agg l' => match x with | .agg l => .agg (cvL r h l l') | _ => .dead
  | y => cvK r h x y
def cvAL (r : Pr) (h : Hp) : List AV → List AV → List AV
  | x :: xs, y :: ys => cvA r h x y :: cvAL r h xs ys
  | [], _ => []
  | _, [] => [.dead]
def cvS (r : Pr) (h : Hp) (x y : AV) : AV :=
  match y with
  | .tup l' => match x with | .tup l => .tup (cvAL r h l l') | _ => .dead
  | y => cvA r h x y
def cvE (r : Pr) (h : Hp) (env : List (Nat × AV)) : List (Nat × AV) → List (Nat × AV)
  | [] => []
  | (t, y) :: q => (t, cvS r h (getE env t) y) :: cvE r h env q
def cvB (r : Pr) (h : Hp) (x y : AB) : AB :=
  match y with
  | .gone => .gone
  | .box _ cs' => match x with | .box t cs => .box t (cvL r h cs cs') | _ => .gone
  | .arr wr' _ _ _ => match x with | .arr wr t b l => .arr (wr && wr') t b l | _ => .gone
def freshNil (T : Tab) : AB → Bool
  | .arr true t true [] => match ckOf T t with | some (_ :: _) => true | _ => false
  | _ => false
def cvH (r : Pr) (h : Hp) : Hp → Hp
  | [] => []
  | (i, b) :: q => (i, match prGet r i with | some j => cvB r h (getB h j) b | none => b) :: cvH r h q
/-- What can be looked at without the values. -/
def wkC (T : Tab) (r : Pr) (nx nx' : Nat) : Hp → Bool
  | [] => true
  | (i, b) :: q => Nat.blt i nx' && (match prGet r i with | some j => Nat.blt j nx | none => freshNil T b) && wkC T r nx nx' q
/-- No block stands for two. -/
def prInj : Pr → Bool
  | [] => true
  | (i, j) :: q => (q.all fun p => bif Nat.beq p.2 j then Nat.beq p.1 i else true) && prInj q
structure Wk (T : Tab) (s s' : St) : Prop where
  e : cvE (prOf s s') s.heap s.env s'.env = s'.env
  h : cvH (prOf s s') s.heap s'.heap = s'.heap
  c : (prInj (prOf s s') && wkC T (prOf s s') s.nx s'.nx s'.heap) = true
  g : s'.gs = []
  k : s'.kn = []

section
variable {P : Program} {T : Tab} {C C' : Cx} {s s' : St} {a : Act} {w w' : World} {r : Pr}

theorem prInj_spec : ∀ {r : Pr}, prInj r = true → ∀ i i' j, (i, j) ∈ r → (i', j) ∈ r → i = i'
  | [], _, _, _, _, h, _ => by cases h
  | (i0, j0) :: q, h, i, i', j, h1, h2 => by
    simp only [prInj, Bool.and_eq_true, List.all_eq_true] at h
    obtain ⟨ha, hb⟩ := h
    have one : ∀ i', (i', j0) ∈ q → i' = i0 := fun i' hm => by
      have := ha _ hm
      simp only [Nat.beq_refl, cond_true] at this
      exact beq_nat this
    rcases List.mem_cons.1 h1 with e1 | h1 <;> rcases List.mem_cons.1 h2 with e2 | h2
    · injection e1 with a1 b1; injection e2 with a2 b2; rw [a1, a2]
    · injection e1 with a1 b1; subst b1; rw [a1]; exact (one i' (by assumption)).symm
    · injection e2 with a1 b1; subst b1; rw [a1]; exact one i (by assumption)
    · exact prInj_spec hb i i' j (by assumption) (by assumption)
theorem prGet_mem : ∀ {r : Pr} {i j : Nat}, prGet r i = some j → (i, j) ∈ r
  | [], _, _, h => by cases h
  | (i0, j0) :: q, i, j, h => by
    simp only [prGet] at h
    cases e : Nat.beq i0 i with
    | true => rw [e] at h; injection h with h; have := beq_nat e; subst this h; exact List.mem_cons_self ..
    | false => rw [e] at h; exact List.mem_cons_of_mem _ (prGet_mem h)
theorem isP_get {i j : Nat} (h : isP r i j = true) : prGet r i = some j := by
  unfold isP at h
  cases e : prGet r i with
  | none => simp [e] at h
  | some k => rw [e] at h; rw [beq_nat h]
theorem noP_get {i : Nat} (h : noP r i = true) : prGet r i = none := by
  unfold noP at h
  cases e : prGet r i with
  | none => rfl
  | some k => simp [e] at h
theorem hasV_mem : ∀ {r : Pr} {i j : Nat}, (i, j) ∈ r → hasV r j = true
  | (i0, j0) :: q, i, j, h => by
    simp only [hasV, Bool.or_eq_true]
    rcases List.mem_cons.1 h with e | h
    · injection e with e1 e2; subst e2; exact .inl (Nat.beq_refl _)
    · exact .inr (hasV_mem h)

/-- The context of the other state. -/
def rCx (C : Cx) (r : Pr) : Cx :=
  { C with β := fun i => match prGet r i with | some j => C.β j | none => 0, base := fun i => match prGet r i with | some j => C.base j | none => none, cap := fun i => match prGet r i with | some j => C.cap j | none => 0 }
theorem KeepC.rC (C : Cx) (r : Pr) : KeepC C (rCx C r) := ⟨rfl, rfl, rfl, rfl, rfl⟩

theorem getB_cvH (h : Hp) : ∀ (q : Hp) (i : Nat), getB (cvH r h q) i = match getB q i with | .gone => getB (cvH r h q) i | b => (match prGet r i with | some j => cvB r h (getB h j) b | none => b)
  | [], i => by simp [getB]
  | (i0, b) :: q, i => by
    by_cases e : i = i0
    · subst e
      simp only [cvH, getB_cons, if_true]
      cases b <;> rfl
    · simp only [cvH, getB_cons, e, if_false]
      exact getB_cvH h q i
theorem wkC_get {nx nx' : Nat} : ∀ {q : Hp}, wkC T r nx nx' q = true → ∀ i, getB q i ≠ .gone → i < nx' ∧ ((∃ j, prGet r i = some j ∧ j < nx) ∨ (prGet r i = none ∧ freshNil T (getB q i) = true))
  | [], _, i, h => by simp [getB] at h
  | (i0, b) :: q, hc, i, h => by
    simp only [wkC, Bool.and_eq_true] at hc
    obtain ⟨⟨h1, h2⟩, h3⟩ := hc
    by_cases e : i = i0
    · subst e
      simp only [getB_cons, if_true] at h ⊢
      refine ⟨by simpa [Nat.blt_eq] using h1, ?_⟩
      cases hp : prGet r i with
      | some j => rw [hp] at h2; exact .inl ⟨j, rfl, by simpa [Nat.blt_eq] using h2⟩
      | none => rw [hp] at h2; exact .inr ⟨rfl, h2⟩
    · simp only [getB_cons, e, if_false] at h ⊢
      exact wkC_get h3 i h
theorem freshNil_spec {b : AB} (h : freshNil T b = true) : ∃ t cks, b = .arr true t true [] ∧ ckOf T t = some cks ∧ 0 < cks.length := by
  unfold freshNil at h
  split at h
  · rename_i t
    split at h
    · rename_i c cs e; exact ⟨t, _, rfl, e, by simp⟩
    · cases h
  · cases h

/-- Block by block. -/
theorem Wk.blk (k : Wk T s s') (i : Nat) : getB s'.heap i = .gone ∨ (i < s'.nx ∧ ((∃ j, prGet (prOf s s') i = some j ∧ j < s.nx ∧ cvB (prOf s s') s.heap (getB s.heap j) (getB s'.heap i) = getB s'.heap i) ∨
    (prGet (prOf s s') i = none ∧ ∃ t cks, getB s'.heap i = .arr true t true [] ∧ ckOf T t = some cks ∧ 0 < cks.length))) := by
  by_cases hg : getB s'.heap i = .gone
  · exact .inl hg
  · have hc := k.c
    simp only [Bool.and_eq_true] at hc
    obtain ⟨h1, h2⟩ := wkC_get hc.2 i hg
    refine .inr ⟨h1, ?_⟩
    rcases h2 with ⟨j, h2, h3⟩ | ⟨h2, h3⟩
    · refine .inl ⟨j, h2, h3, ?_⟩
      have := getB_cvH (r := prOf s s') s.heap s'.heap i
      rw [k.h, h2] at this
      cases hb : getB s'.heap i with
      | gone => exact absurd hb hg
      | box t cs => rw [hb] at this; exact this.symm
      | arr wr t b l => rw [hb] at this; exact this.symm
    · exact .inr ⟨h2, freshNil_spec h3⟩

theorem Wk.own (k : Wk T s s') {i b : Nat} (h : ownB (rCx C (prOf s s')) s'.heap i = some b) : ∃ j, prGet (prOf s s') i = some j ∧ ownB C s.heap j = some b := by
  rcases k.blk i with hg | ⟨_, h1 | h1⟩
  · simp [ownB, hg] at h
  · obtain ⟨j, h2, _, h3⟩ := h1
    refine ⟨j, h2, ?_⟩
    cases hb : getB s'.heap i with
    | gone => simp [ownB, hb] at h
    | box t cs =>
      rw [hb] at h3
      cases hb0 : getB s.heap j with
      | box t0 cs0 =>
        simp only [ownB, hb, rCx, h2] at h
        simp only [ownB, hb0]; exact h
      | _ => rw [hb0] at h3; cases h3
    | arr wr t n l =>
      rw [hb] at h3
      cases hb0 : getB s.heap j with
      | arr wr0 t0 n0 l0 =>
        rw [hb0] at h3
        simp only [cvB] at h3
        injection h3 with e1 e2 e3 e4
        cases wr with
        | false => simp [ownB, hb] at h
        | true =>
          have : wr0 = true := by simpa using e1
          subst this
          simp only [ownB, hb, rCx, h2] at h
          simp only [ownB, hb0]; exact h
      | _ => rw [hb0] at h3; cases h3
  · obtain ⟨h2, t, cks, h3, _⟩ := h1
    simp [ownB, h3, rCx, h2] at h
theorem Wk.XB (k : Wk T s s') : ∀ b, XB (rCx C (prOf s s')) s'.heap b → XB C s.heap b := fun b hb => by
  rcases hb with hb | ⟨i, hb⟩
  · exact .inl hb
  · obtain ⟨j, _, h2⟩ := k.own hb
    exact .inr ⟨j, h2⟩

/-- Own slices as data. -/
theorem outC_data (hc : CS T C s a w) {C2 : Cx} {s2 : St} (hX : ∀ b, Go.Proofs.Ytaghkmaelbgljaa.VX.XB C2 s2.heap b → Go.Proofs.Ytaghkmaelbgljaa.VX.XB C s.heap b) {j : Nat} (hno : ∀ b, ownB C s.heap j = some b → ¬ Go.Proofs.Ytaghkmaelbgljaa.VX.XB C2 s2.heap b) {v : Value} (h : RpK T C s w (.own j) v) :
    RpK T C2 s2 w (outC s.heap (.own j)) v := by
  obtain ⟨hid, h⟩ := h
  have hb := hc.blk j
  simp only [outC]
  cases hg : getB s.heap j with
  | arr wr t b l =>
    rw [hg] at h hb
    have h : v = hdr C j l.length := h
    subst h
    obtain ⟨cks, hk, hpos, hb⟩ := hb
    dsimp only
    rcases hb with ⟨rfl, h0, rfl⟩ | ⟨rfl, h0, g, o, hbase, hle, hrows, hwr, hnw⟩
    · exact RepC.em t _ _ _ rfl
    · simp only [hdr, hbase]
      cases l with
      | nil => exact RepC.em t _ _ _ rfl
      | cons e r =>
        have hnX : ¬ Go.Proofs.Ytaghkmaelbgljaa.VX.XB C2 s2.heap g := fun q => by
          cases wr with
          | true =>
            have : ownB C s.heap j = some g := by
              simp only [ownB, hg, hbase, Option.map_some]
              rw [if_neg (by omega)]
            exact hno g this q
          | false => exact hnw rfl (by simp) (hX g q)
        refine RepC.sl t cks (e :: r) g o (C.cap j) (fun i j => (w.cell? ⟨g, o + (i * cks.length + j), none⟩).getD undef) hk hpos (by simp) hnX hle (fun i e' he => (hrows i e' he).1) ?_ ?_
        · intro i j hi hj
          obtain ⟨e', he'⟩ : ∃ e', (e :: r)[i]? = some e' := ⟨_, List.getElem?_eq_getElem hi⟩
          obtain ⟨hlen, hcell⟩ := hrows i e' he'
          obtain ⟨y, hy⟩ : ∃ y, e'[j]? = some y := ⟨_, List.getElem?_eq_getElem (by omega)⟩
          obtain ⟨u, hu, _⟩ := hcell j y _ hy (List.getElem?_eq_getElem hj)
          simp [hu]
        · intro i e' j y c he' hy hcj
          obtain ⟨u, hu, hr⟩ := (hrows i e' he').2 j y c hy hcj
          rw [hu]
          exact hr.weak hX
  | _ => exact trivial

theorem cv_shape (k : Wk T s s') {i j : Nat} (hp : prGet (prOf s s') i = some j) {wr : Bool} {t : TypeId} {b : Bool} {l : List (List AV)} (h : getB s'.heap i = .arr wr t b l) : ∃ wr0, getB s.heap j = .arr wr0 t b l := by
  rcases k.blk i with hg | ⟨_, h1 | h1⟩
  · rw [hg] at h; cases h
  · obtain ⟨j', h2, _, h3⟩ := h1
    rw [hp] at h2
    injection h2 with h2
    subst h2
    rw [h] at h3
    cases hb0 : getB s.heap j with
    | arr wr0 t0 n0 l0 =>
      rw [hb0] at h3
      simp only [cvB] at h3
      injection h3 with e1 e2 e3 e4
      subst e2 e3 e4
      exact ⟨wr0, rfl⟩
    | _ => rw [hb0] at h3; cases h3
  · rw [hp] at h1; cases h1.1

theorem cvF_rep (k : Wk T s s') (hlt : ∀ i j, prGet (prOf s s') i = some j → i < s'.nx) {x y z : AV} {v : Value} (h : RpF C s x v) (hd : cvF (prOf s s') x y = some z) : RpF (rCx C (prOf s s')) s' z v := by
  cases x <;> simp only [RpF] at h
  case int k n => simp only [cvF] at hd; injection hd with hd; subst hd; exact h
  case ptr j o =>
    obtain ⟨rfl, hj⟩ := h
    cases y <;> simp only [cvF] at hd <;> try (cases hd; done)
    rename_i i o'
    cases hp : isP (prOf s s') i j with
    | false => rw [hp] at hd; cases hd
    | true =>
      rw [hp] at hd
      injection hd with hd
      subst hd
      have hp := isP_get hp
      simp only [RpF, rCx, hp]
      exact ⟨trivial, hlt i j hp⟩
  case own j =>
    obtain ⟨hj, h⟩ := h
    cases y <;> simp only [cvF] at hd <;> try (cases hd; done)
    rename_i i
    cases hp : isP (prOf s s') i j with
    | false => rw [hp] at hd; cases hd
    | true =>
      rw [hp] at hd
      injection hd with hd
      subst hd
      have hp := isP_get hp
      refine ⟨hlt i j hp, ?_⟩
      cases hb : getB s'.heap i with
      | arr wr t b l =>
        obtain ⟨wr0, h0⟩ := cv_shape k hp hb
        rw [h0] at h
        simpa only [hdr, rCx, hp] using h
      | _ => trivial
theorem cvFL_rep (k : Wk T s s') (hlt : ∀ i j, prGet (prOf s s') i = some j → i < s'.nx) : ∀ {xs ys zs : List AV} {vs : List Value}, all2 (RpF C s) xs vs → cvFL (prOf s s') xs ys = some zs → all2 (RpF (rCx C (prOf s s')) s') zs vs
  | [], [], zs, vs, h, hd => by simp only [cvFL] at hd; injection hd with hd; subst hd; exact (by cases vs with | nil => trivial | cons _ _ => exact h.elim)
  | x :: xs, y :: ys, zs, v :: vs, h, hd => by
    simp only [cvFL] at hd
    cases h1 : cvF (prOf s s') x y with
    | none => rw [h1] at hd; cases hd
    | some z =>
      rw [h1] at hd
      cases h2 : cvFL (prOf s s') xs ys with
      | none => rw [h2] at hd; cases hd
      | some q =>
        rw [h2] at hd
        injection hd with hd
        subst hd
        exact ⟨cvF_rep k hlt h.1 h1, cvFL_rep k hlt h.2 h2⟩
  | _ :: _, _, _, [], h, _ => h.elim
  | [], _ :: _, _, _, _, hd => by simp [cvFL] at hd
  | _ :: _, [], _, _, _, hd => by simp [cvFL] at hd

theorem cvK_rep (hc : CS T C s a w) (k : Wk T s s') (hlt : ∀ i j, prGet (prOf s s') i = some j → i < s'.nx) {x y : AV} {v : Value} (h : RpK T C s w x v)
    (hy : ∀ i, y = .own i → i < s'.nx) : RpK T (rCx C (prOf s s')) s' w (cvK (prOf s s') s.heap x y) v := by
  have hXB : ∀ b, XB (rCx C (prOf s s')) s'.heap b → XB C s.heap b := k.XB
  have other : RpK T (rCx C (prOf s s')) s' w (cvO x) v := by
    cases x
    case rel t l i o =>
      obtain ⟨hi, g, o, cap, cks, hk, hr, rfl⟩ := h
      exact ⟨hi, g, o, cap, cks, hk, hr.weak hXB, rfl⟩
    all_goals first | exact h | exact trivial
  cases y <;> simp only [cvK]
  case dead => exact trivial
  case bool b => cases x <;> first | exact h | exact trivial
  case own i =>
    cases x
    case own j =>
      dsimp only
      cases hp : isP (prOf s s') i j with
      | false => exact trivial
      | true =>
        have hp := isP_get hp
        obtain ⟨hj, h⟩ := h
        refine ⟨hlt i j hp, ?_⟩
        cases hb : getB s'.heap i with
        | arr wr t b l =>
          obtain ⟨wr0, h0⟩ := cv_shape k hp hb
          rw [h0] at h
          simpa only [hdr, rCx, hp] using h
        | _ => exact trivial
    case nils =>
      dsimp only
      cases hp : noP (prOf s s') i with
      | false => exact trivial
      | true =>
        have hp := noP_get hp
        refine ⟨hy i rfl, ?_⟩
        have h : v = .slice none 0 0 := h
        subst h
        cases hb : getB s'.heap i with
        | arr wr t b l =>
          rcases k.blk i with hg | ⟨_, h1 | h1⟩
          · rw [hg] at hb; cases hb
          · obtain ⟨j, h2, _⟩ := h1; rw [hp] at h2; cases h2
          · obtain ⟨_, t', cks, h3, _⟩ := h1
            rw [hb] at h3
            injection h3 with _ _ _ e
            subst e
            simp only [hdr, rCx, hp, List.length_nil]
        | _ => exact trivial
    all_goals exact trivial
  case ptr i o =>
    cases x
    case ptr j o' =>
      dsimp only
      cases hp : isP (prOf s s') i j with
      | false => exact trivial
      | true =>
        have hp := isP_get hp
        obtain ⟨rfl, hj⟩ := h
        simp only [cond_true, RpK, rCx, hp]
        exact ⟨trivial, hlt i j hp⟩
    all_goals exact trivial
  case vw i _ _ =>
    cases x
    case vw j lo n =>
      dsimp only
      cases hp : isP (prOf s s') i j with
      | false => exact trivial
      | true =>
        have hp := isP_get hp
        obtain ⟨hj, h⟩ := h
        refine ⟨hlt i j hp, ?_⟩
        cases hb : getB s'.heap i with
        | arr wr t b l =>
          obtain ⟨wr0, h0⟩ := cv_shape k hp hb
          rw [h0] at h
          simpa only [rCx, hp] using h
        | _ => exact trivial
    all_goals exact trivial
  case elt i _ _ =>
    cases x
    case elt j lo n =>
      dsimp only
      cases hp : isP (prOf s s') i j with
      | false => exact trivial
      | true =>
        have hp := isP_get hp
        obtain ⟨hj, h⟩ := h
        refine ⟨hlt i j hp, ?_⟩
        cases hb : getB s'.heap i with
        | arr wr t b l =>
          obtain ⟨wr0, h0⟩ := cv_shape k hp hb
          rw [h0] at h
          simpa only [rCx, hp] using h
        | _ => exact trivial
    all_goals exact trivial
  case sl b t l =>
    cases x
    case nils =>
      have h : v = .slice none 0 0 := h
      subst h
      exact RepC.em t true none 0 rfl
    case em b' =>
      obtain ⟨ad, rfl, hb⟩ := h
      exact RepC.em t b' ad 0 hb
    case own j =>
      dsimp only
      cases hp : hasV (prOf s s') j with
      | true => exact trivial
      | false =>
        refine outC_data hc hXB (fun q hq hX => ?_) h
        rcases hX with hX | ⟨i, hX⟩
        · exact (hc.own j q hq).2.2 hX
        · obtain ⟨j', h1, h2⟩ := k.own hX
          have := hc.inj j' j q h2 hq
          subst this
          rw [hasV_mem (prGet_mem h1)] at hp
          cases hp
    case sl b' t' l' => exact RepC.weak (show RepC T w (XB C s.heap) (.sl t') (.sl b' 0 l') v from h) hXB
    all_goals exact trivial
  case fn f' a' b' =>
    cases x
    case fn f p q =>
      dsimp only
      obtain ⟨fs, cs, rfl, h1, h2⟩ := h
      cases e1 : cvFL (prOf s s') p a' with
      | none => exact trivial
      | some p' =>
        cases e2 : cvFL (prOf s s') q b' with
        | none => exact trivial
        | some q' => exact ⟨fs, cs, rfl, cvFL_rep k hlt h1 e1, cvFL_rep k hlt h2 e2⟩
    all_goals exact trivial
  all_goals exact other

theorem cvL_rep (hc : CS T C s a w) (k : Wk T s s') (hlt : ∀ i j, prGet (prOf s s') i = some j → i < s'.nx) : ∀ {xs ys : List AV} {vs : List Value}, all2 (RpK T C s w) xs vs → (∀ y ∈ ys, ∀ i, y = .own i → i < s'.nx) → cvL (prOf s s') s.heap xs ys = ys → all2 (RpK T (rCx C (prOf s s')) s' w) ys vs
  | [], [], [], _, _, _ => trivial
  | [], [], _ :: _, h, _, _ => h.elim
  | x :: xs, y :: ys, v :: vs, h, hy, e => by
    simp only [cvL] at e
    injection e with e1 e2
    refine ⟨?_, cvL_rep hc k hlt h.2 (fun z hz => hy z (List.mem_cons_of_mem _ hz)) e2⟩
    have := cvK_rep hc k hlt h.1 (y := y) (hy y (List.mem_cons_self ..))
    rw [e1] at this; exact this
  | _ :: _, _, [], h, _, _ => h.elim
  | [], _ :: _, _, _, _, e => by simp [cvL] at e
  | _ :: _, [], _, _, _, e => by simp [cvL] at e
/-- The ids of own slices in a value. -/
def ownLt (n : Nat) : AV → Bool
  | .own i => Nat.blt i n
  | _ => true
def ownLtL (n : Nat) : List AV → Bool
  | [] => true
  | x :: r => ownLt n x && ownLtL n r
def ownLtA (n : Nat) : AV → Bool
  | .agg l => ownLtL n l
  | v => ownLt n v
def ownLtAL (n : Nat) : List AV → Bool
  | [] => true
  | x :: r => ownLtA n x && ownLtAL n r
def ownLtS (n : Nat) : AV → Bool
  | .tup l => ownLtAL n l
  | v => ownLtA n v
def ownLtE (n : Nat) : List (Nat × AV) → Bool
  | [] => true
  | (_, x) :: r => ownLtS n x && ownLtE n r
def ownLtH (n : Nat) : Hp → Bool
  | [] => true
  | (_, .box _ cs) :: r => ownLtL n cs && ownLtH n r
  | _ :: r => ownLtH n r
theorem ownLt_spec {n : Nat} {x : AV} (h : ownLt n x = true) : ∀ i, x = .own i → i < n := fun i e => by subst e; simpa [ownLt, Nat.blt_eq] using h
theorem ownLtL_spec {n : Nat} : ∀ {l : List AV}, ownLtL n l = true → ∀ y ∈ l, ∀ i, y = .own i → i < n
  | [], _ => by simp
  | x :: r, h => by
    simp only [ownLtL, Bool.and_eq_true] at h
    intro y hy
    rcases List.mem_cons.1 hy with rfl | hy
    · exact ownLt_spec h.1
    · exact ownLtL_spec h.2 y hy
theorem cvA_rep (hc : CS T C s a w) (k : Wk T s s') (hlt : ∀ i j, prGet (prOf s s') i = some j → i < s'.nx) {x y : AV} {v : Value} (h : RpA T C s w x v) (hy : ownLtA s'.nx y = true) (e : cvA (prOf s s') s.heap x y = y) : RpA T (rCx C (prOf s s')) s' w y v := by
  have one : ∀ {x : AV}, RpA T C s w x v → RpK T C s w x v ∨ ∃ l, x = .agg l := fun {x} h => by
    cases x
    case agg l => exact .inr ⟨l, rfl⟩
    all_goals exact .inl h
  cases y
  case agg l' =>
    simp only [cvA] at e
    cases x
    case agg l =>
      injection e with e
      obtain ⟨cs, rfl, h⟩ := h
      exact ⟨cs, rfl, cvL_rep hc k hlt h (ownLtL_spec hy) e⟩
    all_goals cases e
  all_goals
    simp only [cvA] at e
    simp only [ownLtA] at hy
    rcases one h with h | ⟨l, rfl⟩
    · have := cvK_rep hc k hlt h (y := _) (ownLt_spec hy)
      rw [e] at this
      exact RpA_of_K this
    · first | (cases e; done) | exact trivial
theorem cvAL_rep (hc : CS T C s a w) (k : Wk T s s') (hlt : ∀ i j, prGet (prOf s s') i = some j → i < s'.nx) : ∀ {xs ys : List AV} {vs : List Value}, all2 (RpA T C s w) xs vs → ownLtAL s'.nx ys = true → cvAL (prOf s s') s.heap xs ys = ys → all2 (RpA T (rCx C (prOf s s')) s' w) ys vs
  | [], [], [], _, _, _ => trivial
  | [], [], _ :: _, h, _, _ => h.elim
  | x :: xs, y :: ys, v :: vs, h, hy, e => by
    simp only [cvAL] at e
    injection e with e1 e2
    simp only [ownLtAL, Bool.and_eq_true] at hy
    exact ⟨cvA_rep hc k hlt h.1 hy.1 e1, cvAL_rep hc k hlt h.2 hy.2 e2⟩
  | _ :: _, _, [], h, _, _ => h.elim
  | [], _ :: _, _, _, _, e => by simp [cvAL] at e
  | _ :: _, [], _, _, _, e => by simp [cvAL] at e
theorem cvS_rep (hc : CS T C s a w) (hgs : s.gs = []) (k : Wk T s s') (hlt : ∀ i j, prGet (prOf s s') i = some j → i < s'.nx) {x y : AV} {v : Value} (h : RpE T C s w x v) (hy : ownLtS s'.nx y = true) (e : cvS (prOf s s') s.heap x y = y) : RpS T (rCx C (prOf s s')) s' w y v := by
  have one : RpA T C s w x v ∨ (∃ l, x = .tup l) ∨ (∃ t z, x = .iface t z) ∨ (∃ ch z, x = .opt ch z) := by
    cases x
    case tup l => exact .inr (.inl ⟨l, rfl⟩)
    case iface t z => exact .inr (.inr (.inl ⟨t, z, rfl⟩))
    case opt ch z => exact .inr (.inr (.inr ⟨ch, z, rfl⟩))
    all_goals exact .inl h
  cases y
  case tup l' =>
    simp only [cvS] at e
    cases x
    case tup l =>
      injection e with e
      obtain ⟨cs, rfl, h⟩ := h
      exact ⟨cs, rfl, cvAL_rep hc k hlt h hy e⟩
    all_goals cases e
  case agg l' =>
    simp only [cvS] at e
    rcases one with h | ⟨l, rfl⟩ | ⟨t, z, rfl⟩ | ⟨ch, z, rfl⟩
    · exact resA (cvA_rep hc k hlt h hy e)
    all_goals cases e
  all_goals
    simp only [cvS] at e
    rcases one with h | ⟨l, rfl⟩ | ⟨t, z, rfl⟩ | ⟨ch, z, rfl⟩
    · exact resA (cvA_rep hc k hlt h hy e)
    all_goals first | (cases e; done) | exact trivial

theorem getE_cvE (h : Hp) (env : List (Nat × AV)) : ∀ (q : List (Nat × AV)) (t : Nat), cvE r h env q = q → getE q t = .dead ∨ (cvS r h (getE env t) (getE q t) = getE q t)
  | [], t, _ => .inl rfl
  | (t0, y) :: q, t, e => by
    simp only [cvE] at e
    injection e with e1 e2
    injection e1 with _ e1
    simp only [getE_cons]
    split
    · rename_i e0; subst e0; exact .inr e1
    · exact getE_cvE h env q t e2
theorem ownLtE_get {n : Nat} : ∀ {q : List (Nat × AV)}, ownLtE n q = true → ∀ t, ownLtS n (getE q t) = true
  | [], _, t => rfl
  | (t0, y) :: q, h, t => by
    simp only [ownLtE, Bool.and_eq_true] at h
    simp only [getE_cons]
    split
    · exact h.1
    · exact ownLtE_get h.2 t
theorem ownLtH_get {n : Nat} : ∀ {q : Hp}, ownLtH n q = true → ∀ i t cs, getB q i = .box t cs → ownLtL n cs = true
  | [], _, i, t, cs, e => by cases e
  | (i0, b) :: q, h, i, t, cs, e => by
    have hq : ownLtH n q = true := by
      cases b <;> simp only [ownLtH, Bool.and_eq_true] at h <;> first | exact h | exact h.2
    rw [getB_cons] at e
    split at e
    · subst e
      simp only [ownLtH, Bool.and_eq_true] at h
      exact h.1
    · exact ownLtH_get hq i t cs e
def prLt (n : Nat) : Pr → Bool
  | [] => true
  | (i, _) :: q => Nat.blt i n && prLt n q
theorem prLt_get {n : Nat} : ∀ {r : Pr}, prLt n r = true → ∀ i j, prGet r i = some j → i < n
  | [], _, i, j, h => by cases h
  | (i0, j0) :: q, hp, i, j, h => by
    simp only [prLt, Bool.and_eq_true] at hp
    simp only [prGet] at h
    cases e : Nat.beq i0 i with
    | true => have := beq_nat e; subst this; simpa [Nat.blt_eq] using hp.1
    | false => rw [e] at h; exact prLt_get hp.2 i j h

/-- States brought to one form. -/
theorem Weak.auto (k : Wk T s s') (hn : (ownLtE s'.nx s'.env && ownLtH s'.nx s'.heap && prLt s'.nx (prOf s s')) = true) : Weak T s s' := by
  intro C a w hpin hc hgs hkn
  simp only [Bool.and_eq_true] at hn
  obtain ⟨⟨hn1, hn2⟩, hn3⟩ := hn
  have hlt : ∀ i j, prGet (prOf s s') i = some j → i < s'.nx := prLt_get hn3
  have hXB : ∀ b, XB (rCx C (prOf s s')) s'.heap b → XB C s.heap b := k.XB
  have hinj := k.c
  simp only [Bool.and_eq_true] at hinj
  refine ⟨rCx C (prOf s s'), KeepC.rC _ _, ⟨fun t => ?_, fun i => ?_, fun i hi => ?_, fun i i' b h h' => ?_, fun i b h => ?_, hc.g, hc.ge, (fun i b h => by have := hpin i; simp only [rCx] at h; rw [this] at h; cases h), (fun p hp => by rw [k.k] at hp; cases hp), hc.defers, hc.sz, hc.f, hc.io⟩, k.g, k.k⟩
  · rcases getE_cvE (r := prOf s s') s.heap s.env s'.env t k.e with e | e
    · rw [e]; exact trivial
    · exact RpE_of_RpS (cvS_rep hc hgs k hlt (hc.env t) (ownLtE_get hn1 t) e)
  · rcases k.blk i with hg | ⟨_, h1 | h1⟩
    · rw [hg]; exact trivial
    · obtain ⟨j, h2, _, h3⟩ := h1
      have hb := hc.blk j
      cases hb' : getB s'.heap i with
      | gone => exact trivial
      | box t cs =>
        rw [hb'] at h3
        cases hb0 : getB s.heap j with
        | box t0 cs0 =>
          rw [hb0] at h3 hb
          simp only [cvB] at h3
          injection h3 with e1 e2
          obtain ⟨vs, q1, q2, q3, q4⟩ := hb
          refine ⟨vs, ?_, ?_, cvL_rep hc k hlt q3 (ownLtL_spec (ownLtH_get hn2 i t cs hb')) e2, q4⟩
          · simp only [rCx, h2]; exact q1
          · simp only [rCx, h2]; exact q2
        | _ => rw [hb0] at h3; cases h3
      | arr wr t b l =>
        rw [hb'] at h3
        cases hb0 : getB s.heap j with
        | arr wr0 t0 n0 l0 =>
          rw [hb0] at h3 hb
          simp only [cvB] at h3
          injection h3 with e1 e2 e3 e4
          subst e2 e3 e4
          obtain ⟨cks, q1, q2, q3⟩ := hb
          refine ⟨cks, q1, q2, ?_⟩
          have eb : (rCx C (prOf s s')).base i = C.base j := by simp only [rCx, h2]
          have ec : (rCx C (prOf s s')).cap i = C.cap j := by simp only [rCx, h2]
          rw [eb, ec]
          rcases q3 with q | ⟨p1, p2, g, o, p3, p4, p5, p6, p7⟩
          · exact .inl q
          · refine .inr ⟨p1, p2, g, o, p3, p4, fun i e he => ⟨(p5 i e he).1, fun j x c hx hcj => ?_⟩, fun e => p6 ?_, fun e hl hx => ?_⟩
            · obtain ⟨v, hv, hr⟩ := (p5 i e he).2 j x c hx hcj
              exact ⟨v, hv, hr.weak hXB⟩
            · subst e; simpa using e1
            · cases wr0 with
              | false => exact p7 rfl hl (hXB g hx)
              | true =>
                have ho : ownB C s.heap j = some g := by
                  simp only [ownB, hb0, p3, Option.map_some]
                  rw [if_neg (by omega)]
                rcases hx with hx | ⟨i', hx⟩
                · exact (hc.own j g ho).2.2 hx
                · obtain ⟨j', r1, r2⟩ := k.own hx
                  have := hc.inj j' j g r2 ho
                  subst this
                  have := prInj_spec hinj.1 i' i j' (prGet_mem r1) (prGet_mem h2)
                  subst this
                  subst e
                  simp [ownB, hb'] at hx
        | _ => rw [hb0] at h3; cases h3
    · obtain ⟨h2, t, cks, h3, h4, h5⟩ := h1
      rw [h3]
      exact ⟨cks, h4, h5, .inl ⟨rfl, by simp only [rCx, h2], by simp only [rCx, h2, Option.isNone_none]⟩⟩
  · rcases k.blk i with hg | ⟨h1, _⟩
    · exact hg
    · omega
  · obtain ⟨j, h1, h2⟩ := k.own h
    obtain ⟨j', h1', h2'⟩ := k.own h'
    have := hc.inj j j' b h2 h2'
    subst this
    exact prInj_spec hinj.1 i i' j (prGet_mem h1) (prGet_mem h1')
  · obtain ⟨j, h1, h2⟩ := k.own h
    exact hc.own j b h2
end
end Go.Proofs.Ytaghkmaelbgljaa.VX

namespace Go.Proofs.Ytaghkmaelbgljaa.VX
section
variable {P : Program} {T : Tab}
def resSt (r : AV) (h : List AB) : St := ⟨[(0, r)], hpOf 0 h, h.length, [], []⟩
theorem ACalls.out {ρ : Type} {f : FuncId} {args : List AV} (A : ρ → AV) (H : ρ → List AB) {Q : ρ → Prop} {R : AV → List AB → Prop}
    (h : ACalls P T f args [] fun r h' => ∃ v, Weak T (resSt r h') (resSt (A v) (H v)) ∧ Q v) (hni : ∀ v t y, A v ≠ .iface t y) (hno : ∀ v ch y, A v ≠ .opt ch y) (hq : ∀ v, Q v → R (A v) (H v)) : ACalls P T f args [] R := by
  refine ⟨h.fn, fun C w vals hs ha => (h.calls C w vals hs ha).mono ?_⟩
  rintro e w' ⟨r, h', v, C', rfl, ⟨x, hw, hqx⟩, hk, hs', hrp, hl, _⟩
  have hC0 : C'.N = 0 := hs'.sz.symm
  have hpin : ∀ id, C'.pin id = none := fun id => by
    cases hp : C.pin id with
    | none => rw [hk.2.2.2.1]; exact hp
    | some b => exact absurd (hs.pin id b hp).2 (Nat.not_lt_zero _)
  have hc : CS T { C' with N := 1 } (resSt r h') ⟨#[v], []⟩ w' := by
    refine ⟨fun t => ?_, hs'.blk, hs'.nx, hs'.inj, hs'.own, hs'.g, hs'.ge, hs'.pin, hs'.kn, rfl, rfl, hs'.f, hs'.io⟩
    simp only [resSt, getE_cons]
    split
    · rename_i e; subst e
      exact RpE_of_RpS hrp
    · exact trivial
  obtain ⟨C3, hk3, hc3, _, _⟩ := hw { C' with N := 1 } _ _ hpin hc rfl rfl
  refine ⟨A x, H x, v, { C3 with N := 0 }, rfl, hq x hqx, ⟨hk3.1.trans hk.1, hk3.2.1.trans hk.2.1, hk3.2.2.1.trans hk.2.2.1, hk3.2.2.2.1.trans hk.2.2.2.1, by rw [← hk.2.2.2.2, hC0]⟩, ?_, ?_, Nat.zero_le _, hni x⟩
  · exact ⟨fun t => trivial, hc3.blk, hc3.nx, hc3.inj, hc3.own, hc3.g, hc3.ge, hc3.pin, hc3.kn, rfl, rfl, hc3.f, hc3.io⟩
  · have := hc3.env 0
    have e : getE (resSt (A x) (H x)).env 0 = A x := rfl
    rw [e] at this
    have hno := hno x
    revert this hno
    cases A x <;> intro this hno <;> first | exact this | exact absurd rfl (hno _ _)
end
end Go.Proofs.Ytaghkmaelbgljaa.VX
