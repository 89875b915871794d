/- The operations that only compute and read: what they answer. -/
import Derived.Test.YtaghkmaelbgljaaVX2
namespace Go.Proofs.Ytaghkmaelbgljaa.VX
section
variable {P : Program} {T : Tab} {C : Cx} {s : St} {a : Act} {w : World} {Hyp : Prop} {nd : Nd} {K : AV → Prop}

/-- Another world, the same but for the blocks of others. -/
def Same (C : Cx) (w w' : World) : Prop := ∀ b, b < w.heap.size → ¬ C.F b → w'.heap[b]? = w.heap[b]?
theorem Same.refl (C : Cx) (w : World) : Same C w w := fun _ _ _ => rfl
/-- What is wanted of a quiet operation. -/
def Ans (P : Program) (T : Tab) (C : Cx) (s : St) (w : World) (Hyp : Prop) (K : AV → Prop) (m : Sem Value) : Prop :=
  ∃ v, K v ∧ (Hyp → ∃ val, (∀ w', Same C w w' → m.run P w' = .ok val w') ∧ RpS T C s w v val)
theorem Ans.of {m : Sem Value} {v : AV} (hK : K v) (h : Hyp → ∃ val, (∀ w', Same C w w' → m.run P w' = .ok val w') ∧ RpS T C s w v val) : Ans P T C s w Hyp K m := ⟨v, hK, h⟩

theorem rp_int {k : IntKind} {n : Int} {v : Value} (h : RpS T C s w (.int k n) v) : v = .int k n := h
theorem rp_bool {b : Bool} {v : Value} (h : RpS T C s w (.bool b) v) : v = .bool b := h
theorem rp_kb {b : Bool} {v : Value} (h : RpS T C s w (.kb b) v) : v = .bool b := h
theorem rp_str {t : ByteArray} {v : Value} (h : RpS T C s w (.str t) v) : v = .string t := h

theorem wrap_quo (k : IntKind) (op : BinOp) (x y : Int) (hy : y ≠ 0) : (Op.intDiv op k x y) = (match op with | .quo => pure (.int k (k.wrap (x.tdiv y))) | .rem => pure (.int k (x.tmod y)) | _ => stuck "intDiv: / % expected") := by
  unfold Op.intDiv; rw [if_neg hy]; cases op <;> rfl

theorem xint_sound (hnd : ∀ c X, nd c X → X ∧ (Hyp → c)) (op : BinOp) (k : IntKind) (x y : Int) (t : TypeId) (h : xint nd op k x y K) :
    Ans P T C s w Hyp K (binOp op t (.int k x) (.int k y)) := by
  unfold xint at h
  split at h
  case h_4 =>
    obtain ⟨h, hb⟩ := hnd _ _ h
    exact .of h fun hy => ⟨_, fun w _ => by simp [binOp, wrap_quo k .quo x y (hb hy)], rfl⟩
  case h_5 =>
    obtain ⟨h, hb⟩ := hnd _ _ h
    exact .of h fun hy => ⟨_, fun w _ => by simp [binOp, wrap_quo k .rem x y (hb hy)], rfl⟩
  case h_16 => exact h.elim
  all_goals exact .of h fun _ => ⟨_, fun w _ => by simp [binOp, Op.intArith, Op.intCmp, Op.intBits, ibits], rfl⟩

theorem okV_noopt {v : AV} (h : okV v = true) : (∀ ch y, v ≠ .opt ch y) ∧ v ≠ .undef ∧ v ≠ .dead := by
  cases v <;> simp_all [okV]

/-! equality -/
def cellEq : Value → Value → Bool
  | .int _ a, .int _ b => a == b
  | .bool a, .bool b => a == b
  | .string a, .string b => a.toList == b.toList
  | _, _ => false
def Typed : CK → Value → Prop
  | .int k, v => ∃ n, v = .int k n
  | .bool, v => ∃ b, v = .bool b
  | .str, v => ∃ b, v = .string b
  | .sl _, _ => False
theorem eqCell_sound {c : CK} {x y : AV} {r : Bool} (h : eqCell c x y = some r) {u v : Value} (hu : RpK T C s w x u) (hv : RpK T C s w y v) : r = cellEq u v ∧ Typed c u ∧ Typed c v := by
  unfold eqCell at h
  split at h
  case h_1 k k1 n k2 m =>
    split at h
    · split at h
      · rename_i e e'; subst e e'; injection h with h; subst h
        simp only [RpK] at hu hv; subst hu hv; exact ⟨rfl, ⟨_, rfl⟩, _, rfl⟩
      · cases h
    · cases h
  case h_7 => cases h
  all_goals
    injection h with h; subst h
    simp only [RpK] at hu hv; subst hu hv
    exact ⟨rfl, ⟨_, rfl⟩, _, rfl⟩

/-- Cell by cell. -/
def eqAll : List Value → List Value → Bool
  | u :: us, v :: vs => cellEq u v && eqAll us vs
  | _, _ => true
theorem eqAll_append : ∀ (a b c d : List Value), a.length = c.length → eqAll (a ++ b) (c ++ d) = (eqAll a c && eqAll b d)
  | [], b, [], d, _ => by simp [eqAll]
  | x :: a, b, y :: c, d, h => by simp [eqAll, eqAll_append a b c d (by simpa using h), Bool.and_assoc]
  | [], _, _ :: _, _, h => by simp at h
  | _ :: _, _, [], _, h => by simp at h
theorem eqCells_sound : ∀ {ck : List CK} {xs ys : List AV} {r : Bool}, eqCells ck xs ys = some r → ∀ {us vs : List Value}, all2 (RpK T C s w) xs us → all2 (RpK T C s w) ys vs → r = eqAll us vs ∧ all2 Typed ck us ∧ all2 Typed ck vs
  | [], [], [], r, h, us, vs, hu, hv => by
    simp [eqCells] at h
    cases us <;> cases vs <;> simp_all [all2, eqAll]
  | c :: cs, x :: xs, y :: ys, r, h, us, vs, hu, hv => by
    cases us with
    | nil => exact hu.elim
    | cons u us =>
      cases vs with
      | nil => exact hv.elim
      | cons v vs =>
        cases hc : eqCell c x y with
        | none => simp [eqCells, hc] at h
        | some b =>
          obtain ⟨h1, h2, h2'⟩ := eqCell_sound hc hu.1 hv.1
          cases cs with
          | nil =>
            cases xs with
            | cons _ _ => simp [eqCells, hc] at h
            | nil =>
              cases ys with
              | cons _ _ => simp [eqCells, hc] at h
              | nil =>
                simp [eqCells, hc] at h
                subst h
                cases us with
                | cons _ _ => exact hu.2.elim
                | nil =>
                  cases vs with
                  | cons _ _ => exact hv.2.elim
                  | nil => exact ⟨by simpa [eqAll] using h1, ⟨h2, trivial⟩, h2', trivial⟩
          | cons c2 cs2 =>
            cases hr : eqCells (c2 :: cs2) xs ys with
            | none => simp only [eqCells, hc, hr] at h; cases h
            | some r' =>
              obtain ⟨h3, h4, h5⟩ := eqCells_sound hr hu.2 hv.2
              have : r = (b && r') := by
                simp only [eqCells, hc] at h
                rw [hr] at h
                injection h with h; exact h.symm
              subst this
              exact ⟨by simp only [eqAll]; rw [← h3, ← h1], ⟨h2, h4⟩, h2', h5⟩
  | [], [], _ :: _, _, h, _, _, _, _ => by simp [eqCells] at h
  | [], _ :: _, _, _, h, _, _, _, _ => by simp [eqCells] at h
  | _ :: _, [], _, _, h, _, _, _, _ => by simp [eqCells] at h
  | _ :: _, _ :: _, [], _, h, _, _, _, _ => by simp [eqCells] at h

theorem part_run {t : TypeId} {cs : Array Value} {off n : Nat} {d : TypeDesc} (hu : P.underlying t = some d) (hn : P.cellsOf t = n) (hi : (P.info? t).isSome = true) :
    (d.isRow = true → (part t cs off).run P w = .ok (.agg (cs.extract off (off + n))) w) ∧
    (d.isRow = false → ∀ v, cs[off]? = some v → (part t cs off).run P w = .ok v w) := by
  obtain ⟨i, hi⟩ := Option.isSome_iff_exists.1 hi
  constructor
  · intro hd
    have hsz : (sizeOf t).run P w = .ok n w := by simp [sizeOf, typeInfo, hi, ← hn, Program.cellsOf]
    simp [part, run_isAgg hu w, hd, hsz]
  · intro hd v hv
    simp [part, run_isAgg hu w, hd, hv]
theorem info_of_underlying {t : TypeId} {d : TypeDesc} (hu : P.underlying t = some d) : (P.info? t).isSome = true := by
  unfold Program.underlying at hu
  cases hi : P.info? t with
  | none => simp [hi] at hu
  | some i => rfl

/-- The value that stands for all of these cells. -/
def valOf (d : TypeDesc) (cs : List Value) : Value :=
  if d.isRow then .agg cs.toArray else cs.getD 0 undef
theorem all2_split {α β : Type} {R : α → β → Prop} : ∀ {a b : List α} {ys : List β}, all2 R (a ++ b) ys → ∃ y1 y2, ys = y1 ++ y2 ∧ y1.length = a.length ∧ all2 R a y1 ∧ all2 R b y2
  | [], b, ys, h => ⟨[], ys, rfl, rfl, trivial, h⟩
  | x :: a, b, y :: ys, h => by
    obtain ⟨y1, y2, rfl, h1, h2, h3⟩ := all2_split h.2
    exact ⟨y :: y1, y2, rfl, by simp [h1], ⟨h.1, h2⟩, h3⟩
  | _ :: _, _, [], h => h.elim

theorem eqFs_sound {g : TypeId → Option (List CK)} {D : Nat}
    (hg : ∀ t ck, g t = some ck → ∀ us vs, all2 Typed ck us → all2 Typed ck vs → ∃ td, P.underlying t = some td ∧ (td.isRow = false → ck.length = 1) ∧ (Op.equalIn D t (valOf td us) (valOf td vs)).run P w = .ok (eqAll us vs) w) :
    ∀ (fs : List Field) (o : Nat) (ck : List CK), eqFs P g o fs = some ck → ∀ (pre pre' us vs : List Value), pre.length = o → pre'.length = o → all2 Typed ck us → all2 Typed ck vs →
      (Op.eqFields D (pre ++ us).toArray (pre' ++ vs).toArray fs).run P w = .ok (eqAll us vs) w
  | [], o, ck, h, pre, pre', us, vs, _, _, hu, hv => by
    simp [eqFs] at h
    subst h
    cases us <;> cases vs <;> simp_all [all2, eqAll, Op.eqFields]
  | f :: fs, o, ck, h, pre, pre', us, vs, hp, hp', hu, hv => by
    simp only [eqFs] at h
    cases hc : g f.type with
    | none => simp [hc] at h
    | some c =>
      simp only [hc] at h
      cases hb : (Nat.beq f.offset o && Nat.beq (P.cellsOf f.type) c.length && f.name != "_") with
      | false => simp [hb] at h
      | true =>
        simp only [hb, cond_true] at h
        cases hr : eqFs P g (o + c.length) fs with
        | none => simp [hr] at h
        | some r =>
          simp only [hr] at h
          injection h with h
          subst h
          simp only [Bool.and_eq_true] at hb
          obtain ⟨⟨hb1, hb2⟩, hb3⟩ := hb
          have hoff := beq_nat hb1
          have hcells := beq_nat hb2
          have hn : f.name ≠ "_" := by simpa using hb3
          obtain ⟨u1, u2, rfl, hl1, h1, h2⟩ := all2_split hu
          obtain ⟨v1, v2, rfl, hl1', h1', h2'⟩ := all2_split hv
          obtain ⟨td, htd, hone, heq⟩ := hg f.type c hc u1 v1 h1 h1'
          have hpart : ∀ (q x y : List Value), q.length = o → x.length = c.length → (part f.type (q ++ (x ++ y)).toArray f.offset).run P w = .ok (valOf td x) w := fun q x y hq hx => by
            obtain ⟨p1, p2⟩ := part_run (P := P) (w := w) (cs := (q ++ (x ++ y)).toArray) (off := f.offset) htd hcells (info_of_underlying htd)
            cases hrow : td.isRow with
            | true =>
              rw [p1 hrow]
              simp only [valOf, hrow, if_true]
              congr 2
              rw [hoff]
              apply Array.ext'
              simp only [List.extract_toArray, List.extract_eq_take_drop, Nat.add_sub_cancel_left]
              rw [List.drop_append_of_le_length (by omega), ← hq, List.drop_length, List.nil_append, ← hx, List.take_left']
              rfl
            | false =>
              have h1c := hone hrow
              obtain ⟨x0, rfl⟩ : ∃ x0, x = [x0] := by
                match x, hx with
                | [x0], _ => exact ⟨x0, rfl⟩
                | [], hx => simp at hx; omega
                | _ :: _ :: _, hx => simp at hx; omega
              rw [p2 hrow x0 (by rw [hoff, ← hq]; simp)]
              simp [valOf, hrow]
          rw [Op.eqFields]
          simp only [if_pos hn, Sem.run_bind, hpart pre u1 u2 hp hl1, hpart pre' v1 v2 hp' hl1', heq, Result.andThen_ok]
          have ih := eqFs_sound hg fs (o + c.length) r hr (pre ++ u1) (pre' ++ v1) u2 v2 (by simp; omega) (by simp; omega) h2 h2'
          rw [eqAll_append u1 u2 v1 v2 (by rw [hl1, hl1'])]
          cases hq : eqAll u1 v1 with
          | false => simp
          | true => simpa [List.append_assoc] using ih
theorem eqCk_sound : ∀ (d : Nat) (t : TypeId) (ck : List CK), eqCk P d t = some ck → ∀ (D : Nat), d ≤ D → ∀ (us vs : List Value), all2 Typed ck us → all2 Typed ck vs →
    ∃ td, P.underlying t = some td ∧ (td.isRow = false → ck.length = 1) ∧ (Op.equalIn D t (valOf td us) (valOf td vs)).run P w = .ok (eqAll us vs) w
  | 0, _, _, h, _, _, _, _, _, _ => by simp [eqCk] at h
  | d + 1, t, ck, h, D, hD, us, vs, hu, hv => by
    obtain ⟨D, rfl⟩ : ∃ D', D = D' + 1 := ⟨D - 1, by omega⟩
    unfold eqCk at h
    cases htd : P.underlying t with
    | none => simp [htd] at h
    | some td =>
      rw [htd] at h
      refine ⟨td, rfl, ?_⟩
      have one : ∀ c, ck = [c] → ∃ u v, us = [u] ∧ vs = [v] ∧ Typed c u ∧ Typed c v := fun c e => by
        subst e
        match us, vs, hu, hv with
        | [u], [v], hu, hv => exact ⟨u, v, rfl, rfl, hu.1, hv.1⟩
        | [], _, hu, _ => exact hu.elim
        | _ :: _ :: _, _, hu, _ => exact hu.2.elim
        | [u], [], _, hv => exact hv.elim
        | [u], _ :: _ :: _, _, hv => exact hv.2.elim
      cases td <;> simp only at h
      case bool =>
        injection h with h; subst h
        obtain ⟨u, v, rfl, rfl, ⟨b, rfl⟩, ⟨b', rfl⟩⟩ := one _ rfl
        exact ⟨fun _ => rfl, by simpa [valOf, TypeDesc.isRow, eqAll, cellEq] using run_equalIn_bool' w D t b b' htd⟩
      case int k =>
        injection h with h; subst h
        obtain ⟨u, v, rfl, rfl, ⟨b, rfl⟩, ⟨b', rfl⟩⟩ := one _ rfl
        exact ⟨fun _ => rfl, by simpa [valOf, TypeDesc.isRow, eqAll, cellEq] using run_equalIn_int w D t k k b b' htd⟩
      case string =>
        injection h with h; subst h
        obtain ⟨u, v, rfl, rfl, ⟨b, rfl⟩, ⟨b', rfl⟩⟩ := one _ rfl
        exact ⟨fun _ => rfl, by simpa [valOf, TypeDesc.isRow, eqAll, cellEq] using run_equalIn_string w D t b b' htd⟩
      case struct fs =>
        cases hst : P.stoodInHeld t with
        | true => simp [hst] at h
        | false =>
          simp only [hst, cond_false] at h
          refine ⟨fun h => by simp [TypeDesc.isRow] at h, ?_⟩
          have := eqFs_sound (P := P) (w := w) (g := eqCk P d) (D := D) (fun t' ck' h' us' vs' hu' hv' => eqCk_sound d t' ck' h' D (by omega) us' vs' hu' hv') fs.toList 0 ck h [] [] us vs rfl rfl hu hv
          have hf : P.fieldsOf t = fs := by simp [Program.fieldsOf, htd]
          simp only [valOf, TypeDesc.isRow, if_true]
          rw [run_equalIn_struct (P := P) w D t us.toArray vs.toArray (by rw [hf]; exact htd) hst, hf]
          simpa using this
      all_goals cases h
end
end Go.Proofs.Ytaghkmaelbgljaa.VX
