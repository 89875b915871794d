/- Calls: what a call makes of the caller's state. -/
import Derived.Test.YtaghkmaelbgljaaVXi
namespace Go.Proofs.Ytaghkmaelbgljaa.VX
section
variable {P : Program} {T : Tab} {C C' : Cx} {s s' : St} {a : Act} {w w' : World}

/-- The callee's context: what isn't lent is kept clear of, and nothing that is there changes. -/
def calleeC (C : Cx) (h : Hp) (w : World) (lent : List Nat) : Cx :=
  { β := fun _ => 0, base := fun _ => none, cap := fun _ => 0, F := fun b => C.F b ∨ ∃ id, ownB C h id = some b ∧ (id ∈ lent → ∃ t cs, getB h id = .box t cs), G := fun b => b < w.heap.size, w0 := w, pin := fun _ => none, N := 0 }
theorem calleeHS (hc : CS T C s a w) (lent : List Nat) : HS T (calleeC C s.heap w lent) [] w := by
  have hno : ∀ id, ownB (calleeC C s.heap w lent) (stOf []).heap id = none := fun id => rfl
  refine ⟨fun t => ?_, fun id => trivial, fun id _ => rfl, (fun id id' b h => by rw [hno] at h; cases h), (fun id b h => by rw [hno] at h; cases h), fun b h => ⟨h, rfl⟩, Nat.le_refl _, (fun id b h => by cases h), (fun p hp => by cases hp), rfl, rfl, fun b h => ?_, ⟨rfl, rfl, rfl⟩⟩
  · exact trivial
  · rcases h with h | ⟨id, h, _⟩
    · exact hc.f b h
    · exact (hc.own id b h).1

theorem XB_callee (lent : List Nat) {b : Nat} (h : XB (calleeC C s.heap w lent) (stOf []).heap b) : C.F b ∨ ∃ id, ownB C s.heap id = some b ∧ (id ∈ lent → ∃ t cs, getB s.heap id = .box t cs) := by
  rcases h with h | ⟨id, h⟩
  · exact h
  · cases h

theorem argC1_rep (hc : CS T C s a w) {x : AV} {v : Value} (h : RpK T C s w x v) {lent : List Nat} (hl : ∀ id ∈ lendC x, id ∈ lent) : RpK T (calleeC C s.heap w lent) (stOf []) w (argC1 s.heap x) v := by
  have weak : ∀ b, XB (calleeC C s.heap w lent) (stOf []).heap b → XB C s.heap b := fun b hb => (XB_callee lent hb).imp id (fun ⟨id, h, _⟩ => ⟨id, h⟩)
  have own : ∀ (id : Nat) (x : AV), x = .own id ∨ (∃ lo n, x = .vw id lo n) → id ∈ lent → RpK T C s w x v → RpK T (calleeC C s.heap w lent) (stOf []) w (match rowsOf s.heap x with | some (b, t, l) => .sl b t l | none => .dead) v := fun id x hx hid h => by
    cases hr : rowsOf s.heap x with
    | none => trivial
    | some q =>
      obtain ⟨b, t, l⟩ := q
      simp only
      -- freeze it in thought
      obtain ⟨hc1, E1, hfz⟩ := hc.freeze [id]
      have hrep : RepC T w (XB C (frzs s [id]).heap) (.sl t) (.sl b t l) v := by
        have hfit : fitC (frzs s [id]).heap (.sl t) x = some (.sl b t l) := by
          have hrow : rowsOf (frzs s [id]).heap x = some (b, t, l) := by
            rcases hx with rfl | ⟨lo, n, rfl⟩
            · simp only [rowsOf] at hr ⊢
              cases hb : getB s.heap id with
              | gone => simp [hb] at hr
              | box _ _ => simp [hb] at hr
              | arr wr t' b' l' =>
                obtain ⟨wr', h1, _⟩ := (hfz id).1 _ _ _ _ hb
                rw [h1]
                rw [hb] at hr
                exact hr
            · simp only [rowsOf] at hr ⊢
              cases hb : getB s.heap id with
              | gone => simp [hb] at hr
              | box _ _ => simp [hb] at hr
              | arr wr t' b' l' =>
                obtain ⟨wr', h1, _⟩ := (hfz id).1 _ _ _ _ hb
                rw [h1]
                rw [hb] at hr
                exact hr
          rcases hx with rfl | ⟨lo, n, rfl⟩ <;> simp only [fitC, hrow, Nat.beq_refl, cond_true]
        refine fitC_sound hc1 hfit (RpK.ext E1 h) (fun id' hid' wr t' b' l' hb' => ?_)
        have : id' = id := by rcases hx with rfl | ⟨lo, n, rfl⟩ <;> simpa [lendC] using hid'
        subst this
        cases hb0 : getB s.heap id' with
        | arr wr0 t0 b0 l0 =>
          obtain ⟨wr1, h4, h5⟩ := (hfz id').1 _ _ _ _ hb0
          rw [hb'] at h4
          injection h4 with h4
          rw [h4]; exact h5 (by simp)
        | box t0 cs0 => have := (hfz id').2 (by simp [hb0]); rw [hb', hb0] at this; cases this
        | gone => have := (hfz id').2 (by simp [hb0]); rw [hb', hb0] at this; cases this
      refine hrep.weak (fun q hq => ?_)
      rcases XB_callee lent hq with hF | ⟨i, hi, hn⟩
      · exact .inl hF
      · refine .inr ⟨i, ?_⟩
        have hne : i ≠ id := fun e => by
          obtain ⟨t0, cs0, h0⟩ := hn (e ▸ hid)
          rw [e] at h0
          rcases hx with rfl | ⟨lo, n, rfl⟩ <;> simp [rowsOf, h0] at hr
        have : getB (frzs s [id]).heap i = getB s.heap i := by
          cases hb0 : getB s.heap id with
          | arr wr t0 b0 l0 => simp only [frzs, Go.Proofs.Ytaghkmaelbgljaa.VX.freeze, hb0, getB_cons, hne, if_false]
          | box _ _ => simp only [frzs, Go.Proofs.Ytaghkmaelbgljaa.VX.freeze, hb0]
          | gone => simp only [frzs, Go.Proofs.Ytaghkmaelbgljaa.VX.freeze, hb0]
        simp only [ownB, this] at hi ⊢
        exact hi
  cases x <;> simp only [argC1, argC]
  case own id => exact own id _ (.inl rfl) (hl id (by simp [lendC])) h
  case vw id lo n => exact own id _ (.inr ⟨lo, n, rfl⟩) (hl id (by simp [lendC])) h
  case sl b t l => exact RepC.weak (show RepC T w (XB C s.heap) (.sl t) (.sl b t l) v from h) weak
  case rel t l i off =>
    obtain ⟨hi, g, o, cap, cks, hk, hr, rfl⟩ := h
    exact ⟨hi, g, o, cap, cks, hk, hr.weak weak, rfl⟩
  case fn f first cap =>
    cases first with
    | nil =>
      cases cap with
      | nil =>
        obtain ⟨fs, cs, rfl, h1, h2⟩ := h
        refine ⟨fs, cs, rfl, ?_, ?_⟩
        · cases hh : fs.toList with
          | nil => trivial
          | cons _ _ => rw [hh] at h1; exact h1.elim
        · cases hh : cs.toList with
          | nil => trivial
          | cons _ _ => rw [hh] at h2; exact h2.elim
      | cons _ _ => trivial
    | cons _ _ => trivial
  all_goals first | exact h | trivial

def argV1' (h : Hp) : AV → AV
  | .agg l => .agg (l.map (argC1 h))
  | .tup _ => .dead
  | .iface _ _ => .dead
  | v => argC1 h v
theorem argV1_eq (h : Hp) (v : AV) (K : AV → Prop) : argV1 h v K = K (argV1' h v) := by
  unfold argV1 argV1'; cases v <;> simp [mapK_eq, forceK_eq]
theorem argVs1_eq (h : Hp) : ∀ (l : List AV) (K : List AV → Prop), argVs1 h l K = K (l.map (argV1' h))
  | [], _ => rfl
  | v :: r, K => by simp [argVs1, argV1_eq, argVs1_eq h r]
theorem argV1_rep (hc : CS T C s a w) {x : AV} {v : Value} (h : RpS T C s w x v) {lent : List Nat} (hl : ∀ id ∈ lend x, id ∈ lent) : RpS T (calleeC C s.heap w lent) (stOf []) w (argV1' s.heap x) v := by
  cases x
  case agg l =>
    obtain ⟨cs, rfl, h⟩ := h
    refine ⟨cs, rfl, ?_⟩
    have key : ∀ (l : List AV) (us : List Value), (∀ id ∈ lendL l, id ∈ lent) → all2 (RpK T C s w) l us → all2 (RpK T (calleeC C s.heap w lent) (stOf []) w) (l.map (argC1 s.heap)) us := by
      intro l
      induction l with
      | nil => intro us _ h; cases us with | nil => trivial | cons _ _ => exact h.elim
      | cons y r ih =>
        intro us hl h
        cases us with
        | nil => exact h.elim
        | cons u us => exact ⟨argC1_rep hc h.1 (fun id hid => hl id (by simp [lendL, hid])), ih us (fun id hid => hl id (by simp [lendL, hid])) h.2⟩
    exact key l _ hl h
  case tup l => trivial
  case iface t y => trivial
  all_goals
    simp only [RpS, RpA] at h
    exact RpS_of_RpK (argC1_rep hc h hl)
theorem argVs1_rep (hc : CS T C s a w) {lent : List Nat} : ∀ (xs : List AV) (vs : List Value), all2 (RpS T C s w) xs vs → (∀ id ∈ lendAll xs, id ∈ lent) → all2 (RpS T (calleeC C s.heap w lent) (stOf []) w) (xs.map (argV1' s.heap)) vs
  | [], [], _, _ => trivial
  | x :: xs, v :: vs, h, hl => ⟨argV1_rep hc h.1 (fun id hid => hl id (by simp [lendAll, hid])), argVs1_rep hc xs vs h.2 (fun id hid => hl id (by simp [lendAll, hid]))⟩
  | [], _ :: _, h, _ => h.elim
  | _ :: _, [], h, _ => h.elim

/-- The caller's state behind the call. s1: where what was lent is frozen, if need be. -/
theorem join_state (hc : CS T C s a w) {Cc : Cx} (hG : Cc.G = fun b => b < w.heap.size) (hw0 : Cc.w0 = w) {h' : List AB} (hs : HS T C' h' w') (hk : KeepC Cc C')
    (hX : hasSlBs T h' = true → ∀ b, XB (C.join C' s.nx) (layed s.nx (h'.map (renB' (shift s.nx))) s.heap).1 b → XB C' (hpOf 0 h') b) :
    CS T (C.join C' s.nx) ⟨s.env, (layed s.nx (h'.map (renB' (shift s.nx))) s.heap).1, s.nx + h'.length, s.gs, s.kn⟩ a w' := by
  obtain ⟨hF', hG', hw0', hpin', hN'⟩ := hk
  have hget : ∀ id, getB (layed s.nx (h'.map (renB' (shift s.nx))) s.heap).1 id = if s.nx ≤ id ∧ id < s.nx + h'.length then ((h'.map (renB' (shift s.nx)))[id - s.nx]?).getD .gone else getB s.heap id := fun id => by
    rw [layed_get]; simp
  have hsame : ∀ b, b < w.heap.size → w'.heap[b]? = w.heap[b]? := fun b hb => by
    have := (hs.g b (by rw [hG', hG]; exact hb)).2
    rw [hw0', hw0] at this
    exact this
  have hge : w.heap.size ≤ w'.heap.size := by have := hs.ge; rw [hw0', hw0] at this; exact this
  have hlow : ∀ id, id < s.nx → getB (layed s.nx (h'.map (renB' (shift s.nx))) s.heap).1 id = getB s.heap id := fun id hid => by rw [hget, if_neg (by omega)]
  have hhigh : ∀ j, j < h'.length → getB (layed s.nx (h'.map (renB' (shift s.nx))) s.heap).1 (s.nx + j) = renB' (shift s.nx) ((h'[j]?).getD .gone) := fun j hj => by
    rw [hget, if_pos (by omega), Nat.add_sub_cancel_left, List.getElem?_map, List.getElem?_eq_getElem hj]; rfl
  have ownlow : ∀ id, id < s.nx → ownB (C.join C' s.nx) (layed s.nx (h'.map (renB' (shift s.nx))) s.heap).1 id = ownB C s.heap id := fun id hid => by
    simp only [ownB, hlow id hid, Cx.join, hid, if_true]
  have ownhigh : ∀ j, j < h'.length → ownB (C.join C' s.nx) (layed s.nx (h'.map (renB' (shift s.nx))) s.heap).1 (s.nx + j) = ownB C' (hpOf 0 h') j := fun j hj => by
    have hn : ¬ (s.nx + j < s.nx) := by omega
    simp only [ownB, hhigh j hj, getB_hpOf0, Cx.join, hn, if_false, Nat.add_sub_cancel_left]
    cases (h'[j]?).getD .gone with
    | box _ _ => rfl
    | gone => rfl
    | arr wr _ _ _ => cases wr <;> rfl
  have hcase : ∀ id q, ownB (C.join C' s.nx) (layed s.nx (h'.map (renB' (shift s.nx))) s.heap).1 id = some q → (id < s.nx ∧ ownB C s.heap id = some q) ∨ ∃ j, j < h'.length ∧ id = s.nx + j ∧ ownB C' (hpOf 0 h') j = some q := fun id q h => by
    by_cases hid : id < s.nx
    · rw [ownlow id hid] at h; exact .inl ⟨hid, h⟩
    · by_cases hj : id - s.nx < h'.length
      · right
        refine ⟨id - s.nx, hj, by omega, ?_⟩
        have e : id = s.nx + (id - s.nx) := by omega
        rw [e, ownhigh _ hj] at h
        simpa using h
      · exfalso
        simp only [ownB] at h
        rw [hget, if_neg (by omega), hc.nx id (by omega)] at h
        cases h
  have hnew : ∀ j q, ownB C' (hpOf 0 h') j = some q → w.heap.size ≤ q := fun j q h => by
    have := (hs.own j q h).2.1
    rw [hG', hG] at this
    omega
  have E : Ext C s w (C.join C' s.nx) ⟨s.env, (layed s.nx (h'.map (renB' (shift s.nx))) s.heap).1, s.nx + h'.length, s.gs, s.kn⟩ w' := by
    refine ⟨fun b hb _ => hsame b hb, fun b hb hx => ?_, Nat.le_add_right _ _, fun id hid => ?_, fun id hid wr' t' b' l' h => ?_⟩
    · rcases hx with hx | ⟨id, hx⟩
      · exact .inl hx
      · rcases hcase id b hx with ⟨_, h⟩ | ⟨j, _, _, h⟩
        · exact .inr ⟨id, h⟩
        · have := hnew j b h; omega
    · simp only [Cx.join, hid, if_true, and_self]
    · rw [hlow id hid] at h; exact ⟨wr', b', l', h, rfl⟩
  refine hc.heap E rfl rfl rfl (fun id => ?_) (fun id hid => ?_) (fun id id' q h h' => ?_) (fun id q h => ?_) hge (fun q hq => hsame q (Nat.lt_of_lt_of_le (hc.g q hq).1 hc.ge)) ⟨rfl, rfl, rfl, rfl, rfl⟩ (by have := hs.io; rw [hw0', hw0] at this; exact this)
  · by_cases hid : id < s.nx
    · left; exact ⟨hid, hlow id hid, fun q hq => hsame q (hc.own id q hq).1⟩
    · right
      by_cases hj : id - s.nx < h'.length
      · obtain ⟨j, rfl⟩ : ∃ j, id = s.nx + j := ⟨id - s.nx, by omega⟩
        have hj : j < h'.length := by omega
        have hbj := hs.blk j
        have hg0 : getB (stOf h').heap j = h'[j] := by show getB (hpOf 0 h') j = _; rw [getB_hpOf0, List.getElem?_eq_getElem hj]; rfl
        rw [hg0] at hbj
        rw [hhigh j hj, List.getElem?_eq_getElem hj, Option.getD_some]
        have hslB : hasSlB T h'[j] = true → hasSlBs T h' = true := fun e => by
          have key : ∀ (l : List AB) (j : Nat) (hj : j < l.length), hasSlB T l[j] = true → hasSlBs T l = true := by
            intro l
            induction l with
            | nil => intro j hj; simp at hj
            | cons b r ih =>
              intro j hj e
              cases j with
              | zero => simp at e; simp [hasSlBs, e]
              | succ j => simp [hasSlBs, ih j (by simpa using hj) (by simpa using e)]
          exact key h' j hj e
        have hn : ¬ (s.nx + j < s.nx) := by omega
        cases hbk : h'[j] with
        | gone => trivial
        | box t cs =>
          rw [hbk] at hbj
          obtain ⟨vs, h1, h2, h3, h4⟩ := hbj
          have hb' : (C.join C' s.nx).β (s.nx + j) = C'.β j := by simp only [Cx.join, hn, if_false, Nat.add_sub_cancel_left]
          refine ⟨vs, by rw [hb']; exact h1, by rw [hb']; exact h2, ?_, h4⟩
          have key : ∀ (l : List AV) (us : List Value), (hasSlL l = true → hasSlL cs = true) → all2 (RpK T C' (stOf h') w') l us → all2 (RpK T (C.join C' s.nx) ⟨s.env, (layed s.nx (h'.map (renB' (shift s.nx))) s.heap).1, s.nx + h'.length, s.gs, s.kn⟩ w') (l.map (renC (shift s.nx))) us := by
            intro l
            induction l with
            | nil => intro us _ h; cases us with | nil => trivial | cons _ _ => exact h.elim
            | cons y r ih =>
              intro us hsl h
              cases us with
              | nil => exact h.elim
              | cons u us => exact ⟨RpC_join rfl hget (fun e => hX (hslB (by rw [hbk]; exact hsl (by simp [hasSlL, e])))) h.1, ih us (fun e => hsl (by simp [hasSlL, e])) h.2⟩
          exact key cs vs id h3
        | arr wr t b l =>
          rw [hbk] at hbj
          obtain ⟨cks, hk, hp, hbj⟩ := hbj
          have e2 : (C.join C' s.nx).base (s.nx + j) = C'.base j := by simp only [Cx.join, hn, if_false, Nat.add_sub_cancel_left]
          have e3 : (C.join C' s.nx).cap (s.nx + j) = C'.cap j := by simp only [Cx.join, hn, if_false, Nat.add_sub_cancel_left]
          refine ⟨cks, hk, hp, ?_⟩
          rw [e2, e3]
          rcases hbj with h | ⟨q1, q2, g, o, q3, q4, q5, q6, q7⟩
          · exact .inl h
          · refine .inr ⟨q1, q2, g, o, q3, q4, ?_, q6, fun hw hne => ?_⟩
            · intro i r hr
              obtain ⟨r1, r2⟩ := q5 i r hr
              refine ⟨r1, fun j2 x c hx hcc => ?_⟩
              obtain ⟨v, hv, hrep⟩ := r2 j2 x c hx hcc
              refine ⟨v, hv, ?_⟩
              cases c with
              | sl t2 =>
                have hslT : hasSlBs T h' = true := hslB (by
                  rw [hbk]
                  simp only [hasSlB, hk]
                  have key : ∀ (l : List CK) (j : Nat) (t2 : TypeId), l[j]? = some (.sl t2) → ckSl l = true := by
                    intro l
                    induction l with
                    | nil => intro j t2 h; simp at h
                    | cons c r ih =>
                      intro j t2 h
                      cases j with
                      | zero => simp at h; subst h; rfl
                      | succ j => have := ih j t2 (by simpa using h); cases c <;> simp [ckSl, this]
                  rw [Bool.or_eq_true]
                  exact .inr (key cks j2 t2 hcc))
                exact hrep.weak (hX hslT)
              | int k => cases hrep; exact .int _ _
              | bool => cases hrep; exact .bool _
              | str => cases hrep; exact .str _
            · have hslT : hasSlBs T h' = true := hslB (by rw [hbk, hw]; simp [hasSlB])
              exact fun hx => q7 hw hne (hX hslT g hx)
      · rw [hget, if_neg (by omega), hc.nx id (by omega)]; trivial
  · rw [hget, if_neg (by simp at hid; omega)]
    exact hc.nx id (by simp at hid; omega)
  · rcases hcase id q h with ⟨l1, h1⟩ | ⟨j1, l1, rfl, h1⟩ <;> rcases hcase id' q h' with ⟨l2, h2⟩ | ⟨j2, l2, rfl, h2⟩
    · exact hc.inj id id' q h1 h2
    · have := hnew j2 q h2; have := (hc.own id q h1).1; omega
    · have := hnew j1 q h1; have := (hc.own id' q h2).1; omega
    · rw [hs.inj j1 j2 q h1 h2]
  · rcases hcase id q h with ⟨_, h⟩ | ⟨j, _, _, h⟩
    · have := hc.own id q h
      exact ⟨Nat.lt_of_lt_of_le this.1 hge, this.2.1, this.2.2⟩
    · refine ⟨(hs.own j q h).1, fun hq => ?_, fun hq => ?_⟩
      · have := hnew j q h; have := (hc.g q hq).1; have := hc.ge; omega
      · have := hnew j q h; have := hc.f q hq; omega

theorem RpF_K {x : AV} {v : Value} (h : RpF C s x v) : RpK T C s w x v := by
  cases x <;> simp only [RpF] at h
  all_goals try (exact h.elim)
  case int => exact h
  case ptr => exact h
  case own => exact h

theorem lendAll_frz {ids : List Nat} (hc : CS T C s a w) {id b : Nat} (h : ownB C (frzs s ids).heap id = some b) (hid : id ∈ ids) (hbox : ∀ i ∈ ids, ∀ t cs, getB s.heap i ≠ .box t cs) : False := by
  obtain ⟨_, _, hfz⟩ := hc.freeze ids
  cases hb : getB s.heap id with
  | arr wr t n l =>
    obtain ⟨wr', h1, h2⟩ := (hfz id).1 _ _ _ _ hb
    have := h2 hid
    subst this
    simp [ownB, h1] at h
  | box t cs => exact hbox id hid t cs hb
  | gone =>
    have := (hfz id).2 (by simp [hb])
    simp [ownB, this, hb] at h

theorem own_frz (hc : CS T C s a w) {ids : List Nat} {id b : Nat} (h : ownB C (frzs s ids).heap id = some b) : ownB C s.heap id = some b := by
  obtain ⟨_, _, hfz⟩ := hc.freeze ids
  cases hb : getB s.heap id with
  | arr wr t n l =>
    obtain ⟨wr', h1, h2⟩ := (hfz id).1 _ _ _ _ hb
    cases wr' with
    | false => simp [ownB, h1] at h
    | true =>
      have hw : wr = true := by
        cases wr with
        | true => rfl
        | false =>
          exfalso
          have key : ∀ (ids : List Nat) (hp : Hp), getB hp id = .arr false t n l → ∀ wr t' n' l', getB (Go.Proofs.Ytaghkmaelbgljaa.VX.freeze hp ids) id = .arr wr t' n' l' → wr = false := fun ids hp h0 wr t' n' l' h' => frz_stays ids h0 h'
          have := key ids s.heap hb _ _ _ _ h1
          cases this
      subst hw
      simp only [ownB, h1, hb] at h ⊢
      exact h
  | box t cs => have := (hfz id).2 (by simp [hb]); simp only [ownB, this, hb] at h ⊢; exact h
  | gone => have := (hfz id).2 (by simp [hb]); simp only [ownB, this, hb] at h; cases h

/-- What is wanted of a call. -/
def AnsC (P : Program) (T : Tab) (C : Cx) (s : St) (a : Act) (w : World) (m : Sem Next) (k : KE) : Prop :=
  ∃ f args, m.run P w = .ok (.enter f args) w ∧ Calls P f args w fun e w' => ∃ v h' nx' C' val, e = .returned val ∧ k v s.env h' nx' ∧ KeepC C C' ∧ CS T C' ⟨s.env, h', nx', s.gs, s.kn⟩ a w' ∧ RpS T C' ⟨s.env, h', nx', s.gs, s.kn⟩ w' v val ∧ (∀ b, b < w.heap.size → w'.heap[b]? = w.heap[b]?) ∧ w.heap.size ≤ w'.heap.size ∧ ∀ id, id < s.nx → C'.β id = C.β id

theorem XB_join_of {Cc : Cx} {lent : List Nat} (hCc : Cc = calleeC C s.heap w lent) {h' : List AB} (hk : KeepC Cc C') {s1 : St} (hs1 : ∀ id b, ownB C s1.heap id = some b → ownB C s.heap id = some b ∧ (id ∈ lent → ∃ t cs, getB s.heap id = .box t cs)) (hnx1 : ∀ id, s1.nx ≤ id → getB s1.heap id = .gone) :
    ∀ b, XB (C.join C' s1.nx) (layed s1.nx (h'.map (renB' (shift s1.nx))) s1.heap).1 b → XB C' (hpOf 0 h') b := by
  intro b hb
  rcases hb with hb | ⟨id, hb⟩
  · left; rw [hk.1, hCc]; exact .inl hb
  · by_cases hid : id < s1.nx
    · left
      rw [hk.1, hCc]
      right
      refine ⟨id, ?_⟩
      apply hs1
      have : getB (layed s1.nx (h'.map (renB' (shift s1.nx))) s1.heap).1 id = getB s1.heap id := by rw [layed_get, if_neg (by omega)]
      simp only [ownB, this, Cx.join, hid, if_true] at hb ⊢
      exact hb
    · by_cases hj : id - s1.nx < h'.length
      · right
        refine ⟨id - s1.nx, ?_⟩
        have : getB (layed s1.nx (h'.map (renB' (shift s1.nx))) s1.heap).1 id = renB' (shift s1.nx) ((h'[id - s1.nx]?).getD .gone) := by
          rw [layed_get, if_pos (by simp; omega), List.getElem?_map, List.getElem?_eq_getElem hj]; rfl
        simp only [ownB, this, Cx.join, hid, if_false, getB_hpOf0] at hb ⊢
        cases hq : (h'[id - s1.nx]?).getD .gone with
        | box _ _ => rw [hq] at hb; exact hb
        | gone => rw [hq] at hb; exact hb
        | arr wr _ _ _ => rw [hq] at hb; cases wr <;> exact hb
      · exfalso
        have h0 : getB (layed s1.nx (h'.map (renB' (shift s1.nx))) s1.heap).1 id = getB s1.heap id := by rw [layed_get, if_neg (by simp; omega)]
        simp only [ownB, h0, hnx1 id (by omega)] at hb
        cases hb

theorem lendAll_box : ∀ (xs : List AV) (vs : List Value), all2 (RpS T C s w) xs vs → ∀ id ∈ lendAll xs, True := fun _ _ _ _ _ => trivial

theorem xcall_sound (hc : CS T C s a w) {f : FuncId} {args : List AV} {vals : List Value} (hv : all2 (RpS T C s w) args vals) {k : KE}
    (h : xcall T (ACalls P T) f args s.env s.heap s.nx k) :
    (∃ fn, P.funcs[f]? = some fn ∧ fn.body.isSome = true ∧ (fn.name == "runtime.NumGoroutine") = false) ∧
    Calls P f vals.toArray w fun e w' => ∃ v h' nx' C' val, e = .returned val ∧ k v s.env h' nx' ∧ KeepC C C' ∧ CS T C' ⟨s.env, h', nx', s.gs, s.kn⟩ a w' ∧ RpS T C' ⟨s.env, h', nx', s.gs, s.kn⟩ w' v val ∧ (∀ b, b < w.heap.size → w'.heap[b]? = w.heap[b]?) ∧ w.heap.size ≤ w'.heap.size ∧ ∀ id, id < s.nx → C'.β id = C.β id := by
  unfold xcall at h
  cases hok : okVs args with
  | false => simp [hok] at h
  | true =>
    simp only [hok, cond_true] at h
    split at h
    · rw [argVs1_eq] at h
      refine ⟨h.fn, ?_⟩
      have hHS := calleeHS (T := T) hc (lendAll args)
      have hargs := argVs1_rep hc args vals hv (fun id h => h)
      refine (h.calls (calleeC C s.heap w (lendAll args)) w vals hHS hargs).mono ?_
      rintro e w' ⟨r, h', v, C', rfl, hr, hk, hs, hrp, _, hni⟩
      have hfr : (∀ b, b < w.heap.size → w'.heap[b]? = w.heap[b]?) ∧ w.heap.size ≤ w'.heap.size ∧ ∀ id, id < s.nx → (C.join C' s.nx).β id = C.β id := by
        refine ⟨fun b hb => ?_, ?_, fun id hid => by simp only [Cx.join]; rw [if_pos hid]⟩
        · have := (hs.g b (by rw [hk.2.1]; exact hb)).2
          rw [hk.2.2.1] at this
          exact this
        · have := hs.ge
          rw [hk.2.2.1] at this
          exact this
      cases hfl : (hasSl r || hasSlBs T h') with
      | true =>
        rw [hfl] at hr
        simp only [freezeK_eq, layBack_eq, renV_eq] at hr
        obtain ⟨hc1, E1, hfz⟩ := hc.freeze (lendAll args)
        have hX := XB_join_of (C' := C') (s1 := frzs s (lendAll args)) (h' := h') (lent := lendAll args) (s := s) (w := w) rfl hk (fun id b hb => ⟨own_frz hc hb, fun hm => by
          have hw : getB (frzs s (lendAll args)).heap id ≠ .gone := fun e => by simp [ownB, e] at hb
          cases hb0 : getB s.heap id with
          | arr wr t n l =>
            obtain ⟨wr', q1, q2⟩ := (hfz id).1 _ _ _ _ hb0
            have := q2 hm
            subst this
            simp [ownB, q1] at hb
          | box t cs => exact ⟨t, cs, rfl⟩
          | gone =>
            have := (hfz id).2 (by simp [hb0])
            rw [this, hb0] at hw; exact absurd rfl hw⟩) hc1.nx
        have hcs := join_state hc1 (C' := C') rfl rfl hs hk (fun _ => hX)
        exact ⟨_, _, _, C.join C' s.nx, v, rfl, hr, KeepC.join _ _ _, by rw [layed_nx, List.length_map]; exact hcs,
          by rw [layed_nx, List.length_map]; exact RpS_join (s := frzs s (lendAll args)) (C := C) (s2 := ⟨s.env, (layed s.nx (h'.map (renB' (shift s.nx))) (frzs s (lendAll args)).heap).1, s.nx + h'.length, s.gs, s.kn⟩) rfl (fun id => by rw [layed_get, List.length_map]; rfl) hni (fun _ => hX) hrp, hfr⟩
      | false =>
        rw [hfl] at hr
        simp only [layBack_eq, renV_eq] at hr
        simp only [Bool.or_eq_false_iff] at hfl
        have hcs := join_state hc (C' := C') rfl rfl hs hk (fun e => by rw [hfl.2] at e; cases e)
        exact ⟨_, _, _, C.join C' s.nx, v, rfl, hr, KeepC.join _ _ _, by rw [layed_nx, List.length_map]; exact hcs,
          by rw [layed_nx, List.length_map]; exact RpS_join (s := s) (C := C) (s2 := ⟨s.env, (layed s.nx (h'.map (renB' (shift s.nx))) s.heap).1, s.nx + h'.length, s.gs, s.kn⟩) rfl (fun id => by rw [layed_get, List.length_map]) hni (fun e => by rw [hfl.1] at e; cases e) hrp, hfr⟩
    · exact h.elim
end
end Go.Proofs.Ytaghkmaelbgljaa.VX
