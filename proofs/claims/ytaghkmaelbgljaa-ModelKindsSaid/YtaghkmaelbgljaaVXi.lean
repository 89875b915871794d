/- Calls: the contract of a function, and what a call makes of the caller's state. -/
import Derived.Test.YtaghkmaelbgljaaVXh
namespace Go.Proofs.Ytaghkmaelbgljaa.VX
section
variable {P : Program} {T : Tab} {C C' : Cx} {s s' : St} {a : Act} {w w' : World}

def hpOf : Nat → List AB → Hp
  | _, [] => []
  | i, b :: r => (i, b) :: hpOf (i + 1) r
def stOf (h : List AB) : St := ⟨[], hpOf 0 h, h.length, [], []⟩
def noAct : Act := ⟨#[], []⟩
/-- Blocks alone. -/
def HS (T : Tab) (C : Cx) (h : List AB) (w : World) : Prop := CS T C (stOf h) noAct w

/-- The contract of a function: of whatever stands for these arguments over these blocks, it returns what R says. -/
structure ACalls (P : Program) (T : Tab) (f : FuncId) (args : List AV) (h : List AB) (R : AV → List AB → Prop) : Prop where
  fn : ∃ fn, P.funcs[f]? = some fn ∧ fn.body.isSome = true ∧ (fn.name == "runtime.NumGoroutine") = false
  calls : ∀ (C : Cx) (w : World) (vals : List Value), HS T C h w → all2 (RpS T C (stOf h) w) args vals →
    Calls P f vals.toArray w fun e w' => ∃ r h' v C', e = .returned v ∧ R r h' ∧ KeepC C C' ∧ HS T C' h' w' ∧ RpS T C' (stOf h') w' r v ∧ h.length ≤ h'.length ∧ ∀ t y, r ≠ .iface t y
theorem ACalls.mono {f : FuncId} {args : List AV} {h : List AB} {R R' : AV → List AB → Prop} (hc : ACalls P T f args h R) (hr : ∀ r h', R r h' → R' r h') : ACalls P T f args h R' :=
  ⟨hc.1, fun C w vals hs ha => (hc.2 C w vals hs ha).mono fun _ _ ⟨r, h', v, C', h1, h2, h3⟩ => ⟨r, h', v, C', h1, hr _ _ h2, h3⟩⟩

theorem getB_hpOf : ∀ (h : List AB) (i id : Nat), getB (hpOf i h) id = if i ≤ id then (h[id - i]?).getD .gone else .gone
  | [], i, id => by simp [hpOf, getB]
  | b :: r, i, id => by
    simp only [hpOf, getB_cons, getB_hpOf r (i + 1) id]
    by_cases e : id = i
    · subst e; simp
    · rw [if_neg e]
      by_cases h1 : i ≤ id
      · rw [if_pos (by omega), if_pos h1, show id - i = (id - (i + 1)) + 1 by omega, List.getElem?_cons_succ]
      · rw [if_neg (by omega), if_neg h1]
theorem getB_hpOf0 (h : List AB) (id : Nat) : getB (hpOf 0 h) id = (h[id]?).getD .gone := by simp [getB_hpOf]

def shift (n : Nat) : Nat → Nat := fun i => n + i
/-- Behind the call: the blocks that it hands on lie behind the caller's. -/
def layed (nx : Nat) (bs : List AB) (h : Hp) : Hp × Nat :=
  match bs with
  | [] => (h, nx)
  | b :: r => layed (nx + 1) r ((nx, b) :: h)

def renB' (σ : Nat → Nat) : AB → AB
  | .box t cs => .box t (cs.map (renC σ))
  | b => b
theorem renB_eq (σ : Nat → Nat) (b : AB) (K : AB → Prop) : renB σ b K = K (renB' σ b) := by
  cases b <;> simp [renB, renB', mapK_eq]
def renA' (σ : Nat → Nat) : AV → AV
  | .agg l => .agg (l.map (renC σ))
  | v => renC σ v
def renV' (σ : Nat → Nat) : AV → AV
  | .tup l => .tup (l.map (renA' σ))
  | v => renA' σ v
theorem renA_eq (σ : Nat → Nat) (v : AV) (K : AV → Prop) : renA σ v K = K (renA' σ v) := by
  unfold renA renA'; cases v <;> simp [mapK_eq, forceK_eq]
theorem renAL_eq (σ : Nat → Nat) : ∀ (l : List AV) (K : List AV → Prop), renAL σ l K = K (l.map (renA' σ))
  | [], _ => rfl
  | v :: r, K => by simp [renAL, renA_eq, renAL_eq σ r]
theorem renV_eq (σ : Nat → Nat) (v : AV) (K : AV → Prop) : renV σ v K = K (renV' σ v) := by
  unfold renV renV'; cases v <;> simp [renAL_eq, renA_eq]
theorem layBack_eq (σ : Nat → Nat) : ∀ (bs : List AB) (h : Hp) (nx : Nat) (K : Hp → Nat → Prop), layBack σ [] bs h nx K = K (layed nx (bs.map (renB' σ)) h).1 (layed nx (bs.map (renB' σ)) h).2
  | [], h, nx, K => rfl
  | b :: r, h, nx, K => by simp [layBack, renB_eq, layBack_eq σ r, layed]
theorem layed_nx : ∀ (bs : List AB) (nx : Nat) (h : Hp), (layed nx bs h).2 = nx + bs.length
  | [], _, _ => rfl
  | b :: r, nx, h => by simp [layed, layed_nx r (nx + 1)]; omega
theorem layed_get : ∀ (bs : List AB) (nx : Nat) (h : Hp) (id : Nat), getB (layed nx bs h).1 id = if nx ≤ id ∧ id < nx + bs.length then (bs[id - nx]?).getD .gone else getB h id
  | [], nx, h, id => by simp [layed]; omega
  | b :: r, nx, h, id => by
    simp only [layed, layed_get r (nx + 1), getB_cons]
    by_cases e : id = nx
    · subst e; rw [if_neg (by omega), if_pos rfl, if_pos (by simp), Nat.sub_self]; rfl
    · by_cases h1 : nx ≤ id ∧ id < nx + (b :: r).length
      · rw [if_pos (by simp at h1 ⊢; omega), if_pos h1, show id - nx = (id - (nx + 1)) + 1 by omega, List.getElem?_cons_succ]
      · rw [if_neg (by simp at h1 ⊢; omega), if_neg h1, if_neg e]

/-- The context behind the call. -/
def Cx.join (C C' : Cx) (n : Nat) : Cx :=
  { C with β := fun i => if i < n then C.β i else C'.β (i - n), base := fun i => if i < n then C.base i else C'.base (i - n), cap := fun i => if i < n then C.cap i else C'.cap (i - n) }
theorem KeepC.join (C C' : Cx) (n : Nat) : KeepC C (C.join C' n) := ⟨rfl, rfl, rfl, rfl, rfl⟩

/-- Values of the callee's, in the caller's numbers. -/
theorem RpC_join {h' : List AB} {s2 : St} (hnx : s2.nx = s.nx + h'.length) (hget : ∀ id, getB s2.heap id = if s.nx ≤ id ∧ id < s.nx + h'.length then ((h'.map (renB' (shift s.nx)))[id - s.nx]?).getD .gone else getB s.heap id)
    {x : AV} (hX : hasSlC x = true → ∀ b, XB (C.join C' s.nx) s2.heap b → XB C' (hpOf 0 h') b) {v : Value} (h : RpK T C' (stOf h') w' x v) : RpK T (C.join C' s.nx) s2 w' (renC (shift s.nx) x) v := by
  have hj : ∀ j, j < h'.length → getB s2.heap (s.nx + j) = renB' (shift s.nx) ((h'[j]?).getD .gone) := fun j hj => by
    rw [hget, if_pos (by omega), Nat.add_sub_cancel_left, List.getElem?_map]
    rw [List.getElem?_eq_getElem hj]; rfl
  have hst : ∀ j, getB (stOf h').heap j = (h'[j]?).getD .gone := fun j => getB_hpOf0 h' j
  have harr : ∀ j wr t b l, j < h'.length → (getB s2.heap (s.nx + j) = .arr wr t b l ↔ getB (stOf h').heap j = .arr wr t b l) := fun j wr t b l hlt => by
    rw [hj j hlt, hst]
    cases (h'[j]?).getD .gone <;> simp [renB']
  have e1 : ∀ j, (C.join C' s.nx).β (s.nx + j) = C'.β j := fun j => by simp only [Cx.join]; rw [if_neg (by omega), Nat.add_sub_cancel_left]
  have e2 : ∀ j, (C.join C' s.nx).base (s.nx + j) = C'.base j := fun j => by simp only [Cx.join]; rw [if_neg (by omega), Nat.add_sub_cancel_left]
  have e3 : ∀ j, (C.join C' s.nx).cap (s.nx + j) = C'.cap j := fun j => by simp only [Cx.join]; rw [if_neg (by omega), Nat.add_sub_cancel_left]
  cases x <;> simp only [RpK, renC] at h ⊢
  all_goals try exact h
  case ptr id off =>
    obtain ⟨rfl, hid⟩ := h
    exact ⟨by simp only [shift]; rw [e1], by simp only [shift, hnx]; simp [stOf] at hid; omega⟩
  case sl b t l => exact h.weak (hX rfl)
  case own id =>
    obtain ⟨hid, h⟩ := h
    have hid' : id < h'.length := hid
    refine ⟨by simp only [shift, hnx]; omega, ?_⟩
    simp only [shift]
    cases hb : getB s2.heap (s.nx + id) with
    | arr wr t b l =>
      have := (harr id wr t b l hid').1 hb
      rw [this] at h
      simp only [hdr, e2, e3] at h ⊢
      exact h
    | _ => trivial
  case vw id lo n =>
    obtain ⟨hid, h⟩ := h
    have hid' : id < h'.length := hid
    refine ⟨by simp only [shift, hnx]; omega, ?_⟩
    simp only [shift]
    cases hb : getB s2.heap (s.nx + id) with
    | arr wr t b l =>
      have := (harr id wr t b l hid').1 hb
      rw [this] at h
      simp only [e2, e3] at h ⊢
      exact h
    | _ => trivial
  case elt id i off =>
    obtain ⟨hid, h⟩ := h
    have hid' : id < h'.length := hid
    refine ⟨by simp only [shift, hnx]; omega, ?_⟩
    simp only [shift]
    cases hb : getB s2.heap (s.nx + id) with
    | arr wr t b l =>
      have := (harr id wr t b l hid').1 hb
      rw [this] at h
      simp only [e2] at h ⊢
      exact h
    | _ => trivial
  case rel t l i off =>
    obtain ⟨hi, g, o, cap, cks, hk, hr, rfl⟩ := h
    exact ⟨hi, g, o, cap, cks, hk, hr.weak (hX rfl), rfl⟩
  case fn f first cap =>
    obtain ⟨fs, cs, rfl, h1, h2⟩ := h
    have key : ∀ (l : List AV) (us : List Value), all2 (RpF C' (stOf h')) l us → all2 (RpF (C.join C' s.nx) s2) (l.map (renF (shift s.nx))) us := by
      intro l
      induction l with
      | nil => intro us h; cases us with | nil => trivial | cons _ _ => exact h.elim
      | cons y r ih =>
        intro us h
        cases us with
        | nil => exact h.elim
        | cons u us =>
          obtain ⟨h0, hr⟩ := h
          refine ⟨?_, ih us hr⟩
          clear hr ih
          cases y <;> simp only [RpF, renF] at h0 ⊢
          all_goals try exact h0
          case ptr id off =>
            obtain ⟨rfl, hid⟩ := h0
            exact ⟨by simp only [shift]; rw [e1], by simp only [shift, hnx]; simp [stOf] at hid; omega⟩
          case own id =>
            obtain ⟨hid, h0⟩ := h0
            have hid' : id < h'.length := hid
            refine ⟨by simp only [shift, hnx]; omega, ?_⟩
            simp only [shift]
            cases hb : getB s2.heap (s.nx + id) with
            | arr wr t b l =>
              have := (harr id wr t b l hid').1 hb
              rw [this] at h0
              simp only [hdr, e2, e3] at h0 ⊢
              exact h0
            | _ => trivial
    exact ⟨fs, cs, rfl, key _ _ h1, key _ _ h2⟩

theorem RpA_join {h' : List AB} {s2 : St} (hnx : s2.nx = s.nx + h'.length) (hget : ∀ id, getB s2.heap id = if s.nx ≤ id ∧ id < s.nx + h'.length then ((h'.map (renB' (shift s.nx)))[id - s.nx]?).getD .gone else getB s.heap id)
    {x : AV} (hX : hasSlA x = true → ∀ b, XB (C.join C' s.nx) s2.heap b → XB C' (hpOf 0 h') b) {v : Value} (h : RpA T C' (stOf h') w' x v) : RpA T (C.join C' s.nx) s2 w' (renA' (shift s.nx) x) v := by
  cases x
  case agg l =>
    obtain ⟨cs, rfl, h⟩ := h
    refine ⟨cs, rfl, ?_⟩
    have key : ∀ (l : List AV) (us : List Value), (hasSlL l = true → ∀ b, XB (C.join C' s.nx) s2.heap b → XB C' (hpOf 0 h') b) → all2 (RpK T C' (stOf h') w') l us → all2 (RpK T (C.join C' s.nx) s2 w') (l.map (renC (shift s.nx))) us := by
      intro l
      induction l with
      | nil => intro us _ h; cases us with | nil => trivial | cons _ _ => exact h.elim
      | cons y r ih =>
        intro us hX h
        cases us with
        | nil => exact h.elim
        | cons u us => exact ⟨RpC_join hnx hget (fun e => hX (by simp [hasSlL, e])) h.1, ih us (fun e => hX (by simp [hasSlL, e])) h.2⟩
    exact key l _ hX h
  all_goals
    simp only [RpA, renA'] at h ⊢
    refine RpC_join hnx hget ?_ h
    exact hX
theorem RpS_join {h' : List AB} {s2 : St} (hnx : s2.nx = s.nx + h'.length) (hget : ∀ id, getB s2.heap id = if s.nx ≤ id ∧ id < s.nx + h'.length then ((h'.map (renB' (shift s.nx)))[id - s.nx]?).getD .gone else getB s.heap id)
    {x : AV} (hni : ∀ t y, x ≠ .iface t y) (hX : hasSl x = true → ∀ b, XB (C.join C' s.nx) s2.heap b → XB C' (hpOf 0 h') b) {v : Value} (h : RpS T C' (stOf h') w' x v) : RpS T (C.join C' s.nx) s2 w' (renV' (shift s.nx) x) v := by
  cases x
  case tup l =>
    obtain ⟨cs, rfl, h⟩ := h
    refine ⟨cs, rfl, ?_⟩
    have key : ∀ (l : List AV) (us : List Value), (hasSlAL l = true → ∀ b, XB (C.join C' s.nx) s2.heap b → XB C' (hpOf 0 h') b) → all2 (RpA T C' (stOf h') w') l us → all2 (RpA T (C.join C' s.nx) s2 w') (l.map (renA' (shift s.nx))) us := by
      intro l
      induction l with
      | nil => intro us _ h; cases us with | nil => trivial | cons _ _ => exact h.elim
      | cons y r ih =>
        intro us hX h
        cases us with
        | nil => exact h.elim
        | cons u us => exact ⟨RpA_join hnx hget (fun e => hX (by simp [hasSlAL, e])) h.1, ih us (fun e => hX (by simp [hasSlAL, e])) h.2⟩
    exact key l _ hX h
  case iface t y => exact absurd rfl (hni t y)
  all_goals
    simp only [RpS, renV'] at h ⊢
    refine RpA_join hnx hget ?_ h
    exact hX
end
end Go.Proofs.Ytaghkmaelbgljaa.VX
