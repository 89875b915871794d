/- The operations that only compute and read: all of them. -/
import Derived.Test.YtaghkmaelbgljaaVX7
namespace Go.Proofs.Ytaghkmaelbgljaa.VX
section
variable {P : Program} {T : Tab} {C : Cx} {s : St} {a : Act} {w : World} {Hyp : Prop} {nd : Nd} {K : AV → Prop}

theorem xslice_sound (HT : tabOK P T = true) (hc : CS T C s a w) (hnd : ∀ c X, nd c X → X ∧ (Hyp → c)) {t : TypeId} {ρ : Operand → AV} {ev : Operand → Value} (hρ : Hyp → ∀ x, RpS T C s w (ρ x) (ev x)) {x : Operand} {lo hi mx : Option Operand}
    (h : xslice T nd s.heap t (ρ x) (match lo with | some o => some (ρ o) | none => none) (match hi with | some o => some (ρ o) | none => none) (match mx with | some o => some (ρ o) | none => none) K) :
    Ans P T C s w Hyp K (Instr.sliceAt t (ev x) (lo.map ev) (hi.map ev) (mx.map ev)) := by
  unfold xslice at h
  cases mx with
  | some m =>
    simp only at h
    cases lo with
    | some _ => simp at h
    | none =>
      cases hi with
      | none => simp at h
      | some z =>
        simp only at h
        cases hz : (isZero (ρ m) && isZero (ρ z) && isSlice T t) with
        | false => simp [hz] at h
        | true =>
          simp only [hz, cond_true] at h
          simp only [Bool.and_eq_true] at hz
          obtain ⟨⟨hm, hz⟩, hs⟩ := hz
          split at h
          · rename_i b hb
            refine .of h fun hh => ?_
            obtain ⟨e, cks, hu, he, hk⟩ := isSlice_some (P := P) HT hs
            obtain ⟨ad, n, c, hv, rfl⟩ := isNilV_sound hc hb (hρ hh x)
            have zero : ∀ y, isZero (ρ y) = true → ∃ k, ev y = .int k 0 := fun y hy => by
              have := hρ hh y
              unfold isZero at hy
              split at hy
              · rename_i k e; rw [e] at this; exact ⟨k, this⟩
              · cases hy
            obtain ⟨k, e1⟩ := zero m hm
            obtain ⟨k', e2⟩ := zero z hz
            refine ⟨.slice ad 0 0, fun w _ => ?_, ad, rfl, rfl⟩
            have hsz := (ckOf_size HT hk w).1
            simp [e1, e2, hv, Instr.sliceAt, run_underlying hu, Instr.slice, Instr.sliceBounds, Instr.sliceBound, asIntOf, hsz]
          · exact h.elim
  | none =>
    simp only at h
    have int_of : Hyp → ∀ y k n, ρ y = .int k n → ev y = .int k n := fun hh y k n e => by have := hρ hh y; rw [e] at this; exact this
    cases lo with
    | none =>
      cases hi with
      | none =>
        simp only at h
        split at h
        · rename_i b hb
          exact xcut_sound HT hc hnd h (fun hh => hρ hh x) (fun hh n hn => by rw [hb] at hn; injection hn with hn; exact ⟨.inl ⟨rfl, rfl⟩, .inl ⟨rfl, hn⟩⟩)
        · exact h.elim
      | some z =>
        simp only at h
        split at h
        · rename_i e; cases e
        · rename_i _ _ k b e1 e2
          injection e2 with e2
          exact xcut_sound HT hc hnd h (fun hh => hρ hh x) (fun hh n hn => ⟨.inl ⟨rfl, rfl⟩, .inr ⟨k, by simp [int_of hh z k b e2]⟩⟩)
        all_goals (first | exact h.elim | (rename_i e _; cases e) | (rename_i e; cases e))
    | some y =>
      cases hi with
      | none =>
        simp only at h
        split at h
        case h_3 k a' e1 e2 =>
          injection e1 with e1
          split at h
          · rename_i b hb
            exact xcut_sound HT hc hnd h (fun hh => hρ hh x) (fun hh n hn => by rw [hb] at hn; injection hn with hn; exact ⟨.inr ⟨k, by simp [int_of hh y k a' e1]⟩, .inl ⟨rfl, hn⟩⟩)
          · exact h.elim
        all_goals (first | exact h.elim | (rename_i e _; cases e) | (rename_i e; cases e) | (rename_i e1 e2; cases e1) | (rename_i e1 e2; cases e2))
      | some z =>
        simp only at h
        split at h
        case h_4 k a' k' b e1 e2 =>
          injection e1 with e1
          injection e2 with e2
          exact xcut_sound HT hc hnd h (fun hh => hρ hh x) (fun hh n hn => ⟨.inr ⟨k, by simp [int_of hh y k a' e1]⟩, .inr ⟨k', by simp [int_of hh z k' b e2]⟩⟩)
        all_goals (first | exact h.elim | (rename_i e _; cases e) | (rename_i e; cases e) | (rename_i e1 e2; cases e1) | (rename_i e1 e2; cases e2))

theorem run_len_slice (w : World) {t e : TypeId} (hu : P.underlying t = some (.slice e)) (ts : List TypeId) (ty : TypeId) (ad : Option Addr) (n c : Nat) : (Builtin.len_ ((t :: ts).toArray) ty #[.slice ad n c]).run P w = .ok (.int .i64 n) w := by
  simp [Builtin.len_, run_underlying hu, goInt]
theorem run_len_str (w : World) {t : TypeId} (hu : P.underlying t = some .string) (ts : List TypeId) (ty : TypeId) (q : ByteArray) : (Builtin.len_ ((t :: ts).toArray) ty #[.string q]).run P w = .ok (.int .i64 q.size) w := by
  simp [Builtin.len_, run_underlying hu, goInt]

theorem lenOf_sound {x : AV} {n : Int} (h : lenOf' s.heap x = some n) {v : Value} (hv : RpS T C s w x v) :
    (∃ q, x = .str q ∧ v = .string q ∧ n = q.size) ∨ ((∀ q, x ≠ .str q) ∧ ∃ ad m c, v = .slice ad m c ∧ n = m) := by
  unfold lenOf' at h
  cases x <;> simp only at h
  all_goals try (cases h; done)
  case str q => injection h with h; exact .inl ⟨q, rfl, hv, h.symm⟩
  case nils => injection h with h; exact .inr ⟨(fun q e => by cases e), none, 0, 0, hv, h.symm⟩
  case em b => injection h with h; obtain ⟨ad, rfl, _⟩ := hv; exact .inr ⟨(fun q e => by cases e), ad, 0, 0, rfl, h.symm⟩
  case sl nb t l =>
    injection h with h
    obtain ⟨ad, cap, rfl, _, _⟩ := (rp_sl hv).slice_at
    exact .inr ⟨(fun q e => by cases e), ad, _, cap, rfl, h.symm⟩
  case own id =>
    cases hb : getB s.heap id with
    | gone => simp [hb] at h
    | box _ _ => simp [hb] at h
    | arr wr e b l =>
      rw [hb] at h
      injection h with h
      obtain ⟨_, rfl⟩ := rp_own hv hb
      exact .inr ⟨(fun q e => by cases e), _, _, _, rfl, h.symm⟩
  case vw id lo m =>
    cases hb : getB s.heap id with
    | gone => simp [hb] at h
    | box _ _ => simp [hb] at h
    | arr wr e b l =>
      rw [hb] at h
      injection h with h
      obtain ⟨_, ad, c, rfl, _⟩ := rp_vw hv hb
      exact .inr ⟨(fun q e => by cases e), ad, m, c, rfl, h.symm⟩

theorem fitsT_str {t : TypeId} (HT : tabOK P T = true) {q : ByteArray} (h : fitsT T t (.str q) = true) : P.underlying t = some .string := isStr_some HT h
theorem fitsT_sl {t : TypeId} (HT : tabOK P T = true) {x : AV} (hx : ∀ q, x ≠ .str q) (h : fitsT T t x = true) : ∃ e, P.underlying t = some (.slice e) := by
  have : isSlice T t = true := by
    cases x <;> first | exact h | exact absurd rfl (hx _)
  obtain ⟨e, _, hu, _⟩ := isSlice_some (P := P) HT this
  exact ⟨e, hu⟩

/-! min and max -/
theorem xminA_sound (isMax : Bool) (k : IntKind) (l : List AV) : ∀ (n : Int), xminA isMax k n l K → ∀ (vs : List Value), (Hyp → all2 (RpS T C s w) l vs) →
    Ans P T C s w Hyp K (vs.foldlM (if isMax then Builtin.max2 else Builtin.min2) (.int k n)) := by
  induction l with
  | nil =>
    intro n h vs hv
    refine .of h fun hh => ?_
    cases vs with
    | nil => exact ⟨_, fun _ _ => rfl, rfl⟩
    | cons _ _ => exact (hv hh).elim
  | cons x r ih =>
    intro n h vs hv
    cases x <;> simp only [xminA] at h
    case int k' b =>
      split at h
      · rename_i ek
        subst ek
        obtain ⟨v, hK, hans⟩ := ih (imin isMax n b) h (vs.drop 1) (fun hh => by
          have := hv hh
          cases vs with
          | nil => exact this.elim
          | cons _ _ => exact this.2)
        refine ⟨v, hK, fun hh => ?_⟩
        obtain ⟨val, h1, h2⟩ := hans hh
        refine ⟨val, fun w' q => ?_, h2⟩
        have h1 := h1 w' q
        have hx := hv hh
        cases vs with
        | nil => exact hx.elim
        | cons u us =>
          have e1 : u = .int k b := hx.1
          subst e1
          simp only [List.drop_succ_cons, List.drop_zero] at h1
          simp only [List.foldlM_cons, Sem.run_bind]
          cases isMax <;> simpa [Builtin.min2, Builtin.max2, imin] using h1
      · exact h.elim
theorem xmin_sound (isMax : Bool) {l : List AV} (h : xmin isMax l K) {vs : List Value} (hv : Hyp → all2 (RpS T C s w) l vs) (ts : Array TypeId) (ty : TypeId) :
    Ans P T C s w Hyp K (if isMax then Builtin.max_ ts ty vs.toArray else Builtin.min_ ts ty vs.toArray) := by
  unfold xmin at h
  split at h
  · rename_i k n r
    have := xminA_sound (P := P) (T := T) (C := C) (s := s) (w := w) (Hyp := Hyp) (K := K) isMax k r n h (vs.drop 1) (fun hh => by
      have := hv hh
      cases vs with
      | nil => exact this.elim
      | cons _ _ => exact this.2)
    obtain ⟨v, hK, hans⟩ := this
    refine ⟨v, hK, fun hh => ?_⟩
    obtain ⟨val, h1, h2⟩ := hans hh
    refine ⟨val, fun w' q => ?_, h2⟩
    have h1 := h1 w' q
    have hx := hv hh
    cases vs with
    | nil => exact hx.elim
    | cons u us =>
      have e1 : u = .int k n := hx.1
      subst e1
      cases isMax <;> simpa [Builtin.min_, Builtin.max_] using h1
  · exact h.elim

/-! builds -/
theorem zeros_rep {xs : List AV} {vs : List Value} : zerosOK xs vs = true → all2 (RpK T C s w) xs vs := by
  induction xs generalizing vs with
  | nil => cases vs <;> simp [zerosOK, all2]
  | cons x xs ih =>
    cases vs with
    | nil => simp [zerosOK]
    | cons v vs =>
      intro h
      simp only [zerosOK, Bool.and_eq_true] at h
      refine ⟨?_, ih h.2⟩
      have h1 := h.1
      cases hz : zv x with
      | none => simp [hz] at h1
      | some u =>
        rw [hz] at h1
        have := vIs_eq h1
        subst this
        cases x <;> simp only [zv] at hz
        all_goals try (cases hz; done)
        case str q =>
          split at hz
          · injection hz with hz; subst hz; rename_i e; rw [size_zero e]; rfl
          · cases hz
        all_goals (injection hz with hz; subst hz; rfl)

theorem foldl_set (vs : List Value) : ∀ (j : Nat) (off : Nat) (cells : Array Value), off + j + vs.length ≤ cells.size →
    ((vs.zipIdx j).foldl (fun cs (c : Value × Nat) => cs.setIfInBounds (off + c.2) c.1) cells).toList = cells.toList.take (off + j) ++ vs ++ cells.toList.drop (off + j + vs.length) := by
  induction vs with
  | nil => intro j off cells h; simp
  | cons v vs ih =>
    intro j off cells h
    simp only [List.zipIdx_cons, List.foldl_cons]
    rw [ih (j + 1) off _ (by simp at h ⊢; omega)]
    simp only [Array.toList_setIfInBounds]
    have e := list_seg_step cells.toList (off + j) v vs (by simp at h ⊢; omega)
    have e1 : off + (j + 1) = off + j + 1 := by omega
    rw [e1, e]
    rfl
end
end Go.Proofs.Ytaghkmaelbgljaa.VX
