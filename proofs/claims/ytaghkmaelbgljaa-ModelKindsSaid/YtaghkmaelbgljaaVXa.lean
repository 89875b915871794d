/- The operations that only compute and read, in one theorem. -/
import Derived.Test.YtaghkmaelbgljaaVX9
namespace Go.Proofs.Ytaghkmaelbgljaa.VX
section
variable {P : Program} {T : Tab} {C : Cx} {s : St} {a : Act} {w : World} {Hyp : Prop} {nd : Nd} {K : AV → Prop}

def AnsO (P : Program) (T : Tab) (C : Cx) (s : St) (w : World) (Hyp : Prop) (K : AV → Prop) (m : Sem Next) : Prop :=
  ∃ v, K v ∧ (Hyp → ∃ val, (∀ w', Same C w w' → m.run P w' = .ok (.value val) w') ∧ RpS T C s w v val)
theorem Ans.o {m : Sem Value} {n : Sem Next} (h : Ans P T C s w Hyp K m) (e : n = (do pure (.value (← m)))) : AnsO P T C s w Hyp K n := by
  obtain ⟨v, hK, h⟩ := h
  refine ⟨v, hK, fun hh => ?_⟩
  obtain ⟨val, h1, h2⟩ := h hh
  refine ⟨val, fun w' q => ?_, h2⟩
  rw [e]
  simp only [Sem.run_bind, h1 w' q, Result.andThen_ok, Sem.run_pure]

theorem xconv_sound (HT : tabOK P T = true) {src dst : TypeId} {x : AV} (h : xconv T src dst x K) {v : Value} (hv : Hyp → RpS T C s w x v) : Ans P T C s w Hyp K (convert src dst v) := by
  unfold xconv at h
  cases hs : T.get src with
  | none => simp [hs] at h
  | some si =>
    cases hx : T.get dst with
    | none => simp [hs, hx] at h
    | some xi =>
      have R := tab_get HT hx
      obtain ⟨sd, hsu, _⟩ := (tab_get HT hs).desc
      rw [hs, hx] at h
      simp only at h
      split at h
      · rename_i k k' n hd
        refine .of h fun hh => ⟨_, fun w _ => ?_, rfl⟩
        have e : v = .int k' n := hv hh
        subst e
        simp [convert, run_underlying hsu, run_underlying (R.int hd), Conv.intToInt]
      · rename_i q hd
        refine .of h fun hh => ⟨_, fun w _ => ?_, rfl⟩
        have e : v = .string q := hv hh
        subst e
        simp [convert, run_underlying hsu, run_underlying (R.str hd)]
      · exact h.elim

theorem xun_sound {op : UnOp} {x : AV} (h : xun op x K) {v : Value} (hv : Hyp → RpS T C s w x v) : Ans P T C s w Hyp K (Op.unary op v) := by
  unfold xun at h
  split at h
  · rename_i k n
    refine .of h fun hh => ⟨_, fun w _ => ?_, rfl⟩
    have e : v = .int k n := hv hh
    subst e
    simp [Op.unary, Op.intArith]
  · rename_i b
    refine .of h fun hh => ⟨_, fun w _ => ?_, rfl⟩
    have e : v = .bool b := hv hh
    subst e
    simp [Op.unary]
  · rename_i b
    refine .of h fun hh => ⟨.bool (!b), fun w _ => ?_, rfl⟩
    have e : v = .bool b := hv hh
    subst e
    simp [Op.unary]
  · rename_i k n
    refine .of h fun hh => ⟨_, fun w _ => ?_, rfl⟩
    have e : v = .int k n := hv hh
    subst e
    simp [Op.unary, Op.intBits, ibits]
  · exact h.elim

theorem xpickB_sound {b : Bool} {x y : AV} (h : xpickB b x y K) {u v : Value} (hu : Hyp → b = true → RpS T C s w x u) (hv : Hyp → b = false → RpS T C s w y v) :
    ∃ r, K r ∧ (Hyp → RpS T C s w r (if b = true then u else v)) := by
  unfold xpickB at h
  split at h
  case h_10 k n k' m =>
    split at h
    · rename_i e; subst e
      refine ⟨_, h, fun hh => ?_⟩
      cases b with
      | true => exact hu hh rfl
      | false => exact hv hh rfl
    · exact h.elim
  case h_11 => exact h.elim
  all_goals
    refine ⟨_, h, fun hh => ?_⟩
    cases b with
    | true =>
      have := hu hh rfl
      simp only [RpS, RpA, RpK] at this ⊢
      subst this
      simp
    | false =>
      have := hv hh rfl
      simp only [RpS, RpA, RpK] at this ⊢
      subst this
      simp

theorem xpick_sound {j : Nat} {ch : List (Nat × Bool)} {c x y : AV} (h : xpick j ch c x y K) {cv u v : Value} (hc : Hyp → RpS T C s w c cv)
    (hx : Hyp → RpS T C s w (strip ch x) u) (hy : Hyp → RpS T C s w (strip ch y) v) (hp : ∀ b, Hyp → c = .bool b → cv = .bool b → RpS T C s w (strip ((j, b) :: ch) x) u ∧ RpS T C s w (strip ((j, b) :: ch) y) v) :
    Ans P T C s w Hyp K (do pure (if ← asBool cv then u else v)) := by
  unfold xpick at h
  split at h
  · rw [forceK_eq] at h
    cases hb : okV (strip ch x) with
    | false => simp [hb] at h
    | true =>
      simp only [hb, cond_true] at h
      refine .of h fun hh => ⟨u, fun w _ => ?_, hx hh⟩
      have e : cv = .bool true := hc hh
      subst e
      simp [asBool]
  · rw [forceK_eq] at h
    cases hb : okV (strip ch y) with
    | false => simp [hb] at h
    | true =>
      simp only [hb, cond_true] at h
      refine .of h fun hh => ⟨v, fun w _ => ?_, hy hh⟩
      have e : cv = .bool false := hc hh
      subst e
      simp [asBool]
  · rename_i b
    have hcv : Hyp → cv = .bool b := fun hh => hc hh
    obtain ⟨r, hK, hr⟩ := xpickB_sound (T := T) (C := C) (s := s) (w := w) (Hyp := Hyp) h (u := u) (v := v)
      (fun hh hb => by subst hb; exact (hp true hh rfl (hcv hh)).1) (fun hh hb => by subst hb; exact (hp false hh rfl (hcv hh)).2)
    refine .of hK fun hh => ⟨_, fun w _ => ?_, hr hh⟩
    rw [hcv hh]
    simp [asBool]
  · exact h.elim

theorem all2_map {ρ : Operand → AV} {ev : Operand → Value} (h : ∀ x, RpS T C s w (ρ x) (ev x)) : ∀ (l : List Operand), all2 (RpS T C s w) (l.map ρ) (l.map ev)
  | [] => trivial
  | x :: r => ⟨h x, all2_map h r⟩
theorem all2_map2 {ρ : Operand → AV} {ev : Operand → Value} (h : ∀ x, RpS T C s w (ρ x) (ev x)) : ∀ (l : List (Nat × Operand)), all2 (fun p u => p.1 = u.1 ∧ RpS T C s w p.2 u.2) (l.map fun p => (p.1, ρ p.2)) (l.map fun p => (p.1, ev p.2))
  | [] => trivial
  | x :: r => ⟨⟨rfl, h x.2⟩, all2_map2 h r⟩

theorem xquiet_sound (HT : tabOK P T = true) (hc : CS T C s a w) (hnd : ∀ c X, nd c X → X ∧ (Hyp → c)) {o : Oper} {ρ ρr : Operand → AV} {ev : Operand → Value} {whose : Nat → Nat} {ch : List (Nat × Bool)}
    (hρ : Hyp → ∀ x, RpS T C s w (ρ x) (ev x)) (hraw : Hyp → ∀ x, RpS T C s w (strip ch (ρr x)) (ev x))
    (hpick : Hyp → ∀ t b, ρ (.tmp t) = .bool b → ev (.tmp t) = .bool b → ∀ x, RpS T C s w (strip ((whose t, b) :: ch) (ρr x)) (ev x))
    (h : xquiet T nd whose s.heap ch ρ ρr o.op K) : AnsO P T C s w Hyp K (execOp ev o) := by
  unfold xquiet at h
  split at h
  case h_1 x hop =>
    rw [forceK_eq] at h
    cases hb : okV (ρ x) with
    | false => simp [hb] at h
    | true =>
      simp only [hb, cond_true] at h
      exact ⟨_, h, fun hh => ⟨ev x, fun w _ => by simp [execOp, hop], hρ hh x⟩⟩
  case h_2 x hop =>
    rw [forceK_eq] at h
    cases hb : okV (ρ x) with
    | false => simp [hb] at h
    | true =>
      simp only [hb, cond_true] at h
      exact ⟨_, h, fun hh => ⟨ev x, fun w _ => by simp [execOp, hop], hρ hh x⟩⟩
  case h_3 c x y hop =>
    split at h
    · rename_i t
      obtain ⟨v, hK, hv⟩ := xpick_sound (P := P) (T := T) (C := C) (s := s) (w := w) (Hyp := Hyp) h (fun hh => hρ hh (.tmp t)) (fun hh => hraw hh x) (fun hh => hraw hh y) (fun b hh e1 e2 => ⟨hpick hh t b e1 e2 x, hpick hh t b e1 e2 y⟩)
      refine ⟨v, hK, fun hh => ?_⟩
      obtain ⟨val, h1, h2⟩ := hv hh
      refine ⟨val, fun wx qx => ?_, h2⟩
      have h1 := h1 wx qx
      simp only [execOp, hop, Sem.run_bind] at h1 ⊢
      cases hr : (asBool (ev (.tmp t))).run P wx with
      | ok b w' => rw [hr] at h1; simp only [Result.andThen_ok, Sem.run_pure] at h1 ⊢; injection h1 with h1 h3; rw [h1, h3]
      | halt q w' => rw [hr] at h1; cases h1
    · exact h.elim
  case h_4 t x hop => exact (xload_sound HT hc h (fun hh => hρ hh x)).o (by simp [execOp, hop])
  case h_5 x hop =>
    split at h
    case h_1 id off e =>
      refine ⟨_, h, fun hh => ⟨ev x, fun w' _ => ?_, by rw [← e]; exact hρ hh x⟩⟩
      have := hρ hh x
      rw [e] at this
      simp [execOp, hop, this.1]
    case h_2 id i off e =>
      cases hb : getB s.heap id with
      | gone => simp [hb] at h
      | box _ _ => simp [hb] at h
      | arr wr t b l =>
        rw [hb] at h
        refine ⟨_, h, fun hh => ⟨ev x, fun w' _ => ?_, by rw [← e]; exact hρ hh x⟩⟩
        have := hρ hh x
        rw [e] at this
        obtain ⟨_, this⟩ := this
        rw [hb] at this
        obtain ⟨_, g, o', cks, _, _, this⟩ := this
        simp [execOp, hop, this]
    case h_3 t l i off e =>
      refine ⟨_, h, fun hh => ⟨ev x, fun w' _ => ?_, by rw [← e]; exact hρ hh x⟩⟩
      have := hρ hh x
      rw [e] at this
      obtain ⟨_, g, o', cap, cks, _, _, this⟩ := this
      simp [execOp, hop, this]
    case h_4 f l1 l2 e =>
      refine ⟨_, h, fun hh => ⟨ev x, fun w' _ => ?_, by rw [← e]; exact hρ hh x⟩⟩
      have := hρ hh x
      rw [e] at this
      obtain ⟨fs, cs, this, _⟩ := this
      simp [execOp, hop, this]
    case h_5 => exact h.elim
  case h_6 op t x y ty hop => exact (xbin_sound HT hc hnd h x y (fun hh => hρ hh x) (fun hh => hρ hh y)).o (by simp [execOp, hop])
  case h_7 op t x hop => exact (xun_sound h (fun hh => hρ hh x)).o (by simp [execOp, hop])
  case h_8 src dst x hop => exact (xconv_sound HT h (fun hh => hρ hh x)).o (by simp [execOp, hop])
  case h_9 st x f hop => exact (xfieldAddr_sound HT h (fun hh => hρ hh x)).o (by simp [execOp, hop])
  case h_10 st x f hop => exact (xfield_sound HT h (fun hh => hρ hh x)).o (by simp [execOp, hop])
  case h_11 t x i hop => exact (xindexAddr_sound HT hc hnd h (fun hh => hρ hh x) (fun hh => hρ hh i)).o (by simp [execOp, hop])
  case h_12 t x i hop => exact (xindex_sound HT hnd h (fun hh => hρ hh x) (fun hh => hρ hh i)).o (by simp [execOp, hop])
  case h_13 t x lo hi mx hop => exact (xslice_sound HT hc hnd hρ h).o (by simp [execOp, hop])
  case h_14 t parts hop =>
    rw [mapK2_eq] at h
    have := xbuild_sound (Hyp := Hyp) (C := C) (s := s) (w := w) HT h (us := parts.toList.map fun p => (p.1, ev p.2)) (fun hh => all2_map2 (hρ hh) _)
    exact this.o (by simp only [execOp, hop]; congr 2; apply Array.ext'; simp)
  case h_15 x i hop =>
    split at h
    · rename_i l e
      rw [nth_eq] at h
      cases hl : l[i]? with
      | none => simp [hl] at h
      | some v =>
        rw [hl] at h
        simp only [forceK_eq] at h
        refine ⟨v, h, fun hh => ?_⟩
        have := hρ hh x
        rw [e] at this
        obtain ⟨vs, hv, hall⟩ := this
        obtain ⟨u, hu, hr⟩ := all2_get hall hl
        have hu' : vs[i]? = some u := by simpa using hu
        refine ⟨u, fun w _ => by simp [execOp, hop, hv, Instr.extract, hu'], ?_⟩
        cases v <;> first | exact hr | exact hr.elim
    · exact h.elim
  case h_16 t x hop =>
    cases hx : T.get t with
    | none => simp [hx] at h
    | some xi =>
      obtain ⟨d, hu, hd⟩ := (tab_get HT hx).desc
      rw [hx] at h
      simp only at h
      have key : ∀ (h : forceK (ρ x) fun v => bif okA v then K (.iface t v) else False) (hni : ∀ ms, d ≠ .interface ms), AnsO P T C s w Hyp K (execOp ev o) := fun h hni => by
        rw [forceK_eq] at h
        cases hb : okA (ρ x) with
        | false => simp [hb] at h
        | true =>
          simp only [hb, cond_true] at h
          refine ⟨_, h, fun hh => ⟨.iface t (ev x), fun w _ => ?_, ev x, rfl, ?_⟩⟩
          · simp only [execOp, hop, Instr.makeInterface, Sem.run_bind, run_underlying hu, Result.andThen_ok]
            cases d <;> first | rfl | exact absurd rfl (hni _)
          · have := hρ hh x
            cases hv : ρ x <;> rw [hv] at this hb <;> first | exact this | (simp [okA] at hb)
      cases hdd : xi.desc <;> rw [hdd] at h hd <;> simp only at h
      all_goals exact key h (fun ms e => by subst e; simp [descOK] at hd)
  case h_17 c hop =>
    split at h
    case h_1 hb =>
      split at h
      · rename_i x t ts ha ht
        cases hf : fitsT T t (ρ x) with
        | false => simp [hf] at h
        | true =>
          simp only [hf, cond_true] at h
          cases hl : lenOf' s.heap (ρ x) with
          | none => simp [hl] at h
          | some n =>
            rw [hl] at h
            refine ⟨_, h, fun hh => ?_⟩
            have hargs : c.args = #[x] := by rw [← Array.toArray_toList (xs := c.args), ha]
            have htys : c.argTypes = (t :: ts).toArray := by rw [← Array.toArray_toList (xs := c.argTypes), ht]
            rcases lenOf_sound hl (hρ hh x) with ⟨q, e, hv, rfl⟩ | ⟨hns, ad, m, cp, hv, rfl⟩
            · rw [e] at hf
              refine ⟨.int .i64 q.size, fun w _ => ?_, rfl⟩
              simp only [execOp, hop, resolve, hb, hargs, List.map_toArray, List.map_cons, List.map_nil, Sem.run_bind, Sem.run_pure, Result.andThen_ok, invoke, builtin, hv, htys]
              rw [run_len_str w (fitsT_str HT hf) ts o.type q]
              rfl
            · obtain ⟨e, hu⟩ := fitsT_sl (P := P) HT hns hf
              refine ⟨.int .i64 m, fun w _ => ?_, rfl⟩
              simp only [execOp, hop, resolve, hb, hargs, List.map_toArray, List.map_cons, List.map_nil, Sem.run_bind, Sem.run_pure, Result.andThen_ok, invoke, builtin, hv, htys]
              rw [run_len_slice w hu ts o.type ad m cp]
              rfl
      · exact h.elim
    case h_2 hb =>
      rw [mapK_eq] at h
      have := xmin_sound (P := P) (T := T) (C := C) (s := s) (w := w) (Hyp := Hyp) false h (vs := c.args.toList.map ev) (fun hh => all2_map (hρ hh) _) c.argTypes o.type
      refine this.o ?_
      have e : c.args.map ev = (c.args.toList.map ev).toArray := by apply Array.ext'; simp
      simp only [execOp, hop, resolve, hb, invoke, builtin, pure_bind, e]
      rfl
    case h_3 hb =>
      rw [mapK_eq] at h
      have := xmin_sound (P := P) (T := T) (C := C) (s := s) (w := w) (Hyp := Hyp) true h (vs := c.args.toList.map ev) (fun hh => all2_map (hρ hh) _) c.argTypes o.type
      refine this.o ?_
      have e : c.args.map ev = (c.args.toList.map ev).toArray := by apply Array.ext'; simp
      simp only [execOp, hop, resolve, hb, invoke, builtin, pure_bind, e]
      rfl
    case h_4 => exact h.elim
  case h_18 => exact h.elim
end
end Go.Proofs.Ytaghkmaelbgljaa.VX
