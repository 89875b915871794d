/- The operations that only compute and read: what they answer, kind by kind. -/
import Derived.Test.YtaghkmaelbgljaaVX3
namespace Go.Proofs.Ytaghkmaelbgljaa.VX
section
variable {P : Program} {T : Tab} {C : Cx} {s : St} {a : Act} {w : World} {Hyp : Prop} {nd : Nd} {K : AV → Prop}

theorem isNilV_sound (hc : CS T C s a w) {y : AV} {b : Bool} (h : isNilV s.heap y = some b) {v : Value} (hv : RpS T C s w y v) :
    ∃ ad n c, v = .slice ad n c ∧ b = ad.isNone := by
  cases y <;> simp only [isNilV] at h
  all_goals try (cases h; done)
  case nils =>
    injection h with h; subst h
    exact ⟨none, 0, 0, hv, rfl⟩
  case em b' =>
    injection h with h; subst h
    obtain ⟨ad, rfl, hb⟩ := hv
    exact ⟨ad, 0, 0, rfl, hb⟩
  case sl b' t l =>
    injection h with h; subst h
    have hv' : RepC T w (XB C s.heap) (.sl t) (.sl b' t l) v := hv
    cases hv' with
    | em _ _ ad cap hb => exact ⟨ad, 0, cap, rfl, hb⟩
    | sl _ cks _ g o cap vals => exact ⟨_, _, _, rfl, rfl⟩
  case own id =>
    cases hb : getB s.heap id with
    | gone => simp [hb] at h
    | box _ _ => simp [hb] at h
    | arr wr t b' l =>
      rw [hb] at h
      injection h with h; subst h
      obtain ⟨_, hv⟩ := hv
      rw [hb] at hv
      simp only at hv
      have hr := hc.blk id
      rw [hb] at hr
      obtain ⟨cks, hk, hp, hr⟩ := hr
      refine ⟨C.base id, l.length, C.cap id, hv, ?_⟩
      rcases hr with ⟨_, _, hn⟩ | ⟨hn, _, g, o, hbase, _⟩
      · exact hn
      · rw [hn, hbase]; rfl
theorem isNilP_sound {y : AV} {b : Bool} (h : isNilP y = some b) {v : Value} (hv : RpS T C s w y v) : ∃ ad, v = .pointer ad ∧ b = ad.isNone := by
  cases y <;> simp only [isNilP] at h
  all_goals try (cases h; done)
  case nilp => injection h with h; subst h; exact ⟨none, hv, rfl⟩
  case ptr id off => injection h with h; subst h; exact ⟨_, hv.1, rfl⟩

theorem eqGuard_flat : ∀ (d : Nat) (t : TypeId) (ck : List CK), eqCk P d t = some ck → ∀ D, d ≤ D → P.eqGuardType D t = false
  | 0, _, _, h, _, _ => by simp [eqCk] at h
  | d + 1, t, ck, h, D, hD => by
    obtain ⟨D, rfl⟩ : ∃ D', D = D' + 1 := ⟨D - 1, by omega⟩
    unfold eqCk at h
    unfold Program.eqGuardType
    cases htd : P.underlying t with
    | none => rfl
    | some td =>
      rw [htd] at h
      cases td <;> simp only at h ⊢
      case interface => cases h
      case array => cases h
      case struct fs =>
        cases hst : P.stoodInHeld t with
        | true => simp [hst] at h
        | false =>
          simp only [hst, cond_false] at h
          have key : ∀ (l : List Field) (o : Nat) (ck : List CK), eqFs P (eqCk P d) o l = some ck → ∀ f ∈ l, P.eqGuardType D f.type = false := by
            intro l
            induction l with
            | nil => intro o ck _ f hf; cases hf
            | cons g l ih =>
              intro o ck h f hf
              simp only [eqFs] at h
              cases hc : eqCk P d g.type with
              | none => simp [hc] at h
              | some c =>
                simp only [hc] at h
                cases hb : (Nat.beq g.offset o && Nat.beq (P.cellsOf g.type) c.length && g.name != "_") with
                | false => simp [hb] at h
                | true =>
                  simp only [hb, cond_true] at h
                  cases hr : eqFs P (eqCk P d) (o + c.length) l with
                  | none => simp [hr] at h
                  | some r =>
                    rcases List.mem_cons.1 hf with rfl | hf
                    · exact eqGuard_flat d _ c hc D (by omega)
                    · exact ih _ r hr f hf
          rw [← Array.any_toList]
          rw [List.any_eq_false]
          intro f hf
          rw [key fs.toList 0 ck h f hf]
          simp

theorem rp_agg {l : List AV} {v : Value} (h : RpS T C s w (.agg l) v) : ∃ cs : Array Value, v = .agg cs ∧ all2 (RpK T C s w) l cs.toList := h

theorem eq_slice1 (d : Nat) {t e : TypeId} (hU : P.underlying t = some (.slice e)) (n c n' c' : Nat) (b : Option Addr) : (Op.equalIn (d + 1) t (.slice none n c) (.slice b n' c')).run P w = .ok b.isNone w := by
  simp [Op.equalIn, run_underlying hU]
theorem eq_slice2 (d : Nat) {t e : TypeId} (hU : P.underlying t = some (.slice e)) (n c n' c' : Nat) (b : Option Addr) : (Op.equalIn (d + 1) t (.slice b n c) (.slice none n' c')).run P w = .ok b.isNone w := by
  cases b <;> simp [Op.equalIn, run_underlying hU]
theorem eq_ptr1 (d : Nat) {t e : TypeId} (hU : P.underlying t = some (.pointer e)) (b : Option Addr) : (Op.equalIn (d + 1) t (.pointer none) (.pointer b)).run P w = .ok b.isNone w := by
  simp [Op.equalIn, run_underlying hU]
theorem eq_ptr2 (d : Nat) {t e : TypeId} (hU : P.underlying t = some (.pointer e)) (b : Option Addr) : (Op.equalIn (d + 1) t (.pointer b) (.pointer none)).run P w = .ok b.isNone w := by
  cases b <;> simp [Op.equalIn, run_underlying hU]
theorem binOp_slice {t : TypeId} {a1 a2 : Option Addr} {n1 c1 n2 c2 : Nat} {b : Bool} (h : (Op.equalIn 10000 t (.slice a1 n1 c1) (.slice a2 n2 c2)).run P w = .ok b w) :
    (binOp .eql t (.slice a1 n1 c1) (.slice a2 n2 c2)).run P w = .ok (.bool b) w ∧ (binOp .neq t (.slice a1 n1 c1) (.slice a2 n2 c2)).run P w = .ok (.bool (!b)) w := by
  constructor
  · show (do pure (.bool (← Op.equal t _ _)) : Sem Value).run P w = _
    simp only [Op.equal, Op.maxDepth, Sem.run_bind, h, Result.andThen_ok, Sem.run_pure]
  · show (do pure (.bool (!(← Op.equal t _ _))) : Sem Value).run P w = _
    simp only [Op.equal, Op.maxDepth, Sem.run_bind, h, Result.andThen_ok, Sem.run_pure]
theorem binOp_ptr {t : TypeId} {a1 a2 : Option Addr} {b : Bool} (h : (Op.equalIn 10000 t (.pointer a1) (.pointer a2)).run P w = .ok b w) :
    (binOp .eql t (.pointer a1) (.pointer a2)).run P w = .ok (.bool b) w ∧ (binOp .neq t (.pointer a1) (.pointer a2)).run P w = .ok (.bool (!b)) w := by
  constructor
  · show (do pure (.bool (← Op.equal t _ _)) : Sem Value).run P w = _
    simp only [Op.equal, Op.maxDepth, Sem.run_bind, h, Result.andThen_ok, Sem.run_pure]
  · show (do pure (.bool (!(← Op.equal t _ _))) : Sem Value).run P w = _
    simp only [Op.equal, Op.maxDepth, Sem.run_bind, h, Result.andThen_ok, Sem.run_pure]

/-- '==' of values that are no integers. -/
theorem eqV_sound (HT : tabOK P T = true) (hc : CS T C s a w) {t : TypeId} {x y : AV} {b : Bool} (h : eqV T s.heap t x y = some b) {u v : Value} (hu : RpS T C s w x u) (hv : RpS T C s w y v) :
    ∀ w' : World, (∀ X Y : Operand, (eqGuard .eql t X Y u v).run P w' = .ok () w' ∧ (eqGuard .neq t X Y u v).run P w' = .ok () w') ∧ (binOp .eql t u v).run P w' = .ok (.bool b) w' ∧ (binOp .neq t u v).run P w' = .ok (.bool (!b)) w' := by
  intro w'
  unfold eqV at h
  cases hx : T.get t with
  | none => simp [hx] at h
  | some xi =>
    have R := tab_get HT hx
    rw [hx] at h
    simp only at h
    cases hd : xi.desc <;> rw [hd] at h <;> simp only at h
    case bool =>
      have hU := R.bool hd
      unfold eqCell at h
      split at h <;> (try cases h) <;> rename_i e <;> (try cases e)
      all_goals
        first
        | (have hu' : u = .bool _ := hu
           have hv' : v = .bool _ := hv
           subst hu' hv'
           exact ⟨fun X Y => ⟨by simp [eqGuard], by simp [eqGuard]⟩, by simp [binOp, Op.equal, Op.maxDepth, run_equalIn_bool' w' _ t _ _ hU], by simp [binOp, Op.equal, Op.maxDepth, run_equalIn_bool' w' _ t _ _ hU]⟩)
    case str =>
      unfold eqCell at h
      split at h <;> (try cases h) <;> rename_i e <;> (try cases e)
      all_goals
        (have hu' : u = .string _ := hu
         have hv' : v = .string _ := hv
         subst hu' hv'
         exact ⟨fun X Y => ⟨by simp [eqGuard], by simp [eqGuard]⟩, by simp [binOp, Op.stringOp], by simp [binOp, Op.stringOp]⟩)
    case struct fs =>
      cases he : xi.eq with
      | false => simp [he] at h
      | true =>
        simp only [he, cond_true] at h
        split at h
        case h_1 ck xs ys hck =>
          obtain ⟨cs, rfl, hu1⟩ := rp_agg hu
          obtain ⟨ds, rfl, hv1⟩ := rp_agg hv
          obtain ⟨h1, h2, h3⟩ := eqCells_sound h hu1 hv1
          obtain ⟨hD, c, hc1, hc2⟩ := R.eq he
          rw [hck] at hc2
          injection hc2 with hc2
          subst hc2
          obtain ⟨td, htd, _, heq⟩ := eqCk_sound (P := P) (w := w') 8 t ck hc1 10000 (by omega) cs.toList ds.toList h2 h3
          obtain ⟨gs, hgs, _⟩ := R.struct hd
          rw [hgs] at htd
          injection htd with htd
          subst htd
          simp only [valOf, TypeDesc.isRow, if_true, Array.toArray_toList] at heq
          have hg := eqGuard_flat 8 t ck hc1 P.depth hD
          refine ⟨fun X Y => ⟨by simp [eqGuard, hg], by simp [eqGuard, hg]⟩, ?_, ?_⟩
          · simp [binOp, Op.equal, Op.maxDepth, heq, h1]
          · simp [binOp, Op.equal, Op.maxDepth, heq, h1]
        case h_2 => cases h
    case slice e =>
      have hU := R.slice hd
      split at h
      · have hu' : u = .slice none 0 0 := hu
        subst hu'
        obtain ⟨ad, n, c, rfl, rfl⟩ := isNilV_sound hc h hv
        obtain ⟨h1, h2⟩ := binOp_slice (P := P) (w := w') (eq_slice1 9999 hU 0 0 n c ad)
        exact ⟨fun X Y => ⟨by simp [eqGuard], by simp [eqGuard]⟩, h1, h2⟩
      · have hv' : v = .slice none 0 0 := hv
        subst hv'
        obtain ⟨ad, n, c, rfl, rfl⟩ := isNilV_sound hc h hu
        obtain ⟨h1, h2⟩ := binOp_slice (P := P) (w := w') (eq_slice2 9999 hU n c 0 0 ad)
        exact ⟨fun X Y => ⟨by simp [eqGuard], by simp [eqGuard]⟩, h1, h2⟩
      · cases h
    case ptr e =>
      have hU := R.ptr hd
      split at h
      · have hu' : u = .pointer none := hu
        subst hu'
        obtain ⟨ad, rfl, rfl⟩ := isNilP_sound h hv
        obtain ⟨h1, h2⟩ := binOp_ptr (P := P) (w := w') (eq_ptr1 9999 hU ad)
        exact ⟨fun X Y => ⟨by simp [eqGuard], by simp [eqGuard]⟩, h1, h2⟩
      · have hv' : v = .pointer none := hv
        subst hv'
        obtain ⟨ad, rfl, rfl⟩ := isNilP_sound h hu
        obtain ⟨h1, h2⟩ := binOp_ptr (P := P) (w := w') (eq_ptr2 9999 hU ad)
        exact ⟨fun X Y => ⟨by simp [eqGuard], by simp [eqGuard]⟩, h1, h2⟩
      · cases h
    all_goals cases h

theorem eqGuard_int (op : BinOp) (t : TypeId) (X Y : Operand) (k k' : IntKind) (x y : Int) : (eqGuard op t X Y (.int k x) (.int k' y)).run P w = .ok () w := by
  unfold eqGuard; cases op <;> simp
theorem eqGuard_no (op : BinOp) (h : op ≠ .eql) (h' : op ≠ .neq) (t : TypeId) (X Y : Operand) (u v : Value) : (eqGuard op t X Y u v).run P w = .ok () w := by
  unfold eqGuard; cases op <;> simp_all

theorem xbin_sound (HT : tabOK P T = true) (hc : CS T C s a w) (hnd : ∀ c X, nd c X → X ∧ (Hyp → c)) {op : BinOp} {t : TypeId} {x y : AV} (h : xbin T nd s.heap op t x y K) (X Y : Operand) {u v : Value}
    (hu : Hyp → RpS T C s w x u) (hv : Hyp → RpS T C s w y v) : Ans P T C s w Hyp K (do eqGuard op t X Y u v; binOp op t u v) := by
  unfold xbin at h
  split at h
  case h_1 k n k' m =>
    split at h
    case h_1 =>
      obtain ⟨h, hb⟩ := hnd _ _ h
      refine .of h fun hy => ?_
      have e1 : u = .int k n := hu hy
      have e2 : v = .int k' m := hv hy
      have hb' := hb hy
      subst e1 e2
      refine ⟨_, fun w _ => ?_, rfl⟩
      simp only [Sem.run_bind, eqGuard_int, Result.andThen_ok]
      simp [binOp, Op.shift, Int.not_lt.2 hb']
    case h_2 =>
      obtain ⟨h, hb⟩ := hnd _ _ h
      refine .of h fun hy => ?_
      have e1 : u = .int k n := hu hy
      have e2 : v = .int k' m := hv hy
      have hb' := hb hy
      subst e1 e2
      refine ⟨_, fun w _ => ?_, rfl⟩
      simp only [Sem.run_bind, eqGuard_int, Result.andThen_ok]
      simp [binOp, Op.shift, Int.not_lt.2 hb']
    case h_3 =>
      split at h
      · rename_i e; subst e
        obtain ⟨v', hK, hans⟩ := xint_sound (P := P) (T := T) (C := C) (s := s) (w := w) hnd op k n m t h
        refine .of hK fun hy => ?_
        have e1 : u = .int k n := hu hy
        have e2 : v = .int k m := hv hy
        subst e1 e2
        obtain ⟨val, h1, h2⟩ := hans hy
        exact ⟨val, fun w q => by simp only [Sem.run_bind, eqGuard_int, Result.andThen_ok]; exact h1 w q, h2⟩
      · exact h.elim
  case h_2 =>
    split at h
    case h_1 =>
      split at h
      · rename_i b hb
        refine .of h fun hy => ?_
        refine ⟨_, fun w' _ => ?_, rfl⟩
        obtain ⟨h1, h2, h3⟩ := eqV_sound (P := P) HT hc hb (hu hy) (hv hy) w'
        exact (by simp only [Sem.run_bind, (h1 X Y).1, Result.andThen_ok]; exact h2)
      · exact h.elim
    case h_2 =>
      split at h
      · rename_i b hb
        refine .of h fun hy => ?_
        refine ⟨_, fun w' _ => ?_, rfl⟩
        obtain ⟨h1, h2, h3⟩ := eqV_sound (P := P) HT hc hb (hu hy) (hv hy) w'
        exact (by simp only [Sem.run_bind, (h1 X Y).2, Result.andThen_ok]; exact h3)
      · exact h.elim
    case h_3 => exact h.elim
end
end Go.Proofs.Ytaghkmaelbgljaa.VX
