/- Regions that draw their order: the effects; the region. -/
import Derived.Test.YtaghkmaelbgljaaVXu
namespace Go.Proofs.Ytaghkmaelbgljaa.VX
section
variable {P : Program} {T : Tab} {C C' : Cx} {s s' : St} {a : Act} {w w' : World}

theorem storeF_sound (HT : tabOK P T = true) (hc : CS T C s a w) {t : TypeId} {x y : Operand} {o : Oper} (ho : o.op = .store t x y) {ev : Operand → Value} {ρ : Operand → AV} (hρ : ∀ x, RpS T C s w (ρ x) (ev x)) {id off : Nat} (hrx : ρ x = .ptr id off) {call : CallR} {k : KE}
    (h : xeff T call ρ o.op s.env s.heap s.nx k) : ∃ v h' nx' wt, k v s.env h' nx' ∧ (execOp ev o).run P w = .ok .skip wt ∧ CS T C ⟨s.env, h', nx', s.gs, s.kn⟩ a wt ∧ RpS T C ⟨s.env, h', nx', s.gs, s.kn⟩ wt v undef ∧
      (∀ b, b ≠ C.β id → wt.heap[b]? = w.heap[b]?) ∧ wt.heap.size = w.heap.size := by
  rw [ho] at h
  simp only [xeff, xstore] at h
  cases hx : T.get t with
  | none => simp [hx] at h
  | some xi =>
    rw [hx] at h
    simp only [cellsK_eq] at h
    cases hb : (okV (ρ y) && okCells s.heap (ρ y).cells && Nat.beq (len (ρ y).cells) xi.size) with
    | false => simp [hb] at h
    | true =>
      simp only [hb, cond_true] at h
      simp only [Bool.and_eq_true] at hb
      obtain ⟨⟨_, hok⟩, hn⟩ := hb
      have hn := beq_nat hn
      rw [len_eq] at hn
      have done : ∀ {wt : World}, (Instr.storeAt t (ev x) (ev y)).run P w = .ok () wt → (execOp ev o).run P w = .ok .skip wt := fun hr => by
        simp only [execOp, ho, Sem.run_bind, hr, Result.andThen_ok, Sem.run_pure]
      rw [hrx] at h
      simp only at h
      cases hbk : getB s.heap id with
      | gone => simp [hbk] at h
      | arr _ _ _ _ => simp [hbk] at h
      | box bt cs =>
        rw [hbk] at h
        simp only at h
        cases hle : Nat.ble (off + xi.size) (len cs) with
        | false => simp [hle] at h
        | true =>
          simp only [hle, cond_true] at h
          have hle := Nat.le_of_ble_eq_true hle
          rw [len_eq] at hle
          rw [spliceK_eq cs off _ _ (by omega)] at h
          have hpx := hρ x
          rw [hrx] at hpx
          obtain ⟨h1, h2⟩ := storeBox_sound HT hc hx hbk (hρ y) hok hn hle
          exact ⟨_, _, _, _, h, done (by rw [hpx.1]; exact h1), h2, rfl, fun b hb => setCells_same _ _ _ _ _ hb, setCells_size _ _ _ _⟩

/-- What lasts over an effect. -/
def FrD (Wr : List Nat) (C : Cx) (w : World) (C' : Cx) (w' : World) : Prop :=
  (∀ b, b < w.heap.size → (∀ id ∈ Wr, b ≠ C.β id) → w'.heap[b]? = w.heap[b]?) ∧ w.heap.size ≤ w'.heap.size ∧ ∀ id ∈ Wr, C'.β id = C.β id

theorem effD_wp (HT : tabOK P T = true) (hc : CS T C s a w) {Wr : List Nat} (hW : ∀ id ∈ Wr, ∃ t cs, getB s.heap id = .box t cs) {o : Oper} {k : KE} {next : Act → World → Prop} {Q : Exit → Act → World → Prop} (h : xeffD T (ACalls P T) Wr (opd s.env s.kn) o.op s.env s.heap s.nx k)
    (hd : ∀ d, o.dst = some d → d < C.N) (hnext : ∀ v h' nx' C' val w', k v s.env h' nx' → KeepC C C' → CS T C' ⟨putE s.env o.dst v, h', nx', s.gs, s.kn⟩ (a.put o.dst val) w' → FrD Wr C w C' w' → next (a.put o.dst val) w') : o.wp P a w next Q := by
  have hρ := fun x => opd_rep hc hc.kn x
  have ent : ∀ {C' : Cx} {h' : Hp} {nx' : Nat} {w' : World} {v : AV} {val : Value}, KeepC C C' → CS T C' ⟨s.env, h', nx', s.gs, s.kn⟩ a w' → RpS T C' ⟨s.env, h', nx', s.gs, s.kn⟩ w' v val → CS T C' ⟨putE s.env o.dst v, h', nx', s.gs, s.kn⟩ (a.put o.dst val) w' := fun {C' h' nx' w' v val} hk hcs hrp => by
    have hN : C'.N = C.N := hk.2.2.2.2
    exact hcs.put o.dst (fun d hd' => by rw [hN]; exact hd d hd') (RpE_of_S hrp)
  unfold xeffD at h
  unfold Oper.wp
  split at h
  · rename_i t p v hop
    split at h
    · rename_i id off hp
      cases hm : memN Wr id with
      | false => rw [hm] at h; exact h.elim
      | true =>
        rw [hm, cond_true, ← hop] at h
        obtain ⟨v', h', nx', wt, q1, q2, q3, q4, q5, q6⟩ := storeF_sound (P := P) HT hc hop hρ hp h
        have q2 : (execOp a.eval o).run P w = .ok .skip wt := q2
        rw [q2]
        exact hnext _ _ _ C undef _ q1 (KeepC.refl C) (ent (KeepC.refl C) q3 q4) ⟨fun b _ hne => q5 b (hne id (memN_iff.1 hm)), by rw [q6]; exact Nat.le_refl _, fun _ _ => rfl⟩
    · exact h.elim
  · rename_i c hop
    split at h
    · rename_i g hcal
      rw [← hop] at h
      obtain ⟨f, args, hrun, hcalls⟩ := callop_sound (P := P) hc hop hcal hρ h
      have hrun : (execOp a.eval o).run P w = .ok (.enter f args) w := hrun
      rw [hrun]
      refine Calls.mono hcalls ?_
      rintro e w' ⟨v, h', nx', C', val, rfl, hk, hkc, hcs, hrp, hf1, hf2, hf3⟩
      refine hnext _ _ _ _ _ _ hk hkc (ent hkc hcs hrp) ⟨fun b hb _ => hf1 b hb, hf2, fun id hid => hf3 id ?_⟩
      obtain ⟨t, cs, hb⟩ := hW id hid
      exact gone_lt hc hb (by simp)
    · exact h.elim
  · exact h.elim

theorem xopD_eff (HT : tabOK P T = true) {Wr : List Nat} {ops : Array Oper} {i : Nat} {o : Oper} {r : List Oper} {k : St → Prop} {Q : Exit → Act → World → Prop} (hi : ops[i]? = some o) (hN : ∀ d, o.dst = some d → d < C.N) (hq : isQuiet T o.op = false) (x : XAtD P T C Wr ops.toList (o :: r) k s a w) :
    wpOp P ops Q i (fun a' w' => ∃ C' s', KeepC C C' ∧ FrD Wr C w C' w' ∧ XAtD P T C' Wr ops.toList r k s' a' w') a w := by
  obtain ⟨hc, hgi, hgo⟩ := x
  simp only [xopsD] at hgo
  cases hbx : boxes s.heap Wr with
  | false => rw [hbx] at hgo; exact hgo.elim
  | true =>
  rw [hbx, cond_true] at hgo
  have hbs := boxes_spec hbx
  have hg := guard_sound hc hgi rfl o
  generalize guardOf ops.toList (o :: r) o s.env s.gs s.kn = gv at hgo hg
  unfold wpOp
  simp only [hi]
  have skip : ∀ {s1 : St}, CS T C s1 a w → GInv ops.toList (o :: r) s1 → Region.wanted o (yielded ops a.tmps) = false → xopsD T (ACalls P T) Wr ops.toList r (putE s1.env o.dst .undef) s1.heap s1.nx s1.gs s1.kn k →
      ∃ C' s', KeepC C C' ∧ FrD Wr C w C' w ∧ XAtD P T C' Wr ops.toList r k s' (a.put o.dst undef) w := fun {s1} q1 q2 q3 q4 =>
    ⟨C, _, KeepC.refl C, ⟨fun _ _ _ => rfl, Nat.le_refl _, fun _ _ => rfl⟩, q1.put o.dst hN (show RpE T C s1 w .undef undef from rfl), q2.put .undef s1.heap s1.nx, q4⟩
  have run : ∀ {s1 : St}, s1.heap = s.heap → CS T C s1 a w → GInv ops.toList (o :: r) s1 → (xeffD T (ACalls P T) Wr (opd s1.env s1.kn) o.op s1.env s1.heap s1.nx fun v env1 h' nx' => putK env1 o.dst v fun env' => xopsD T (ACalls P T) Wr ops.toList r env' h' nx' s1.gs s1.kn k) →
      o.wp P a w (fun a' w' => ∃ C' s', KeepC C C' ∧ FrD Wr C w C' w' ∧ XAtD P T C' Wr ops.toList r k s' a' w') Q := fun {s1} qh q1 q2 q3 => by
    refine effD_wp HT q1 (by rw [qh]; exact hbs) q3 hN ?_
    intro v h' nx' C' val w' hk hkc hcs hfr
    rw [putK_eq] at hk
    exact ⟨C', _, hkc, hfr, hcs, q2.put v h' nx', hk⟩
  cases gv with
  | bad => exact hgo.elim
  | skip =>
    rw [putK_eq] at hgo
    simp only [hg, Bool.false_eq_true, if_false]
    exact skip hc hgi hg hgo
  | run ch gs' =>
    obtain ⟨hc1, hi1, hdom, hch⟩ := hg
    dsimp only at hgo
    rw [hq] at hgo
    cases ch with
    | nil =>
      dsimp only at hgo
      have hw : Region.wanted o (yielded ops a.tmps) = true := hch.1 trivial
      simp only [hw, if_true]
      exact .inl (run (s1 := ⟨s.env, s.heap, s.nx, gs', s.kn⟩) rfl hc1 hi1 hgo)
    | cons c cs =>
      dsimp only at hgo
      have hrev : ∀ (gs : List (Nat × Bool)), chProp gs (c :: cs).reverse ↔ chProp gs (c :: cs) := fun gs => by simp only [chProp_iff, List.mem_reverse]
      obtain ⟨env', kn', q1, q2, q3⟩ := xsplit_sound _ _ _ hc1 hi1 (fun p hp => hdom p (List.mem_reverse.1 hp)) hgo
      rcases q3 with ⟨q3, q4⟩ | ⟨q3, q4⟩
      · have hw : Region.wanted o (yielded ops a.tmps) = true := hch.1 ((hrev _).1 q3)
        simp only [hw, if_true]
        exact .inl (run (s1 := ⟨env', s.heap, s.nx, gs', kn'⟩) rfl q1 q2 q4)
      · have hw : Region.wanted o (yielded ops a.tmps) = false := by
          cases hh : Region.wanted o (yielded ops a.tmps) with
          | false => rfl
          | true => exact absurd ((hrev _).2 (hch.2 hh)) q3
        simp only [hw, Bool.false_eq_true, if_false]
        rw [putK_eq] at q4
        exact skip q1 q2 hw q4

theorem drawnD_sound (HT : tabOK P T = true) {Wr : List Nat} {ops : Array Oper} {k : St → Prop} {Q : Exit → Act → World → Prop} (hQp : ∀ c a w, ¬ Q (.panic c) a w) (hs : Region.noSelect ops = true) :
    ∀ (l : List Oper) (is : List Nat) (listed : Array Bool), all2 (fun o i => nth ops.toList i = some o) l is → drawChkD T ops is listed = true → ∀ (C : Cx), (∀ o ∈ l, ∀ d, o.dst = some d → d < C.N) →
    ∀ (s : St) (a : Act) (w : World), XAtD P T C Wr ops.toList l k s a w → (∀ C' s' a' w', KeepC C C' → CS T C' s' a' w' → k s' → Q .normal a' w') → wpAnyF P .any ops Q l.length listed a w (Same (eraCx C Wr) w) := by
  intro l
  induction l with
  | nil =>
    intro is listed hall hch C _ s a w x hQ
    cases is with
    | nil =>
      simp only [drawChkD] at hch
      have hgo := x.go
      simp only [xopsD] at hgo
      refine wpAnyF_done ?_ (hQ C s a w (KeepC.refl C) x.cs hgo) _
      split at hch
      · assumption
      · cases hch
    | cons _ _ => exact hall.elim
  | cons o r ih =>
    intro is listed hall hch C hN s a w x hQ
    cases is with
    | nil => exact hall.elim
    | cons i is =>
      simp only [drawChkD, Bool.and_eq_true] at hch
      obtain ⟨h1, h2⟩ := hch
      have ho := hall.1
      rw [ho] at h1
      dsimp only at h1
      have hi : ops[i]? = some o := by have := nth_some ho; simpa using this
      cases hq : isQuiet T o.op with
      | true =>
        rw [hq, cond_true, Bool.and_eq_true] at h1
        obtain ⟨val, q1, s', q2⟩ := xopD_quiet HT (hN o (by simp)) hq x
        exact wpAnyF_take hi hs h1.2 h1.1 (fun c a w q => absurd q (hQp c _ w)) q1 (Same.refl _ w) (ih is _ hall.2 h2 C (fun o' ho' => hN o' (List.mem_cons_of_mem _ ho')) s' _ w q2 hQ)
      | false =>
        rw [hq, cond_false] at h1
        have hr : Region.ready .any ops listed = [i] := by
          split at h1
          · rename_i j e
            rw [e, beq_nat h1]
          · cases h1
        refine wpAnyF_one hr (wpOp_mono ?_ (xopD_eff HT hi (hN o (by simp)) hq x))
        rintro a' w' ⟨C', s', hk, ⟨f1, f2, f3⟩, hx⟩
        refine ⟨Same (eraCx C' Wr) w', fun y hy b hb hF => ?_, Same.refl _ w', ih is _ hall.2 h2 C' (fun o' ho' d hd => by rw [hk.2.2.2.2]; exact hN o' (List.mem_cons_of_mem _ ho') d hd) s' a' w' hx (fun C2 s2 a2 w2 hk2 => hQ C2 s2 a2 w2 (hk.trans hk2))⟩
        have hF' : ¬ (eraCx C' Wr).F b := by
          rintro (hF' | ⟨id, hid, e⟩)
          · exact hF (.inl (by rw [← hk.1]; exact hF'))
          · exact hF (.inr ⟨id, hid, by rw [e, f3 id hid]⟩)
        rw [hy b (by omega) hF']
        exact f1 b hb (fun id hid e => hF (.inr ⟨id, hid, e⟩))
end
end Go.Proofs.Ytaghkmaelbgljaa.VX
