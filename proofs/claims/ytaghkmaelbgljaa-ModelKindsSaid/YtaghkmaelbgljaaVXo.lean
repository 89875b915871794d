/- Regions and code. -/
import Derived.Test.YtaghkmaelbgljaaVXw
namespace Go.Proofs.Ytaghkmaelbgljaa.VX
section
variable {P : Program} {T : Tab} {C C' : Cx} {s s' : St} {a : Act} {w w' : World}

def opsLt (N : Nat) : List Oper → Bool
  | [] => true
  | o :: r => (match o.dst with | some d => Nat.blt d N | none => true) && opsLt N r
def codeOK (N : Nat) : Code → Bool
  | .region _ ops _ => opsLt N ops.toList
  | .seq a b => codeOK N a && codeOK N b
  | .cond _ a b => codeOK N a && codeOK N b
  | .block _ b => codeOK N b
  | .loop b => codeOK N b
  | _ => true
theorem opsLt_spec {N : Nat} {l : List Oper} (h : opsLt N l = true) : ∀ o ∈ l, ∀ d, o.dst = some d → d < N := by
  induction l with
  | nil => simp
  | cons o r ih =>
    simp only [opsLt, Bool.and_eq_true] at h
    intro o' ho' d hd
    rcases List.mem_cons.1 ho' with rfl | ho'
    · rw [hd] at h; simpa [Nat.blt_eq] using h.1
    · exact ih h.2 o' ho' d hd

theorem pickAll_eq {ops : List Oper} : ∀ (is : List Nat) {K : List Oper → Prop}, pickAll ops is K → ∃ l, all2 (fun o i => nth ops i = some o) l is ∧ K l
  | [], _, h => ⟨[], trivial, h⟩
  | i :: r, K, h => by
    simp only [pickAll] at h
    cases ho : nth ops i with
    | none => rw [ho] at h; exact h.elim
    | some o =>
      rw [ho] at h
      obtain ⟨l, h1, h2⟩ := pickAll_eq r h
      exact ⟨o :: l, ⟨ho, h1⟩, h2⟩

theorem pick_mem {ops : List Oper} : ∀ (is : List Nat) (l : List Oper), all2 (fun o i => nth ops i = some o) l is → ∀ o ∈ l, o ∈ ops := by
  intro is
  induction is with
  | nil => intro l hl; cases l with
    | nil => simp
    | cons _ _ => exact hl.elim
  | cons i is ih => intro l hl; cases l with
    | nil => simp
    | cons o r =>
      intro o' ho'
      rcases List.mem_cons.1 ho' with rfl | ho'
      · exact List.mem_of_getElem? (nth_some hl.1)
      · exact ih r hl.2 o' ho'
/-- What holds at the end of a piece of code. -/
def QX (T : Tab) (C0 : Cx) (kn : St → Prop) (ke : Exit → St → Prop) (e : Exit) (a : Act) (w : World) : Prop :=
  ∃ C s, KeepC C0 C ∧ CS T C s a w ∧ s.gs = [] ∧ s.kn = [] ∧ match e with
    | .normal => kn s
    | .exit i => ke (.exit i) s
    | .ret => ke .ret s
    | _ => False

theorem clrK_eq : ∀ {env : List (Nat × AV)} {K : List (Nat × AV) → Prop}, clrK env K → ∃ env', K env' ∧ ∀ t, getE env' t = .dead ∨ (getE env' t = getE env t ∧ isOpt (getE env t) = false)
  | [], K, h => ⟨[], h, fun t => .inr ⟨rfl, rfl⟩⟩
  | (t0, v) :: r, K, h => by
    simp only [clrK] at h
    cases hv : isOpt v with
    | true =>
      rw [hv] at h
      obtain ⟨env', h1, h2⟩ := clrK_eq h
      refine ⟨_, h1, fun t => ?_⟩
      rw [getE_cons, getE_cons]
      split
      · exact .inl rfl
      · exact h2 t
    | false =>
      rw [hv] at h
      obtain ⟨env', h1, h2⟩ := clrK_eq h
      refine ⟨_, h1, fun t => ?_⟩
      rw [getE_cons, getE_cons]
      split
      · exact .inr ⟨rfl, hv⟩
      · exact h2 t

theorem endR_sound (hc : CS T C s a w) {k : St → Prop} (h : endR s k) : ∃ s', CS T C s' a w ∧ s'.gs = [] ∧ s'.kn = [] ∧ k s' := by
  unfold endR at h
  split at h
  · exact ⟨_, hc, rfl, rfl, h⟩
  · rename_i env hp nx gs kn _
    obtain ⟨env', h1, h2⟩ := clrK_eq h
    refine ⟨⟨env', hp, nx, [], []⟩, ⟨fun t => ?_, hc.blk, hc.nx, hc.inj, hc.own, hc.g, hc.ge, hc.pin, by simp, hc.defers, hc.sz, hc.f, hc.io⟩, rfl, rfl, h1⟩
    dsimp only
    rcases h2 t with q | ⟨q1, q2⟩
    · rw [q]; exact trivial
    · rw [q1]
      have := hc.env t
      revert this q2
      dsimp only
      cases getE env t
      case opt ch y => intro q2; cases q2
      all_goals exact fun _ h => h

theorem drawn_sound (HT : tabOK P T = true) {ops : Array Oper} {k : St → Prop} {Q : Exit → Act → World → Prop} (hQp : ∀ c a w, ¬ Q (.panic c) a w) (hs : Region.noSelect ops = true) {w0 : World} :
    ∀ (l : List Oper) (is : List Nat) (listed : Array Bool), all2 (fun o i => nth ops.toList i = some o) l is → drawChk T ops is listed = true → (∀ o ∈ l, ∀ d, o.dst = some d → d < C.N) →
    ∀ (s : St) (a : Act), XAt P T C ops.toList l k s a w0 → (∀ s' a', CS T C s' a' w0 → k s' → Q .normal a' w0) → wpAnyH P .any ops Q (· = w0) l.length listed a w0 := by
  intro l
  induction l with
  | nil =>
    intro is listed hall hch _ s a x hQ
    cases is with
    | nil =>
      simp only [drawChk] at hch
      have hgo := x.go
      simp only [xops] at hgo
      refine wpAnyH_done ?_ (hQ s a x.cs hgo) _
      split at hch
      · assumption
      · cases hch
    | cons _ _ => exact hall.elim
  | cons o r ih =>
    intro is listed hall hch hN s a x hQ
    cases is with
    | nil => exact hall.elim
    | cons i is =>
      simp only [drawChk, Bool.and_eq_true] at hch
      obtain ⟨⟨⟨h1, h2⟩, h3⟩, h4⟩ := hch
      have ho := hall.1
      rw [ho] at h3
      obtain ⟨val, q1, s', q2⟩ := xop_quiet HT (hN o (by simp)) h3 x
      have hi : ops[i]? = some o := by have := nth_some ho; simpa using this
      exact wpAnyH_take hi hs h2 h1 (fun c a w q => absurd q (hQp c _ w)) (q1.imp (fun ⟨z1, z2⟩ => ⟨z1, fun w' e => z2 w' (by subst e; exact Same.refl C _)⟩) id) rfl (ih is _ hall.2 h4 (fun o' ho' => hN o' (List.mem_cons_of_mem _ ho')) s' _ q2 hQ)

theorem xregion_sound (HT : tabOK P T = true) (hm : P.follows .mixedOrders = true) {C0 : Cx} (hk : KeepC C0 C) (hc : CS T C s a w) (hgs : s.gs = []) (hkn : s.kn = []) {id : Nat} {ops : Array Oper} {draw : Bool} {kn : St → Prop} {ke : Exit → St → Prop} (hN : opsLt C.N ops.toList = true)
    (h : xregion T (ACalls P T) ops draw s.env s.heap s.nx fun st => endR st kn) : (Code.region id ops draw).wp P (QX T C0 kn ke) a w := by
  obtain ⟨env, hp, nx, gs, kk⟩ := s
  dsimp only at hgs hkn h
  subst hgs hkn
  have hgi : ∀ l, GInv ops.toList l ⟨env, hp, nx, [], []⟩ := fun l => ⟨fun j b d b' h1 => by simp [gsGet] at h1, fun j d h1 => by simp [gsGet] at h1, fun j h1 => by simp [gsGet] at h1⟩
  have fin : ∀ C' s' a' w', KeepC C C' → CS T C' s' a' w' → endR s' kn → QX T C0 kn ke .normal a' w' := fun C' s' a' w' q1 q2 q3 => by
    obtain ⟨s2, r1, r2, r3, r4⟩ := endR_sound q2 q3
    exact ⟨C', s2, hk.trans q1, r1, r2, r3, r4⟩
  unfold xregion at h
  cases draw with
  | false =>
    refine wp_region (xops_sound HT (C := C) ops.toList (List.range ops.size) (all2_of (by simp) ?_) (opsLt_spec hN) C _ a w (KeepC.refl C) ⟨hc, hgi _, h⟩ fin)
    intro i x y h1 h2
    have : y = i := by
      rw [List.getElem?_range] at h2
      · exact (Option.some.inj h2).symm
      · have := (List.getElem?_eq_some_iff.1 h2).1; simpa using this
    subst this
    simpa using h1
  | true =>
    rcases h.ex with ⟨order, hok, h⟩ | ⟨order, hok, h⟩
    case inr =>
      obtain ⟨Wr, h⟩ := wrK_eq h
      simp only [drawOKD, Bool.and_eq_true] at hok
      obtain ⟨⟨h1, h2⟩, h3⟩ := hok
      obtain ⟨l, q1, q2⟩ := pickAll_eq order h
      have key := drawnD_sound (P := P) (ops := ops) (k := fun st => endR st kn) (Q := QX T C0 kn ke) HT (fun c a w => by rintro ⟨_, _, _, _, _, _, h⟩; exact h) h1 l order _ q1 h3 C
        (fun o ho d hd => opsLt_spec hN o (pick_mem order l q1 o ho) d hd) _ a { w with drawn := w.drawn + 1 } ⟨hc.world rfl, hgi _, q2⟩ fin
      have hlen : l.length = ops.size := by rw [all2_len q1]; exact beq_nat h2
      rw [hlen] at key
      exact wp_region_grown hm key
    simp only [drawOK, Bool.and_eq_true] at hok
    obtain ⟨⟨h1, h2⟩, h3⟩ := hok
    obtain ⟨l, q1, q2⟩ := pickAll_eq order h
    have hmem : ∀ (is : List Nat) (l : List Oper), all2 (fun o i => nth ops.toList i = some o) l is → ∀ o ∈ l, o ∈ ops.toList := by
      intro is
      induction is with
      | nil => intro l hl; cases l with
        | nil => simp
        | cons _ _ => exact hl.elim
      | cons i is ih => intro l hl; cases l with
        | nil => simp
        | cons o r =>
          intro o' ho'
          rcases List.mem_cons.1 ho' with rfl | ho'
          · exact List.mem_of_getElem? (nth_some hl.1)
          · exact ih r hl.2 o' ho'
    refine wp_region_held (S := (· = { w with drawn := w.drawn + 1 })) hm ?_
    have hlen : l.length = ops.size := by rw [all2_len q1]; exact beq_nat h2
    have key := drawn_sound (ops := ops) (k := fun st => endR st kn) (Q := QX T C0 kn ke) HT (C := C) (w0 := { w with drawn := w.drawn + 1 }) (fun c a w => by rintro ⟨_, _, _, _, _, _, h⟩; exact h) h1 l order _ q1 h3 (fun o ho d hd => opsLt_spec hN o (hmem order l q1 o ho) d hd) _ a ⟨hc.world rfl, hgi _, q2⟩
      (fun s' a' q3 q4 => fin C s' a' _ (KeepC.refl C) q3 q4)
    rw [hlen] at key
    exact key

/-- From the head of a loop. -/
def loopFrom (P : Program) (c : Code) (Q : Exit → Act → World → Prop) (a : Act) (w : World) : Prop :=
  ∀ (b : Frame) (k : List Item) (cs : List Frame), ∃ e a' w', Q e a' w' ∧ Arrives P (lone (b.at a (.code c :: .inLoop c :: k)) cs w) b k cs e a' w'
theorem loopFrom_wp {c : Code} {Q : Exit → Act → World → Prop} (h : loopFrom P c Q a w) : (Code.loop c).wp P Q a w := fun b k cs =>
  let ⟨e, a', w', hq, harr⟩ := h b k cs
  ⟨e, a', w', hq, .of_steps (.one step_loop) harr⟩
theorem loopFrom.unroll {c : Code} {Q : Exit → Act → World → Prop} (h : c.wp P (Exit.then (loopFrom P c Q) Q) a w) : loopFrom P c Q a w := by
  intro b k cs
  obtain ⟨e, a₁, w₁, hq, harr⟩ := h b (.inLoop c :: k) cs
  cases e with
  | normal =>
    obtain ⟨e₂, a₂, w₂, hq₂, harr₂⟩ := hq b k cs
    exact ⟨e₂, a₂, w₂, hq₂, .of_steps (Steps.trans harr (.one step_inLoop)) harr₂⟩
  | exit id => exact ⟨_, a₁, w₁, hq, .pass (x := .inLoop c) rfl (fun _ _ => .inl (by simp)) harr⟩
  | goto l => exact ⟨_, a₁, w₁, hq, .pass (x := .inLoop c) rfl (fun _ _ => .inl (by simp)) harr⟩
  | ret => exact ⟨_, a₁, w₁, hq, .pass (x := .inLoop c) rfl (fun _ _ => .inl (by simp)) harr⟩
  | panic ch => exact ⟨_, a₁, w₁, hq, .pass (x := .inLoop c) rfl (fun _ _ => .inl (by simp)) harr⟩
  | outgrown => exact ⟨_, a₁, w₁, hq, .pass (x := .inLoop c) rfl (fun _ _ => .inl (by simp)) harr⟩
theorem loopFrom.mono {c : Code} {Q Q' : Exit → Act → World → Prop} (h : loopFrom P c Q a w) (hq : ∀ e a w, Q e a w → Q' e a w) : loopFrom P c Q' a w := fun b k cs =>
  let ⟨e, a', w', q, harr⟩ := h b k cs
  ⟨e, a', w', hq _ _ _ q, harr⟩

/-- A loop: whatever stands as the state says. -/
def ALoop (P : Program) (T : Tab) : LoopR := fun b st ke => ∀ (C : Cx) (a : Act) (w : World), codeOK C.N b = true → CS T C st a w → st.gs = [] → st.kn = [] → loopFrom P b (QX T C (fun _ => False) ke) a w

theorem QX.mono {C0 C1 : Cx} (hk : KeepC C0 C1) {kn kn' : St → Prop} {ke ke' : Exit → St → Prop} (h1 : ∀ s, kn s → kn' s) (h2 : ∀ e s, ke e s → ke' e s) (e : Exit) (a : Act) (w : World) : QX T C1 kn ke e a w → QX T C0 kn' ke' e a w := by
  rintro ⟨C', s', q1, q2, q3, q4, q5⟩
  refine ⟨C', s', hk.trans q1, q2, q3, q4, ?_⟩
  cases e <;> first | exact h1 _ q5 | exact h2 _ _ q5 | exact q5

theorem xcode_sound (HT : tabOK P T = true) (hm : P.follows .mixedOrders = true) (c : Code) : ∀ {C0 C : Cx} {s : St} {a : Act} {w : World} {kn : St → Prop} {ke : Exit → St → Prop}, codeOK C.N c = true → KeepC C0 C → CS T C s a w → s.gs = [] → s.kn = [] →
    xcode T (ACalls P T) (ALoop P T) c s kn ke → c.wp P (QX T C0 kn ke) a w := by
  induction c with
  | skip => exact fun _ hk hc h1 h2 h => wp_skip ⟨_, _, hk, hc, h1, h2, h⟩
  | region id ops draw =>
    intro C0 C s a w kn ke hN hk hc h1 h2 h
    exact xregion_sound HT hm hk hc h1 h2 hN h
  | seq x y ihx ihy =>
    intro C0 C s a w kn ke hN hk hc h1 h2 h
    simp only [codeOK, Bool.and_eq_true] at hN
    refine wp_seq (wp_mono (ihx hN.1 hk hc h1 h2 h) ?_)
    rintro e a' w' ⟨C', s', q1, q2, q3, q4, q5⟩
    cases e with
    | normal => exact ihy (by rw [q1.2.2.2.2, ← hk.2.2.2.2]; exact hN.2) q1 q2 q3 q4 q5
    | _ => exact ⟨C', s', q1, q2, q3, q4, q5⟩
  | cond c x y ihx ihy =>
    intro C0 C s a w kn ke hN hk hc h1 h2 h
    obtain ⟨env, hp, nx, gs, kk⟩ := s
    dsimp only at h1 h2
    subst h1 h2
    simp only [codeOK, Bool.and_eq_true] at hN
    have hv := opd_rep hc (ch := []) (by simp) c
    simp only [xcode] at h
    dsimp only at hv
    split at h
    · rename_i e
      rw [e] at hv
      exact wp_cond_true hv (ihx hN.1 hk hc rfl rfl h)
    · rename_i e
      rw [e] at hv
      exact wp_cond_false hv (ihy hN.2 hk hc rfl rfl h)
    · rename_i b e
      rw [e] at hv
      exact wp_cond_split hv (fun q => ihx hN.1 hk hc rfl rfl (h.t q)) (fun q => ihy hN.2 hk hc rfl rfl (h.f q))
    · exact h.elim
  | block id b ih =>
    intro C0 C s a w kn ke hN hk hc h1 h2 h
    refine wp_block (wp_mono (ih hN hk hc h1 h2 h) ?_)
    rintro e a' w' ⟨C', s', q1, q2, q3, q4, q5⟩
    cases e with
    | exit i =>
      simp only [Exit.inBlock]
      dsimp only at q5
      split
      · rename_i e
        subst e
        rw [Nat.beq_refl] at q5
        exact ⟨C', s', q1, q2, q3, q4, q5⟩
      · rename_i e
        rw [beq_false e] at q5
        exact ⟨C', s', q1, q2, q3, q4, q5⟩
    | _ => exact ⟨C', s', q1, q2, q3, q4, q5⟩
  | loop b ih =>
    intro C0 C s a w kn ke hN hk hc h1 h2 h
    exact wp_mono (loopFrom_wp (h C a w hN hc h1 h2)) (QX.mono hk (fun _ => False.elim) (fun _ _ => id))
  | exit id => exact fun _ hk hc h1 h2 h => wp_exit ⟨_, _, hk, hc, h1, h2, h⟩
  | label l => exact fun _ hk hc h1 h2 h => wp_label ⟨_, _, hk, hc, h1, h2, h⟩
  | ret => exact fun _ hk hc h1 h2 h => wp_ret ⟨_, _, hk, hc, h1, h2, h⟩
  | _ => intros; rename_i h; exact h.elim

/-- A round of a loop, gone through. -/
theorem ALoop.unroll (HT : tabOK P T = true) (hm : P.follows .mixedOrders = true) {b : Code} {ke : Exit → St → Prop} {kn : St → Prop} (hkn : ∀ st, kn st → ALoop P T b st ke) (h : xcode T (ACalls P T) (ALoop P T) b s kn ke) : ALoop P T b s ke := by
  intro C a w hN hc h1 h2
  refine loopFrom.unroll (wp_mono (xcode_sound HT hm b hN (KeepC.refl C) hc h1 h2 h) ?_)
  rintro e a' w' ⟨C', s', q1, q2, q3, q4, q5⟩
  cases e with
  | normal => exact (hkn _ q5 C' a' w' (by rw [q1.2.2.2.2]; exact hN) q2 q3 q4).mono (QX.mono q1 (fun _ => id) (fun _ _ => id))
  | _ => exact ⟨C', s', q1, q2, q3, q4, q5⟩

/-- What stands as the one says stands as the other says. -/
def Weak (T : Tab) (st st' : St) : Prop := ∀ (C : Cx) (a : Act) (w : World), CS T C st a w → st.gs = [] → st.kn = [] → ∃ C', KeepC C C' ∧ CS T C' st' a w ∧ st'.gs = [] ∧ st'.kn = []
theorem ALoop.weak {b : Code} {st st' : St} {ke : Exit → St → Prop} (h : ALoop P T b st' ke) (hw : Weak T st st') : ALoop P T b st ke := by
  intro C a w hN hc h1 h2
  obtain ⟨C', hk, hc', h1', h2'⟩ := hw C a w hc h1 h2
  exact (h C' a w (by rw [hk.2.2.2.2]; exact hN) hc' h1' h2').mono (QX.mono hk (fun _ => id) (fun _ _ => id))
/-- A loop by its states and what falls from round to round. -/
theorem ALoop.inv {ι : Type} (HT : tabOK P T = true) (hm : P.follows .mixedOrders = true) {b : Code} {ke : Exit → St → Prop} (S : ι → St) (μ : ι → Nat)
    (h : ∀ i, xcode T (ACalls P T) (ALoop P T) b (S i) (fun st => ∃ j, μ j < μ i ∧ Weak T st (S j)) ke) : ∀ i, ALoop P T b (S i) ke := by
  have key : ∀ n i, μ i = n → ALoop P T b (S i) ke := by
    intro n
    induction n using Nat.strongRecOn with
    | _ n ih =>
      intro i hi
      refine ALoop.unroll HT hm ?_ (h i)
      rintro st ⟨j, hj, hw⟩
      exact (ih (μ j) (hi ▸ hj) j rfl).weak hw
  exact fun i => key _ i rfl
attribute [irreducible] ALoop
end
end Go.Proofs.Ytaghkmaelbgljaa.VX
