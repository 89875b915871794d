/- A function whose results hand on blocks of their own. -/
import Derived.Test.YtaghkmaelbgljaaVXq
namespace Go.Proofs.Ytaghkmaelbgljaa.VX
section
variable {P : Program} {T : Tab} {C C' : Cx} {s s' : St} {a : Act} {w w' : World}

def posOf : List Nat → Nat → Nat → Option Nat
  | [], _, _ => none
  | i :: r, id, k => match Nat.beq i id with
    | true => some k
    | false => posOf r id (k + 1)
def exC (h : Hp) (ex : List Nat) : AV → AV
  | .own id => match posOf ex id 0 with
    | some k => .own k
    | none => outC h (.own id)
  | v => outC h v
def exA (h : Hp) (ex : List Nat) (v : AV) (K : AV → Prop) : Prop :=
  match v with
  | .agg l => mapK (exC h ex) l fun l' => K (.agg l')
  | v => forceK (exC h ex v) K
def exA' (h : Hp) (ex : List Nat) : AV → AV
  | .agg l => .agg (l.map (exC h ex))
  | v => exC h ex v
def exL (h : Hp) (ex : List Nat) : List AV → (List AV → Prop) → Prop
  | [], K => K []
  | v :: r, K => exA h ex v fun v' => exL h ex r fun l => K (v' :: l)
theorem exA_eq (h : Hp) (ex : List Nat) (v : AV) (K : AV → Prop) : exA h ex v K = K (exA' h ex v) := by
  unfold exA exA'
  cases v <;> simp [mapK_eq, forceK_eq]
theorem exL_eq (h : Hp) (ex : List Nat) : ∀ (l : List AV) (K : List AV → Prop), exL h ex l K = K (l.map (exA' h ex))
  | [], _ => rfl
  | v :: r, K => by simp [exL, exA_eq, exL_eq h ex r]
/-- The blocks that lie in a result. -/
def ownsC (h : Hp) : List AV → (List Nat → Prop) → Prop
  | [], K => K []
  | .own id :: r, K => match getB h id with
    | .arr true _ _ _ => ownsC h r fun l => K (id :: l)
    | _ => ownsC h r K
  | _ :: r, K => ownsC h r K
def ownsL (h : Hp) : List AV → (List Nat → Prop) → Prop
  | [], K => K []
  | .agg l :: r, K => ownsC h l fun l1 => ownsL h r fun l2 => K (l1 ++ l2)
  | v :: r, K => ownsC h [v] fun l1 => ownsL h r fun l2 => K (l1 ++ l2)
def fresh : List Nat → Bool
  | [] => true
  | i :: r => (match posOf r i 0 with | none => true | some _ => false) && fresh r
def blks (h : Hp) : List Nat → (List AB → Prop) → Prop
  | [], K => K []
  | i :: r, K => match getB h i with
    | .arr wr t b l => blks h r fun bs => K (.arr wr t b l :: bs)
    | _ => False
/-- Where a body ends that hands on what lies in its results. -/
def xendX (T : Tab) (rs : List ResultVar) (R : AV → List AB → Prop) (st : St) : Prop :=
  match st with
  | ⟨env, h, nx, _, _⟩ => xres T env h rs fun l => bif allRes l then ownsL h l fun ex => bif fresh ex && ex.all (fun i => Nat.blt i nx) then blks h ex fun bs => match l with
    | [v] => exA h ex v fun v' => R v' bs
    | l => exL h ex l fun l' => R (.tup l') bs
    else False else False

theorem posOf_none : ∀ {l : List Nat} {id k : Nat}, posOf l id k = none → id ∉ l
  | [], _, _, _ => by simp
  | i :: r, id, k, h => by
    simp only [posOf] at h
    cases hb : Nat.beq i id with
    | true => rw [hb] at h; cases h
    | false =>
      rw [hb] at h
      intro hm
      rcases List.mem_cons.1 hm with rfl | hm
      · simp [Nat.beq_refl] at hb
      · exact posOf_none h hm
theorem posOf_some : ∀ {l : List Nat} {id k j : Nat}, posOf l id k = some j → ∃ i, j = k + i ∧ l[i]? = some id
  | [], _, _, _, h => by simp [posOf] at h
  | i :: r, id, k, j, h => by
    simp only [posOf] at h
    cases hb : Nat.beq i id with
    | true => rw [hb] at h; cases h; exact ⟨0, rfl, by simp [beq_nat hb]⟩
    | false =>
      rw [hb] at h
      obtain ⟨i', h1, h2⟩ := posOf_some h
      exact ⟨i' + 1, by omega, by simpa using h2⟩
theorem fresh_inj : ∀ {l : List Nat}, fresh l = true → ∀ (i j x : Nat), l[i]? = some x → l[j]? = some x → i = j
  | [], _ => by simp
  | y :: r, h => by
    simp only [fresh, Bool.and_eq_true] at h
    have hy : y ∉ r := by
      refine posOf_none (k := 0) ?_
      cases hp : posOf r y 0 with
      | none => rfl
      | some _ => rw [hp] at h; cases h.1
    intro i j x hi hj
    cases i with
    | zero => cases j with
      | zero => rfl
      | succ j => simp at hi hj; subst hi; exact absurd (List.mem_of_getElem? hj) hy
    | succ i => cases j with
      | zero => simp at hi hj; subst hj; exact absurd (List.mem_of_getElem? hi) hy
      | succ j => simp at hi hj; rw [fresh_inj h.2 i j x hi hj]
theorem blks_eq {h : Hp} : ∀ {ex : List Nat} {K : List AB → Prop}, blks h ex K → K (ex.map (getB h)) ∧ ∀ i ∈ ex, ∃ wr t b l, getB h i = .arr wr t b l
  | [], K, h => ⟨h, by simp⟩
  | i :: r, K, hh => by
    simp only [blks] at hh
    cases hb : getB h i with
    | arr wr t b l =>
      rw [hb] at hh
      obtain ⟨h1, h2⟩ := blks_eq hh
      refine ⟨by simpa [hb] using h1, fun j hj => ?_⟩
      rcases List.mem_cons.1 hj with rfl | hj
      · exact ⟨_, _, _, _, hb⟩
      · exact h2 j hj
    | box _ _ => rw [hb] at hh; exact hh.elim
    | gone => rw [hb] at hh; exact hh.elim
theorem ownsC_eq {h : Hp} : ∀ {l : List AV} {K : List Nat → Prop}, ownsC h l K → ∃ ex, K ex
  | [], K, h => ⟨_, h⟩
  | v :: r, K, hh => by
    unfold ownsC at hh
    split at hh
    · rename_i e; cases e
    · rename_i e
      cases e
      split at hh
      · exact (ownsC_eq hh).elim fun _ h => ⟨_, h⟩
      · exact ownsC_eq hh
    · rename_i e
      cases e
      exact ownsC_eq hh
theorem ownsL_eq {h : Hp} : ∀ {l : List AV} {K : List Nat → Prop}, ownsL h l K → ∃ ex, K ex
  | [], K, h => ⟨_, h⟩
  | v :: r, K, hh => by
    unfold ownsL at hh
    split at hh
    · rename_i e; cases e
    · rename_i e
      cases e
      obtain ⟨_, hh⟩ := ownsC_eq hh
      obtain ⟨_, hh⟩ := ownsL_eq hh
      exact ⟨_, hh⟩
    · rename_i e
      cases e
      obtain ⟨_, hh⟩ := ownsC_eq hh
      obtain ⟨_, hh⟩ := ownsL_eq hh
      exact ⟨_, hh⟩

/-- The blocks that are handed on, anew numbered. -/
def exCx (C : Cx) (ex : List Nat) : Cx :=
  { C with β := fun k => C.β ((ex[k]?).getD 0), base := fun k => C.base ((ex[k]?).getD 0), cap := fun k => C.cap ((ex[k]?).getD 0), N := 0 }

theorem ex_get (h : Hp) (ex : List Nat) (k : Nat) : getB (stOf (ex.map (getB h))).heap k = match ex[k]? with | some id => getB h id | none => .gone := by
  show getB (hpOf 0 _) k = _
  rw [getB_hpOf0, List.getElem?_map]
  cases ex[k]? <;> rfl
theorem ex_own {ex : List Nat} {h : Hp} {k b : Nat} (hb : ownB (exCx C ex) (stOf (ex.map (getB h))).heap k = some b) : ∃ id, ex[k]? = some id ∧ ownB C h id = some b := by
  unfold ownB at hb
  rw [ex_get] at hb
  cases hk : ex[k]? with
  | none => rw [hk] at hb; cases hb
  | some id =>
    rw [hk] at hb
    refine ⟨id, rfl, ?_⟩
    unfold ownB
    dsimp only at hb
    simpa only [exCx, hk, Option.getD_some] using hb
theorem ex_XB {ex : List Nat} {h : Hp} : ∀ b, XB (exCx C ex) (stOf (ex.map (getB h))).heap b → XB C h b := fun b hb => by
  rcases hb with hb | ⟨k, hb⟩
  · exact .inl hb
  · obtain ⟨id, _, h2⟩ := ex_own hb
    exact .inr ⟨id, h2⟩

theorem exHS (hc : CS T C s a w) (hpin : ∀ id, C.pin id = none) {ex : List Nat} (hf : fresh ex = true) (harr : ∀ i ∈ ex, ∃ wr t b l, getB s.heap i = .arr wr t b l) : HS T (exCx C ex) (ex.map (getB s.heap)) w := by
  refine ⟨fun t => trivial, fun k => ?_, fun k hk => ?_, ?_, ?_, hc.g, hc.ge, (fun id b h => by have := hpin id; simp only [exCx] at h; rw [this] at h; cases h), (fun p hp => by cases hp), rfl, rfl, hc.f, hc.io⟩
  · rw [ex_get]
    cases hk : ex[k]? with
    | none => exact trivial
    | some id =>
      dsimp only
      obtain ⟨wr, t, b, l, hg⟩ := harr id (List.mem_of_getElem? hk)
      have hb := hc.blk id
      rw [hg] at hb ⊢
      obtain ⟨cks, hck, hpos, hb⟩ := hb
      refine ⟨cks, hck, hpos, ?_⟩
      simp only [exCx, hk, Option.getD_some]
      rcases hb with hb | ⟨h1, h2, g, o, h3, h4, h5, h6, h7⟩
      · exact .inl hb
      · refine .inr ⟨h1, h2, g, o, h3, h4, fun i e he => ⟨(h5 i e he).1, fun j x c hx hcj => ?_⟩, h6, fun q1 q2 q3 => h7 q1 q2 (ex_XB _ q3)⟩
        obtain ⟨v, hv, hr⟩ := (h5 i e he).2 j x c hx hcj
        exact ⟨v, hv, hr.weak ex_XB⟩
  · rw [ex_get]
    have : ex[k]? = none := by
      rw [List.getElem?_eq_none_iff]
      simpa [stOf] using hk
    rw [this]
  · intro k k' b h1 h2
    obtain ⟨i, q1, q2⟩ := ex_own h1
    obtain ⟨i', q3, q4⟩ := ex_own h2
    have := hc.inj i i' b q2 q4
    subst this
    exact fresh_inj hf k k' i q1 q3
  · intro k b h1
    obtain ⟨i, q1, q2⟩ := ex_own h1
    exact hc.own i b q2

theorem exC_rep (hc : CS T C s a w) {ex : List Nat} (hlt : ∀ i ∈ ex, i < s.nx) {x : AV} {v : Value} (h : RpK T C s w x v) : RpK T (exCx C ex) (stOf (ex.map (getB s.heap))) w (exC s.heap ex x) v := by
  cases x
  case own id =>
    obtain ⟨hid, h⟩ := h
    have hb := hc.blk id
    have hown := hc.own id
    simp only [exC]
    cases hp : posOf ex id 0 with
    | some k =>
      obtain ⟨i, q1, q2⟩ := posOf_some hp
      rw [Nat.zero_add] at q1
      subst q1
      refine ⟨?_, ?_⟩
      · have := (List.getElem?_eq_some_iff.1 q2).1
        simpa [stOf] using this
      · rw [ex_get, q2]
        dsimp only
        cases hg : getB s.heap id with
        | arr wr t b l =>
          rw [hg] at h
          simpa only [hdr, exCx, q2, Option.getD_some] using h
        | _ => exact trivial
    | none =>
      have hnot := posOf_none hp
      simp only [outC]
      cases hg : getB s.heap id with
      | arr wr t b l =>
        rw [hg] at h hb
        have h : v = hdr C id l.length := h
        subst h
        obtain ⟨cks, hk, hpos, hb⟩ := hb
        dsimp only
        rcases hb with ⟨rfl, h0, rfl⟩ | ⟨rfl, h0, g, o, hbase, hle, hrows, hwr, hnw⟩
        · exact RepC.em t _ _ _ rfl
        · simp only [hdr, hbase]
          cases l with
          | nil => exact RepC.em t _ _ _ rfl
          | cons e r =>
            have hnX : ¬ XB (exCx C ex) (stOf (ex.map (getB s.heap))).heap g := fun q => by
              cases wr with
              | true =>
                have ho : ownB C s.heap id = some g := by
                  simp only [ownB, hg, hbase, Option.map_some]
                  rw [if_neg (by omega)]
                rcases q with q | ⟨k, q⟩
                · exact (hown g ho).2.2 q
                · obtain ⟨i, q1, q2⟩ := ex_own q
                  have := hc.inj i id g q2 ho
                  subst this
                  exact hnot (List.mem_of_getElem? q1)
              | false => exact hnw rfl (by simp) (ex_XB _ q)
            refine RepC.sl t cks (e :: r) g o (C.cap id) (fun i j => (w.cell? ⟨g, o + (i * cks.length + j), none⟩).getD undef) hk hpos (by simp) hnX hle (fun i e' he => (hrows i e' he).1) ?_ ?_
            · intro i j hi hj
              obtain ⟨e', he'⟩ : ∃ e', (e :: r)[i]? = some e' := ⟨_, List.getElem?_eq_getElem hi⟩
              obtain ⟨hlen, hcell⟩ := hrows i e' he'
              obtain ⟨y, hy⟩ : ∃ y, e'[j]? = some y := ⟨_, List.getElem?_eq_getElem (by omega)⟩
              obtain ⟨u, hu, _⟩ := hcell j y _ hy (List.getElem?_eq_getElem hj)
              simp [hu]
            · intro i e' j y c he' hy hcj
              obtain ⟨u, hu, hr⟩ := (hrows i e' he').2 j y c hy hcj
              rw [hu]
              exact hr.weak ex_XB
      | _ => exact trivial
  case sl b t l => exact RepC.weak h ex_XB
  case rel t l i off =>
    obtain ⟨hi, g, o, cap, cks, hk, hr, rfl⟩ := h
    exact ⟨hi, g, o, cap, cks, hk, hr.weak ex_XB, rfl⟩
  case fn f first cap =>
    cases first with
    | nil =>
      cases cap with
      | nil =>
        obtain ⟨fs, cs, rfl, h1, h2⟩ := h
        refine ⟨fs, cs, rfl, ?_, ?_⟩
        · cases hfs : fs.toList with
          | nil => exact trivial
          | cons _ _ => rw [hfs] at h1; exact h1.elim
        · cases hfs : cs.toList with
          | nil => exact trivial
          | cons _ _ => rw [hfs] at h2; exact h2.elim
      | cons _ _ => exact trivial
    | cons _ _ => exact trivial
  all_goals first | exact trivial | exact h

theorem exA_rep (hc : CS T C s a w) {ex : List Nat} (hlt : ∀ i ∈ ex, i < s.nx) {x : AV} {v : Value} (h : RpA T C s w x v) : RpA T (exCx C ex) (stOf (ex.map (getB s.heap))) w (exA' s.heap ex x) v := by
  cases x
  case agg l =>
    obtain ⟨cs, rfl, h⟩ := h
    refine ⟨cs, rfl, ?_⟩
    have key : ∀ (l : List AV) (us : List Value), all2 (RpK T C s w) l us → all2 (RpK T (exCx C ex) (stOf (ex.map (getB s.heap))) w) (l.map (exC s.heap ex)) us := by
      intro l
      induction l with
      | nil => intro us h; cases us with | nil => trivial | cons _ _ => exact h.elim
      | cons y r ih =>
        intro us h
        cases us with
        | nil => exact h.elim
        | cons u us => exact ⟨exC_rep hc hlt h.1, ih us h.2⟩
    exact key l _ h
  all_goals
    simp only [RpA] at h
    exact RpA_of_K (exC_rep hc hlt h)

theorem xendX_sound (HT : tabOK P T = true) (hc : CS T C s a w) (hpin : ∀ id, C.pin id = none) {fn : Func} {R : AV → List AB → Prop} (h : xendX T fn.results.toList R s) :
    ∃ v r ex, (results fn a.tmps).run P w = .ok v w ∧ R r (ex.map (getB s.heap)) ∧ HS T (exCx C ex) (ex.map (getB s.heap)) w ∧ RpS T (exCx C ex) (stOf (ex.map (getB s.heap))) w r v ∧ ∀ t y, r ≠ .iface t y := by
  obtain ⟨env, hp, nx, gs, kn⟩ := s
  unfold xendX at h
  obtain ⟨l, vs, h1, h2, h3⟩ := xres_sound HT hc _ h
  have hrun := results_eq fn a.tmps h2
  cases hal : allRes l with
  | false => rw [hal] at h1; exact h1.elim
  | true =>
    rw [hal, cond_true] at h1
    obtain ⟨ex, h1⟩ := ownsL_eq h1
    cases hfr : (fresh ex && ex.all (fun i => Nat.blt i nx)) with
    | false => rw [hfr] at h1; exact h1.elim
    | true =>
    rw [hfr, cond_true] at h1
    simp only [Bool.and_eq_true, List.all_eq_true] at hfr
    have hlt : ∀ i ∈ ex, i < nx := fun i hi => by have := hfr.2 i hi; simpa [Nat.blt_eq] using this
    obtain ⟨h1, harr⟩ := blks_eq h1
    have hHS := exHS hc hpin hfr.1 harr
    have key : ∀ (l : List AV) (vs : List Value), allRes l = true → all2 (RpS T C ⟨env, hp, nx, gs, kn⟩ w) l vs → all2 (RpA T (exCx C ex) (stOf (ex.map (getB hp))) w) (l.map (exA' hp ex)) vs := by
      intro l
      induction l with
      | nil => intro vs _ h; cases vs with | nil => trivial | cons _ _ => exact h.elim
      | cons x r ih =>
        intro vs ha h
        cases vs with
        | nil => exact h.elim
        | cons v vs =>
          simp only [allRes, Bool.and_eq_true] at ha
          exact ⟨exA_rep hc hlt (res_cases ha.1 h.1), ih vs ha.2 h.2⟩
    have hk := key l vs hal h3
    have hA : ∀ {r : AV} {v : Value}, RpA T (exCx C ex) (stOf (ex.map (getB hp))) w r v → ∀ t y, r ≠ .iface t y := fun {r v} h t y e => by subst e; exact h.elim
    match l, vs, h1, h3, hrun, hk with
    | [x], [v], h1, _, hrun, hk =>
      dsimp only at h1
      rw [exA_eq] at h1
      exact ⟨v, _, ex, hrun, h1, hHS, resA hk.1, hA hk.1⟩
    | [], [], h1, _, hrun, hk =>
      dsimp only at h1
      rw [exL_eq] at h1
      exact ⟨_, _, ex, hrun, h1, hHS, ⟨_, rfl, hk⟩, fun t y => by simp⟩
    | x :: y :: l, u :: v :: vs, h1, _, hrun, hk =>
      dsimp only at h1
      rw [exL_eq] at h1
      exact ⟨_, _, ex, hrun, h1, hHS, ⟨_, rfl, hk⟩, fun t y => by simp⟩
    | [x], [], _, h3, _, _ => exact h3.elim
    | [x], _ :: _ :: _, _, h3, _, _ => exact h3.2.elim
    | [], _ :: _, _, h3, _, _ => exact h3.elim
    | _ :: _ :: _, [], _, h3, _, _ => exact h3.elim
    | _ :: _ :: _, [_], _, h3, _, _ => exact h3.2.elim

theorem ACalls.introX (HT : tabOK P T = true) (hm : P.follows .mixedOrders = true) {f : FuncId} {fn : Func} {c : Code} {args : List AV} {R : AV → List AB → Prop} (hf : P.funcs[f]? = some fn) (hb : fn.body = some c) (hname : (fn.name == "runtime.NumGoroutine") = false)
    (hN : codeOK fn.ntmps c = true) (hlen : args.length ≤ fn.ntmps)
    (h : xcode T (ACalls P T) (ALoop P T) c ⟨envOf 0 args, [], 0, [], []⟩ (xendX T fn.results.toList R) (keOf (xendX T fn.results.toList R))) : ACalls P T f args [] R := by
  refine ⟨⟨fn, hf, by rw [hb]; rfl, hname⟩, fun C w vals hs ha => ?_⟩
  have hl := all2_len ha
  have hC0 : C.N = 0 := hs.sz.symm
  have hpin : ∀ id, C.pin id = none := fun id => by
    cases hp : C.pin id with
    | none => rfl
    | some b => exact absurd (hs.pin id b hp).2 (Nat.not_lt_zero _)
  have hno : ∀ id, ownB (outCx C fn.ntmps) ([] : Hp) id = none := fun id => rfl
  have hc : CS T (outCx C fn.ntmps) ⟨envOf 0 args, [], 0, [], []⟩ { tmps := vals.toArray ++ Array.replicate (fn.ntmps - vals.toArray.size) undef, defers := [] } w := by
    refine ⟨fun t => ?_, fun id => trivial, fun id _ => rfl, (fun id id' b h => by rw [hno] at h; cases h), (fun id b h => by rw [hno] at h; cases h), hs.g, hs.ge, (fun id b h => by have := hpin id; simp only [outCx] at h; rw [this] at h; cases h), (fun p hp => by cases hp), rfl, ?_, hs.f, hs.io⟩
    · dsimp only
      rw [getE_envOf, if_pos (Nat.zero_le _), Nat.sub_zero]
      cases hx : args[t]? with
      | none => exact trivial
      | some x =>
        obtain ⟨v, hv, hr⟩ := all2_get ha hx
        have hlt : t < vals.length := (List.getElem?_eq_some_iff.1 hv).1
        have e : (vals.toArray ++ Array.replicate (fn.ntmps - vals.toArray.size) undef).getD t undef = v := by
          rw [Array.getD_eq_getD_getElem?, Array.getElem?_append_left (by simpa using hlt)]
          simp [hv]
        rw [e]
        exact RpE_of_RpS hr
    · simp only [outCx, Array.size_append, List.size_toArray, Array.size_replicate]
      omega
  refine calls_of_wp hf hb (wp_mono (xcode_sound HT hm c (C0 := outCx C fn.ntmps) hN (KeepC.refl _) hc rfl rfl h) ?_)
  have fin : ∀ (C' : Cx) (s' : St) (a' : Act) (w' : World), KeepC (outCx C fn.ntmps) C' → CS T C' s' a' w' → xendX T fn.results.toList R s' →
      a'.defers = [] ∧ ∃ v, (results fn a'.tmps).run P w' = .ok v w' ∧ ∃ r h' v' C'', Ending.returned v = .returned v' ∧ R r h' ∧ KeepC C C'' ∧ HS T C'' h' w' ∧ RpS T C'' (stOf h') w' r v' ∧ ([] : List AB).length ≤ h'.length ∧ ∀ t y, r ≠ .iface t y := by
    intro C' s' a' w' hk hc' he
    have hp' : ∀ id, C'.pin id = none := fun id => by rw [hk.2.2.2.1]; exact hpin id
    obtain ⟨v, r, ex, q1, q2, q3, q4, q5⟩ := xendX_sound HT hc' hp' he
    exact ⟨hc'.defers, v, q1, r, _, v, exCx C' ex, rfl, q2, ⟨hk.1, hk.2.1, hk.2.2.1, hk.2.2.2.1, hC0.symm⟩, q3, q4, Nat.zero_le _, q5⟩
  rintro e a' w' ⟨C', s', hk, hc', h1, h2, h3⟩
  cases e with
  | normal => exact fin C' s' a' w' hk hc' h3
  | ret => exact fin C' s' a' w' hk hc' h3
  | exit i => exact h3.elim
  | goto l => exact h3.elim
  | panic c => exact h3.elim
  | outgrown => exact h3.elim
end
end Go.Proofs.Ytaghkmaelbgljaa.VX
