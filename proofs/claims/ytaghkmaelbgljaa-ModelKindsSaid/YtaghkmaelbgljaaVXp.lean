/- The body of a function: from its arguments to its results. -/
import Derived.Test.YtaghkmaelbgljaaVXo
namespace Go.Proofs.Ytaghkmaelbgljaa.VX
section
variable {P : Program} {T : Tab} {C C' : Cx} {s s' : St} {a : Act} {w w' : World}

/-- What is handed on, by value. -/
def outC (h : Hp) : AV → AV
  | .own id => match getB h id with
    | .arr _ t b l => .sl b t l
    | _ => .dead
  | .ptr _ _ => .dead
  | .vw _ _ _ => .dead
  | .elt _ _ _ => .dead
  | .fn f [] [] => .fn f [] []
  | .fn _ _ _ => .dead
  | v => v
def outA (h : Hp) (v : AV) (K : AV → Prop) : Prop :=
  match v with
  | .agg l => mapK (outC h) l fun l' => K (.agg l')
  | v => forceK (outC h v) K
def outA' (h : Hp) : AV → AV
  | .agg l => .agg (l.map (outC h))
  | v => outC h v
def outL (h : Hp) : List AV → (List AV → Prop) → Prop
  | [], K => K []
  | v :: r, K => outA h v fun v' => outL h r fun l => K (v' :: l)
def isRes : AV → Bool
  | .tup _ => false
  | .iface _ _ => false
  | .opt _ _ => false
  | _ => true
def allRes : List AV → Bool
  | [] => true
  | v :: r => isRes v && allRes r
/-- Where a body ends. -/
def xend (T : Tab) (rs : List ResultVar) (R : AV → List AB → Prop) (st : St) : Prop :=
  match st with
  | ⟨env, h, _, _, _⟩ => xres T env h rs fun l => bif allRes l then match l with
    | [v] => outA h v fun v' => R v' []
    | l => outL h l fun l' => R (.tup l') []
    else False
theorem outA_eq (h : Hp) (v : AV) (K : AV → Prop) : outA h v K = K (outA' h v) := by
  unfold outA outA'
  cases v <;> simp [mapK_eq, forceK_eq]
theorem outL_eq (h : Hp) : ∀ (l : List AV) (K : List AV → Prop), outL h l K = K (l.map (outA' h))
  | [], _ => rfl
  | v :: r, K => by simp [outL, outA_eq, outL_eq h r]

/-- The world behind a body, its own blocks forgotten. -/
def outCx (C : Cx) (N : Nat) : Cx := { C with N := N }

theorem outC_rep (hc : CS T C s a w) {N : Nat} {x : AV} {v : Value} (h : RpK T C s w x v) : RpK T (outCx C N) (stOf []) w (outC s.heap x) v := by
  have hno : ∀ id, ownB (outCx C N) (stOf []).heap id = none := fun id => rfl
  have hX : ∀ b, XB (outCx C N) (stOf []).heap b → XB C s.heap b := fun b hb => by
    rcases hb with hb | ⟨id, hb⟩
    · exact .inl hb
    · rw [hno] at hb; cases hb
  have hF : ∀ b, XB (outCx C N) (stOf []).heap b → C.F b := fun b hb => by
    rcases hb with hb | ⟨id, hb⟩
    · exact hb
    · rw [hno] at hb; cases hb
  cases x
  case own id =>
    obtain ⟨hid, h⟩ := h
    have hb := hc.blk id
    have hown := hc.own id
    simp only [outC]
    cases hg : getB s.heap id with
    | arr wr t b l =>
      rw [hg] at h hb
      have h : v = hdr C id l.length := h
      subst h
      obtain ⟨cks, hk, hpos, hb⟩ := hb
      dsimp only
      rcases hb with ⟨rfl, h0, rfl⟩ | ⟨rfl, h0, g, o, hbase, hle, hrows, hwr, hnw⟩
      · exact RepC.em t _ _ _ rfl
      · simp only [hdr, hbase]
        cases l with
        | nil => exact RepC.em t _ _ _ rfl
        | cons e r =>
          have hnX : ¬ XB (outCx C N) (stOf []).heap g := fun q => by
            have hf := hF g q
            cases wr with
            | true =>
              have : ownB C s.heap id = some g := by
                simp only [ownB, hg, hbase, Option.map_some]
                rw [if_neg (by omega)]
              exact (hown g this).2.2 hf
            | false => exact hnw rfl (by simp) (.inl hf)
          refine RepC.sl t cks (e :: r) g o (C.cap id) (fun i j => (w.cell? ⟨g, o + (i * cks.length + j), none⟩).getD undef) hk hpos (by simp) hnX hle (fun i e' he => (hrows i e' he).1) ?_ ?_
          · intro i j hi hj
            obtain ⟨e', he'⟩ : ∃ e', (e :: r)[i]? = some e' := ⟨_, List.getElem?_eq_getElem hi⟩
            obtain ⟨hlen, hcell⟩ := hrows i e' he'
            obtain ⟨y, hy⟩ : ∃ y, e'[j]? = some y := ⟨_, List.getElem?_eq_getElem (by omega)⟩
            obtain ⟨u, hu, _⟩ := hcell j y _ hy (List.getElem?_eq_getElem hj)
            simp [hu]
          · intro i e' j y c he' hy hcj
            obtain ⟨u, hu, hr⟩ := (hrows i e' he').2 j y c hy hcj
            rw [hu]
            exact hr.weak hX
    | _ => exact trivial
  case sl b t l => exact RepC.weak h hX
  case rel t l i off =>
    obtain ⟨hi, g, o, cap, cks, hk, hr, rfl⟩ := h
    exact ⟨hi, g, o, cap, cks, hk, hr.weak hX, rfl⟩
  case fn f first cap =>
    cases first with
    | nil =>
      cases cap with
      | nil =>
        obtain ⟨fs, cs, rfl, h1, h2⟩ := h
        refine ⟨fs, cs, rfl, ?_, ?_⟩
        · cases hfs : fs.toList with
          | nil => exact trivial
          | cons _ _ => rw [hfs] at h1; exact h1.elim
        · cases hfs : cs.toList with
          | nil => exact trivial
          | cons _ _ => rw [hfs] at h2; exact h2.elim
      | cons _ _ => exact trivial
    | cons _ _ => exact trivial
  all_goals first | exact trivial | exact h

theorem RpA_of_K {x : AV} {v : Value} (h : RpK T C s w x v) : RpA T C s w x v := by
  cases x <;> first | exact h | exact h.elim
theorem outA_rep (hc : CS T C s a w) {N : Nat} {x : AV} {v : Value} (h : RpA T C s w x v) : RpA T (outCx C N) (stOf []) w (outA' s.heap x) v := by
  cases x
  case agg l =>
    obtain ⟨cs, rfl, h⟩ := h
    refine ⟨cs, rfl, ?_⟩
    have key : ∀ (l : List AV) (us : List Value), all2 (RpK T C s w) l us → all2 (RpK T (outCx C N) (stOf []) w) (l.map (outC s.heap)) us := by
      intro l
      induction l with
      | nil => intro us h; cases us with | nil => trivial | cons _ _ => exact h.elim
      | cons y r ih =>
        intro us h
        cases us with
        | nil => exact h.elim
        | cons u us => exact ⟨outC_rep hc h.1, ih us h.2⟩
    exact key l _ h
  all_goals
    simp only [RpA] at h
    exact RpA_of_K (outC_rep hc h)

theorem res_cases {x : AV} {v : Value} (hx : isRes x = true) (h : RpS T C s w x v) : RpA T C s w x v := by
  cases x <;> first | exact h | cases hx
theorem resA {x : AV} {v : Value} (h : RpA T C s w x v) : RpS T C s w x v := by
  cases x <;> first | exact h | exact h.elim

theorem out_rep (hc : CS T C s a w) {N : Nat} {x : AV} {v : Value} (hx : isRes x = true) (h : RpS T C s w x v) : RpA T (outCx C N) (stOf []) w (outA' s.heap x) v := outA_rep hc (res_cases hx h)

theorem outHS (hc : CS T C s a w) (hpin : ∀ id, C.pin id = none) : HS T (outCx C 0) [] w := by
  have hno : ∀ id, ownB (outCx C 0) (stOf []).heap id = none := fun id => rfl
  exact ⟨fun t => trivial, fun id => trivial, fun id _ => rfl, (fun id id' b h => by rw [hno] at h; cases h), (fun id b h => by rw [hno] at h; cases h), hc.g, hc.ge, (fun id b h => by have := hpin id; simp only [outCx] at h; rw [this] at h; cases h), (fun p hp => by cases hp), rfl, rfl, hc.f, hc.io⟩

def resM (tmps : Array Value) : ResultVar → Sem Value
  | .tmp t => pure (tmps.getD t undef)
  | .cell a t => do loadVar t (← asAddr (tmps.getD a undef))

theorem loadAt_as {t : TypeId} {v u : Value} (h : (Instr.loadAt t v).run P w = .ok u w) : (do loadVar t (← asAddr v) : Sem Value).run P w = .ok u w := by
  revert h
  simp only [Instr.loadAt]
  cases v with
  | pointer p =>
    cases p with
    | some ad => exact id
    | none => intro h; simp [Instr.sureAddr, stuck] at h
  | _ => intro h; simp [Instr.sureAddr, stuck] at h

theorem xres_sound (HT : tabOK P T = true) (hc : CS T C s a w) : ∀ (rs : List ResultVar) {K : List AV → Prop}, xres T s.env s.heap rs K → ∃ l vs, K l ∧ (rs.mapM (resM a.tmps)).run P w = .ok vs w ∧ all2 (RpS T C s w) l vs
  | [], K, h => ⟨[], [], h, by simp, trivial⟩
  | .tmp t :: rs, K, h => by
    simp only [xres, forceK_eq] at h
    have hv := hc.env t
    cases hok : okV (getE s.env t) with
    | false => rw [hok] at h; exact h.elim
    | true =>
      rw [hok] at h
      obtain ⟨l, vs, h1, h2, h3⟩ := xres_sound HT hc rs h
      refine ⟨_, a.tmps.getD t undef :: vs, h1, by simp [resM, h2], ?_, h3⟩
      revert hv hok
      cases getE s.env t <;> intro hv hok <;> first | exact hv | cases hok
  | .cell ad t :: rs, K, h => by
    simp only [xres] at h
    have hv := hc.env ad
    have hrp : RpS T C s w (getE s.env ad) (a.tmps.getD ad undef) ∨ ∃ ch y, getE s.env ad = .opt ch y := by
      revert hv
      cases getE s.env ad <;> intro hv <;> first | exact .inl hv | exact .inr ⟨_, _, rfl⟩
    rcases hrp with hrp | ⟨ch, y, e⟩
    · obtain ⟨x, hx, hval⟩ := xload_sound (P := P) (Hyp := True) HT hc h (v := a.tmps.getD ad undef) (fun _ => hrp)
      obtain ⟨u, hu, hr⟩ := hval trivial
      have hu := hu w (Same.refl C w)
      obtain ⟨l, vs, h1, h2, h3⟩ := xres_sound HT hc rs hx
      refine ⟨_, u :: vs, h1, ?_, hr, h3⟩
      have this : (resM a.tmps (.cell ad t)).run P w = .ok u w := loadAt_as hu
      rw [List.mapM_cons, Sem.run_bind, this, Result.andThen_ok, Sem.run_bind, h2, Result.andThen_ok]
      rfl
    · rw [e] at h
      unfold xload at h
      cases hx : T.get t <;> simp [hx] at h

def retV : List Value → Value
  | [v] => v
  | l => .tuple l.toArray
theorem results_eq (fn : Func) (tmps : Array Value) {vs : List Value} (h : (fn.results.toList.mapM (resM tmps)).run P w = .ok vs w) : (results fn tmps).run P w = .ok (retV vs) w := by
  have e : (fn.results.mapM (resM tmps)) = List.toArray <$> fn.results.toList.mapM (resM tmps) := Array.mapM_eq_mapM_toList ..
  have e2 : results fn tmps = (do let vs ← fn.results.mapM (resM tmps); pure (if h : vs.size = 1 then vs[0] else .tuple vs)) := by
    unfold results
    congr 1
  rw [e2, e]
  simp only [Sem.run_bind, Sem.run_map, h]
  match vs with
  | [] => rfl
  | [v] => rfl
  | x :: y :: r => simp [retV]
end
end Go.Proofs.Ytaghkmaelbgljaa.VX
