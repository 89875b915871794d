/- The loop over an iterator. -/
import Derived.Test.YtgeedlfnjneeiaaVX2
import Derived.RangeFuncOwn
import Derived.TacticsIn
import Derived.RegionIn
import Derived.Laws.Externs
import Derived.RangeFuncRecord
import Derived.BigFrameIn
import Derived.WalkKit
set_option linter.unusedVariables false
set_option linter.unusedSimpArgs false
namespace Go.Proofs.Ytgeedlfnjneeiaa.VX
open Go.RowKit
section
variable {P : Program} {T : Tab} {kp : AV → Hp → Nat → Prop} {mv : FuncId → List Nat} {m : Nat}
abbrev kp0 : AV → Hp → Nat → Prop := fun _ _ _ => False
/-- A round's state. -/
def enterS (ps : List Nat) (x : List AV) (st : St) : St := ⟨putL (ps.zip x) st.env, st.heap, st.nx, [], []⟩
/-- What is asked of a loop over an iterator, round for round. -/
structure RangeOK {σ : Type} (f : Operand) (ps : List Nat) (assign body : Code) (gf m m2 : Nat) (ids : List Nat) (cs : List (List AV)) (fx : List Nat) (S : σ → St) : Prop where
  fv : ∀ s, opd (S s).env [] f = .fn gf [] (ids.map fun id => .ptr id 0)
  bx : ∀ s, all2 (fun id c => ∃ t, getB (S s).heap id = .box t c) ids cs
  da : cs.all (fun c => c.all isDat) = true
  lq : ids.all (fun id => Nat.blt id m2) = true
  le : m ≤ m2
  nx : ∀ s, m2 ≤ (S s).nx
  lv : ∀ s, (S s).env.all (fun p => memN fx p.1) = true
  gk : ∀ s, (S s).gs = [] ∧ (S s).kn = []
  aq : ps.all (fun t => !(memN fx t)) = true
  oa : codeOK ⟨1000000, fx.map fun t => (t, undef), true⟩ assign = true
  ob : codeOK ⟨1000000, fx.map fun t => (t, undef), true⟩ body = true
theorem getE_dead : ∀ {env : List (Nat × AV)} {fx : List Nat} {t : Nat}, env.all (fun p => memN fx p.1) = true → t ∉ fx → getE env t = .dead
  | [], _, _, _, _ => rfl
  | (u, v) :: r, fx, t, h, ht => by
    simp only [List.all_cons, Bool.and_eq_true] at h
    have hu : u ≠ t := fun e => ht (e ▸ memN_iff.1 h.1)
    simp only [getE, beq_false hu]
    exact getE_dead h.2 ht
namespace RangeOK
variable {σ : Type} {f : Operand} {ps : List Nat} {assign body : Code} {gf m m2 : Nat} {ids : List Nat} {cs : List (List AV)} {fx : List Nat} {S : σ → St} (R : RangeOK f ps assign body gf m m2 ids cs fx S)
include R
theorem box (s : σ) (k id : Nat) (c : List AV) (h1 : ids[k]? = some id) (h2 : cs[k]? = some c) : ∃ t, getB (S s).heap id = .box t c := by
  obtain ⟨c', hc, h⟩ := all2_get (R.bx s) h1
  rw [h2] at hc; cases hc; exact h
theorem len (s : σ) : ids.length = cs.length := all2_len (R.bx s)
theorem dat (c : List AV) (h : c ∈ cs) : c.all isDat = true := List.all_eq_true.1 R.da c h
theorem lt (id : Nat) (h : id ∈ ids) : id < m2 := Nat.le_of_ble_eq_true (List.all_eq_true.1 R.lq id h)
theorem live (s : σ) (t : Nat) (h : t ∉ fx) : getE (S s).env t = .dead := getE_dead (R.lv s) h
theorem av (t : Nat) (h : t ∈ ps) : t ∉ fx := fun q => by
  have := List.all_eq_true.1 R.aq t h
  rw [memN_iff.2 q] at this; cases this
end RangeOK
theorem enter_any {r : Option Nat} {C : Cx} {st : St} {a : Act} {w : World} (hp : PR r m C) (hc : CS T C st a w) (fn : FuncId) (ps : Array Tmp) (assign body : Code) :
    ∃ (l dd : Nat) (mk : List Deferred) (W1 : World), (Instr.enterLoop fn a.tmps ps assign body (Wd r).round).run P w = .ok (l, mk) W1 ∧ W1.heap[l]? = some (.loop { state := .ready, pending := none, fn, tmps := a.tmps, params := ps, assign, body, defers := dd }) ∧ Grow w W1 ∧ w.heap.size ≤ l ∧
      (mk = [] ∨ ∃ D, mk = [markD D] ∧ w.heap.size ≤ D ∧ D ≠ l ∧ W1.heap[D]? = some (.deferred (some []))) := by
  have hg : ∀ o, Grow w (w.alloc o) := fun o => ⟨by simp, fun b hb => Below.heap_alloc w o b hb, rfl, rfl, rfl⟩
  cases r with
  | none =>
    refine ⟨_, w.heap.size, _, _, run_enterLoop_outer fn a.tmps ps assign body, ?_, ?_, by omega, .inr ⟨_, rfl, Nat.le_refl _, by omega, ?_⟩⟩
    · have := World.alloc_heap_new (w.alloc (.deferred (some []))) (.loop { state := .ready, pending := none, fn, tmps := a.tmps, params := ps, assign, body, defers := w.heap.size })
      rwa [World.size_alloc] at this
    · have g1 := hg (.deferred (some []))
      have g2 : Grow (w.alloc (.deferred (some []))) ((w.alloc (.deferred (some []))).alloc (.loop { state := .ready, pending := none, fn, tmps := a.tmps, params := ps, assign, body, defers := w.heap.size })) := ⟨by simp, fun b hb => Below.heap_alloc _ _ b hb, rfl, rfl, rfl⟩
      exact ⟨Nat.le_trans g1.size g2.size, fun b hb => (g2.old b (Nat.lt_of_lt_of_le hb g1.size)).trans (g1.old b hb), rfl, rfl, rfl⟩
    · exact (Below.heap_alloc _ _ _ (by simp)).trans (World.alloc_heap_new w _)
  | some l0 =>
    obtain ⟨hG, R, hR⟩ := hp.2 l0 rfl
    have hR : w.heap[l0]? = some (.loop R) := by rw [(hc.g l0 hG).2]; exact hR
    refine ⟨_, R.defers, _, _, run_enterLoop_inner hR fn a.tmps ps assign body, World.alloc_heap_new w _, hg _, Nat.le_refl _, .inl rfl⟩
theorem run_enterA {w : World} {f : FuncId} {fn : Func} {cs args : Array Value} (hf : P.funcs[f]? = some fn) (hb : fn.body.isSome = true) (hname : (fn.name == "runtime.NumGoroutine") = false) :
    (invoke (.fn (.func f) cs) args).run P w = .ok (.enter f (args ++ cs)) w := by
  have hb' : fn.body.isNone = false := by cases h : fn.body with | none => rw [h] at hb; cases hb | some _ => rfl
  simp only [invoke, callFunc, Sem.run_bind, run_program, Result.andThen_ok, hf, hname, hb', Bool.false_eq_true, if_false, Sem.run_pure]
theorem all2_rpX {C : Cx} {st : St} {w : World} : ∀ {c : List AV} {vs : List Value}, c.all isDat = true → all2 (RpK T C st w) c vs → all2 (RpX T w (XB C st.heap)) c vs
  | [], [], _, _ => trivial
  | [], _ :: _, _, h => h.elim
  | _ :: _, [], _, h => h.elim
  | x :: r, u :: us, hd, h => by
    simp only [List.all_cons, Bool.and_eq_true] at hd
    exact ⟨h.1.rpX hd.1, all2_rpX hd.2 h.2⟩
/-- The loop over an iterator, as one fold. -/
theorem ASeq.range {σ : Type} (HT : tabOK P T = true) (hm : P.follows .mixedOrders = true) {f : Operand} {ps : Array Tmp} {assign body : Code} {gf : Nat} (m2 : Nat) {ids : List Nat} {cs : List (List AV)} {τ : Type} {em : τ → List AV} {xs : List (W τ)} {fx : List Nat} (S : σ → St) (B : τ → σ → W σ) {s0 : σ} {K : σ → Prop} {st : St} {kn : St → Prop} {ke : Exit → St → Prop}
    (R : RangeOK f ps.toList assign body gf m m2 ids cs fx S) (hit : AIter P T gf cs em xs) (hxs : ∀ x, (em x).length = ps.size) (h : (W.each B xs s0).run K) (hw : Weak T m st (S s0))
    (hb : ∀ (x : τ) (s : σ) (Q : σ → Prop), (B x s).run Q → xcode T (AC P T kp0 mv) (ALoop P T kp0 mv m2) (ASeq P T kp0 mv m2) assign (enterS ps.toList (em x) (S s)) (fun st1 => xcode T (AC P T kp0 mv) (ALoop P T kp0 mv m2) (ASeq P T kp0 mv m2) body st1 (fun st' => ∃ s', Weak T m2 st' (S s') ∧ Q s') (fun _ _ => False)) (fun _ _ => False))
    (hk : ∀ s, K s → kn (S s)) : ASeq P T kp mv m (.rangeFunc f ps assign body) .skip st kn ke := by
  unfold ASeq
  intro r C a w hN hp hc h1 h2
  show (Code.rangeFunc f ps assign body).wpIn (Wd r) 0 P (QX T kp C kn ke) a w
  obtain ⟨C1, hk1, hc1, _, _⟩ := hw C a w hp.1 hc h1 h2
  simp only [codeOK, Bool.and_eq_true, List.all_eq_true] at hN
  obtain ⟨⟨hM, hps, hNa, hNb⟩, _⟩ := hN
  have hp1 : PR r m C1 := hp.keep (.ofC hk1)
  refine wpIn_rangeFunc fun fn hfn => ?_
  obtain ⟨l, dd, mk, W1, hrun, hl1, hgr, hlge, hmk⟩ := enter_any (P := P) hp1 hc1 fn ps assign body
  -- the function's value
  have hv := opd_rep hc1 (ch := []) (by simp) f
  rw [R.fv s0] at hv
  obtain ⟨fs, vs, hev, hfs, hvs⟩ := hv
  have hfs : fs = #[] := by
    cases hq : fs.toList with
    | nil => exact Array.toList_inj.1 (by simpa using hq)
    | cons _ _ => rw [hq] at hfs; exact hfs.elim
  subst hfs
  have hvs : vs = (ids.map fun id => Value.pointer (some ⟨C1.β id, 0, none⟩)).toArray := by
    refine Array.toList_inj.1 ?_
    generalize vs.toList = l at hvs
    revert l
    generalize ids = is
    induction is with
    | nil => intro l h; cases l with | nil => rfl | cons _ _ => exact h.elim
    | cons i r ih =>
      intro l h
      cases l with
      | nil => exact h.elim
      | cons u us =>
        obtain ⟨h0, hr⟩ := h
        have h0 := h0.1
        simp only [List.map_cons] at *
        rw [h0, ih us hr]
  subst hvs
  obtain ⟨fng, hfg, hbg, hng⟩ := hit.fn
  obtain ⟨am, ham⟩ : ∃ am : Act, am = { a with defers := mk ++ a.defers } := ⟨_, rfl⟩
  obtain ⟨Cm, hCm⟩ : ∃ Cm : Cx, Cm = { C1 with w0 := W1, G := fun b => (C1.G b ∨ markD b ∈ mk) ∨ b = l, D := mk ++ C1.D, N := C1.N, pin := fun id => if id < m2 then some (C1.β id) else none } := ⟨_, rfl⟩
  have hmkI : ∀ b, markD b ∈ mk → w.heap.size ≤ b ∧ b ≠ l ∧ W1.heap[b]? = some (.deferred (some [])) := fun b hbm => by
    rcases hmk with rfl | ⟨D, rfl, q1, q2, q3⟩
    · cases hbm
    · have : b = D := by
        have := List.mem_singleton.1 hbm
        simp only [markD, Deferred.mk.injEq, Target.collected.injEq, and_true] at this
        exact this
      subst this
      exact ⟨q1, q2, q3⟩
  have hC1G : ∀ b, C1.G b → b < w.heap.size := fun b hb => Nat.lt_of_lt_of_le (hc1.g b hb).1 hc1.ge
  have hCmG : ∀ b, (C1.G b ∨ markD b ∈ mk) → b < W1.heap.size ∧ b ≠ l := fun b hb => by
    rcases hb with hb | hb
    · have := hC1G b hb
      exact ⟨Nat.lt_of_lt_of_le this hgr.size, by omega⟩
    · obtain ⟨q1, q2, q3⟩ := hmkI b hb
      exact ⟨(Array.getElem?_eq_some_iff.1 q3).1, q2⟩
  have hcm : CS T Cm (S s0) am W1 := by
    rw [hCm]
    refine CS.tr (a' := am) (hc1.grow hgr) ⟨fun _ _ _ _ _ => rfl, rfl⟩ (fun id b hb => ?_) (fun id b hb => ?_) (fun b hb => ⟨by rcases hb with hb | rfl; exact (hCmG b hb).1; exact (Array.getElem?_eq_some_iff.1 hl1).1, rfl⟩) (Nat.le_refl _) ⟨rfl, rfl, rfl⟩ (fun t => .inr (by rw [ham])) ?_ ?_
    · split at hb
      · cases hb; exact ⟨rfl, Nat.lt_of_lt_of_le (by assumption) (R.nx s0)⟩
      · cases hb
    · rintro ((q | q) | rfl)
      rotate_right
      · have := (hc1.own id b hb).1
        omega
      · exact (hc1.own id b hb).2.1 q
      · have := (hmkI b q).1
        have := (hc1.own id b hb).1
        omega
    · rw [ham]; exact hc1.sz
    · rw [ham]; show mk ++ a.defers = mk ++ C1.D; rw [hc1.defers]
  obtain ⟨rec, hrec⟩ : ∃ rec : LoopState → Option Code → Loop, rec = fun st pe => { state := st, pending := pe, fn, tmps := a.tmps, params := ps, assign, body, defers := dd } := ⟨_, rfl⟩
  have hl1 : W1.heap[l]? = some (.loop (rec .ready none)) := by rw [hrec]; exact hl1
  obtain ⟨J, hJ⟩ : ∃ J : Nat → World → Prop, J = fun i V => ∃ s, (W.each B (xs.drop i) s).run K ∧ ∃ C2, KeepC Cm C2 ∧ CS T C2 (S s) am V ∧ V.heap[l]? = some (.loop (rec .ready none)) := ⟨_, rfl⟩
  have hJ0 : J 0 W1 := by rw [hJ]; exact ⟨s0, h, Cm, KeepC.refl _, hcm, hl1⟩
  have hJg : ∀ i W W', J i W → Grow W W' → J i W' := by
    rw [hJ]
    rintro i W W' ⟨s, q1, C2, q2, q3, q4⟩ g
    exact ⟨s, q1, C2, q2, q3.grow g, (g.old l (Array.getElem?_eq_some_iff.1 q4).1).trans q4⟩
  have hβ : ∀ {C2 : Cx} {s : σ} {W : World}, KeepC Cm C2 → CS T C2 (S s) am W → ∀ id, id < m2 → C2.β id = C1.β id := fun {C2 s W} q2 q3 id hid => (q3.pin id (C1.β id) (by rw [q2.2.2.2.1, hCm]; exact if_pos hid)).1
  have hJc : ∀ i W, J i W → capIn T (ids.map C1.β) cs W := by
    rw [hJ]
    rintro i W ⟨s, q1, C2, q2, q3, q4⟩
    refine ⟨by rw [List.length_map]; exact R.len s0, fun k b c hk hc => ?_⟩
    rw [List.getElem?_map] at hk
    cases hid : ids[k]? with
    | none => rw [hid] at hk; cases hk
    | some id =>
      rw [hid] at hk
      cases hk
      obtain ⟨t, ht⟩ := R.box s k id c hid hc
      have := q3.blk id
      rw [ht] at this
      obtain ⟨vs, g1, g2, g3, g4⟩ := this
      rw [hβ q2 q3 id (R.lt id (List.mem_of_getElem? hid))] at g1
      exact ⟨vs, g1, all2_mono (fun _ _ h => h.keep (fun _ _ _ => rfl) fun _ _ h => h.elim) (all2_rpX (R.dat c (List.mem_of_getElem? hc)) g3)⟩
  obtain ⟨vals, hvals⟩ : ∃ vals : Array Value, vals = ((ids.map C1.β).map fun b => Value.pointer (some ⟨b, 0, none⟩)).toArray := ⟨_, rfl⟩
  have hev : a.eval f = .func (.func gf) #[] vals := by rw [hev, hvals, List.map_map]; rfl
  refine ⟨l, mk, W1, { target := .fn (.func gf) vals, args := #[.func (.yield l) #[] #[]] }, W1, gf, #[.func (.yield l) #[] #[]] ++ vals, W1, hrun, ?_, fun _ _ => trivial, run_enterA hfg hbg hng, fun e => by simp [Wd, Fence.wide] at e, callsIn_Wd.2 ?_⟩
  · simp only [resolve, hev]
    simp [go_sem]
  rw [hvals]
  have hN1 : C1.N = C.N := hk1.2.2.2.2.1
  refine (hit.it (ids.map C1.β) W1 l J hJg hJc (fun i xw Wy hx hj => ?_) hJ0).mono ?_
  · rw [hJ] at hj
    obtain ⟨s, q1, C2, q2, q3', q4'⟩ := hj
    have hdrop : xs.drop i = xw :: xs.drop (i + 1) := by
      obtain ⟨hi, e⟩ := List.getElem?_eq_some_iff.1 hx
      rw [List.drop_eq_getElem_cons hi, e]
    rw [hdrop] at q1
    have q1 : xw.run fun x => (W.bind (B x s) (W.each B (xs.drop (i + 1)))).run K := q1
    refine xw.mono (fun x q1 V vals hgv hvals => ?_) q1
    have q1 : (B x s).run fun s' => (W.each B (xs.drop (i + 1)) s').run K := q1
    have hlen : vals.length = ps.size := by rw [← all2_len hvals]; exact hxs x
    have q3 := q3'.grow hgv
    have q4 := (hgv.old l (Array.getElem?_eq_some_iff.1 q4').1).trans q4'
    have hvX : all2 (RpX T V (XB C2 (S s).heap)) (em x) vals := all2_mono (fun _ _ h => h.keep (fun _ _ _ => rfl) fun b _ h => by
      rcases h with h | ⟨id, h⟩
      · exact q3'.f b h
      · exact (q3'.own id b h).1) hvals
    have hy := run_yield (P := P) (args := vals.toArray) q4 (by rw [hrec]; simp [hlen])
    rw [hrec] at hy
    refine ⟨fn, _, assign, body, hy, roundIn_of_wpIn trivial ?_⟩
    have htm : (ps.zip vals.toArray).foldl (fun (tmps : Array Value) (ta : Tmp × Value) => tmps.setIfInBounds ta.1 ta.2) a.tmps = (ps.toList.zip vals).foldl (fun t p => t.setIfInBounds p.1 p.2) a.tmps := by
      rw [← Array.foldl_toList, Array.toList_zip]
    have hC2N : C2.N = C.N := by rw [q2.2.2.2.2.1, hCm]; exact hN1
    have hamt : am.tmps = a.tmps := by rw [ham]
    have hsz : a.tmps.size = C.N.n := by rw [← hamt, ← hC2N]; exact q3.sz.1
    obtain ⟨F, hF⟩ : ∃ F : List (Nat × Value), F = (fx.filter (fun t => decide (t < C.N.n))).map fun t => (t, a.tmps.getD t undef) := ⟨_, rfl⟩
    have hFm : ∀ p ∈ F, p.1 ∈ fx ∧ p.1 < C.N.n ∧ p.2 = a.tmps.getD p.1 undef := fun p hp => by
      rw [hF] at hp
      obtain ⟨t, ht, rfl⟩ := List.mem_map.1 hp
      obtain ⟨g1, g2⟩ := List.mem_filter.1 ht
      exact ⟨g1, by simpa using g2, rfl⟩
    obtain ⟨Ca, hCa⟩ : ∃ Ca : Cx, Ca = { C2 with G := fun b => b < V.heap.size ∧ ∀ id, ownB C2 (S s).heap id ≠ some b, w0 := V, D := [], N := ⟨C.N.n, F, true⟩, pin := C2.pin } := ⟨_, rfl⟩
    have hca0 : CS T Ca (S s) { tmps := a.tmps, defers := [] } V := by
      rw [hCa]
      exact CS.tr (a' := { tmps := a.tmps, defers := [] }) q3 ⟨fun _ _ _ _ _ => rfl, rfl⟩ q3.pin (fun id b hb h => h.2 id hb) (fun b hb => ⟨hb.1, rfl⟩) (Nat.le_refl _) ⟨rfl, rfl, rfl⟩ (fun t => .inr (by rw [ham])) ⟨hsz, fun p hp => ⟨(hFm p hp).2.1, (hFm p hp).2.2.symm⟩, fun _ => rfl⟩ rfl
    have hSs : S s = ⟨(S s).env, (S s).heap, (S s).nx, [], []⟩ := by
      have hgk := R.gk s
      cases hS : S s with
      | mk env heap nx gs kn =>
        rw [hS] at hgk
        obtain ⟨e1, e2⟩ := hgk
        dsimp only at e1 e2
        rw [e1, e2]
    have hca : CS T Ca (enterS ps.toList (em x) (S s)) { tmps := (ps.zip vals.toArray).foldl (fun (tmps : Array Value) (ta : Tmp × Value) => tmps.setIfInBounds ta.1 ta.2) a.tmps, defers := [] } V := by
      rw [htm]
      rw [hSs] at hca0
      refine CS.putL ps.toList (em x) vals hca0 (by rw [hCa]; exact hvX) fun p hpt => ?_
      rw [hCa]
      refine ⟨Nat.le_of_ble_eq_true (hps p hpt).1, noFix_of fun q hq => ?_⟩
      exact fun e => R.av p hpt (e ▸ (hFm q hq).1)
    have hCaN : Ca.N = ⟨C.N.n, F, true⟩ := by rw [hCa]
    have hmix : ∀ c : Code, codeOK C.N c = true → codeOK ⟨1000000, fx.map fun t => (t, undef), true⟩ c = true → codeOK ⟨C.N.n, F, true⟩ c = true := fun c g1 g2 =>
      codeOK_mix (N1 := C.N) (N2 := ⟨1000000, fx.map fun t => (t, undef), true⟩) (N := ⟨C.N.n, F, true⟩) rfl (fun _ => rfl) (fun p hp => ⟨(p.1, undef), List.mem_map.2 ⟨p.1, (hFm p hp).1, rfl⟩, rfl⟩) c g1 g2
    have hlV : l < V.heap.size := (Array.getElem?_eq_some_iff.1 q4).1
    have hlG : C2.G l := by rw [q2.2.1, hCm]; exact .inr rfl
    have hpa : PR (some l) m2 Ca := ⟨fun id hid => by
      rw [hCa]
      show C2.pin id = none
      rw [q2.2.2.2.1, hCm]
      exact if_neg (by omega), fun l' e => by
      cases e
      rw [hCa]
      exact ⟨⟨hlV, fun id e => (q3.own id l e).2.1 hlG⟩, _, q4⟩⟩
    show assign.wpIn (Wd (some l)) 0 P _ _ V
    refine wpIn_mono (xcode_sound HT hm assign (r := some l) (C0 := Ca) (C := Ca) (by rw [hCaN]; exact hmix assign hNa R.oa) hpa (KeepM.refl _) hca rfl rfl (hb x s _ q1)) ?_
    rintro e a1 V1 ⟨C3, s3, k3, c3, g3, n3, h3⟩
    cases e with
    | exit _ => exact h3.elim
    | goto _ => exact h3.elim
    | ret => exact h3.elim
    | panic ch => obtain ⟨_, _, _, _, hf⟩ := h3; exact hf.elim
    | outgrown => exact h3.elim
    | normal =>
    have hpc := hpa.keep k3
    have hl3 : V1.heap[l]? = some (.loop (rec .ready none)) := by
      obtain ⟨z1, z2⟩ := k3.2.1 l (by rw [hCa]; exact ⟨hlV, fun id e => (q3.own id l e).2.1 hlG⟩)
      rw [(c3.g l z1).2, z2, hCa]; exact q4
    refine ⟨_, run_beginRound hl3 (by rw [hrec]), ?_⟩
    have hl3V : l < V1.heap.size := (Array.getElem?_eq_some_iff.1 hl3).1
    obtain ⟨V2, hV2⟩ : ∃ V2, V2 = V1.putObj l (.loop { rec .ready none with state := .busy }) := ⟨_, rfl⟩
    rw [← hV2]
    have hl3G : C3.G l := (k3.2.1 l (by rw [hCa]; exact ⟨hlV, fun id e => (q3.own id l e).2.1 hlG⟩)).1
    obtain ⟨Cb, hCb⟩ : ∃ Cb : Cx, Cb = { C3 with G := fun b => b < V1.heap.size ∧ ∀ id, ownB C3 s3.heap id ≠ some b, w0 := V2, D := C3.D, N := C3.N, pin := C3.pin } := ⟨_, rfl⟩
    have cb : CS T Cb s3 a1 V2 := by
      rw [hCb, hV2]
      exact CS.tr (a' := a1) c3 (putObj_wc (fun c e fr q => by rw [hl3] at q; cases q) hl3V) c3.pin (fun id b hb h => h.2 id hb) (fun b hb => ⟨by simpa using hb.1, rfl⟩) (Nat.le_refl _) ⟨rfl, rfl, rfl⟩ (fun t => .inr rfl) c3.sz c3.defers
    have hCbl : Cb.G l := by rw [hCb]; exact ⟨hl3V, fun id e => (c3.own id l e).2.1 hl3G⟩
    have hCbw : Cb.w0 = V2 := by rw [hCb]
    have hV2l : V2.heap[l]? = some (.loop { rec .ready none with state := .busy }) := by rw [hV2]; exact World.putObj_heap_same hl3V
    have hpb : PR (some l) m2 Cb := ⟨fun id hid => by rw [hCb]; exact hpc.1 id hid, fun l' e => by
      cases e
      exact ⟨hCbl, _, by rw [hCbw]; exact hV2l⟩⟩
    have hCbN : Cb.N = ⟨C.N.n, F, true⟩ := by rw [hCb]; show C3.N = _; rw [k3.2.2.2.2.1, hCaN]
    show body.wpIn (Wd (some l)) 0 P _ _ V2
    refine wpIn_mono (xcode_sound HT hm body (r := some l) (C0 := Cb) (C := Cb) (by rw [hCbN]; exact hmix body hNb R.ob) hpb (KeepM.refl _) cb g3 n3 h3) ?_
    rintro e a2 V3 ⟨C4, s4, k4, c4, g4, n4, h4⟩
    cases e with
    | exit _ => exact h4.elim
    | goto _ => exact h4.elim
    | ret => exact h4.elim
    | panic ch => obtain ⟨_, _, _, _, hf⟩ := h4; exact hf.elim
    | outgrown => exact h4.elim
    | normal =>
    obtain ⟨s', hw4, hQ⟩ := h4
    have hl4 : V3.heap[l]? = some (.loop { rec .ready none with state := .busy }) := by
      obtain ⟨z1, z2⟩ := k4.2.1 l hCbl
      rw [(c4.g l z1).2, z2, hCbw]; exact hV2l
    have hl4V : l < V3.heap.size := (Array.getElem?_eq_some_iff.1 hl4).1
    refine ⟨_, _, run_endRound none hl4, rfl, ?_⟩
    rw [hJ]
    have hback : (Obj.loop { { rec .ready none with state := .busy } with state := if (none : Option Code).isNone then .ready else .done, pending := none }) = .loop (rec .ready none) := by rw [hrec]; rfl
    rw [hback]
    obtain ⟨C5, k5, c5, _, _⟩ := hw4 C4 a2 V3 (hpb.keep k4).1 c4 g4 n4
    have hGc : ∀ b, Cm.G b → C5.G b ∧ b < W1.heap.size ∧ (b ≠ l → V3.heap[b]? = W1.heap[b]?) := fun b hb => by
      have z0 : C2.G b := by rw [q2.2.1]; exact hb
      obtain ⟨y1, y2⟩ := q3.g b z0
      have hCmw : C2.w0 = W1 := by rw [q2.2.2.1, hCm]
      rw [hCmw] at y1 y2
      have z1 : Ca.G b := by rw [hCa]; exact ⟨Nat.lt_of_lt_of_le y1 (by rw [← hCmw]; exact q3.ge), fun id e => (q3.own id b e).2.1 z0⟩
      obtain ⟨z2, e2⟩ := k3.2.1 b z1
      obtain ⟨y3, y4⟩ := c3.g b z2
      have z3 : Cb.G b := by rw [hCb]; exact ⟨Nat.lt_of_lt_of_le y3 c3.ge, fun id e => (c3.own id b e).2.1 z2⟩
      obtain ⟨z4, e4⟩ := k4.2.1 b z3
      refine ⟨by rw [k5.2.1]; exact z4, y1, fun hne => ?_⟩
      rw [(c4.g b z4).2, e4, hCbw, hV2, World.putObj_heap_other hne, y4, e2, hCa]
      exact y2
    have hCaw : Ca.w0 = V := by rw [hCa]
    have hCmw : Cm.w0 = W1 := by rw [hCm]
    have hge : W1.heap.size ≤ V3.heap.size := by
      have w1 := q3.ge
      rw [q2.2.2.1, hCmw] at w1
      have w2 := k3.2.2.1.1
      rw [hCaw] at w2
      have w3 := c3.ge
      have w4 := k4.2.2.1.1
      rw [hCbw, hV2] at w4
      have w5 := c4.ge
      simp at w4
      omega
    have hio : V3.os = W1.os ∧ V3.tape = W1.tape ∧ V3.output = W1.output := by
      obtain ⟨a1, a2, a3⟩ := c4.io
      obtain ⟨_, b1, b2, b3⟩ := k4.2.2.1
      rw [hCbw, hV2] at b1 b2 b3
      obtain ⟨d1, d2, d3⟩ := c3.io
      obtain ⟨_, f1, f2, f3⟩ := k3.2.2.1
      rw [hCaw] at f1 f2 f3
      obtain ⟨i1, i2, i3⟩ := q3.io
      rw [q2.2.2.1, hCmw] at i1 i2 i3
      exact ⟨a1.trans (b1.trans (d1.trans (f1.trans i1))), a2.trans (b2.trans (d2.trans (f2.trans i2))), a3.trans (b3.trans (d3.trans (f3.trans i3)))⟩
    have hpinE : C5.pin = Cm.pin := by rw [k5.2.2.2.1, k4.2.2.2.1, hCb]; show C3.pin = _; rw [k3.2.2.2.1, hCa]; exact q2.2.2.2.1
    have hN5 : C5.N = ⟨C.N.n, F, true⟩ := by rw [k5.2.2.2.2.1, k4.2.2.2.2.1, hCbN]
    refine ⟨s', hQ, { C5 with G := Cm.G, w0 := Cm.w0, D := Cm.D, N := Cm.N, pin := Cm.pin }, ⟨?_, rfl, rfl, rfl, rfl, rfl⟩, CS.tr (a' := am) c5 (putObj_wc (fun c e fr q => by rw [hl4] at q; cases q) hl4V) (fun id b hb => c5.pin id b (by rw [hpinE]; exact hb)) (fun id b hb q => (c5.own id b hb).2.1 (hGc b q).1) (fun b hb => ?_) ?_ ?_ (fun t => ?_) ?_ ?_, World.putObj_heap_same hl4V⟩
    · show C5.F = Cm.F
      rw [k5.1, k4.1, hCb]; show C3.F = _; rw [k3.1, hCa]; exact q2.1
    · obtain ⟨_, y1, y2⟩ := hGc b hb
      rw [hCmw]
      refine ⟨y1, ?_⟩
      by_cases e : b = l
      · subst e; rw [World.putObj_heap_same hl4V]; exact hl1.symm
      · rw [World.putObj_heap_other e]; exact y2 e
    · rw [hCmw]; simpa using hge
    · rw [hCmw]; exact hio
    · by_cases ht : t ∈ fx
      · right
        rw [hamt]
        have hs5 := c5.sz
        rw [hN5] at hs5
        by_cases htn : t < C.N.n
        · exact ((hs5.2.1 (t, a.tmps.getD t undef) (by rw [hF]; exact List.mem_map.2 ⟨t, List.mem_filter.2 ⟨ht, by simpa using htn⟩, rfl⟩)).2).symm
        · rw [Array.getD_eq_getD_getElem?, Array.getD_eq_getD_getElem?, Array.getElem?_eq_none (by omega), Array.getElem?_eq_none (by have := hs5.1; dsimp only at this; omega)]
      · exact .inl (R.live s' t ht)
    · have := q3.sz; rw [q2.2.2.2.2.1] at this; exact this
    · have := q3.defers; rw [q2.2.2.2.2.2] at this; exact this
  · rintro e V ⟨⟨v, rfl⟩, hj⟩
    rw [hJ] at hj
    obtain ⟨s, q1, C2, q2, q3, q4⟩ := hj
    rw [List.drop_length] at q1
    have hend := run_endLoop (P := P) q4 (by rw [hrec]; simp)
    refine ⟨_, _, hend, ?_⟩
    have hpe : (rec .ready none).pending = none := by rw [hrec]
    rw [hpe]
    dsimp only
    rw [← ham]
    have hCmN : Cm.N = C.N := by rw [hCm]; exact hN1
    have hKM : KeepM C { C2 with G := fun b => C1.G b ∨ markD b ∈ mk, w0 := Cm.w0, D := Cm.D, N := C.N, pin := C.pin } := by
      refine ⟨?_, fun b hb => ?_, ?_, rfl, rfl, ?_, fun e => by rw [hM] at e; cases e⟩
      · show C2.F = C.F
        rw [q2.1, hCm]; exact hk1.1
      · have hb1 : C1.G b := by rw [hk1.2.1]; exact hb
        show (C1.G b ∨ markD b ∈ mk) ∧ Cm.w0.heap[b]? = C.w0.heap[b]?
        rw [hCm]
        exact ⟨.inl hb1, by show W1.heap[b]? = _; rw [hgr.old b (hC1G b hb1), (hc1.g b hb1).2, hk1.2.2.1]⟩
      · show C.w0.heap.size ≤ Cm.w0.heap.size ∧ Cm.w0.os = C.w0.os ∧ Cm.w0.tape = C.w0.tape ∧ Cm.w0.output = C.w0.output
        rw [hCm]
        obtain ⟨i1, i2, i3⟩ := hc.io
        obtain ⟨j1, j2, j3⟩ := hgr.io
        exact ⟨Nat.le_trans hc.ge hgr.size, j1.trans i1, j2.trans i2, j3.trans i3⟩
      · have hDm : Cm.D = mk ++ C.D := by rw [hCm]; show mk ++ C1.D = _; rw [hk1.2.2.2.2.2]
        rcases hmk with e | ⟨D, e, g1, g2, g3⟩
        · exact ⟨[], by show Cm.D = _; rw [hDm, e]; rfl, List.nodup_nil, fun x hx => by cases hx⟩
        · refine ⟨[D], by show Cm.D = _; rw [hDm, e]; rfl, by simp, fun x hx => ?_⟩
          cases List.mem_singleton.1 hx
          show _ ∧ (C1.G D ∨ markD D ∈ mk) ∧ Cm.w0.heap[D]? = _
          rw [hCm]
          exact ⟨Nat.le_trans hc.ge g1, .inr (by rw [e]; exact List.mem_singleton.2 rfl), g3⟩
    have hl2 : l < V.heap.size := (Array.getElem?_eq_some_iff.1 q4).1
    refine ⟨_, S s, hKM, CS.tr (a' := am) q3 (putObj_wc (fun c e fr q => by rw [q4] at q; cases q) hl2) (fun id b hb => ?_) (fun id b hb => ?_) (fun b hb => ?_) ?_ ?_ (fun t => .inr rfl) ?_ ?_, (R.gk s).1, (R.gk s).2, hk s q1⟩
    · have hid : id < m := Classical.byContradiction fun q => by rw [hp.1 id (by omega)] at hb; cases hb
      have hid2 : id < m2 := Nat.lt_of_lt_of_le hid R.le
      exact ⟨(hβ q2 q3 id hid2).trans (hc1.pin id b (by rw [hk1.2.2.2.1]; exact hb)).1, Nat.lt_of_lt_of_le hid2 (R.nx s)⟩
    · exact fun q => (q3.own id b hb).2.1 (by rw [q2.2.1, hCm]; exact .inl q)
    · obtain ⟨g1, g2⟩ := q3.g b (by rw [q2.2.1, hCm]; exact .inl hb)
      rw [q2.2.2.1] at g1 g2
      exact ⟨g1, (World.putObj_heap_other (hCmG b hb).2).trans g2⟩
    · have := q3.ge; rw [q2.2.2.1] at this; simpa using this
    · have := q3.io; rw [q2.2.2.1] at this; exact this
    · have := q3.sz; rw [q2.2.2.2.2.1, hCmN] at this; exact this
    · have := q3.defers; rw [q2.2.2.2.2.2] at this; exact this
end
end Go.Proofs.Ytgeedlfnjneeiaa.VX

namespace Go.Proofs.Ytgeedlfnjneeiaa.VX
variable {P : Program} {T : Tab}
/-- An iterator that gives nothing. -/
theorem AIter.nothing {τ : Type} {em : τ → List AV} {gf : FuncId} {fn : Func} (hf : P.funcs[gf]? = some fn) (hb : fn.body = some .skip) (hname : (fn.name == "runtime.NumGoroutine") = false) (hres : fn.results = #[]) : AIter P T gf [] em ([] : List (W τ)) where
  fn := ⟨fn, hf, by rw [hb]; rfl, hname⟩
  it := fun bs w l J _ _ _ h0 => calls_of_wp hf hb (wp_skip ⟨rfl, _, run_noresults hres _, ⟨_, rfl⟩, h0⟩)
end Go.Proofs.Ytgeedlfnjneeiaa.VX

set_option maxHeartbeats 1000000
namespace Go.Proofs.Ytgeedlfnjneeiaa.VX
/-- What an operation is, without its place. -/
def yOps (ops : Array Oper) : List (Option Nat × Op × Option (Nat × Bool)) := ops.toList.map fun o => (o.dst, o.op, o.guard)
section
variable {P : Program} {Q : Exit → Act → World → Prop} {a : Act} {w : World}
theorem getD_set {ts : Array Value} {i j : Nat} {v d : Value} (hi : i < ts.size) : (ts.setIfInBounds i v).getD j d = if i = j then v else ts.getD j d := by
  rw [Array.getD_eq_getD_getElem?, Array.getD_eq_getD_getElem?, Array.getElem?_setIfInBounds]
  by_cases h : i = j
  · subst h; simp [hi]
  · simp [h]
/-- A call of yield with one argument. -/
theorem yield_one {l rid tA tB tR tN ty n : Nat} {src : Nat} {ops : Array Oper} {at' : Array TypeId} {v : Value} (hro : (Wd none).round = none)
    (hY : yOps ops = [(some tA, .move (.tmp 0), none), (some tB, .move (.tmp src), none), (some tR, .call { callee := .value (.tmp tA), args := #[.tmp tB], argTypes := at' }, none), (some tN, .unOp .not ty (.tmp tR), none)])
    (hsz : a.tmps.size = n) (hlt : tA < n ∧ tB < n ∧ tR < n ∧ tN < n ∧ tA ≠ tB ∧ src ≠ tA)
    (h0 : a.tmps.getD 0 undef = .func (.yield l) #[] #[]) (h1 : a.tmps.getD src undef = v) (hy : YieldAt (Wd none) 0 P l #[v] w fun e w' => e = .returned (.bool true) ∧
      Q .normal { a with tmps := (((a.tmps.setIfInBounds tA (.func (.yield l) #[] #[])).setIfInBounds tB v).setIfInBounds tR (.bool true)).setIfInBounds tN (.bool false) } w') :
    (Code.region rid ops false).wpIn (Wd none) 0 P Q a w := by
  simp only [yOps, List.map_eq_cons_iff, List.map_eq_nil_iff, Prod.mk.injEq] at hY
  obtain ⟨o1, l1, q1, ⟨d1, p1, g1⟩, o2, l2, q2, ⟨d2, p2, g2⟩, o3, l3, q3, ⟨d3, p3, g3⟩, o4, l4, q4, ⟨d4, p4, g4⟩, q5⟩ := hY
  subst q5 q4 q3 q2
  obtain ⟨fn, tmps, as, bo, hy1, hy2⟩ := hy
  obtain ⟨e1, e2, e3, e4, e5, e6⟩ := hlt
  refine wpIn_region_list ?_
  rw [q1]
  have hA : (a.tmps.setIfInBounds tA (.func (.yield l) #[] #[])).getD src undef = v := by rw [getD_set (by omega), if_neg (fun e => e6 e.symm)]; exact h1
  have step : ∀ (o : Oper) (d : Nat) (x : Operand) (a : Act) (l : List Oper), o.dst = some d → o.op = .move x → o.guard = none → wpListIn (Wd none) 0 P ops Q l (a.put (some d) (a.eval x)) w → wpListIn (Wd none) 0 P ops Q (o :: l) a w := fun o d x a l hd hp hg h => by
    refine wpListIn_plain hg fun K hK => ?_
    simp only [Oper.wpIn, Oper.about, hp, hro]
    refine ⟨fun _ e => (by cases e), ?_⟩
    simp only [go_sem, execOp, hp]
    exact hK _ _ (by rw [hd]; exact h)
  refine step o1 tA _ a _ d1 p1 g1 ?_
  refine step o2 tB _ _ _ d2 p2 g2 ?_
  have hE0 : a.eval (.tmp 0) = .func (.yield l) #[] #[] := h0
  rw [hE0]
  have hE1 : (a.put (some tA) (.func (.yield l) #[] #[])).eval (.tmp src) = v := by
    show (a.tmps.setIfInBounds tA _).getD src undef = v
    exact hA
  rw [hE1]
  generalize hA2 : (a.put (some tA) (.func (.yield l) #[] #[])).put (some tB) v = a2
  have hEA : a2.eval (.tmp tA) = .func (.yield l) #[] #[] := by
    rw [← hA2]
    show ((a.tmps.setIfInBounds tA _).setIfInBounds tB v).getD tA undef = _
    rw [getD_set (by simpa using by omega), if_neg (fun e => e5 e.symm), getD_set (by omega), if_pos rfl]
  have hEB : a2.eval (.tmp tB) = v := by
    rw [← hA2]
    show ((a.tmps.setIfInBounds tA _).setIfInBounds tB v).getD tB undef = _
    rw [getD_set (by simpa using by omega), if_pos rfl]
  refine wpListIn_plain g3 fun K hK => ?_
  simp only [Oper.wpIn, Oper.about, p3, hro]
  have hrun : (execOp a2.eval o3).run P w = .ok (.round l fn tmps as bo) w := by
    generalize a2.eval = ρ at hEA hEB
    simp only [execOp, p3]
    simp [go_sem, resolve, invoke, hEA, hEB, callFunc, hy1]
  refine ⟨fun _ _ => trivial, ?_⟩
  rw [Oper.semAt_none, hrun, Oper.uponIn_round]
  refine ⟨fun e => by simp [Wd, Fence.wide] at e, hy2.mono ?_⟩
  rintro e w' ⟨rfl, hq⟩
  refine hK _ _ ?_
  refine wpListIn_plain g4 fun K hK => ?_
  simp only [Oper.wpIn, Oper.about, p4, hro]
  refine ⟨fun _ e => (by cases e), ?_⟩
  have hER : (a2.put o3.dst (.bool true)).eval (.tmp tR) = .bool true := by
    rw [d3, ← hA2]
    show (((a.tmps.setIfInBounds tA _).setIfInBounds tB v).setIfInBounds tR _).getD tR undef = _
    rw [getD_set (by simpa using by omega), if_pos rfl]
  have hrun2 : (execOp (a2.put o3.dst (.bool true)).eval o4).run P w' = .ok (.value (.bool false)) w' := by
    generalize (a2.put o3.dst (.bool true)).eval = ρ at hER
    simp only [execOp, p4]
    simp [go_sem, hER, Op.unary]
  rw [Oper.semAt_none, hrun2, Oper.uponIn_value]
  refine hK _ _ (wpListIn_nil ?_)
  rw [d3, d4, ← hA2]
  exact hq
/-- A call of yield with two arguments. -/
theorem yield_two {l rid tA tB tD tR tN ty n : Nat} {src src2 : Nat} {ops : Array Oper} {at' : Array TypeId} {v v2 : Value} (hro : (Wd none).round = none)
    (hY : yOps ops = [(some tA, .move (.tmp 0), none), (some tB, .move (.tmp src), none), (some tD, .move (.tmp src2), none), (some tR, .call { callee := .value (.tmp tA), args := #[.tmp tB, .tmp tD], argTypes := at' }, none), (some tN, .unOp .not ty (.tmp tR), none)])
    (hsz : a.tmps.size = n) (hlt : tA < n ∧ tB < n ∧ tD < n ∧ tR < n ∧ tN < n ∧ tA ≠ tB ∧ tA ≠ tD ∧ tB ≠ tD ∧ src ≠ tA ∧ src2 ≠ tA ∧ src2 ≠ tB)
    (h0 : a.tmps.getD 0 undef = .func (.yield l) #[] #[]) (h1 : a.tmps.getD src undef = v) (h2 : a.tmps.getD src2 undef = v2) (hy : YieldAt (Wd none) 0 P l #[v, v2] w fun e w' => e = .returned (.bool true) ∧
      Q .normal { a with tmps := ((((a.tmps.setIfInBounds tA (.func (.yield l) #[] #[])).setIfInBounds tB v).setIfInBounds tD v2).setIfInBounds tR (.bool true)).setIfInBounds tN (.bool false) } w') :
    (Code.region rid ops false).wpIn (Wd none) 0 P Q a w := by
  simp only [yOps, List.map_eq_cons_iff, List.map_eq_nil_iff, Prod.mk.injEq] at hY
  obtain ⟨o1, l1, q1, ⟨d1, p1, g1⟩, o2, l2, q2, ⟨d2, p2, g2⟩, o5, l5, q5', ⟨d5, p5, g5⟩, o3, l3, q3, ⟨d3, p3, g3⟩, o4, l4, q4, ⟨d4, p4, g4⟩, q5⟩ := hY
  subst q5 q4 q3 q5' q2
  obtain ⟨fn, tmps, as, bo, hy1, hy2⟩ := hy
  obtain ⟨e1, e2, e7, e3, e4, e5, e8, e9, e6, e10, e11⟩ := hlt
  refine wpIn_region_list ?_
  rw [q1]
  have step : ∀ (o : Oper) (d : Nat) (x : Operand) (a : Act) (l : List Oper), o.dst = some d → o.op = .move x → o.guard = none → wpListIn (Wd none) 0 P ops Q l (a.put (some d) (a.eval x)) w → wpListIn (Wd none) 0 P ops Q (o :: l) a w := fun o d x a l hd hp hg h => by
    refine wpListIn_plain hg fun K hK => ?_
    simp only [Oper.wpIn, Oper.about, hp, hro]
    refine ⟨fun _ e => (by cases e), ?_⟩
    simp only [go_sem, execOp, hp]
    exact hK _ _ (by rw [hd]; exact h)
  refine step o1 tA _ a _ d1 p1 g1 ?_
  refine step o2 tB _ _ _ d2 p2 g2 ?_
  refine step o5 tD _ _ _ d5 p5 g5 ?_
  have hE0 : a.eval (.tmp 0) = .func (.yield l) #[] #[] := h0
  rw [hE0]
  have hE1 : (a.put (some tA) (.func (.yield l) #[] #[])).eval (.tmp src) = v := by
    show (a.tmps.setIfInBounds tA _).getD src undef = v
    rw [getD_set (by omega), if_neg (fun e => e6 e.symm)]; exact h1
  rw [hE1]
  have hE2 : ((a.put (some tA) (.func (.yield l) #[] #[])).put (some tB) v).eval (.tmp src2) = v2 := by
    show ((a.tmps.setIfInBounds tA _).setIfInBounds tB v).getD src2 undef = v2
    rw [getD_set (by simpa using by omega), if_neg (fun e => e11 e.symm), getD_set (by omega), if_neg (fun e => e10 e.symm)]; exact h2
  rw [hE2]
  generalize hA2 : ((a.put (some tA) (.func (.yield l) #[] #[])).put (some tB) v).put (some tD) v2 = a2
  have hEA : a2.eval (.tmp tA) = .func (.yield l) #[] #[] := by
    rw [← hA2]
    show (((a.tmps.setIfInBounds tA _).setIfInBounds tB v).setIfInBounds tD v2).getD tA undef = _
    rw [getD_set (by simpa using by omega), if_neg (fun e => e8 e.symm), getD_set (by simpa using by omega), if_neg (fun e => e5 e.symm), getD_set (by omega), if_pos rfl]
  have hEB : a2.eval (.tmp tB) = v := by
    rw [← hA2]
    show (((a.tmps.setIfInBounds tA _).setIfInBounds tB v).setIfInBounds tD v2).getD tB undef = _
    rw [getD_set (by simpa using by omega), if_neg (fun e => e9 e.symm), getD_set (by simpa using by omega), if_pos rfl]
  have hED : a2.eval (.tmp tD) = v2 := by
    rw [← hA2]
    show (((a.tmps.setIfInBounds tA _).setIfInBounds tB v).setIfInBounds tD v2).getD tD undef = _
    rw [getD_set (by simpa using by omega), if_pos rfl]
  refine wpListIn_plain g3 fun K hK => ?_
  simp only [Oper.wpIn, Oper.about, p3, hro]
  have hrun : (execOp a2.eval o3).run P w = .ok (.round l fn tmps as bo) w := by
    generalize a2.eval = ρ at hEA hEB hED
    simp only [execOp, p3]
    simp [go_sem, resolve, invoke, hEA, hEB, hED, callFunc, hy1]
  refine ⟨fun _ _ => trivial, ?_⟩
  rw [Oper.semAt_none, hrun, Oper.uponIn_round]
  refine ⟨fun e => by simp [Wd, Fence.wide] at e, hy2.mono ?_⟩
  rintro e w' ⟨rfl, hq⟩
  refine hK _ _ ?_
  refine wpListIn_plain g4 fun K hK => ?_
  simp only [Oper.wpIn, Oper.about, p4, hro]
  refine ⟨fun _ e => (by cases e), ?_⟩
  have hER : (a2.put o3.dst (.bool true)).eval (.tmp tR) = .bool true := by
    rw [d3, ← hA2]
    show ((((a.tmps.setIfInBounds tA _).setIfInBounds tB v).setIfInBounds tD v2).setIfInBounds tR _).getD tR undef = _
    rw [getD_set (by simpa using by omega), if_pos rfl]
  have hrun2 : (execOp (a2.put o3.dst (.bool true)).eval o4).run P w' = .ok (.value (.bool false)) w' := by
    generalize (a2.put o3.dst (.bool true)).eval = ρ at hER
    simp only [execOp, p4]
    simp [go_sem, hER, Op.unary]
  rw [Oper.semAt_none, hrun2, Oper.uponIn_value]
  refine hK _ _ (wpListIn_nil ?_)
  rw [d3, d4, ← hA2]
  exact hq
theorem yieldMono {l : Nat} {args : Array Value} {w : World} {R R' : Ending → World → Prop} (h : YieldAt (Wd none) 0 P l args w R) (hr : ∀ e w, R e w → R' e w) : YieldAt (Wd none) 0 P l args w R' :=
  let ⟨fn, tmps, as, bo, h1, h2⟩ := h
  ⟨fn, tmps, as, bo, h1, h2.mono fun _ _ => hr _ _⟩
/-- What a region does that calls yield: with the values of these temporaries; and what it writes. -/
def YReg (P : Program) (n : Nat) (args wr : List Nat) (Y : Code) (tN : Nat) : Prop :=
  ∀ {Q : Exit → Act → World → Prop} {a : Act} {w : World} {l : Nat} {vals : List Value}, a.tmps.size = n → a.tmps.getD 0 undef = .func (.yield l) #[] #[] → all2 (fun t v => a.tmps.getD t undef = v) args vals →
    YieldAt (Wd none) 0 P l vals.toArray w (fun e w' => e = .returned (.bool true) ∧ ∀ a' : Act, a'.tmps.size = n → a'.defers = a.defers → (∀ t, t ∉ wr → a'.tmps.getD t undef = a.tmps.getD t undef) → a'.tmps.getD tN undef = .bool false → Q .normal a' w') →
    Y.wpIn (Wd none) 0 P Q a w
theorem YReg.one {rid tA tB tR tN ty n src : Nat} {ops : Array Oper} {at' : Array TypeId}
    (hY : yOps ops = [(some tA, .move (.tmp 0), none), (some tB, .move (.tmp src), none), (some tR, .call { callee := .value (.tmp tA), args := #[.tmp tB], argTypes := at' }, none), (some tN, .unOp .not ty (.tmp tR), none)])
    (hlt : tA < n ∧ tB < n ∧ tR < n ∧ tN < n ∧ tA ≠ tB ∧ src ≠ tA) : YReg P n [src] [tA, tB, tR, tN] (.region rid ops false) tN := by
  intro Q a w l vals hsz h0 hv hy
  match vals, hv with
  | [v], hv =>
  refine yield_one rfl hY hsz hlt h0 hv.1 (yieldMono hy fun e w' h => ⟨h.1, h.2 _ (by simpa using hsz) rfl (fun t ht => ?_) ?_⟩)
  · simp only [List.mem_cons, List.not_mem_nil, or_false, not_or] at ht
    obtain ⟨h1, h2, h3, h4⟩ := ht
    obtain ⟨e1, e2, e3, e4, _⟩ := hlt
    rw [getD_set (by simpa using by omega), if_neg (Ne.symm h4), getD_set (by simpa using by omega), if_neg (Ne.symm h3), getD_set (by simpa using by omega), if_neg (Ne.symm h2), getD_set (by omega), if_neg (Ne.symm h1)]
  · rw [getD_set (by simpa using by omega), if_pos rfl]
theorem YReg.two {rid tA tB tD tR tN ty n src src2 : Nat} {ops : Array Oper} {at' : Array TypeId}
    (hY : yOps ops = [(some tA, .move (.tmp 0), none), (some tB, .move (.tmp src), none), (some tD, .move (.tmp src2), none), (some tR, .call { callee := .value (.tmp tA), args := #[.tmp tB, .tmp tD], argTypes := at' }, none), (some tN, .unOp .not ty (.tmp tR), none)])
    (hlt : tA < n ∧ tB < n ∧ tD < n ∧ tR < n ∧ tN < n ∧ tA ≠ tB ∧ tA ≠ tD ∧ tB ≠ tD ∧ src ≠ tA ∧ src2 ≠ tA ∧ src2 ≠ tB) : YReg P n [src, src2] [tA, tB, tD, tR, tN] (.region rid ops false) tN := by
  intro Q a w l vals hsz h0 hv hy
  match vals, hv with
  | [v, v2], hv =>
  refine yield_two rfl hY hsz hlt h0 hv.1 hv.2.1 (yieldMono hy fun e w' h => ⟨h.1, h.2 _ (by simpa using hsz) rfl (fun t ht => ?_) ?_⟩)
  · simp only [List.mem_cons, List.not_mem_nil, or_false, not_or] at ht
    obtain ⟨h1, h2, h5, h3, h4⟩ := ht
    obtain ⟨e1, e2, e5, e3, e4, _⟩ := hlt
    rw [getD_set (by simpa using by omega), if_neg (Ne.symm h4), getD_set (by simpa using by omega), if_neg (Ne.symm h3), getD_set (by simpa using by omega), if_neg (Ne.symm h5), getD_set (by simpa using by omega), if_neg (Ne.symm h2), getD_set (by omega), if_neg (Ne.symm h1)]
  · rw [getD_set (by simpa using by omega), if_pos rfl]
end
/-! ### Pieces of code -/
def seqs : List Code → Code → Code
  | [], c => c
  | x :: r, c => .seq x (seqs r c)
def seqTake : Nat → Code → List Code
  | n + 1, .seq a b => a :: seqTake n b
  | _, _ => []
def seqDrop : Nat → Code → Code
  | n + 1, .seq _ b => seqDrop n b
  | _, c => c
/-- The parts of the code of an iterator that counts. -/
def itPre : Code → Code
  | .seq a _ => a
  | c => c
def itIn : Code → Code
  | .seq _ (.block _ (.loop c)) => c
  | c => c
def itR1 (c : Code) : Code := match itIn c with
  | .seq a _ => a
  | c => c
def itBlk (c : Code) : Code := match itIn c with
  | .seq _ (.seq _ (.seq (.block _ x) _)) => x
  | c => c
def itInc (c : Code) : Code := match itIn c with
  | .seq _ (.seq _ (.seq _ x)) => x
  | c => c
def itY (k : Nat) (c : Code) : Code := match seqDrop k (itBlk c) with
  | .seq a _ => a
  | c => c
def bodyC (f : Func) : Code := match f.body with
  | some c => c
  | none => .skip
def opsOf : Code → Array Oper
  | .region _ ops _ => ops
  | _ => #[]
section
variable {P : Program} {T : Tab} {mv : FuncId → List Nat}
/-- These pieces, one behind the other. -/
noncomputable def XS (P : Program) (T : Tab) (mv : FuncId → List Nat) (cs : List Code) : St → (St → Prop) → Prop :=
  List.rec (motive := fun _ => St → (St → Prop) → Prop) (fun st K => K st) (fun c _ ih st K => xcode T (AC P T kp0 mv) (ALoop P T kp0 mv 0) (ASeq P T kp0 mv 0) c st (fun st' => ih st' K) (fun _ _ => False)) cs
theorem XS.sound (HT : tabOK P T = true) (hm : P.follows .mixedOrders = true) : ∀ (cs : List Code) {C0 C : Cx} {s : St} {a : Act} {w : World} {K : St → Prop} {rest : Code} {Q : Exit → Act → World → Prop}, cs.all (fun c => codeOK C.N c) = true → PR none 0 C → KeepM C0 C → CS T C s a w → s.gs = [] → s.kn = [] → XS P T mv cs s K →
    (∀ C' s' a' w', KeepM C0 C' → CS T C' s' a' w' → K s' → rest.wpIn (Wd none) 0 P Q a' w') → (seqs cs rest).wpIn (Wd none) 0 P Q a w
  | [], _, _, _, _, _, _, _, _, _, _, hk, hc, _, _, h, hr => hr _ _ _ _ hk hc h
  | c :: r, C0, C, s, a, w, K, rest, Q, hok, hp, hk, hc, h1, h2, h, hr => by
    simp only [List.all_cons, Bool.and_eq_true] at hok
    refine wpIn_seq (wpIn_mono (xcode_sound HT hm c (r := none) (C0 := C) hok.1 hp (KeepM.refl C) hc h1 h2 h) ?_)
    rintro e a' w' ⟨C', s', q1, q2, q3, q4, q5⟩
    cases e with
    | normal => exact XS.sound HT hm r (by rw [q1.2.2.2.2.1]; exact hok.2) (hp.keep q1) (hk.trans q1) q2 q3 q4 q5 hr
    | exit _ => exact q5.elim
    | goto _ => exact q5.elim
    | ret => exact q5.elim
    | panic ch => obtain ⟨_, _, _, _, hf⟩ := q5; exact hf.elim
    | outgrown => exact q5.elim
/-- Nothing is owned. -/
def frCx (N : Bd) (w : World) : Cx := { β := fun _ => 0, base := fun _ => none, cap := fun _ => 0, F := fun _ => False, G := fun b => b < w.heap.size, w0 := w, pin := fun _ => none, N := N, D := [] }
theorem getE_all {R : AV → Value → Prop} {a : Act} (hR : ∀ v, R .dead v) : ∀ {env : List (Nat × AV)}, (∀ p ∈ env, R p.2 (a.tmps.getD p.1 undef)) → ∀ t, R (getE env t) (a.tmps.getD t undef)
  | [], _, _ => hR _
  | (u, v) :: r, h, t => by
    unfold getE
    cases hb : Nat.beq u t with
    | true =>
      have := h _ (List.mem_cons_self ..)
      rw [beq_nat hb] at this
      exact this
    | false => exact getE_all hR (fun p hp => h p (List.mem_cons_of_mem _ hp)) t
theorem CS.fresh {N : Bd} {env : List (Nat × AV)} {a : Act} {w : World} (hN : N.OK a) (hd : a.defers = []) (h : ∀ p ∈ env, RpE T (frCx N w) ⟨env, [], 0, [], []⟩ w p.2 (a.tmps.getD p.1 undef)) : CS T (frCx N w) ⟨env, [], 0, [], []⟩ a w where
  env := getE_all (fun _ => trivial) h
  blk := fun _ => trivial
  nx := fun _ _ => rfl
  inj := fun _ _ _ h => by cases h
  own := fun _ _ h => by cases h
  g := fun _ hb => ⟨hb, rfl⟩
  ge := Nat.le_refl _
  pin := fun _ _ h => by cases h
  kn := fun _ h => by cases h
  defers := hd
  sz := hN
  f := fun _ h => h.elim
  io := ⟨rfl, rfl, rfl⟩
theorem run_part (HT : tabOK P T = true) (hm : P.follows .mixedOrders = true) {n : Nat} {ks : List Nat} {FL : List (Nat × Value)} {cs : List Code} {rest : Code} {Q : Exit → Act → World → Prop} {a : Act} {w : World} {env : List (Nat × AV)} {K : St → Prop} (h0 : n ≠ 0)
    (hok : cs.all (fun c => codeOK ⟨n, ks.map fun t => (t, undef), false⟩ c) = true) (hks : ∀ p ∈ FL, p.1 ∈ ks) (hsz : a.tmps.size = n) (hd : a.defers = []) (hF : ∀ p ∈ FL, p.1 < n ∧ a.tmps.getD p.1 undef = p.2)
    (henv : ∀ p ∈ env, RpE T (frCx ⟨n, FL, false⟩ w) ⟨env, [], 0, [], []⟩ w p.2 (a.tmps.getD p.1 undef)) (h : XS P T mv cs ⟨env, [], 0, [], []⟩ K)
    (hk : ∀ C' s' a' w', Grow w w' → a'.tmps.size = n → a'.defers = [] → (∀ p ∈ FL, a'.tmps.getD p.1 undef = p.2) → CS T C' s' a' w' → (∀ b, b < w.heap.size → C'.G b) → K s' → rest.wpIn (Wd none) 0 P Q a' w') :
    (seqs cs rest).wpIn (Wd none) 0 P Q a w := by
  have hc : CS T (frCx ⟨n, FL, false⟩ w) ⟨env, [], 0, [], []⟩ a w := CS.fresh ⟨hsz, hF, fun e => absurd e h0⟩ hd henv
  refine XS.sound HT hm cs (C0 := frCx ⟨n, FL, false⟩ w) (List.all_eq_true.2 fun c hcm => ?_) ⟨fun _ _ => rfl, fun _ e => by cases e⟩ (KeepM.refl _) hc rfl rfl h fun C' s' a' w' q1 q2 q3 => ?_
  · exact codeOK_mix (N1 := ⟨n, ks.map fun t => (t, undef), false⟩) (N2 := ⟨n, ks.map fun t => (t, undef), false⟩) (N := ⟨n, FL, false⟩) rfl (fun e => e) (fun p hp => ⟨(p.1, undef), List.mem_map.2 ⟨p.1, hks p hp, rfl⟩, rfl⟩) c (List.all_eq_true.1 hok c hcm) (List.all_eq_true.1 hok c hcm)
  · have hN : C'.N = ⟨n, FL, false⟩ := q1.2.2.2.2.1
    have hs := q2.sz
    rw [hN] at hs
    have hkc : KeepC (frCx ⟨n, FL, false⟩ w) C' := q1.2.2.2.2.2.2 rfl
    have hw0 : C'.w0 = w := hkc.2.2.1
    have hG : C'.G = fun b => b < w.heap.size := hkc.2.1
    refine hk C' s' a' w' ⟨by rw [← hw0]; exact q2.ge, fun b hb => ?_, by rw [← hw0]; exact q2.io⟩ hs.1 (q2.defers.trans hkc.2.2.2.2.2) (fun p hp => (hs.2.1 p hp).2) q2 (fun b hb => by rw [hG]; exact hb) q3
    rw [← hw0]
    exact (q2.g b (by rw [hG]; exact hb)).2
theorem run_one (HT : tabOK P T = true) (hm : P.follows .mixedOrders = true) {n : Nat} {ks : List Nat} {FL : List (Nat × Value)} {c : Code} {Q : Exit → Act → World → Prop} {a : Act} {w : World} {env : List (Nat × AV)} {K : St → Prop} (h0 : n ≠ 0)
    (hok : codeOK ⟨n, ks.map fun t => (t, undef), false⟩ c = true) (hks : ∀ p ∈ FL, p.1 ∈ ks) (hsz : a.tmps.size = n) (hd : a.defers = []) (hF : ∀ p ∈ FL, p.1 < n ∧ a.tmps.getD p.1 undef = p.2)
    (henv : ∀ p ∈ env, RpE T (frCx ⟨n, FL, false⟩ w) ⟨env, [], 0, [], []⟩ w p.2 (a.tmps.getD p.1 undef)) (h : XS P T mv [c] ⟨env, [], 0, [], []⟩ K)
    (hk : ∀ C' s' a' w', Grow w w' → a'.tmps.size = n → a'.defers = [] → (∀ p ∈ FL, a'.tmps.getD p.1 undef = p.2) → CS T C' s' a' w' → (∀ b, b < w.heap.size → C'.G b) → K s' → Q .normal a' w') :
    c.wpIn (Wd none) 0 P Q a w := by
  have hc : CS T (frCx ⟨n, FL, false⟩ w) ⟨env, [], 0, [], []⟩ a w := CS.fresh ⟨hsz, hF, fun e => absurd e h0⟩ hd henv
  refine wpIn_mono (xcode_sound HT hm c (r := none) (C0 := frCx ⟨n, FL, false⟩ w) (codeOK_mix (N1 := ⟨n, ks.map fun t => (t, undef), false⟩) (N2 := ⟨n, ks.map fun t => (t, undef), false⟩) (N := ⟨n, FL, false⟩) rfl (fun e => e) (fun p hp => ⟨(p.1, undef), List.mem_map.2 ⟨p.1, hks p hp, rfl⟩, rfl⟩) c hok hok) ⟨fun _ _ => rfl, fun _ e => by cases e⟩ (KeepM.refl _) hc rfl rfl h) ?_
  rintro e a' w' ⟨C', s', q1, q2, q3, q4, q5⟩
  cases e with
  | normal =>
    have hN : C'.N = ⟨n, FL, false⟩ := q1.2.2.2.2.1
    have hs := q2.sz
    rw [hN] at hs
    have hkc : KeepC (frCx ⟨n, FL, false⟩ w) C' := q1.2.2.2.2.2.2 rfl
    have hw0 : C'.w0 = w := hkc.2.2.1
    have hG : C'.G = fun b => b < w.heap.size := hkc.2.1
    refine hk C' s' a' w' ⟨by rw [← hw0]; exact q2.ge, fun b hb => ?_, by rw [← hw0]; exact q2.io⟩ hs.1 (q2.defers.trans hkc.2.2.2.2.2) (fun p hp => (hs.2.1 p hp).2) q2 (fun b hb => by rw [hG]; exact hb) q5
    rw [← hw0]
    exact (q2.g b (by rw [hG]; exact hb)).2
  | exit _ => exact q5.elim
  | goto _ => exact q5.elim
  | ret => exact q5.elim
  | panic ch => obtain ⟨_, _, _, _, hf⟩ := q5; exact hf.elim
  | outgrown => exact q5.elim
/-- A cell as a row holds it. -/
def zc1 : CK → AV → Option AV
  | .int k, .int k' n => if k = k' then some (.int .i64 n) else none
  | .bool, .bool b => some (.bool b)
  | .str, .str s => some (.str s)
  | .sl t, .sl b t' l => if t = t' then some (.sl b 0 l) else none
  | _, _ => none
def zcs : List CK → List AV → Option (List AV)
  | [], [] => some []
  | c :: cs, x :: xs => match zc1 c x, zcs cs xs with
    | some y, some ys => some (y :: ys)
    | _, _ => none
  | _, _ => none
theorem zc1_rep {w : World} {X : Nat → Prop} {c : CK} {x y : AV} {v : Value} (h : zc1 c x = some y) (hr : RpX T w X x v) : RepC T w X c y v := by
  cases c <;> cases x <;> simp only [zc1, reduceCtorEq, Option.some.injEq] at h <;> simp only [RpX] at hr
  case int.int k k' n =>
    split at h
    · cases h; subst hr; rename_i e; subst e; exact .int _ _
    · cases h
  case bool.bool => subst h hr; exact .bool _
  case str.str => subst h hr; exact .str _
  case sl.sl t b t' l =>
    split at h
    · cases h; rename_i e; subst e; exact hr
    · cases h
theorem zcs_rep {w : World} {X : Nat → Prop} : ∀ {cks : List CK} {xs ys : List AV} {vs : List Value}, zcs cks xs = some ys → all2 (RpX T w X) xs vs → ys.length = cks.length ∧ vs.length = cks.length ∧ ∀ (j : Nat) (y : AV) (c : CK) (v : Value), ys[j]? = some y → cks[j]? = some c → vs[j]? = some v → RepC T w X c y v
  | [], [], _, [], h, _ => by cases h; exact ⟨rfl, rfl, fun j y c v h => by simp at h⟩
  | [], [], _, _ :: _, _, h => h.elim
  | [], _ :: _, _, _, h, _ => by cases h
  | _ :: _, [], _, _, h, _ => by cases h
  | _ :: _, _ :: _, _, [], _, h => h.elim
  | c :: cs, x :: xs, ys, v :: vs, h, hr => by
    simp only [zcs] at h
    cases h1 : zc1 c x with
    | none => rw [h1] at h; cases h
    | some y =>
      cases h2 : zcs cs xs with
      | none => rw [h1, h2] at h; cases h
      | some ys' =>
        rw [h1, h2] at h
        cases h
        obtain ⟨q1, q2, q3⟩ := zcs_rep h2 hr.2
        refine ⟨by simp [q1], by simp [q2], fun j y' c' v' ha hb hc => ?_⟩
        cases j with
        | zero =>
          simp only [List.getElem?_cons_zero, Option.some.injEq] at ha hb hc
          subst ha hb hc
          exact zc1_rep h1 hr.1
        | succ j => exact q3 j y' c' v' (by simpa using ha) (by simpa using hb) (by simpa using hc)
theorem cap_rel {w : World} {X : Nat → Prop} {t b : Nat} {cks : List CK} {c c' : List AV} {vs : List Value} (hk : ckOf T t = some cks) (hp : 0 < cks.length) (hz : zcs cks c = some c') (hX : ¬ X b) (hr : w.rangeAt b 0 vs) (ha : all2 (RpX T w X) c vs) :
    RepC T w X (.sl t) (.sl false 0 [c']) (.slice (some ⟨b, 0, none⟩) 1 1) := by
  obtain ⟨q1, q2, q3⟩ := zcs_rep hz ha
  refine .sl t cks [c'] b 0 1 (fun _ j => vs.getD j undef) hk hp (by simp) hX (Nat.le_refl _) (fun i e he => ?_) (fun i j hi hj => ?_) (fun i e j x ck he hx hc => ?_)
  · cases i with
    | zero => simp only [List.getElem?_cons_zero, Option.some.injEq] at he; subst he; exact q1
    | succ i => simp at he
  · have hi : i = 0 := by simpa using hi
    subst hi
    have hj' : j < vs.length := by omega
    have := hr j _ (List.getElem?_eq_getElem hj')
    simp only [Nat.zero_mul, Nat.zero_add] at this ⊢
    rw [this, List.getD_eq_getElem?_getD, List.getElem?_eq_getElem hj']; rfl
  · cases i with
    | zero =>
      simp only [List.getElem?_cons_zero, Option.some.injEq] at he
      subst he
      have hj : j < vs.length := by
        have := (List.getElem?_eq_some_iff.1 hc).1
        omega
      refine q3 j x ck _ hx hc ?_
      rw [List.getD_eq_getElem?_getD, List.getElem?_eq_getElem hj]; rfl
    | succ i => simp at he
/-! ### An iterator that counts -/
def relE : Nat → List (TypeId × List AV) → List (Nat × AV)
  | _, [] => []
  | i, (t, c) :: r => (i, .rel t [c] 0 0) :: relE (i + 1) r
def ptrFL : Nat → List Nat → List (Nat × Value)
  | _, [] => []
  | i, b :: r => (i, .pointer (some ⟨b, 0, none⟩)) :: ptrFL (i + 1) r
theorem ptrFL_mem : ∀ {bs : List Nat} {i : Nat} {p : Nat × Value}, p ∈ ptrFL i bs → ∃ j b, bs[j]? = some b ∧ p = (i + j, .pointer (some ⟨b, 0, none⟩))
  | [], _, _, h => by cases h
  | b :: r, i, p, h => by
    rcases List.mem_cons.1 h with rfl | h
    · exact ⟨0, b, rfl, rfl⟩
    · obtain ⟨j, b', h1, h2⟩ := ptrFL_mem h
      exact ⟨j + 1, b', by simpa using h1, by rw [h2]; simp only [Prod.mk.injEq, and_true]; omega⟩
theorem ptrFL_get : ∀ {bs : List Nat} {i j b : Nat}, bs[j]? = some b → (i + j, Value.pointer (some ⟨b, 0, none⟩)) ∈ ptrFL i bs
  | [], _, _, _, h => by simp at h
  | b :: r, i, 0, b', h => by simp at h; subst h; exact List.mem_cons_self ..
  | b :: r, i, j + 1, b', h => by
    have := ptrFL_get (i := i + 1) (by simpa using h : r[j]? = some b')
    rw [show i + (j + 1) = i + 1 + j by omega]
    exact List.mem_cons_of_mem _ this
theorem relE_mem : ∀ {rs : List (TypeId × List AV)} {i : Nat} {p : Nat × AV}, p ∈ relE i rs → ∃ (j : Nat) (q : TypeId × List AV), rs[j]? = some q ∧ p = (i + j, .rel q.1 [q.2] 0 0)
  | [], _, _, h => by cases h
  | q :: r, i, p, h => by
    rcases List.mem_cons.1 h with rfl | h
    · exact ⟨0, q, rfl, rfl⟩
    · obtain ⟨j, q', h1, h2⟩ := relE_mem h
      exact ⟨j + 1, q', by simpa using h1, by rw [h2]; simp only [Prod.mk.injEq, and_true]; omega⟩
def isIntC : CK → Bool
  | .int _ => true
  | _ => false
/-- What a temporary holds that is handed to yield. -/
def GiveS (T : Tab) (s : St) (t : Nat) (x : AV) : Prop :=
  (∃ n, x = .int .i64 n ∧ getE s.env t = x) ∨
  (∃ id ty b l cks, x = .sl b ty l ∧ getE s.env t = .own id ∧ getB s.heap id = .arr true ty b l ∧ ckOf T ty = some cks ∧ cks.all isIntC = true)
theorem GiveS.rep {C : Cx} {s : St} {a : Act} {w : World} {t : Nat} {x : AV} {X : Nat → Prop} (hc : CS T C s a w) (hX : ∀ b, X b → C.G b) (h : GiveS T s t x) : RpX T w X x (a.tmps.getD t undef) := by
  have he := hc.env t
  rcases h with ⟨n, rfl, h⟩ | ⟨id, ty, b, l, cks, rfl, h1, h2, h3, h4⟩
  · rw [h] at he; exact he
  · rw [h1] at he
    obtain ⟨_, he⟩ := he
    rw [h2] at he
    dsimp only at he
    have hb := hc.blk id
    rw [h2] at hb
    obtain ⟨cks', k1, k2, hb⟩ := hb
    rw [h3] at k1; cases k1
    show RepC T w X (.sl ty) (.sl b 0 l) _
    rw [he]
    rcases hb with ⟨rfl, z1, z2⟩ | ⟨rfl, z1, g, o, z2, z3, z4, z5, _⟩
    · rw [hdr]; exact .em ty b _ _ z2
    · rw [hdr, z2]
      by_cases hl : l = []
      · subst hl; exact .em ty false _ _ rfl
      · have hown : ownB C s.heap id = some g := by
          unfold ownB; rw [h2]; dsimp only
          rw [if_neg (by omega), z2]; rfl
        refine rows_repC h3 k2 hl (fun hx => (hc.own id g hown).2.1 (hX g hx)) z3 fun i e he => ?_
        obtain ⟨y1, y2⟩ := z4 i e he
        refine ⟨y1, fun j x c hx hcj => ?_⟩
        obtain ⟨v, v1, v2⟩ := y2 j x c hx hcj
        refine ⟨v, v1, ?_⟩
        have hi := List.all_eq_true.1 h4 c (List.mem_of_getElem? hcj)
        cases c <;> simp only [isIntC, Bool.false_eq_true] at hi
        cases v2
        exact .int _ _
theorem all2_give {C : Cx} {s : St} {a : Act} {w : World} {X : Nat → Prop} (hc : CS T C s a w) (hX : ∀ b, X b → C.G b) : ∀ {ts : List Nat} {xs : List AV}, all2 (GiveS T s) ts xs → all2 (RpX T w X) xs (ts.map fun t => a.tmps.getD t undef)
  | [], [], _ => trivial
  | _ :: _, _ :: _, h => ⟨h.1.rep hc hX, all2_give hc hX h.2⟩
  | [], _ :: _, h => h.elim
  | _ :: _, [], h => h.elim
theorem all2_self {a : Act} : ∀ (ts : List Nat), all2 (fun t v => a.tmps.getD t undef = v) ts (ts.map fun t => a.tmps.getD t undef)
  | [] => trivial
  | _ :: r => ⟨rfl, all2_self r⟩
theorem getE_int {C : Cx} {s : St} {a : Act} {w : World} {t : Nat} {n : Int} (hc : CS T C s a w) (h : getE s.env t = .int .i64 n) : a.tmps.getD t undef = .int .i64 n := by
  have := hc.env t; rw [h] at this; exact this
theorem getE_bool {C : Cx} {s : St} {a : Act} {w : World} {t : Nat} {b : Bool} (hc : CS T C s a w) (h : getE s.env t = .bool b) : a.tmps.getD t undef = .bool b := by
  have := hc.env t; rw [h] at this; exact this
theorem inc64 {i : Nat} {N : Int} (h : (i : Int) < N) (hN : N ≤ 9223372036854775807) : AV.int .i64 (IntKind.i64.wrap ((i : Int) + 1)) = .int .i64 ((i : Int) + 1) := by
  have : IntKind.i64.wrap ((i : Int) + 1) = (i : Int) + 1 := by
    rw [IntKind.wrap_i64]; omega
  rw [this]
/-- The conditions on an iterator's code that counts. -/
structure ItOK (P : Program) (T : Tab) (mv : FuncId → List Nat) (n k ti tn tc tN : Nat) (args wr : List Nat) (rels : List (TypeId × List AV)) (N : Int) (pre R1 Y INC : Code) (cs : List Code) {τ : Type} (em : τ → List AV) (row : Nat → W τ) : Prop where
  kn : k + 1 ≤ n
  ks : ti < n ∧ tn < n
  wq : (List.range (k + 1) ++ [tn, ti]).all (fun t => !(memN wr t)) = true
  okp : codeOK ⟨n, (List.range (k + 1)).map fun t => (t, undef), false⟩ pre = true
  okr : codeOK ⟨n, (List.range (k + 1) ++ [tn, ti]).map fun t => (t, undef), false⟩ R1 = true
  okc : cs.all (fun c => codeOK ⟨n, (List.range (k + 1) ++ [tn, ti]).map fun t => (t, undef), false⟩ c) = true
  oki : codeOK ⟨n, (List.range (k + 1) ++ [tn]).map fun t => (t, undef), false⟩ INC = true
  y : YReg P n args wr Y tN
  p : XS P T mv [pre] ⟨relE 1 rels, [], 0, [], []⟩ fun s => getE s.env tn = .int .i64 N ∧ getE s.env ti = .int .i64 0
  r : ∀ i : Nat, XS P T mv [R1] ⟨[(ti, .int .i64 i), (tn, .int .i64 N)], [], 0, [], []⟩ fun s => getE s.env tc = .bool (decide ((i : Int) < N))
  c : ∀ (i : Nat) (Q : τ → Prop), (i : Int) < N → (row i).run Q → XS P T mv cs ⟨(ti, .int .i64 i) :: relE 1 rels, [], 0, [], []⟩ fun s => ∃ x, Q x ∧ all2 (GiveS T s) args (em x)
  i : ∀ i : Nat, (i : Int) < N → XS P T mv [INC] ⟨[(ti, .int .i64 i)], [], 0, [], []⟩ fun s => getE s.env ti = .int .i64 ((i : Int) + 1)
theorem AIter.count (HT : tabOK P T = true) (hm : P.follows .mixedOrders = true) {gf : FuncId} {fn : Func} {n k ti tn tc tN b0 b1 : Nat} {args wr : List Nat} {rels : List (TypeId × List AV)} {cs : List (List AV)} {N : Int} {pre R1 Y INC : Code} {ps : List Code} {τ : Type} {em : τ → List AV} {row : Nat → W τ}
    (hf : P.funcs[gf]? = some fn) (hname : (fn.name == "runtime.NumGoroutine") = false) (hres : fn.results = #[]) (hn : fn.ntmps = n)
    (hbody : fn.body = some (.seq pre (.block b0 (.loop (.seq R1 (.seq (.cond (.tmp tc) .skip (.exit b0)) (.seq (.block b1 (seqs ps (.seq Y (.cond (.tmp tN) .ret .skip)))) INC)))))))
    (hrel : all2 (fun p c => ∃ cks, ckOf T p.1 = some cks ∧ 0 < cks.length ∧ zcs cks c = some p.2) rels cs) (hk : rels.length = k) (hN : 0 ≤ N)
    (H : ItOK P T mv n k ti tn tc tN args wr rels N pre R1 Y INC ps em row) : AIter P T gf cs em ((List.range N.toNat).map row) := by
  refine ⟨⟨fn, hf, by rw [hbody]; rfl, hname⟩, fun bs w l J hg hc hy h0 => ?_⟩
  have hlen : bs.length = k := by rw [← hk, (hc 0 w h0).1]; exact (all2_len hrel).symm
  have hn0 : n ≠ 0 := by have := H.kn; omega
  obtain ⟨FL, hFL⟩ : ∃ FL : List (Nat × Value), FL = (0, .func (.yield l) #[] #[]) :: ptrFL 1 bs := ⟨_, rfl⟩
  have hFLk : ∀ p ∈ FL, p.1 < k + 1 := fun p hp => by
    rw [hFL] at hp
    rcases List.mem_cons.1 hp with rfl | hp
    · exact Nat.succ_pos _
    · obtain ⟨j, b, h1, rfl⟩ := ptrFL_mem hp
      have := (List.getElem?_eq_some_iff.1 h1).1
      show 1 + j < k + 1
      omega
  have hwr : ∀ t, t ∈ List.range (k + 1) ++ [tn, ti] → t ∉ wr := fun t ht q => by
    have := List.all_eq_true.1 H.wq t ht
    rw [memN_iff.2 q] at this; cases this
  -- the captured boxes, read
  have hcap : ∀ {i : Nat} {W : World} {a : Act} {env : List (Nat × AV)} {FL' : List (Nat × Value)}, J i W → (∀ p ∈ FL, a.tmps.getD p.1 undef = p.2) → ∀ p ∈ relE 1 rels, RpE T (frCx ⟨n, FL', false⟩ W) ⟨env, [], 0, [], []⟩ W p.2 (a.tmps.getD p.1 undef) := by
    intro i W a env FL' hj ha p hp
    obtain ⟨j, q, h1, rfl⟩ := relE_mem hp
    obtain ⟨c, h2, cks, h3, h4, h5⟩ := all2_get hrel h1
    have hjl : j < bs.length := by
      have := (List.getElem?_eq_some_iff.1 h1).1
      omega
    have hb := List.getElem?_eq_getElem hjl
    obtain ⟨vs, h6, h7⟩ := (hc i W hj).2 j _ c hb h2
    have hv := ha _ (by rw [hFL]; exact List.mem_cons_of_mem _ (ptrFL_get (i := 1) hb))
    dsimp only at hv
    rw [hv]
    refine ⟨Nat.zero_lt_one, bs[j], 0, 1, cks, h3, cap_rel h3 h4 h5 ?_ h6 (all2_mono (fun _ _ h => h.keep (fun _ _ _ => rfl) fun b _ hX => ?_) h7), by simp⟩
    · rintro (h | ⟨id, h⟩)
      · exact h
      · cases h
    · rcases hX with h | ⟨id, h⟩
      · exact h
      · cases h
  obtain ⟨Inv, hInv⟩ : ∃ Inv : Nat → Act → World → Prop, Inv = fun (i : Nat) (a : Act) (W : World) => (i : Int) ≤ N ∧ J i W ∧ a.tmps.size = n ∧ a.defers = [] ∧ (∀ p ∈ FL, a.tmps.getD p.1 undef = p.2) ∧ a.tmps.getD tn undef = Value.int .i64 N ∧ a.tmps.getD ti undef = Value.int .i64 (i : Int) := ⟨_, rfl⟩
  refine callsIn_Wd.1 (callsIn_of_wp (F := Wd none) (n := 0) hf hbody trivial ?_)
  rw [hn]
  obtain ⟨a0, ha0⟩ : ∃ a0 : Act, a0 = { tmps := #[.func (.yield l) #[] #[]] ++ (bs.map fun b => Value.pointer (some ⟨b, 0, none⟩)).toArray ++ Array.replicate (n - (#[Value.func (.yield l) #[] #[]] ++ (bs.map fun b => Value.pointer (some ⟨b, 0, none⟩)).toArray).size) undef, defers := [] } := ⟨_, rfl⟩
  rw [← ha0]
  have hsz0 : a0.tmps.size = n := by
    rw [ha0]
    simp [hlen]
    have := H.kn
    omega
  have hF0 : ∀ p ∈ FL, p.1 < n ∧ a0.tmps.getD p.1 undef = p.2 := fun p hp => by
    have h1 := hFLk p hp
    have h2 := H.kn
    refine ⟨by omega, ?_⟩
    rw [hFL] at hp
    rw [ha0, Array.getD_eq_getD_getElem?]
    rcases List.mem_cons.1 hp with rfl | hp
    · show Option.getD _ _ = _
      rw [Array.getElem?_append_left (by simp), Array.getElem?_append_left (by simp)]
      rfl
    · obtain ⟨j, b, h3, rfl⟩ := ptrFL_mem hp
      have h4 := (List.getElem?_eq_some_iff.1 h3)
      obtain ⟨h5, h6⟩ := h4
      rw [Array.getElem?_append_left (by simp; omega), Array.getElem?_append_right (by simp)]
      simp [h3]
  have hd0 : a0.defers = [] := by rw [ha0]
  have hks0 : ∀ p ∈ FL, p.1 ∈ List.range (k + 1) := fun p hp => List.mem_range.2 (hFLk p hp)
  show (seqs [pre] _).wpIn (Wd none) 0 P _ a0 w
  refine run_part HT hm hn0 (by simp only [List.all_cons, List.all_nil, Bool.and_true]; exact H.okp) hks0 hsz0 hd0 hF0 (hcap h0 fun p hp => (hF0 p hp).2) H.p fun C1 s1 a1 W1 g1 z1 d1 f1 c1 _ k1 => ?_
  obtain ⟨kn1, ki1⟩ := k1
  refine wpIn_block ?_
  have hI0 : Inv 0 a1 W1 := by
    rw [hInv]
    exact ⟨by simpa using hN, hg _ _ _ h0 g1, z1, d1, f1, getE_int c1 kn1, getE_int c1 ki1⟩
  refine wpIn_loop (fun a W => ∃ i, Inv i a W) (fun a _ => match a.tmps.getD ti undef with | .int _ i => (N - i).toNat | _ => 0) ⟨0, hI0⟩ ?_
  rintro a W ⟨i, hi⟩
  rw [hInv] at hi
  obtain ⟨hiN, hj, hsz, hd, hF, htn, hti⟩ := hi
  obtain ⟨FL2, hFL2⟩ : ∃ FL2 : List (Nat × Value), FL2 = FL ++ [(tn, .int .i64 N), (ti, .int .i64 (i : Int))] := ⟨_, rfl⟩
  have hks2 : ∀ p ∈ FL2, p.1 ∈ List.range (k + 1) ++ [tn, ti] := fun p hp => by
    rw [hFL2] at hp
    rcases List.mem_append.1 hp with hp | hp
    · exact List.mem_append_left _ (hks0 p hp)
    · refine List.mem_append_right _ ?_
      simp only [List.mem_cons, List.not_mem_nil, or_false] at hp ⊢
      rcases hp with rfl | rfl
      · exact .inl rfl
      · exact .inr rfl
  have hlt2 : ∀ p ∈ FL2, p.1 < n := fun p hp => by
    have h1 := hks2 p hp
    have h2 := H.kn
    have h3 := H.ks
    simp only [List.mem_append, List.mem_range, List.mem_cons, List.not_mem_nil, or_false] at h1
    rcases h1 with h1 | h1 | h1 <;> omega
  have hF2 : ∀ p ∈ FL2, a.tmps.getD p.1 undef = p.2 := fun p hp => by
    rw [hFL2] at hp
    rcases List.mem_append.1 hp with hp | hp
    · exact hF p hp
    · simp only [List.mem_cons, List.not_mem_nil, or_false] at hp
      rcases hp with rfl | rfl
      · exact htn
      · exact hti
  show (seqs [R1] _).wpIn (Wd none) 0 P _ a W
  refine run_part HT hm hn0 (by simp only [List.all_cons, List.all_nil, Bool.and_true]; exact H.okr) hks2 hsz hd (fun p hp => ⟨hlt2 p hp, hF2 p hp⟩) (fun p hp => ?_) (H.r i) fun C2 s2 a2 W2 g2 z2 d2 f2 c2 _ k2 => ?_
  · simp only [List.mem_cons, List.not_mem_nil, or_false] at hp
    rcases hp with rfl | rfl
    · rw [hti]; exact rfl
    · rw [htn]; exact rfl
  have htc := getE_bool c2 k2
  have mem2 : ∀ p ∈ FL, p ∈ FL2 := fun p hp => by rw [hFL2]; exact List.mem_append_left _ hp
  have memn : (tn, Value.int .i64 N) ∈ FL2 := by rw [hFL2]; exact List.mem_append_right _ (by simp)
  have memi : (ti, Value.int .i64 (i : Int)) ∈ FL2 := by rw [hFL2]; exact List.mem_append_right _ (by simp)
  refine wpIn_seq (wpIn_cond_split (c := .tmp tc) (t := decide ((i : Int) < N)) htc (fun hb => wpIn_skip ?_) (fun hb => wpIn_exit ?_))
  · have hlt : (i : Int) < N := by simpa using hb
    have hj2 := hg _ _ _ hj g2
    refine wpIn_seq (wpIn_block ?_)
    have hrow : ((List.range N.toNat).map row)[i]? = some (row i) := by
      rw [List.getElem?_map, List.getElem?_range (by omega)]; rfl
    have hyi := hy i (row i) W2 hrow hj2
    refine run_part HT hm hn0 H.okc hks2 z2 d2 (fun p hp => ⟨hlt2 p hp, f2 p hp⟩) (fun p hp => ?_) (H.c i _ hlt hyi) fun C3 s3 a3 W3 g3 z3 d3 f3 c3 G3 k3 => ?_
    · rcases List.mem_cons.1 hp with rfl | hp
      · have := f2 _ memi
        dsimp only at this
        rw [this]; exact rfl
      · exact hcap hj2 (fun p hp => f2 p (mem2 p hp)) p hp
    obtain ⟨x, hx, hgv⟩ := k3
    have hyx := hx W3 (args.map fun t => a3.tmps.getD t undef) g3 (all2_give c3 G3 hgv)
    have hmemy : (0, Value.func (.yield l) #[] #[]) ∈ FL2 := mem2 _ (by rw [hFL]; exact List.mem_cons_self ..)
    refine wpIn_seq (H.y z3 (f3 _ hmemy) (all2_self args) (yieldMono hyx fun e W4 q => ⟨q.1, fun a4 z4 d4 f4 hN4 => ?_⟩))
    have hj4 := q.2
    refine wpIn_cond_false (c := .tmp tN) hN4 (wpIn_skip ?_)
    have F4 : ∀ p ∈ FL2, a4.tmps.getD p.1 undef = p.2 := fun p hp => (f4 p.1 (hwr p.1 (hks2 p hp))).trans (f3 p hp)
    obtain ⟨FL3, hFL3⟩ : ∃ FL3 : List (Nat × Value), FL3 = FL ++ [(tn, .int .i64 N)] := ⟨_, rfl⟩
    have h32 : ∀ p ∈ FL3, p ∈ FL2 := fun p hp => by
      rw [hFL3] at hp
      rcases List.mem_append.1 hp with hp | hp
      · exact mem2 p hp
      · simp only [List.mem_cons, List.not_mem_nil, or_false] at hp
        subst hp; exact memn
    have hi4 := F4 _ memi
    dsimp only at hi4
    show INC.wpIn (Wd none) 0 P _ a4 W4
    refine run_one HT hm hn0 H.oki (fun p hp => ?_) z4 (d4.trans d3) (fun p hp => ⟨hlt2 p (h32 p hp), F4 p (h32 p hp)⟩) (fun p hp => ?_) (H.i i hlt) fun C5 s5 a5 W5 g5 z5 d5 f5 c5 _ k5 => ?_
    · rw [hFL3] at hp
      rcases List.mem_append.1 hp with hp | hp
      · exact List.mem_append_left _ (hks0 p hp)
      · simp only [List.mem_cons, List.not_mem_nil, or_false] at hp
        subst hp
        exact List.mem_append_right _ (List.mem_cons_self ..)
    · simp only [List.mem_cons, List.not_mem_nil, or_false] at hp
      subst hp
      rw [hi4]; exact rfl
    · have hi5 := getE_int c5 k5
      · refine ⟨⟨i + 1, ?_⟩, ?_⟩
        · rw [hInv]
          refine ⟨by omega, hg _ _ _ hj4 g5, z5, d5, fun p hp => f5 p (by rw [hFL3]; exact List.mem_append_left _ hp), ?_, ?_⟩
          · exact f5 (tn, .int .i64 N) (by rw [hFL3]; exact List.mem_append_right _ (List.mem_cons_self ..))
          · rw [hi5]; rfl
        · rw [hi5, hti]
          show (N - ((i : Int) + 1)).toNat < (N - (i : Int)).toNat
          omega
  · have hiN' : i = N.toNat := by
      have : ¬ (i : Int) < N := by simpa using hb
      omega
    subst hiN'
    simp only [Exit.then, Exit.inBlock, if_true]
    refine ⟨d2, _, run_noresults hres _, ⟨_, rfl⟩, ?_⟩
    rw [List.length_map, List.length_range]
    exact hg _ _ _ hj g2
end
end Go.Proofs.Ytgeedlfnjneeiaa.VX

namespace Go.Proofs.Ytgeedlfnjneeiaa.VX
variable {P : Program} {T : Tab}
theorem ACalls.add64 {f : FuncId} {fn : Func} {x y c : Int} {Q : Int × Int → Prop} {R : AV → List AB → Prop} (hf : P.funcs[f]? = some fn) (h1 : (fn.name == "runtime.NumGoroutine") = false) (h2 : fn.body.isNone = true) (h3 : Extern.findNext fn = none) (h4 : Extern.find fn = some add64Entry)
    (h : (W.need (0 ≤ x ∧ 0 ≤ y ∧ 0 ≤ c ∧ c ≤ 1) (W.ret ((x + y + c) % 18446744073709551616, (x + y + c) / 18446744073709551616))).run Q) (k : ∀ r, Q r → R (.tup [.int .u64 r.1, .int .u64 r.2]) []) :
    ACalls P T f [.int .u64 x, .int .u64 y, .int .u64 c] [] R := by
  refine ⟨fun C w vals hp hs ha => .inr ?_⟩
  obtain ⟨⟨g1, g2, g3, g4⟩, h⟩ := W.run_need.1 h
  match vals, ha with
  | [v1, v2, v3], ⟨e1, e2, e3, _⟩ =>
  have e1 : v1 = .int .u64 x := e1
  have e2 : v2 = .int .u64 y := e2
  have e3 : v3 = .int .u64 c := e3
  subst e1 e2 e3
  refine ⟨.tuple #[.int .u64 ((x + y + c) % 18446744073709551616), .int .u64 ((x + y + c) / 18446744073709551616)], ?_, .tup [.int .u64 ((x + y + c) % 18446744073709551616), .int .u64 ((x + y + c) / 18446744073709551616)], [], _, C, rfl, k _ h, KeepC.refl C, hs, ⟨_, rfl, And.intro rfl (And.intro rfl trivial)⟩, Nat.le_refl _⟩
  rw [run_callFunc_extern hf h1 h2 h3 h4, run_add64 x y c g1 g2 g3 g4]
  rfl
/-- math/bits.Add64 -/
def g_math_bits_Add64 (x y c : Int) : W (Int × Int) := W.need (0 ≤ x ∧ 0 ≤ y ∧ 0 ≤ c ∧ c ≤ 1) (W.ret ((x + y + c) % 18446744073709551616, (x + y + c) / 18446744073709551616))
end Go.Proofs.Ytgeedlfnjneeiaa.VX

namespace Go.Proofs.Ytgeedlfnjneeiaa.VX
def posL (r c : Nat) : List (Int × Int) := (List.range r).flatMap fun (y : Nat) => (List.range c).map fun (x : Nat) => ((y : Int), (x : Int))
theorem posL_succ (r c : Nat) : posL (r + 1) c = posL r c ++ (List.range c).map fun (x : Nat) => ((r : Int), (x : Int)) := by
  unfold posL
  rw [List.range_succ, List.flatMap_append]
  simp
theorem posL_len : ∀ (r c : Nat), (posL r c).length = r * c
  | 0, c => by simp [posL]
  | r + 1, c => by rw [posL_succ, List.length_append, posL_len r c, List.length_map, List.length_range, Nat.succ_mul]
theorem posL_get : ∀ (r c y x : Nat), y < r → x < c → (posL r c)[y * c + x]? = some ((y : Int), (x : Int))
  | r + 1, c, y, x, hy, hx => by
    rw [posL_succ]
    by_cases e : y = r
    · subst e
      rw [List.getElem?_append_right (by rw [posL_len]; omega), posL_len, Nat.add_sub_cancel_left, List.getElem?_map, List.getElem?_range hx]
      rfl
    · have hlt : y * c + x < r * c := by
        have : (y + 1) * c ≤ r * c := Nat.mul_le_mul_right c (by omega)
        rw [Nat.succ_mul] at this
        omega
      rw [List.getElem?_append_left (by rw [posL_len]; exact hlt)]
      exact posL_get r c y x (by omega) hx
/-- What window.Positions gives; when it is known to. -/
def posW (r c : Int) : List (W (Int × Int)) := (posL r.toNat c.toNat).map W.ret
def posOK (r c : Int) : Prop := r ≤ 1000000 ∧ c ≤ 1000000
/-- A number, as one. -/
def vI : Value → Nat
  | .int _ n => n.toNat
  | _ => 0
end Go.Proofs.Ytgeedlfnjneeiaa.VX
