/- The operations that only compute and read: slices, lengths, builds, picks; all of them. -/
import Derived.Test.YtaghkmaelbgljaaVX6
namespace Go.Proofs.Ytaghkmaelbgljaa.VX
section
variable {P : Program} {T : Tab} {C : Cx} {s : St} {a : Act} {w : World} {Hyp : Prop} {nd : Nd} {K : AV → Prop}

theorem run_bound (w : World) {k : IntKind} {n : Int} {y : Nat} (code : BoundsCode) (h0 : 0 ≤ n) (h1 : n ≤ y) : (Instr.sliceBound (.int k n) y code).run P w = .ok n.toNat w := by
  simp [Instr.sliceBound, asIntOf, h0, h1]

/-- lo and hi, as the operation has them. -/
def Ends (len : Nat) (lo hi : Option Value) (x y : Int) : Prop :=
  ((lo = none ∧ x = 0) ∨ ∃ k, lo = some (.int k x)) ∧ ((hi = none ∧ y = len) ∨ ∃ k, hi = some (.int k y))
theorem run_bounds (w : World) (isS : Bool) {len cap : Nat} {lo hi : Option Value} {x y : Int} (h : Ends len lo hi x y) (h0 : 0 ≤ x) (h1 : x ≤ y) (h2 : y ≤ len) (h3 : len ≤ cap) :
    (Instr.sliceBounds isS len cap lo hi none).run P w = .ok (x.toNat, y.toNat, cap) w := by
  obtain ⟨hl, hh⟩ := h
  have hy : (if isS = true then BoundsCode.sliceAcap else BoundsCode.sliceAlen) = (if isS = true then BoundsCode.sliceAcap else BoundsCode.sliceAlen) := rfl
  rcases hl with ⟨rfl, rfl⟩ | ⟨k, rfl⟩ <;> rcases hh with ⟨rfl, rfl⟩ | ⟨k', rfl⟩
  · simp [Instr.sliceBounds]
  · simp [Instr.sliceBounds, run_bound (P := P) w (k := k') (n := y) (y := cap) _ (by omega) (by omega)]
  · have := run_bound (P := P) w (k := k) (n := x) (y := len) .sliceB h0 (by omega)
    simp [Instr.sliceBounds, this]
  · have e1 := fun c => run_bound (P := P) w (k := k') (n := y) (y := cap) c (by omega) (by omega)
    have e2 := run_bound (P := P) w (k := k) (n := x) (y := y.toNat) .sliceB h0 (by omega)
    simp [Instr.sliceBounds, e1, e2]

theorem run_cut (w : World) {t e : TypeId} (hu : P.underlying t = some (.slice e)) {sz : Nat} (hs : (sizeOf e).run P w = .ok sz w) {ad : Option Addr} {len cap : Nat} {lo hi : Option Value} {x y : Int}
    (h : Ends len lo hi x y) (h0 : 0 ≤ x) (h1 : x ≤ y) (h2 : y ≤ len) (h3 : len ≤ cap) :
    (Instr.sliceAt t (.slice ad len cap) lo hi none).run P w = .ok (.slice (if cap = x.toNat then ad else ad.map (·.add (x.toNat * sz))) (y.toNat - x.toNat) (cap - x.toNat)) w := by
  simp only [Instr.sliceAt, Sem.run_bind, run_underlying hu, Result.andThen_ok, Instr.slice, run_bounds w true h h0 h1 h2 h3, hs, Sem.run_pure]
theorem run_cutStr (w : World) {t : TypeId} (hu : P.underlying t = some .string) {q : ByteArray} {lo hi : Option Value} {x y : Int} (h : Ends q.size lo hi x y) (h0 : 0 ≤ x) (h1 : x ≤ y) (h2 : y ≤ q.size) :
    (Instr.sliceAt t (.string q) lo hi none).run P w = .ok (.string (q.extract x.toNat y.toNat)) w := by
  simp [Instr.sliceAt, run_underlying hu, Instr.slice, run_bounds w false h h0 h1 h2 (Nat.le_refl _)]

theorem RepC.slice_at {X : Nat → Prop} {nb : Bool} {e : TypeId} {l : List (List AV)} {v : Value} (h : RepC T w X (.sl e) (.sl nb e l) v) : ∃ ad cap, v = .slice ad l.length cap ∧ l.length ≤ cap ∧ nb = ad.isNone := by
  cases h with
  | em _ _ ad cap hb => exact ⟨ad, cap, rfl, Nat.zero_le _, hb⟩
  | sl _ cks _ g o cap vals hk hp hne hX hle => exact ⟨_, _, rfl, hle, rfl⟩

theorem sub_rep {X : Nat → Prop} {nb : Bool} {e : TypeId} {l : List (List AV)} {ad : Option Addr} {cap : Nat} (h : RepC T w X (.sl e) (.sl nb e l) (.slice ad l.length cap)) {cks : List CK} (hk : ckOf T e = some cks)
    {x y : Nat} (h1 : x ≤ y) (h2 : y ≤ l.length) :
    RepC T w X (.sl e) (.sl nb e ((l.drop x).take (y - x))) (.slice (if cap = x then ad else ad.map (·.add (x * cks.length))) (y - x) (cap - x)) := by
  have hlen : ((l.drop x).take (y - x)).length = y - x := by simp; omega
  have hnone : nb = (if cap = x then ad else ad.map (·.add (x * cks.length))).isNone := by
    cases h with
    | em _ _ _ _ hb =>
      cases ad with
      | none => simp [hb]
      | some _ => rw [hb]; split <;> rfl
    | sl _ cks _ g o cap vals => split <;> rfl
  by_cases he : y - x = 0
  · have : (l.drop x).take (y - x) = [] := by rw [he]; rfl
    rw [this, he]
    exact .em e nb _ _ hnone
  · cases h with
    | em _ _ _ _ hb => simp at h2; omega
    | sl _ cks' _ g o cap vals hk' hp hne hX hle hl hcell hval =>
      rw [hk] at hk'
      injection hk' with hk'
      subst hk'
      have hcap : ¬ cap = x := by omega
      simp only [if_neg hcap, Option.map_some, add_mk]
      have key : RepC T w X (.sl e) (.sl false e ((l.drop x).take (y - x))) (.slice (some ⟨g, o + x * cks.length, none⟩) ((l.drop x).take (y - x)).length (cap - x)) := by
        refine .sl e cks _ g (o + x * cks.length) (cap - x) (fun i j => vals (x + i) j) hk hp (fun e' => ?_) hX (by omega) (fun i r hr => ?_) (fun i j hi hj => ?_) (fun i r j z c hr hz hc => ?_)
        · rw [e'] at hlen; simp at hlen; omega
        · rw [List.getElem?_take] at hr
          split at hr
          · rw [List.getElem?_drop] at hr; exact hl (x + i) r hr
          · cases hr
        · rw [hlen] at hi
          have := hcell (x + i) j (by omega) hj
          rw [← this]
          congr 2
          rw [Nat.add_mul]; omega
        · rw [List.getElem?_take] at hr
          split at hr
          · rw [List.getElem?_drop] at hr; exact hval (x + i) r j z c hr hz hc
          · cases hr
      rw [hlen] at key
      exact key
theorem RepC.ck {X : Nat → Prop} {nb : Bool} {e : TypeId} {l : List (List AV)} {v : Value} (h : RepC T w X (.sl e) (.sl nb e l) v) (hne : l ≠ []) : ∃ cks, ckOf T e = some cks := by
  cases h with
  | em => exact absurd rfl hne
  | sl _ cks _ g o cap vals hk => exact ⟨cks, hk⟩

theorem xcut_sound (HT : tabOK P T = true) (hc : CS T C s a w) (hnd : ∀ c X, nd c X → X ∧ (Hyp → c)) {t : TypeId} {x : AV} {p q : Int} (h : xcut T nd s.heap t x p q K) {v : Value} (hv : Hyp → RpS T C s w x v) {lo hi : Option Value}
    (hE : Hyp → ∀ n : Nat, lenOf' s.heap x = some (n : Int) → Ends n lo hi p q) : Ans P T C s w Hyp K (Instr.sliceAt t v lo hi none) := by
  unfold xcut at h
  cases x <;> simp only at h
  case own id =>
    cases hb : getB s.heap id with
    | gone => simp [hb] at h
    | box _ _ => simp [hb] at h
    | arr wr e b l =>
      rw [hb] at h
      simp only at h
      cases hs : isSl T t e with
      | false => simp [hs] at h
      | true =>
        simp only [hs, cond_true] at h
        obtain ⟨h, hn⟩ := hnd _ _ h
        refine .of h fun hh => ?_
        obtain ⟨h0, h1, h2⟩ := hn hh
        obtain ⟨cks, hk, hp, hle, _, hrow⟩ := arr_facts hc hb
        obtain ⟨hid, hv⟩ := rp_own (hv hh) hb
        subst hv
        have hE := hE hh l.length (by simp [lenOf', hb])
        refine ⟨_, fun w _ => run_cut w (isSl_some HT hs) (ckOf_size HT hk w).1 hE h0 h1 h2 hle, hid, ?_⟩
        rw [hb]
        refine ⟨_, _, by congr 1; omega, by omega, by omega, by split <;> simp, fun e0 => ?_, fun hpos => ?_⟩
        · rw [e0]
          simp only [Nat.zero_mul, Nat.sub_zero, and_true]
          split
          · rfl
          · cases C.base id <;> simp [Addr.add]
        · obtain ⟨g, o, hbase, _⟩ := hrow (fun e => by subst e; simp at h2; omega)
          refine ⟨g, o, cks, hbase, hk, ?_⟩
          rw [if_neg (by omega), hbase]
          simp [add_mk]
  case vw id l0 n =>
    cases hb : getB s.heap id with
    | gone => simp [hb] at h
    | box _ _ => simp [hb] at h
    | arr wr e b l =>
      rw [hb] at h
      simp only at h
      cases hs : isSl T t e with
      | false => simp [hs] at h
      | true =>
        simp only [hs, cond_true] at h
        obtain ⟨h, hn⟩ := hnd _ _ h
        refine .of h fun hh => ?_
        obtain ⟨h0, h1, h2⟩ := hn hh
        obtain ⟨cks, hk, hp, hle, _, hrow⟩ := arr_facts hc hb
        obtain ⟨hid, ad, c, hv, hnc, hlen, hnn, hz, hpos⟩ := rp_vw (hv hh) hb
        subst hv
        have hE := hE hh n (by simp [lenOf', hb])
        refine ⟨_, fun w _ => run_cut w (isSl_some HT hs) (ckOf_size HT hk w).1 hE h0 h1 h2 hnc, hid, ?_⟩
        rw [hb]
        refine ⟨_, _, by congr 1; omega, by omega, by omega, by split <;> simp [hnn], fun e0 => ?_, fun hp' => ?_⟩
        · have e1 : l0 = 0 := by omega
          have e2 : p.toNat = 0 := by omega
          obtain ⟨rfl, rfl⟩ := hz e1
          rw [e2]
          simp only [Nat.zero_mul, Nat.sub_zero, and_true]
          split
          · rfl
          · cases C.base id <;> simp [Addr.add]
        · obtain ⟨g, o, cks', hbase, hk', rfl⟩ := hpos (by omega)
          rw [hk] at hk'
          injection hk' with hk'
          subst hk'
          refine ⟨g, o, cks, hbase, hk, ?_⟩
          rw [if_neg (by omega)]
          simp only [Option.map_some, add_mk, Option.some.injEq, Addr.mk.injEq, and_true, true_and]
          rw [Nat.add_mul]; omega
  case sl nb e l =>
    cases hs : isSl T t e with
    | false => simp [hs] at h
    | true =>
      simp only [hs, cond_true] at h
      obtain ⟨h, hn⟩ := hnd _ _ h
      refine .of h fun hh => ?_
      obtain ⟨h0, h1, h2⟩ := hn hh
      have hr := rp_sl (hv hh)
      obtain ⟨ad, cap, rfl, hle, hnb⟩ := hr.slice_at
      have hE := hE hh l.length rfl
      have hU := isSl_some HT hs
      by_cases hne : l = []
      · subst hne
        have e1 : p.toNat = 0 := by simp at h2; omega
        have e2 : q.toNat = 0 := by simp at h2; omega
        obtain ⟨cks, hk⟩ := isSl_ck hs
        refine ⟨_, fun w _ => run_cut w hU (ckOf_size HT hk w).1 hE h0 h1 h2 hle, ?_⟩
        rw [e1, e2]
        simp only [List.drop_nil, List.take_nil]
        refine RepC.em e nb _ _ ?_
        rw [hnb]
        split <;> simp
      · obtain ⟨cks, hk⟩ := hr.ck hne
        refine ⟨_, fun w _ => run_cut w hU (ckOf_size HT hk w).1 hE h0 h1 h2 hle, ?_⟩
        have := sub_rep hr hk (x := p.toNat) (y := q.toNat) (by omega) (by omega)
        have e : (q - p).toNat = q.toNat - p.toNat := by omega
        rw [e]
        exact this
  case str z =>
    cases hs : isStr T t with
    | false => simp [hs] at h
    | true =>
      simp only [hs, cond_true] at h
      obtain ⟨h, hn⟩ := hnd _ _ h
      refine .of h fun hh => ?_
      obtain ⟨h0, h1, h2⟩ := hn hh
      have e1 : v = .string z := hv hh
      subst e1
      exact ⟨_, fun w _ => run_cutStr w (isStr_some HT hs) (hE hh z.size rfl) h0 h1 h2, rfl⟩
end
end Go.Proofs.Ytaghkmaelbgljaa.VX
