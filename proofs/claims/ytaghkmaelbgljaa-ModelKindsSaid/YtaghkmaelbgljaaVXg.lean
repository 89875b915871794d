/- Appends. -/
import Derived.Test.YtaghkmaelbgljaaVXf
import Derived.Deep.Upon
namespace Go.Proofs.Ytaghkmaelbgljaa.VX
section
variable {P : Program} {T : Tab} {C : Cx} {s : St} {a : Act} {w w' : World}

/-- The cells of elements that lie in a block, in a row. -/
theorem flat_of_rows {X : Nat → Prop} {g o : Nat} {cks : List CK} (hp : 0 < cks.length) {l : List (List AV)} (h : RowsRep T w X g o cks l) :
    ∃ us : List Value, us.length = l.length * cks.length ∧ w.rangeAt g o us ∧ Flat T w X cks l us ∧ ∀ u ∈ us, u.oneCell' = true := by
  have key : ∀ i j, i < l.length → j < cks.length → ∃ v x c, w.cell? ⟨g, o + (i * cks.length + j), none⟩ = some v ∧ (l[i]?.getD [])[j]? = some x ∧ cks[j]? = some c ∧ RepC T w X c x v := fun i j hi hj => by
    obtain ⟨hl, hr⟩ := h i _ (List.getElem?_eq_getElem hi)
    obtain ⟨v, hv, hrep⟩ := hr j _ _ (List.getElem?_eq_getElem (by omega)) (List.getElem?_eq_getElem hj)
    exact ⟨v, _, _, hv, by rw [List.getElem?_eq_getElem hi]; simp [hl, hj], List.getElem?_eq_getElem hj, hrep⟩
  refine ⟨(List.range (l.length * cks.length)).map fun k => (w.cell? ⟨g, o + k, none⟩).getD undef, by simp, fun j v hv => ?_, fun i r hr => ?_, fun u hu => ?_⟩
  · rw [List.getElem?_map] at hv
    cases hj : (List.range (l.length * cks.length))[j]? with
    | none => simp [hj] at hv
    | some j' =>
      have hj2 := List.getElem?_eq_some_iff.1 hj
      obtain ⟨hlt, he⟩ := hj2
      simp at he hlt
      subst he
      rw [hj] at hv
      simp only [Option.map_some, Option.some.injEq] at hv
      have hdiv : j / cks.length < l.length := Nat.div_lt_of_lt_mul (by rw [Nat.mul_comm]; exact hlt)
      obtain ⟨v', _, _, hv', _⟩ := key (j / cks.length) (j % cks.length) hdiv (Nat.mod_lt _ hp)
      rw [Nat.mul_comm, Nat.div_add_mod] at hv'
      rw [hv'] at hv ⊢
      simpa using hv
  · have hi : i < l.length := (List.getElem?_eq_some_iff.1 hr).1
    refine ⟨(h i r hr).1, fun j x c hx hc => ?_⟩
    have hj : j < cks.length := (List.getElem?_eq_some_iff.1 hc).1
    obtain ⟨v, x', c', hv, hx', hc', hrep⟩ := key i j hi hj
    rw [hr] at hx'
    simp only [Option.getD_some] at hx'
    rw [hx] at hx'
    rw [hc] at hc'
    injection hx' with hx'
    injection hc' with hc'
    subst hx' hc'
    have hb : i * cks.length + j < l.length * cks.length := by
      have : (i + 1) * cks.length ≤ l.length * cks.length := Nat.mul_le_mul_right _ hi
      rw [Nat.add_mul] at this
      omega
    exact ⟨v, by simp [hb, hv], hrep⟩
  · simp only [List.mem_map, List.mem_range] at hu
    obtain ⟨k, hk, rfl⟩ := hu
    have hdiv : k / cks.length < l.length := Nat.div_lt_of_lt_mul (by rw [Nat.mul_comm]; exact hk)
    obtain ⟨v', _, _, hv', _, _, hrep⟩ := key (k / cks.length) (k % cks.length) hdiv (Nat.mod_lt _ hp)
    rw [Nat.mul_comm, Nat.div_add_mod] at hv'
    rw [hv']
    exact hrep.one

/-- The source of an append. -/
structure SrcOK (P : Program) (T : Tab) (C : Cx) (s : St) (w : World) (cks : List CK) (tx : TypeId) (v : Value) (l : List (List AV)) (us : List Value) : Prop where
  src : Src P cks.length tx v l.length us w
  flat : Flat T w (XB C s.heap) cks l us

theorem src_slice {tx e' : TypeId} (hu : P.underlying tx = some (.slice e')) {cks : List CK} {g o n c : Nat} {l : List (List AV)} {us : List Value} (hn : n = l.length) (h1 : us.length = l.length * cks.length) (h2 : w.rangeAt g o us) (h3 : Flat T w (XB C s.heap) cks l us) (h4 : ∀ u ∈ us, u.oneCell' = true) :
    SrcOK P T C s w cks tx (.slice (some ⟨g, o, none⟩) n c) l us := by
  subst hn
  exact ⟨Src.ofSlice w hu ⟨g, o, none⟩ l.length c us h1 (fun j u hj => by rw [add_mk]; exact h2 j u hj) h4, h3⟩
theorem src_empty {tx e' : TypeId} (hu : P.underlying tx = some (.slice e')) {cks : List CK} {ad : Option Addr} {c : Nat} : SrcOK P T C s w cks tx (.slice ad 0 c) [] [] := by
  refine ⟨?_, fun i r h => by simp at h⟩
  cases ad with
  | none => exact Src.ofNil w hu c
  | some ad => exact Src.ofSlice w hu ad 0 c [] (by simp) (fun j u h => by simp at h) (fun u h => by cases h)

theorem newRows_sound (HT : tabOK P T = true) (hc : CS T C s a w) {e tx : TypeId} {cks : List CK} (hk : ckOf T e = some cks) (hp : 0 < cks.length) {x : AV} {l : List (List AV)} (h : newRows T e s.heap x = some l) (hf : fitsT T tx x = true) {v : Value} (hv : RpS T C s w x v) :
    ∃ us, SrcOK P T C s w cks tx v l us := by
  have rows : ∀ {b t' l'}, rowsOf s.heap x = some (b, t', l') → (∀ q, x ≠ .str q) → (bif Nat.beq t' e then some l' else none) = some l → ∃ us, SrcOK P T C s w cks tx v l us := fun {b t' l'} hr hns hl => by
    obtain ⟨e', hu⟩ := fitsT_sl (P := P) HT hns hf
    cases ht : Nat.beq t' e with
    | false => simp [ht] at hl
    | true =>
      simp only [ht, cond_true] at hl
      injection hl with hl
      subst hl
      have ht := beq_nat ht
      subst ht
      cases x <;> simp only [rowsOf] at hr
      all_goals try (cases hr; done)
      case sl b' t2 l2 =>
        injection hr with hr; injection hr with e1 e2; injection e2 with e2 e3; subst e1 e2 e3
        have hrp := rp_sl hv
        cases hrp with
        | em _ _ ad cap hb => exact ⟨[], src_empty hu⟩
        | sl _ cks' _ g o cap vals hk' hp' hne hX hle hlen hcell hval =>
          obtain ⟨us, h1, h2, h3, h4⟩ := flat_of_rows hp (RepC.rows (RepC.sl t2 cks' l2 g o cap vals hk' hp' hne hX hle hlen hcell hval) hk)
          exact ⟨us, src_slice hu rfl h1 h2 h3 h4⟩
      case own id =>
        cases hb : getB s.heap id with
        | gone => simp [hb] at hr
        | box _ _ => simp [hb] at hr
        | arr wr t2 b2 l2 =>
          rw [hb] at hr
          injection hr with hr; injection hr with e1 e2; injection e2 with e2 e3; subst e1 e2 e3
          obtain ⟨_, rfl⟩ := rp_own hv hb
          obtain ⟨cks', hk', _, _, _, hrow⟩ := arr_facts hc hb
          rw [hk] at hk'
          injection hk' with hk'
          subst hk'
          by_cases hne : l2 = []
          · subst hne; exact ⟨[], src_empty hu⟩
          · obtain ⟨g, o, hbase, hrow⟩ := hrow hne
            obtain ⟨us, h1, h2, h3, h4⟩ := flat_of_rows hp hrow
            simp only [hdr, hbase]
            exact ⟨us, src_slice hu rfl h1 h2 h3 h4⟩
      case vw id lo n =>
        cases hb : getB s.heap id with
        | gone => simp [hb] at hr
        | box _ _ => simp [hb] at hr
        | arr wr t2 b2 l2 =>
          rw [hb] at hr
          injection hr with hr; injection hr with e1 e2; injection e2 with e2 e3; subst e1 e2 e3
          obtain ⟨_, ad, c, rfl, hnc, hlen, hnn, hz, hpos⟩ := rp_vw hv hb
          obtain ⟨cks', hk', _, _, _, hrow⟩ := arr_facts hc hb
          rw [hk] at hk'
          injection hk' with hk'
          subst hk'
          by_cases hn0 : n = 0
          · subst hn0
            simp only [List.take_zero]
            exact ⟨[], src_empty hu⟩
          · obtain ⟨g, o, cks', hbase, hk', rfl⟩ := hpos (by omega)
            rw [hk] at hk'
            injection hk' with hk'
            subst hk'
            obtain ⟨g', o', hbase', hrow⟩ := hrow (fun e => by subst e; simp at hlen; omega)
            rw [hbase] at hbase'
            injection hbase' with hbase'
            injection hbase' with e1 e2 _
            subst e1 e2
            have hl' : ((l2.drop lo).take n).length = n := by simp; omega
            have hrow' : RowsRep T w (XB C s.heap) g (o + lo * cks.length) cks ((l2.drop lo).take n) := by
              intro i r he
              rw [List.getElem?_take] at he
              split at he
              · rw [List.getElem?_drop] at he
                obtain ⟨h1, h2⟩ := hrow (lo + i) r he
                refine ⟨h1, fun j x c hx hcc => ?_⟩
                obtain ⟨v, hv, hr⟩ := h2 j x c hx hcc
                refine ⟨v, ?_, hr⟩
                rw [← hv]
                congr 2
                rw [Nat.add_mul]; omega
              · cases he
            obtain ⟨us, h1, h2, h3, h4⟩ := flat_of_rows hp hrow'
            exact ⟨us, src_slice hu hl'.symm h1 h2 h3 h4⟩
  unfold newRows at h
  split at h
  · injection h with h; subst h
    obtain ⟨e', hu⟩ := fitsT_sl (P := P) HT (fun q => by simp) hf
    have e1 : v = .slice none 0 0 := hv
    subst e1; exact ⟨[], src_empty hu⟩
  · injection h with h; subst h
    obtain ⟨e', hu⟩ := fitsT_sl (P := P) HT (fun q => by simp) hf
    obtain ⟨ad, rfl, _⟩ := hv
    exact ⟨[], src_empty hu⟩
  · rename_i q
    rw [hk] at h
    split at h
    · rename_i hck
      injection hck with hck
      injection h with h
      subst hck h
      have e1 : v = .string q := hv
      subst e1
      refine ⟨byteCells q, ⟨by simpa [byteCells_length] using Src.ofString w (fitsT_str HT hf) q, fun i r hr => ?_⟩⟩
      rw [List.getElem?_map] at hr
      cases hb : q.data.toList[i]? with
      | none => rw [hb] at hr; cases hr
      | some b =>
        rw [hb] at hr
        injection hr with hr
        subst hr
        refine ⟨rfl, fun j x c hx hc => ?_⟩
        cases j with
        | succ j => simp at hc
        | zero =>
          simp at hx hc
          subst hx hc
          refine ⟨.int .u8 b.toNat, ?_, .int .u8 _⟩
          simp only [List.length_cons, List.length_nil, Nat.zero_add, Nat.mul_one, Nat.add_zero, byteCells, List.getElem?_map, hb, Option.map_some]
    · cases h
  · rename_i hn1 hn2 hn3
    cases hr : rowsOf s.heap x with
    | none => simp [hr] at h
    | some q =>
      obtain ⟨b, t', l'⟩ := q
      rw [hr] at h
      exact rows hr (fun q e => hn3 q e) h

def St.put2 (s : St) (id : Nat) (b : AB) : St := ⟨s.env, (s.nx, b) :: (id, .gone) :: s.heap, s.nx + 1, s.gs, s.kn⟩

/-- An own slice that is given up. -/
theorem CS.kill (hc : CS T C s a w) (id : Nat) : CS T C (s.set id .gone) a w ∧ Ext C s w C (s.set id .gone) w := by
  have hle : ∀ i g, ownB C (s.set id .gone).heap i = some g → i ≠ id ∧ ownB C s.heap i = some g := fun i g h => by
    by_cases e : i = id
    · subst e; simp [ownB, St.set, getB_cons] at h
    · simp only [ownB, St.set, getB_cons, e, if_false] at h; exact ⟨e, h⟩
  have E : Ext C s w C (s.set id .gone) w := by
    refine ⟨fun _ _ _ => rfl, fun g _ hx => ?_, Nat.le_refl _, fun _ _ => ⟨rfl, rfl, rfl⟩, fun i hi wr' t' b' l' h => ?_⟩
    · rcases hx with hx | ⟨i, hx⟩
      · exact .inl hx
      · exact .inr ⟨i, (hle i g hx).2⟩
    · by_cases e : i = id
      · subst e; simp [St.set, getB_cons] at h
      · simp only [St.set, getB_cons, e, if_false] at h
        exact ⟨wr', b', l', h, rfl⟩
  refine ⟨hc.heap E rfl rfl rfl (fun i => ?_) (fun i hi => ?_) (fun i i' g h h' => hc.inj i i' g (hle i g h).2 (hle i' g h').2) (fun i g h => hc.own i g (hle i g h).2) (Nat.le_refl _) (fun _ _ => rfl) ⟨rfl, rfl, rfl, rfl, rfl⟩ ⟨rfl, rfl, rfl⟩, E⟩
  · by_cases e : i = id
    · subst e; right; simp only [St.set, getB_cons, if_true]; trivial
    · by_cases hlt : i < s.nx
      · left; exact ⟨hlt, by simp only [St.set, getB_cons, e, if_false], fun _ _ => rfl⟩
      · right; simp only [St.set, getB_cons, e, if_false]; rw [hc.nx i (by omega)]; trivial
  · by_cases e : i = id
    · subst e; simp [St.set, getB_cons]
    · simp only [St.set, getB_cons, e, if_false]
      exact hc.nx i (by simpa [St.set] using hi)

theorem Flat.append {X : Nat → Prop} {cks : List CK} {l l' : List (List AV)} {us us' : List Value} (h : Flat T w X cks l us) (h' : Flat T w X cks l' us') (hl : us.length = l.length * cks.length) (rest : List Value) : Flat T w X cks (l ++ l') (us ++ us' ++ rest) := by
  intro i r hr
  by_cases hi : i < l.length
  · rw [List.getElem?_append_left hi] at hr
    obtain ⟨h1, h2⟩ := h i r hr
    refine ⟨h1, fun j x c hx hc => ?_⟩
    obtain ⟨v, hv, hrep⟩ := h2 j x c hx hc
    have hb := (List.getElem?_eq_some_iff.1 hv).1
    exact ⟨v, by rw [List.append_assoc, List.getElem?_append_left hb]; exact hv, hrep⟩
  · rw [List.getElem?_append_right (by omega)] at hr
    obtain ⟨h1, h2⟩ := h' _ r hr
    refine ⟨h1, fun j x c hx hc => ?_⟩
    obtain ⟨v, hv, hrep⟩ := h2 j x c hx hc
    have hb := (List.getElem?_eq_some_iff.1 hv).1
    have hm : i * cks.length = l.length * cks.length + (i - l.length) * cks.length := by rw [← Nat.add_mul]; congr 1; omega
    refine ⟨v, ?_, hrep⟩
    rw [List.append_assoc, List.getElem?_append_right (by omega), List.getElem?_append_left (by omega), ← hv]
    congr 1
    omega

/-- What is appended to: an own slice, from its head. -/
structure Dst (T : Tab) (C : Cx) (s : St) (w : World) (e : TypeId) (cks : List CK) (v : Value) (b : Bool) (l : List (List AV)) : Prop where
  ex : ∃ ad cap, v = .slice ad l.length cap ∧ l.length ≤ cap ∧ b = ad.isNone ∧
    ((cap = 0) ∨ (0 < cap ∧ b = false ∧ ∃ id g o wl, getB s.heap id = .arr true e b wl ∧ C.base id = some ⟨g, o, none⟩ ∧ C.cap id = cap ∧ ad = some ⟨g, o, none⟩ ∧ RowsRep T w (XB C s.heap) g o cks l ∧ w.there g o (cap * cks.length)))

theorem run_append_grow (w : World) {t tx ty e : TypeId} (hu : P.underlying t = some (.slice e)) {i : TypeInfo} (hi : P.info? e = some i) {z : Value} (hz : i.zero = some z) {ad : Option Addr} {n cap : Nat} {olds : List Value} (hol : olds.length = n * i.size) (hold : n = 0 ∨ ∃ g o, ad = some ⟨g, o, none⟩ ∧ w.rangeAt g o olds)
    {x : Value} {m : Nat} {us : List Value} (hs : Src P i.size tx x m us w) (hg : cap < n + m) (hb : (n + m) * i.bytes ≤ 70368744177664) (hb0 : 0 < i.bytes) :
    (Builtin.append_ #[t, tx] ty #[.slice ad n cap, x]).run P w = .ok (.slice (some ⟨w.heap.size, 0, none⟩) (n + m) (grownCap w (n + m) cap e))
        (w.drew.alloc (.cells ((olds ++ us).toArray ++ Builtin.zeroCells z.cells (grownCap w (n + m) cap e - (n + m))) e)) := by
  have h63 : n + m ≤ 70368744177664 := Nat.le_trans (Nat.le_mul_of_pos_right _ hb0) hb
  refine run_append_grow_src w t tx ty e i z hu hi hz ad n cap olds ?_ x m us hs hg (by omega) (growslice_fits hg (by omega))
  rcases hold with rfl | ⟨g, o, rfl, hr⟩
  · have : olds = [] := List.length_eq_zero_iff.1 (by omega)
    subst this
    cases ad with
    | none => exact run_firstCells_none _ _ _ _ _
    | some ad => exact run_firstCells_some _ _ _ _ _ _ _ (by simp) (fun j v h => by simp at h)
  · refine run_firstCells_some _ _ _ _ _ _ _ hol (fun j v hv => ?_)
    rw [add_mk]
    simpa using hr j v hv
end
end Go.Proofs.Ytaghkmaelbgljaa.VX
