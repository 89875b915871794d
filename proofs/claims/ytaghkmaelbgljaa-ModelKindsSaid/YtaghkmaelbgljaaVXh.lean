/- Appends: what becomes of the state. -/
import Derived.Test.YtaghkmaelbgljaaVXg
namespace Go.Proofs.Ytaghkmaelbgljaa.VX
section
variable {P : Program} {T : Tab} {C : Cx} {s : St} {a : Act} {w w' : World}

/-- What an append comes to: the state behind it. -/
def AppOK (P : Program) (T : Tab) (C : Cx) (s0 : St) (a : Act) (w : World) (m : Sem Value) (blk : AB) : Prop :=
  ∃ C' val w', KeepC C C' ∧ m.run P w = .ok val w' ∧ CS T C' (s0.add blk) a w' ∧ RpS T C' (s0.add blk) w' (.own s0.nx) val

theorem app_none (hc0 : CS T C s a w) {e : TypeId} {cks : List CK} (hk : ckOf T e = some cks) (hp : 0 < cks.length) {ad : Option Addr} {b : Bool} (hb : b = ad.isNone) {m : Sem Value} (hr : m.run P w = .ok (.slice ad 0 0) w) :
    AppOK P T C s a w m (.arr true e b []) := by
  have hnone : ownB (C.at s.nx 0 ad 0) (s.add (.arr true e b [])).heap s.nx = none := by simp [ownB, St.add, getB_cons, Cx.at, upd_same]
  refine ⟨C.at s.nx 0 ad 0, .slice ad 0 0, w, KeepC.at _ _ _ _ _, hr, hc0.add (Nat.le_refl _) (fun _ _ => rfl) (fun g h => by rw [hnone] at h; cases h) ⟨cks, hk, hp, .inl ⟨rfl, by simp [Cx.at, upd_same], by simp [Cx.at, upd_same, hb]⟩⟩, Nat.lt_succ_self _, ?_⟩
  simp only [St.add, getB_cons, if_true, hdr, Cx.at, upd_same]
  rfl

theorem app_grow (HT : tabOK P T = true) {s0 : St} (hc0 : CS T C s0 a w) (E0 : Ext C s w C s0 w) {t tx ty e : TypeId} (hu : P.underlying t = some (.slice e)) {cks : List CK} (hk : ckOf T e = some cks) {ad : Option Addr} {cap : Nat} {b : Bool} {l news : List (List AV)} {us : List Value}
    {x : Value} (hs : SrcOK P T C s w cks tx x news us) (hg : cap < l.length + news.length) (hle : l.length ≤ cap) (hbytes : (l.length + news.length) * bytesOf T e ≤ 70368744177664)
    (hd : cap = 0 ∨ ∃ g o, ad = some ⟨g, o, none⟩ ∧ RowsRep T w (XB C s.heap) g o cks l) :
    AppOK P T C s0 a w (Builtin.append_ #[t, tx] ty #[.slice ad l.length cap, x]) (.arr true e (b && news.isEmpty) (l ++ news)) := by
  obtain ⟨i, z, hi, hz, hsz, hby, hp, hck, hb0⟩ := elem_zero (P := P) HT hk
  have hol : ∃ olds : List Value, olds.length = l.length * cks.length ∧ (l.length = 0 ∨ ∃ g o, ad = some ⟨g, o, none⟩ ∧ w.rangeAt g o olds) ∧ Flat T w (XB C s.heap) cks l olds := by
    rcases hd with h0 | ⟨g, o, had, hrow⟩
    · have : l = [] := List.length_eq_zero_iff.1 (by omega)
      subst this
      exact ⟨[], by simp, .inl rfl, fun i r h => by simp at h⟩
    · obtain ⟨us', h1, h2, h3, _⟩ := flat_of_rows hp hrow
      exact ⟨us', h1, .inr ⟨g, o, had, h2⟩, h3⟩
  obtain ⟨olds, ho1, ho2, ho3⟩ := hol
  have hrun := run_append_grow (ty := ty) w hu hi hz (n := l.length) (cap := cap) (olds := olds) (by rw [hsz]; exact ho1) ho2 (m := news.length) (us := us) (by rw [hsz]; exact hs.src) hg (by rw [hby]; exact hbytes) hb0
  have hge := grownCap_ge w (l.length + news.length) cap e
  have hzs : z.cells.size = cks.length := by have := (ck_zero (T := T) (w := w) hck).1; simpa using this
  have hul : us.length = news.length * cks.length := hs.src.newsLen
  generalize hw' : (w.drew.alloc (.cells ((olds ++ us).toArray ++ Builtin.zeroCells z.cells (grownCap w (l.length + news.length) cap e - (l.length + news.length))) e)) = w' at hrun
  generalize hgc : grownCap w (l.length + news.length) cap e = gc at hrun hge hw'
  have hc1 : CS T C s0 a w.drew := hc0.world rfl
  have hflat : Flat T w.drew (XB C s0.heap) cks (l ++ news) (olds ++ us ++ (Builtin.zeroCells z.cells (gc - (l.length + news.length))).toList) := by
    have := Flat.append ho3 hs.flat ho1 (Builtin.zeroCells z.cells (gc - (l.length + news.length))).toList
    intro i r hr
    obtain ⟨h1, h2⟩ := this i r hr
    refine ⟨h1, fun j x c hx hcc => ?_⟩
    obtain ⟨v, hv, hrep⟩ := h2 j x c hx hcc
    exact ⟨v, hv, RepC.keep (w := w) (w' := w.drew) (fun _ _ _ => rfl) (fun g hg' hx' => E0.h2 g hg' hx') hrep⟩
  have hsize : (((olds ++ us).toArray ++ Builtin.zeroCells z.cells (gc - (l.length + news.length)))).size = gc * cks.length := by
    simp only [Array.size_append, List.size_toArray, List.length_append, ho1, hul, size_zeroCells, hzs]
    rw [← Nat.add_mul, ← Nat.add_mul]
    congr 1
    omega
  obtain ⟨C', hkp, hcs, hrp⟩ := arr_new (w' := w') (hio := by rw [← hw']; exact ⟨rfl, rfl, rfl⟩) hc1 (by rw [← hw', alloc_size]; exact Nat.lt_succ_self _) (fun b hb => by rw [← hw']; exact alloc_same _ _ b hb) hk hp (l := l ++ news) (cap := gc) (by simp; omega)
    (fun i' r hr => by
      obtain ⟨q1, q2⟩ := hflat i' r hr
      refine ⟨q1, fun j x' c' hx' hc' => ?_⟩
      obtain ⟨v, hv, hrep⟩ := q2 j x' c' hx' hc'
      refine ⟨v, ?_, hrep⟩
      have := rangeAt_new w.drew ((olds ++ us).toArray ++ Builtin.zeroCells z.cells (gc - (l.length + news.length))) e (0, 0) (i' * cks.length + j) v (by simpa using hv)
      rw [hw'] at this
      simpa using this)
    (by
      have := there_new w.drew ((olds ++ us).toArray ++ Builtin.zeroCells z.cells (gc - (l.length + news.length))) e
      rw [hw', hsize] at this
      exact this)
  have hne : news.isEmpty = false := by
    cases news with
    | nil => simp at hg; omega
    | cons _ _ => rfl
  rw [hne, Bool.and_false]
  refine ⟨C', _, w', hkp, hrun, hcs, ?_⟩
  have e1 : (l ++ news).length = l.length + news.length := by simp
  rw [e1] at hrp
  exact hrp

theorem app_room (HT : tabOK P T = true) (hc : CS T C s a w) {t tx ty e : TypeId} (hu : P.underlying t = some (.slice e)) {cks : List CK} (hk : ckOf T e = some cks) {id g o : Nat} {wl : List (List AV)} (hb : getB s.heap id = .arr true e false wl) (hbase : C.base id = some ⟨g, o, none⟩) (hcap : 0 < C.cap id)
    {l news : List (List AV)} {us : List Value} {x : Value} (hs : SrcOK P T C s w cks tx x news us) (hg : l.length + news.length ≤ C.cap id) (hrow : RowsRep T w (XB C s.heap) g o cks l) (hth : w.there g o (C.cap id * cks.length)) :
    AppOK P T C (s.set id .gone) a w (Builtin.append_ #[t, tx] ty #[.slice (some ⟨g, o, none⟩) l.length (C.cap id), x]) (.arr true e false (l ++ news)) := by
  obtain ⟨i, z, hi, hz, hsz, hby, hp, hck, hb0⟩ := elem_zero (P := P) HT hk
  have hul : us.length = news.length * cks.length := hs.src.newsLen
  have hid := gone_lt hc hb (by simp)
  have ho : ownB C s.heap id = some g := by simp [ownB, hb, hbase, Nat.ne_of_gt hcap]
  have hbnd : l.length * cks.length + us.length ≤ C.cap id * cks.length := by
    rw [hul, ← Nat.add_mul]; exact Nat.mul_le_mul_right _ hg
  have hcl : ∀ j, j < us.length → (w.cell? ⟨g, o + l.length * cks.length + j, none⟩).isSome = true ∧ w.frozen? ⟨g, o + l.length * cks.length + j, none⟩ = false := fun j hj => by
    have := hth (l.length * cks.length + j) (by omega)
    rwa [← Nat.add_assoc] at this
  have hrun := run_append_room_src w t tx ty e i hu hi g o l.length (C.cap id) x news.length us (by rw [hsz]; exact hs.src) hg (fun j hj => by rw [hsz]; exact (hcl j hj).1) (fun j hj => by rw [hsz]; exact (hcl j hj).2)
  rw [hsz] at hrun
  generalize hw' : w.setCells g (o + l.length * cks.length) us = w' at hrun
  have hsame : ∀ q, q ≠ g → w'.heap[q]? = w.heap[q]? := fun q hq => by rw [← hw']; exact setCells_same _ _ _ _ q hq
  have hsize : w'.heap.size = w.heap.size := by rw [← hw']; exact setCells_size _ _ _ _
  have hne : ∀ i', i' ≠ s.nx → i' ≠ id → getB ((s.set id .gone).add (.arr true e false (l ++ news))).heap i' = getB s.heap i' := fun i' h1 h2 => by
    simp only [St.add, St.set, getB_cons]
    rw [if_neg h1, if_neg h2]
  have hidne : id ≠ s.nx := by omega
  have hgone : getB ((s.set id .gone).add (.arr true e false (l ++ news))).heap id = .gone := by
    simp only [St.add, St.set, getB_cons, if_true]
    rw [if_neg hidne]
  have hnew : getB ((s.set id .gone).add (.arr true e false (l ++ news))).heap s.nx = .arr true e false (l ++ news) := by
    simp only [St.add, St.set, getB_cons, if_true]
  have hownnew : ownB (C.at s.nx 0 (some ⟨g, o, none⟩) (C.cap id)) ((s.set id .gone).add (.arr true e false (l ++ news))).heap s.nx = some g := by
    simp only [ownB, hnew, Cx.at, upd_same]
    rw [if_neg (Nat.ne_of_gt hcap)]; rfl
  have hownle : ∀ i' q, ownB (C.at s.nx 0 (some ⟨g, o, none⟩) (C.cap id)) ((s.set id .gone).add (.arr true e false (l ++ news))).heap i' = some q → (i' = s.nx ∧ q = g) ∨ (i' ≠ s.nx ∧ i' ≠ id ∧ ownB C s.heap i' = some q) := fun i' q h => by
    by_cases h1 : i' = s.nx
    · subst h1; rw [hownnew] at h; injection h with h; exact .inl ⟨rfl, h.symm⟩
    · by_cases h2 : i' = id
      · subst h2; simp [ownB, hgone] at h
      · right
        refine ⟨h1, h2, ?_⟩
        simp only [ownB, hne i' h1 h2, Cx.at, upd_ne _ _ h1] at h
        exact h
  have E : Ext C s w (C.at s.nx 0 (some ⟨g, o, none⟩) (C.cap id)) ((s.set id .gone).add (.arr true e false (l ++ news))) w' := by
    refine ⟨fun q _ hx => hsame q (fun e' => hx (.inr ⟨id, by rw [e']; exact ho⟩)), fun q _ hx => ?_, Nat.le_succ _, fun i' hi' => ?_, fun i' hi' wr' t' b' l' h => ?_⟩
    · rcases hx with hx | ⟨i', hx⟩
      · exact .inl hx
      · rcases hownle i' q hx with ⟨_, rfl⟩ | ⟨_, _, h⟩
        · exact .inr ⟨id, ho⟩
        · exact .inr ⟨i', h⟩
    · have : i' ≠ s.nx := by omega
      simp only [Cx.at, upd_ne _ _ this, and_self]
    · have h1 : i' ≠ s.nx := by omega
      by_cases h2 : i' = id
      · subst h2; rw [hgone] at h; cases h
      · rw [hne i' h1 h2] at h; exact ⟨wr', b', l', h, rfl⟩
  refine ⟨C.at s.nx 0 (some ⟨g, o, none⟩) (C.cap id), _, w', KeepC.at _ _ _ _ _, hrun, hc.heap E rfl rfl rfl (fun i' => ?_) (fun i' hi' => ?_) (fun i1 i2 q h h' => ?_) (fun i' q h => ?_) (by omega) (fun q hq => hsame q (fun e' => ?_)) ⟨rfl, rfl, rfl, rfl, rfl⟩ (by rw [← hw']; exact setCells_io _ _ _ _), ?_⟩
  · by_cases h1 : i' = s.nx
    · subst h1
      right
      rw [hnew]
      refine ⟨cks, hk, hp, .inr ⟨rfl, by simpa [Cx.at, upd_same] using hcap, g, o, by simp [Cx.at, upd_same], by simpa [Cx.at, upd_same] using hg, fun j r hr => ?_, fun _ => ?_, fun h => by cases h⟩⟩
      · by_cases hj : j < l.length
        · rw [List.getElem?_append_left hj] at hr
          obtain ⟨q1, q2⟩ := hrow j r hr
          refine ⟨q1, fun j2 x' c' hx' hc' => ?_⟩
          obtain ⟨v, hv, hrep⟩ := q2 j2 x' c' hx' hc'
          have hj2 : j2 < cks.length := (List.getElem?_eq_some_iff.1 hc').1
          refine ⟨v, ?_, hrep.keep E.h1 E.h2⟩
          rw [← hw', World.cell?_setCells_out g _ _ w _ (fun _ _ => .inl (by
            have : (j + 1) * cks.length ≤ l.length * cks.length := Nat.mul_le_mul_right _ hj
            rw [Nat.add_mul] at this
            simp; omega))]
          exact hv
        · rw [List.getElem?_append_right (by omega)] at hr
          obtain ⟨q1, q2⟩ := hs.flat _ r hr
          refine ⟨q1, fun j2 x' c' hx' hc' => ?_⟩
          obtain ⟨v, hv, hrep⟩ := q2 j2 x' c' hx' hc'
          have hb2 := (List.getElem?_eq_some_iff.1 hv).1
          have hm : j * cks.length = l.length * cks.length + (j - l.length) * cks.length := by rw [← Nat.add_mul]; congr 1; omega
          refine ⟨v, ?_, hrep.keep E.h1 E.h2⟩
          have := World.cell?_setCells_in g us (o + l.length * cks.length) w (fun q hq => (hcl q hq).1) _ hb2
          rw [← hw', show o + (j * cks.length + j2) = o + l.length * cks.length + ((j - l.length) * cks.length + j2) by omega, this, ← hv, List.getElem?_eq_getElem hb2]
      · simp only [Cx.at, upd_same]
        rw [← hw']
        exact World.there_setCells hth _ _ _
    · by_cases h2 : i' = id
      · subst h2; right; rw [hgone]; trivial
      · by_cases hlt : i' < s.nx
        · left
          refine ⟨hlt, hne i' h1 h2, fun q hq => hsame q (fun e' => ?_)⟩
          subst e'
          exact h2 (hc.inj i' id q hq ho)
        · right; rw [hne i' h1 h2, hc.nx i' (by omega)]; trivial
  · have h1 : i' ≠ s.nx := by simp [St.add, St.set] at hi'; omega
    have h2 : i' ≠ id := by simp [St.add, St.set] at hi'; omega
    rw [hne i' h1 h2]
    exact hc.nx i' (by simp [St.add, St.set] at hi'; omega)
  · rcases hownle i1 q h with ⟨e1, e1'⟩ | ⟨n1, n1', h1⟩
    · rcases hownle i2 q h' with ⟨e2, _⟩ | ⟨n2, n2', h2⟩
      · rw [e1, e2]
      · subst e1'; exact absurd (hc.inj i2 id q h2 ho) n2'
    · rcases hownle i2 q h' with ⟨e2, e2'⟩ | ⟨n2, n2', h2⟩
      · subst e2'; exact absurd (hc.inj i1 id q h1 ho) n1'
      · exact hc.inj i1 i2 q h1 h2
  · rw [hsize]
    rcases hownle i' q h with ⟨_, rfl⟩ | ⟨_, _, h⟩
    · exact hc.own id q ho
    · exact hc.own i' q h
  · subst e'; exact (hc.own id q ho).2.1 hq
  · refine ⟨Nat.lt_succ_self _, ?_⟩
    have hnew' : getB ((s.set id .gone).add (.arr true e false (l ++ news))).heap (s.set id .gone).nx = .arr true e false (l ++ news) := hnew
    rw [hnew']
    simp only [hdr, List.length_append]
    show Value.slice _ _ _ = Value.slice (upd C.base s.nx _ s.nx) _ (upd C.cap s.nx _ s.nx)
    rw [upd_same, upd_same]

theorem AppOK.ans {s0 : St} {m : Sem Value} {blk : AB} (h : AppOK P T C s0 a w m blk) (hs0 : s0.nx = s.nx ∧ s0.env = s.env ∧ s0.gs = s.gs ∧ s0.kn = s.kn) {n : Sem Next} (hn : n = (do pure (.value (← m)))) {k : KE} (hk : k (.own s.nx) s.env ((s.nx, blk) :: s0.heap) (s.nx + 1)) : AnsE P T C s a w n k := by
  obtain ⟨C', val, w', h1, h2, h3, h4⟩ := h
  obtain ⟨e1, e2, e3, e4⟩ := hs0
  refine ⟨_, _, _, hk, C', val, w', h1, .inl ?_, ?_, ?_⟩
  · rw [hn]; simp only [Sem.run_bind, h2, Result.andThen_ok, Sem.run_pure]
  · simp only [St.add, e1, e2, e3, e4] at h3; exact h3
  · simp only [St.add, e1, e2, e3, e4] at h4; exact h4

theorem append_sound (HT : tabOK P T = true) (hc : CS T C s a w) {c : Call} {o : Oper} (ho : o.op = .call c) (hcal : c.callee = .builtin .append) {ev : Operand → Value} {ρ : Operand → AV} (hρ : ∀ x, RpS T C s w (ρ x) (ev x)) {call : CallR} {k : KE}
    (h : xeff T call ρ o.op s.env s.heap s.nx k) : AnsE P T C s a w (execOp ev o) k := by
  rw [ho] at h
  simp only [xeff, hcal] at h
  split at h
  · rename_i sx xx t tx ha ht
    rw [forceK_eq] at h
    have hargs : c.args = #[sx, xx] := by rw [← Array.toArray_toList (xs := c.args), ha]
    have htys : c.argTypes = #[t, tx] := by rw [← Array.toArray_toList (xs := c.argTypes), ht]
    have hex : execOp ev o = (do pure (.value (← Builtin.append_ #[t, tx] o.type #[ev sx, ev xx]))) := by
      simp only [execOp, ho, resolve, hcal, hargs, htys, invoke, builtin, pure_bind, List.map_toArray, List.map_cons, List.map_nil]
    unfold xappend at h
    cases hf : fitsT T tx (ρ xx) with
    | false => simp [hf] at h
    | true =>
      simp only [hf, cond_true] at h
      cases he : elemOf T t with
      | none => simp [he] at h
      | some e =>
        rw [he] at h
        simp only at h
        cases hn : newRows T e s.heap (ρ xx) with
        | none => simp [hn] at h
        | some news =>
          rw [hn] at h
          simp only at h
          cases hk : ckOf T e with
          | none => simp [hk] at h
          | some cks =>
            rw [hk] at h
            simp only at h
            obtain ⟨i, z, hi, hz, hsz, hby, hp, hck, hb0⟩ := elem_zero (P := P) HT hk
            obtain ⟨xi, hx, hd⟩ := elemOf_some he
            have hu := (tab_get HT hx).slice hd
            obtain ⟨us, hs⟩ := newRows_sound (P := P) HT hc hk hp hn hf (hρ xx)
            have hsrc0 : news = [] → Src P i.size tx (ev xx) 0 [] w := fun hne => by
              subst hne
              have h1 := hs.src
              have e0 : us = [] := List.length_eq_zero_iff.1 (by simpa using h1.newsLen)
              subst e0
              rw [hsz]; exact h1
            have empty : ∀ (ad : Option Addr) (b : Bool), ev sx = .slice ad 0 0 → b = ad.isNone → (news.length * bytesOf T e ≤ 70368744177664) → AppOK P T C s a w (Builtin.append_ #[t, tx] o.type #[ev sx, ev xx]) (.arr true e (b && news.isEmpty) news) := fun ad b hv hb hbytes => by
              rw [hv]
              by_cases hne : news = []
              · have h0 := app_none (P := P) hc hk hp hb (run_append_nothing w t tx o.type e i hu hi ad 0 0 (Nat.le_refl _) (ev xx) (hsrc0 hne))
                subst hne
                simpa using h0
              · have hpos : 0 < news.length := List.length_pos_iff.2 hne
                have := app_grow (P := P) (ty := o.type) HT hc (Ext.refl _ _ _) hu hk (ad := ad) (cap := 0) (b := b) (l := []) hs (by simpa using hpos) (Nat.le_refl _) (by simpa using hbytes) (.inl rfl)
                simpa using this
            have own : ∀ (id : Nat) (b : Bool) (wl l : List (List AV)), getB s.heap id = .arr true e b wl → ev sx = .slice (C.base id) l.length (C.cap id) → l.length ≤ wl.length → (∀ i r, l[i]? = some r → wl[i]? = some r) → ((l.length + news.length) * bytesOf T e ≤ 70368744177664) →
                AppOK P T C (s.set id .gone) a w (Builtin.append_ #[t, tx] o.type #[ev sx, ev xx]) (.arr true e (b && news.isEmpty) (l ++ news)) := fun id b wl l hb hv hlw hsub hbytes => by
              rw [hv]
              have hblk := hc.blk id
              rw [hb] at hblk
              obtain ⟨cks', hk', _, hblk⟩ := hblk
              rw [hk] at hk'
              injection hk' with hk'
              subst hk'
              obtain ⟨hc0, E0⟩ := hc.kill id
              rcases hblk with ⟨rfl, hcap, hnil⟩ | ⟨hnil, hcap, g, og, hbase, hle, hrow, hth, _⟩
              · have e0 : l = [] := List.length_eq_zero_iff.1 (by simpa using hlw)
                subst e0
                rw [hcap]
                by_cases hne : news = []
                · have h0 := app_none (P := P) hc0 hk hp hnil (run_append_nothing w t tx o.type e i hu hi (C.base id) 0 0 (Nat.le_refl _) (ev xx) (hsrc0 hne))
                  subst hne
                  simpa using h0
                · have hpos : 0 < news.length := List.length_pos_iff.2 hne
                  have := app_grow (P := P) (ty := o.type) HT hc0 E0 hu hk (ad := C.base id) (cap := 0) (b := b) (l := []) hs (by simpa using hpos) (Nat.le_refl _) (by simpa using hbytes) (.inl rfl)
                  simpa using this
              · have hrow' : RowsRep T w (XB C s.heap) g og cks l := fun i r hr => hrow i r (hsub i r hr)
                by_cases hg : l.length + news.length ≤ C.cap id
                · subst hnil
                  have := app_room (P := P) (ty := o.type) HT hc hu hk hb hbase hcap hs hg hrow' (hth rfl)
                  rw [hbase]
                  simpa using this
                · have := app_grow (P := P) (ty := o.type) HT hc0 E0 hu hk (ad := C.base id) (cap := C.cap id) (b := b) (l := l) hs (by omega) (by omega) hbytes (.inr ⟨g, og, hbase, hrow'⟩)
                  exact this
            have hsx := hρ sx
            cases hrs : ρ sx <;> rw [hrs] at h hsx <;> (try simp only at h)
            case nils =>
              have hv : ev sx = .slice none 0 0 := hsx
              exact (by simpa using empty none true hv rfl h.c : AppOK P T C s a w _ (.arr true e news.isEmpty news)).ans ⟨rfl, rfl, rfl, rfl⟩ hex h.x
            case em b =>
              obtain ⟨ad, hv, hb⟩ := hsx
              exact (empty ad b hv hb h.c).ans ⟨rfl, rfl, rfl, rfl⟩ hex h.x
            case own id =>
              cases hb : getB s.heap id with
              | gone => simp [hb] at h
              | box _ _ => simp [hb] at h
              | arr wr e' b l =>
                cases wr with
                | false => simp [hb] at h
                | true =>
                  rw [hb] at h
                  simp only at h
                  cases hee : Nat.beq e e' with
                  | false => simp [hee] at h
                  | true =>
                    simp only [hee, cond_true] at h
                    have hee := beq_nat hee
                    subst hee
                    obtain ⟨_, hv⟩ := rp_own hsx hb
                    exact (own id b l l hb hv (Nat.le_refl _) (fun _ _ h => h) h.c).ans ⟨rfl, rfl, rfl, rfl⟩ hex h.x
            case vw id lo n =>
              cases lo with
              | succ _ => exact h.elim
              | zero =>
                simp only at h
                cases hb : getB s.heap id with
                | gone => simp [hb] at h
                | box _ _ => simp [hb] at h
                | arr wr e' b l =>
                  cases wr with
                  | false => simp [hb] at h
                  | true =>
                    rw [hb] at h
                    simp only at h
                    cases hee : Nat.beq e e' with
                    | false => simp [hee] at h
                    | true =>
                      simp only [hee, cond_true] at h
                      have hee := beq_nat hee
                      subst hee
                      obtain ⟨_, ad, cc, hv, _, hlen, _, hz0, _⟩ := rp_vw hsx hb
                      obtain ⟨rfl, rfl⟩ := hz0 rfl
                      have hl : (l.take n).length = n := by simp; omega
                      have := own id b l (l.take n) hb (by rw [hl]; exact hv) (by simp; omega) (fun i r hr => by
                        rw [List.getElem?_take] at hr
                        split at hr
                        · exact hr
                        · cases hr) (by rw [hl]; exact h.c)
                      exact this.ans ⟨rfl, rfl, rfl, rfl⟩ hex h.x
  · exact h.elim
end
end Go.Proofs.Ytaghkmaelbgljaa.VX
