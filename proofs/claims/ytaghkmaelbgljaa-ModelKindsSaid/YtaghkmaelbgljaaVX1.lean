/- What an abstract state says of a machine's state. -/
import Derived.Test.YtaghkmaelbgljaaVX0
import Derived.Deep.AppendSrc
import Derived.Deep.MidRow
namespace Go.Proofs.Ytaghkmaelbgljaa.VX

structure Cx where
  β : Nat → Nat
  base : Nat → Option Addr
  cap : Nat → Nat
  F : Nat → Prop
  G : Nat → Prop
  w0 : World
  pin : Nat → Option Nat
  N : Nat

/-- Two lists, place by place. -/
def all2 {α β : Type} (R : α → β → Prop) : List α → List β → Prop
  | [], [] => True
  | x :: xs, y :: ys => R x y ∧ all2 R xs ys
  | _, _ => False

/-- A cell of data, by its kind: what it reads as. X: the blocks that it keeps clear of. -/
inductive RepC (T : Tab) (w : World) (X : Nat → Prop) : CK → AV → Value → Prop
  | int (k : IntKind) (n : Int) : RepC T w X (.int k) (.int k n) (.int k n)
  | bool (b : Bool) : RepC T w X .bool (.bool b) (.bool b)
  | str (s : ByteArray) : RepC T w X .str (.str s) (.string s)
  | em (t : TypeId) (b : Bool) (a : Option Addr) (cap : Nat) (hb : b = a.isNone) : RepC T w X (.sl t) (.sl b t []) (.slice a 0 cap)
  | sl (t : TypeId) (cks : List CK) (l : List (List AV)) (g o cap : Nat) (vals : Nat → Nat → Value) (hk : ckOf T t = some cks) (hpos : 0 < cks.length) (hne : l ≠ []) (hX : ¬ X g) (hle : l.length ≤ cap)
      (hlen : ∀ (i : Nat) (e : List AV), l[i]? = some e → e.length = cks.length)
      (hcell : ∀ i j, i < l.length → j < cks.length → w.cell? ⟨g, o + (i * cks.length + j), none⟩ = some (vals i j))
      (hval : ∀ (i : Nat) (e : List AV) (j : Nat) (x : AV) (c : CK), l[i]? = some e → e[j]? = some x → cks[j]? = some c → RepC T w X c x (vals i j)) :
      RepC T w X (.sl t) (.sl false t l) (.slice (some ⟨g, o, none⟩) l.length cap)

/-- The elements that lie in a block from an offset on. -/
def RowsRep (T : Tab) (w : World) (X : Nat → Prop) (g o : Nat) (cks : List CK) (l : List (List AV)) : Prop :=
  ∀ i e, l[i]? = some e → e.length = cks.length ∧ ∀ j x c, e[j]? = some x → cks[j]? = some c → ∃ v, w.cell? ⟨g, o + (i * cks.length + j), none⟩ = some v ∧ RepC T w X c x v

def ownB (C : Cx) (h : Hp) (id : Nat) : Option Nat :=
  match getB h id with
  | .box _ _ => some (C.β id)
  | .arr true _ _ _ => if C.cap id = 0 then none else (C.base id).map (·.block)
  | _ => none
/-- The blocks that data by value keeps clear of: those of others, and those that are owned here. -/
def XB (C : Cx) (h : Hp) (b : Nat) : Prop := C.F b ∨ ∃ id, ownB C h id = some b

def hdr (C : Cx) (id n : Nat) : Value := .slice (C.base id) n (C.cap id)

def RpF (C : Cx) (s : St) (x : AV) (v : Value) : Prop :=
  match x with
  | .int k n => v = .int k n
  | .ptr id off => v = .pointer (some ⟨C.β id, off, none⟩) ∧ id < s.nx
  | .own id => id < s.nx ∧ match getB s.heap id with | .arr _ _ _ l => v = hdr C id l.length | _ => True
  | _ => False

/-- A cell's worth of a value. -/
def RpK (T : Tab) (C : Cx) (s : St) (w : World) (x : AV) (v : Value) : Prop :=
  match x with
  | .int k n => v = .int k n
  | .bool b => v = .bool b
  | .kb b => v = .bool b
  | .str t => v = .string t
  | .nilp => v = .pointer none
  | .nils => v = .slice none 0 0
  | .nili => v = .nilIface
  | .nilf => v = .nilFunc
  | .em b => ∃ a, v = .slice a 0 0 ∧ b = a.isNone
  | .ptr id off => v = .pointer (some ⟨C.β id, off, none⟩) ∧ id < s.nx
  | .sl b t l => RepC T w (XB C s.heap) (.sl t) (.sl b t l) v
  | .own id => id < s.nx ∧ match getB s.heap id with | .arr _ _ _ l => v = hdr C id l.length | _ => True
  | .vw id lo n => id < s.nx ∧ match getB s.heap id with
    | .arr _ t _ l => ∃ a c, v = .slice a n c ∧ n ≤ c ∧ lo + n ≤ l.length ∧ a.isNone = (C.base id).isNone ∧ (lo = 0 → a = C.base id ∧ c = C.cap id) ∧
        (0 < n → ∃ g o cks, C.base id = some ⟨g, o, none⟩ ∧ ckOf T t = some cks ∧ a = some ⟨g, o + lo * cks.length, none⟩)
    | _ => True
  | .elt id i off => id < s.nx ∧ match getB s.heap id with
    | .arr _ t _ l => i < l.length ∧ ∃ g o cks, C.base id = some ⟨g, o, none⟩ ∧ ckOf T t = some cks ∧ v = .pointer (some ⟨g, o + (i * cks.length + off), none⟩)
    | _ => True
  | .rel t l i off => i < l.length ∧ ∃ g o cap cks, ckOf T t = some cks ∧ RepC T w (XB C s.heap) (.sl t) (.sl false t l) (.slice (some ⟨g, o, none⟩) l.length cap) ∧ v = .pointer (some ⟨g, o + (i * cks.length + off), none⟩)
  | .fn f first cap => ∃ fs cs : Array Value, v = .func (.func f) fs cs ∧ all2 (RpF C s) first fs.toList ∧ all2 (RpF C s) cap cs.toList
  | .undef => v = undef
  | .dead => True
  | _ => False
/-- A value of one variable. -/
def RpA (T : Tab) (C : Cx) (s : St) (w : World) (x : AV) (v : Value) : Prop :=
  match x with
  | .agg l => ∃ cs : Array Value, v = .agg cs ∧ all2 (RpK T C s w) l cs.toList
  | x => RpK T C s w x v
def RpS (T : Tab) (C : Cx) (s : St) (w : World) (x : AV) (v : Value) : Prop :=
  match x with
  | .tup l => ∃ vs : Array Value, v = .tuple vs ∧ all2 (RpA T C s w) l vs.toList
  | .iface t y => ∃ u, v = .iface t u ∧ RpA T C s w y u
  | x => RpA T C s w x v
def RpE (T : Tab) (C : Cx) (s : St) (w : World) (x : AV) (v : Value) : Prop :=
  match x with
  | .opt ch y => (∀ p ∈ ch, gsGet s.gs p.1 ≠ none) ∧ ((chProp s.gs ch ∧ RpS T C s w y v) ∨ (¬ chProp s.gs ch ∧ v = undef))
  | x => RpS T C s w x v

def RepB (T : Tab) (C : Cx) (s : St) (w : World) (id : Nat) (b : AB) : Prop :=
  match b with
  | .box _ cs => ∃ vs : List Value, w.rangeAt (C.β id) 0 vs ∧ w.there (C.β id) 0 vs.length ∧ all2 (RpK T C s w) cs vs ∧ ∀ v ∈ vs, v.oneCell' = true
  | .arr wr t isnil l => ∃ cks, ckOf T t = some cks ∧ 0 < cks.length ∧
      ((l = [] ∧ C.cap id = 0 ∧ isnil = (C.base id).isNone) ∨
       (isnil = false ∧ 0 < C.cap id ∧ ∃ g o, C.base id = some ⟨g, o, none⟩ ∧ l.length ≤ C.cap id ∧ RowsRep T w (XB C s.heap) g o cks l ∧
          (wr = true → w.there g o (C.cap id * cks.length)) ∧ (wr = false → l ≠ [] → ¬ XB C s.heap g)))
  | .gone => True

structure CS (T : Tab) (C : Cx) (s : St) (a : Act) (w : World) : Prop where
  env : ∀ t, RpE T C s w (getE s.env t) (a.tmps.getD t undef)
  blk : ∀ id, RepB T C s w id (getB s.heap id)
  nx : ∀ id, s.nx ≤ id → getB s.heap id = .gone
  inj : ∀ id id' b, ownB C s.heap id = some b → ownB C s.heap id' = some b → id = id'
  own : ∀ id b, ownB C s.heap id = some b → b < w.heap.size ∧ ¬ C.G b ∧ ¬ C.F b
  g : ∀ b, C.G b → b < C.w0.heap.size ∧ w.heap[b]? = C.w0.heap[b]?
  ge : C.w0.heap.size ≤ w.heap.size
  pin : ∀ id b, C.pin id = some b → C.β id = b ∧ id < s.nx
  kn : ∀ p ∈ s.kn, gsGet s.gs p.1 = some p.2
  defers : a.defers = []
  sz : a.tmps.size = C.N
  f : ∀ b, C.F b → b < w.heap.size
  io : w.os = C.w0.os ∧ w.tape = C.w0.tape ∧ w.output = C.w0.output

/-! ### Lists -/
theorem all2_len {α β : Type} {R : α → β → Prop} : ∀ {xs : List α} {ys : List β}, all2 R xs ys → xs.length = ys.length
  | [], [], _ => rfl
  | _ :: _, _ :: _, h => by simp [all2_len h.2]
  | [], _ :: _, h => h.elim
  | _ :: _, [], h => h.elim
theorem all2_get {α β : Type} {R : α → β → Prop} : ∀ {xs : List α} {ys : List β}, all2 R xs ys → ∀ {i : Nat} {x : α}, xs[i]? = some x → ∃ y, ys[i]? = some y ∧ R x y
  | _ :: _, y :: _, h, 0, _, hx => by simp at hx; subst hx; exact ⟨y, rfl, h.1⟩
  | _ :: xs, _ :: ys, h, i + 1, x, hx => by simpa using all2_get h.2 (i := i) (by simpa using hx)
  | [], [], _, _, _, hx => by simp at hx
  | [], _ :: _, h, _, _, _ => h.elim
  | _ :: _, [], h, _, _, _ => h.elim
theorem all2_of {α β : Type} {R : α → β → Prop} : ∀ {xs : List α} {ys : List β}, xs.length = ys.length → (∀ (i : Nat) (x : α) (y : β), xs[i]? = some x → ys[i]? = some y → R x y) → all2 R xs ys
  | [], [], _, _ => trivial
  | x :: xs, y :: ys, hl, h => ⟨h 0 x y rfl rfl, all2_of (by simpa using hl) fun i a b ha hb => h (i + 1) a b (by simpa using ha) (by simpa using hb)⟩
  | [], _ :: _, hl, _ => by simp at hl
  | _ :: _, [], hl, _ => by simp at hl
theorem all2_mono {α β : Type} {R R' : α → β → Prop} (h : ∀ x y, R x y → R' x y) : ∀ {xs : List α} {ys : List β}, all2 R xs ys → all2 R' xs ys
  | [], [], _ => trivial
  | _ :: _, _ :: _, hh => ⟨h _ _ hh.1, all2_mono h hh.2⟩
  | [], _ :: _, hh => hh.elim
  | _ :: _, [], hh => hh.elim
theorem all2_append {α β : Type} {R : α → β → Prop} : ∀ {xs xs' : List α} {ys ys' : List β}, all2 R xs ys → all2 R xs' ys' → all2 R (xs ++ xs') (ys ++ ys')
  | [], _, [], _, _, h' => h'
  | _ :: _, _, _ :: _, _, h, h' => ⟨h.1, all2_append h.2 h'⟩
  | [], _, _ :: _, _, h, _ => h.elim
  | _ :: _, _, [], _, h, _ => h.elim

theorem nth_eq {α : Type} : ∀ (l : List α) (n : Nat), nth l n = l[n]?
  | [], n => by simp [nth]
  | _ :: _, 0 => by simp [nth]
  | _ :: r, n + 1 => by simp [nth, nth_eq r n]
theorem len_eq {α : Type} : ∀ (l : List α), len l = l.length
  | [] => rfl
  | _ :: r => by simp [len, len_eq r]
theorem takeK_eq {α : Type} : ∀ (n : Nat) (l : List α) (k : List α → Prop), takeK n l k = k (l.take n)
  | 0, l, k => by cases l <;> simp [takeK]
  | n + 1, [], k => by simp [takeK]
  | n + 1, x :: r, k => by simp [takeK, takeK_eq n r]
theorem dropK_eq {α : Type} : ∀ (n : Nat) (l : List α) (k : List α → Prop), dropK n l k = k (l.drop n)
  | 0, l, k => by cases l <;> simp [dropK]
  | n + 1, [], k => by simp [dropK]
  | n + 1, x :: r, k => by simp [dropK, dropK_eq n r]
theorem subK_eq {α : Type} (off n : Nat) (l : List α) (k : List α → Prop) : subK off n l k = k ((l.drop off).take n) := by
  simp [subK, dropK_eq, takeK_eq]
theorem appK_eq {α : Type} : ∀ (a b : List α) (k : List α → Prop), appK a b k = k (a ++ b)
  | [], b, k => by simp [appK]
  | x :: r, b, k => by simp [appK, appK_eq r b]
theorem spliceK_eq {α : Type} : ∀ (old : List α) (n : Nat) (new : List α) (k : List α → Prop), n + new.length ≤ old.length → spliceK old n new k = k (old.take n ++ new ++ old.drop (n + new.length))
  | old, n, [], k, h => by cases old <;> cases n <;> simp [spliceK]
  | [], n, y :: new, k, h => by simp at h
  | x :: r, n + 1, y :: new, k, h => by
    have := spliceK_eq r n (y :: new) (fun l => k (x :: l)) (by simp at h ⊢; omega)
    simp only [spliceK, this]
    congr 1
    have e : n + 1 + (y :: new).length = (n + (y :: new).length) + 1 := by omega
    rw [e, List.drop_succ_cons]
    simp [List.take_succ_cons]
  | x :: r, 0, y :: new, k, h => by
    have := spliceK_eq r 0 new (fun l => k (y :: l)) (by simp at h ⊢; omega)
    simp only [spliceK, this]
    simp [Nat.add_comm]
theorem forceK_eq (v : AV) (K : AV → Prop) : forceK v K = K v := by cases v <;> rfl
theorem mkCellsK_eq (l : List (List AV)) (i : Nat) : ∀ (j : Nat) (cs : List CK) (K : List AV → Prop), mkCellsK l i j cs K = K (mkCells l i j cs)
  | _, [], _ => rfl
  | j, c :: r, K => by simp [mkCellsK, mkCells, mkCellsK_eq l i (j + 1) r]
theorem mapK_eq {α : Type} (f : α → AV) : ∀ (l : List α) (K : List AV → Prop), mapK f l K = K (l.map f)
  | [], _ => rfl
  | x :: r, K => by simp [mapK, forceK_eq, mapK_eq f r]
theorem mapK2_eq (f : Operand → AV) : ∀ (l : List (Nat × Operand)) (K : List (Nat × AV) → Prop), mapK2 f l K = K (l.map fun p => (p.1, f p.2))
  | [], _ => rfl
  | (i, x) :: r, K => by simp [mapK2, forceK_eq, mapK2_eq f r]
theorem cellsK_eq (v : AV) (K : AV → List AV → Prop) : cellsK v K = K v v.cells := by
  unfold cellsK; rw [forceK_eq]; cases v <;> rfl
theorem putK_eq (env : List (Nat × AV)) (d : Option Nat) (v : AV) (K : List (Nat × AV) → Prop) : putK env d v K = K (putE env d v) := by cases d <;> rfl

/-! ### What stays -/
theorem RepC.keep {T : Tab} {w w' : World} {X X' : Nat → Prop} (h1 : ∀ b, b < w.heap.size → ¬ X b → w'.heap[b]? = w.heap[b]?) (h2 : ∀ b, b < w.heap.size → X' b → X b) :
    ∀ {c : CK} {x : AV} {v : Value}, RepC T w X c x v → RepC T w' X' c x v := by
  intro c x v h
  induction h with
  | int k n => exact .int k n
  | bool b => exact .bool b
  | str s => exact .str s
  | em t b a cap hb => exact .em t b a cap hb
  | sl t cks l g o cap vals hk hc hne hX hle hlen hcell hval ih =>
    have hl : 0 < l.length := List.length_pos_iff.2 hne
    have hlt : g < w.heap.size := World.block_lt_of_cell? w _ (hcell 0 0 hl hc)
    refine .sl t cks l g o cap vals hk hc hne (fun hx => hX (h2 g hlt hx)) hle hlen (fun i j hi hj => ?_) ih
    have := hcell i j hi hj
    simp only [World.cell?] at this ⊢
    rw [h1 g hlt hX]; exact this

/-- The state has gone on, and what is said of values still holds. -/
structure Ext (C : Cx) (s : St) (w : World) (C' : Cx) (s' : St) (w' : World) : Prop where
  h1 : ∀ b, b < w.heap.size → ¬ XB C s.heap b → w'.heap[b]? = w.heap[b]?
  h2 : ∀ b, b < w.heap.size → XB C' s'.heap b → XB C s.heap b
  nx : s.nx ≤ s'.nx
  ids : ∀ id, id < s.nx → C'.β id = C.β id ∧ C'.base id = C.base id ∧ C'.cap id = C.cap id
  shp : ∀ id, id < s.nx → ∀ wr' t' b' l', getB s'.heap id = .arr wr' t' b' l' → ∃ wr b l, getB s.heap id = .arr wr t' b l ∧ l.length = l'.length

section
variable {T : Tab} {C C' : Cx} {s s' : St} {w w' : World}
theorem RpF.ext (E : Ext C s w C' s' w') {x : AV} {v : Value} (h : RpF C s x v) : RpF C' s' x v := by
  cases x <;> simp only [RpF] at h ⊢
  all_goals try exact h
  case ptr id off =>
    obtain ⟨rfl, hid⟩ := h
    exact ⟨by rw [(E.ids id hid).1], Nat.lt_of_lt_of_le hid E.nx⟩
  case own id =>
    obtain ⟨hid, h⟩ := h
    refine ⟨Nat.lt_of_lt_of_le hid E.nx, ?_⟩
    cases hb : getB s'.heap id with
    | arr wr t b l =>
      obtain ⟨wr0, b0, l0, h0, hl⟩ := E.shp id hid _ _ _ _ hb
      rw [h0] at h
      simp only at h ⊢
      rw [h, hl]
      simp only [hdr, (E.ids id hid).2.1, (E.ids id hid).2.2]
    | _ => trivial
theorem RpK.ext (E : Ext C s w C' s' w') {x : AV} {v : Value} (h : RpK T C s w x v) : RpK T C' s' w' x v := by
  cases x <;> simp only [RpK] at h ⊢
  all_goals try exact h
  case sl b t l => exact h.keep E.h1 E.h2
  case ptr id off =>
    obtain ⟨rfl, hid⟩ := h
    exact ⟨by rw [(E.ids id hid).1], Nat.lt_of_lt_of_le hid E.nx⟩
  case own id =>
    obtain ⟨hid, h⟩ := h
    refine ⟨Nat.lt_of_lt_of_le hid E.nx, ?_⟩
    cases hb : getB s'.heap id with
    | arr wr t b l =>
      obtain ⟨wr0, b0, l0, h0, hl⟩ := E.shp id hid _ _ _ _ hb
      rw [h0] at h
      simp only at h ⊢
      rw [h, hl]
      simp only [hdr, (E.ids id hid).2.1, (E.ids id hid).2.2]
    | _ => trivial
  case vw id lo n =>
    obtain ⟨hid, h⟩ := h
    refine ⟨Nat.lt_of_lt_of_le hid E.nx, ?_⟩
    cases hb : getB s'.heap id with
    | arr wr t b l =>
      obtain ⟨wr0, b0, l0, h0, hl⟩ := E.shp id hid _ _ _ _ hb
      rw [h0] at h
      simp only at h ⊢
      rw [(E.ids id hid).2.1, (E.ids id hid).2.2, ← hl]
      exact h
    | _ => trivial
  case elt id i off =>
    obtain ⟨hid, h⟩ := h
    refine ⟨Nat.lt_of_lt_of_le hid E.nx, ?_⟩
    cases hb : getB s'.heap id with
    | arr wr t b l =>
      obtain ⟨wr0, b0, l0, h0, hl⟩ := E.shp id hid _ _ _ _ hb
      rw [h0] at h
      simp only at h ⊢
      rw [(E.ids id hid).2.1, ← hl]
      exact h
    | _ => trivial
  case rel t l i off =>
    obtain ⟨hi, g, o, cap, cks, hk, hr, rfl⟩ := h
    exact ⟨hi, g, o, cap, cks, hk, hr.keep E.h1 E.h2, rfl⟩
  case fn f first cap =>
    obtain ⟨fs, cs, rfl, h1, h2⟩ := h
    exact ⟨fs, cs, rfl, all2_mono (fun _ _ => RpF.ext E) h1, all2_mono (fun _ _ => RpF.ext E) h2⟩
theorem RpA.ext (E : Ext C s w C' s' w') {x : AV} {v : Value} (h : RpA T C s w x v) : RpA T C' s' w' x v := by
  cases x
  case agg l =>
    obtain ⟨cs, rfl, h⟩ := h
    exact ⟨cs, rfl, all2_mono (fun _ _ => RpK.ext E) h⟩
  all_goals (simp only [RpA] at h ⊢; exact RpK.ext E h)
theorem RpS.ext (E : Ext C s w C' s' w') {x : AV} {v : Value} (h : RpS T C s w x v) : RpS T C' s' w' x v := by
  cases x
  case tup l =>
    obtain ⟨cs, rfl, h⟩ := h
    exact ⟨cs, rfl, all2_mono (fun _ _ => RpA.ext E) h⟩
  case iface t y =>
    obtain ⟨u, rfl, h⟩ := h
    exact ⟨u, rfl, RpA.ext E h⟩
  all_goals (simp only [RpS] at h ⊢; exact RpA.ext E h)
theorem RpE.ext (E : Ext C s w C' s' w') (hg : s'.gs = s.gs) {x : AV} {v : Value} (h : RpE T C s w x v) : RpE T C' s' w' x v := by
  cases x
  case opt ch y =>
    obtain ⟨h0, h⟩ := h
    refine ⟨by rw [hg]; exact h0, ?_⟩
    rw [hg]
    exact h.imp (fun h => ⟨h.1, RpS.ext E h.2⟩) id
  all_goals (simp only [RpE] at h ⊢; exact RpS.ext E h)
theorem RowsRep.keep {X X' : Nat → Prop} {g o : Nat} {cks : List CK} {l : List (List AV)} (h : RowsRep T w X g o cks l) (h1 : ∀ b, b < w.heap.size → ¬ X b → w'.heap[b]? = w.heap[b]?) (h2 : ∀ b, b < w.heap.size → X' b → X b)
    (hg : w'.heap[g]? = w.heap[g]?) : RowsRep T w' X' g o cks l := by
  intro i e he
  obtain ⟨hl, h⟩ := h i e he
  refine ⟨hl, fun j x c hx hc => ?_⟩
  obtain ⟨v, hv, hr⟩ := h j x c hx hc
  refine ⟨v, ?_, hr.keep h1 h2⟩
  simp only [World.cell?] at hv ⊢
  rw [hg]; exact hv
theorem rangeAt_same {g o : Nat} {vs : List Value} (h : w.rangeAt g o vs) (hg : w'.heap[g]? = w.heap[g]?) : w'.rangeAt g o vs := by
  intro j v hv
  have := h j v hv
  simp only [World.cell?] at this ⊢
  rw [hg]; exact this
theorem there_same {g o n : Nat} (h : w.there g o n) (hg : w'.heap[g]? = w.heap[g]?) : w'.there g o n := by
  intro j hj
  have := h j hj
  simp only [World.cell?, World.frozen?] at this ⊢
  rw [hg]; exact this
/-- A block that nobody has touched. -/
theorem RepB.ext (E : Ext C s w C' s' w') {id : Nat} (hid : id < s.nx) {b : AB} (hb : getB s.heap id = b) (hown : ∀ g, ownB C s.heap id = some g → w'.heap[g]? = w.heap[g]?) (h : RepB T C s w id b) : RepB T C' s' w' id b := by
  cases b with
  | gone => trivial
  | box t cs =>
    obtain ⟨vs, h1, h2, h3, h4⟩ := h
    have hg : w'.heap[C.β id]? = w.heap[C.β id]? := hown _ (by simp [ownB, hb])
    refine ⟨vs, ?_, ?_, all2_mono (fun _ _ => RpK.ext E) h3, h4⟩
    · rw [(E.ids id hid).1]; exact rangeAt_same h1 hg
    · rw [(E.ids id hid).1]; exact there_same h2 hg
  | arr wr t isnil l =>
    obtain ⟨cks, hk, hp, h⟩ := h
    refine ⟨cks, hk, hp, ?_⟩
    rw [(E.ids id hid).2.1, (E.ids id hid).2.2]
    rcases h with h | ⟨hn, hc, g, o, hbase, hle, hr, hw, hf⟩
    · exact .inl h
    · refine .inr ⟨hn, hc, g, o, hbase, hle, ?_, ?_, ?_⟩
      · cases wr with
        | true => exact hr.keep E.h1 E.h2 (hown g (by simp [ownB, hb, hbase, Nat.ne_of_gt hc]))
        | false =>
          cases l with
          | nil => intro i e he; simp at he
          | cons x r =>
            have hX := hf rfl (by simp)
            have hlt : g < w.heap.size := by
              obtain ⟨hl, h⟩ := hr 0 x rfl
              cases x with
              | nil => simp at hl; omega
              | cons y ys =>
                cases cks with
                | nil => simp at hp
                | cons c cs =>
                  obtain ⟨v, hv, _⟩ := h 0 y c rfl rfl
                  exact World.block_lt_of_cell? w _ hv
            exact hr.keep E.h1 E.h2 (E.h1 g hlt hX)
      · intro he
        subst he
        exact there_same (hw rfl) (hown g (by simp [ownB, hb, hbase, Nat.ne_of_gt hc]))
      · intro he hl
        have hX := hf he hl
        intro hx
        cases l with
        | nil => exact hl rfl
        | cons x r =>
          have hlt : g < w.heap.size := by
            obtain ⟨hl, h⟩ := hr 0 x rfl
            cases x with
            | nil => simp at hl; omega
            | cons y ys =>
              cases cks with
              | nil => simp at hp
              | cons c cs =>
                obtain ⟨v, hv, _⟩ := h 0 y c rfl rfl
                exact World.block_lt_of_cell? w _ hv
          exact hX (E.h2 g hlt hx)
end

/-! ### Steps -/
def upd {α : Type} (f : Nat → α) (n : Nat) (v : α) : Nat → α := fun i => if i = n then v else f i
theorem upd_same {α : Type} (f : Nat → α) (n : Nat) (v : α) : upd f n v n = v := by simp [upd]
theorem upd_ne {α : Type} (f : Nat → α) {n i : Nat} (v : α) (h : i ≠ n) : upd f n v i = f i := by simp [upd, h]

theorem beq_false {a b : Nat} (h : a ≠ b) : Nat.beq a b = false := by
  cases e : Nat.beq a b with
  | false => rfl
  | true => exact absurd (Nat.eq_of_beq_eq_true e) h
theorem getB_cons (id : Nat) (b : AB) (h : Hp) (i : Nat) : getB ((id, b) :: h) i = if i = id then b else getB h i := by
  by_cases e : i = id
  · subst e; simp [getB]
  · rw [if_neg e]; simp only [getB]; rw [beq_false (Ne.symm e)]; rfl
theorem getE_cons (d : Nat) (v : AV) (env : List (Nat × AV)) (t : Nat) : getE ((d, v) :: env) t = if t = d then v else getE env t := by
  by_cases e : t = d
  · subst e; simp [getE]
  · rw [if_neg e]; simp only [getE]; rw [beq_false (Ne.symm e)]; rfl

theorem getD_put (a : Act) (d : Nat) (v : Value) (t : Nat) (hd : d < a.tmps.size) : (a.put (some d) v).tmps.getD t undef = if t = d then v else a.tmps.getD t undef := by
  simp only [Act.put, Array.getD_eq_getD_getElem?, Array.getElem?_setIfInBounds]
  by_cases e : t = d
  · subst e; simp [hd]
  · rw [if_neg e, if_neg (Ne.symm e)]

section
variable {T : Tab} {C C' : Cx} {s s' : St} {a : Act} {w w' : World}

theorem CS.put (hc : CS T C s a w) (dst : Option Nat) (hd : ∀ d, dst = some d → d < C.N) {v : AV} {val : Value} (hv : RpE T C s w v val) :
    CS T C { s with env := putE s.env dst v } (a.put dst val) w := by
  cases dst with
  | none => exact hc
  | some d =>
    have hd' : d < a.tmps.size := by rw [hc.sz]; exact hd d rfl
    refine { hc with env := fun t => ?_, sz := ?_, defers := ?_ }
    · rw [getD_put a d val t hd']
      simp only [putE, getE_cons]
      split
      · exact hv
      · exact hc.env t
    · simpa [Act.put] using hc.defers
    · simpa [Act.put] using hc.sz

/-- The heap has changed. -/
theorem CS.heap (hc : CS T C s a w) (E : Ext C s w C' s' w') (he : s'.env = s.env) (hgs : s'.gs = s.gs) (hkn : s'.kn = s.kn)
    (hb : ∀ id, (id < s.nx ∧ getB s'.heap id = getB s.heap id ∧ ∀ g, ownB C s.heap id = some g → w'.heap[g]? = w.heap[g]?) ∨ RepB T C' s' w' id (getB s'.heap id))
    (hnx : ∀ id, s'.nx ≤ id → getB s'.heap id = .gone)
    (hinj : ∀ id id' b, ownB C' s'.heap id = some b → ownB C' s'.heap id' = some b → id = id')
    (hown : ∀ id b, ownB C' s'.heap id = some b → b < w'.heap.size ∧ ¬ C'.G b ∧ ¬ C'.F b)
    (hge : w.heap.size ≤ w'.heap.size) (hG : ∀ b, C.G b → w'.heap[b]? = w.heap[b]?)
    (hC : C'.F = C.F ∧ C'.G = C.G ∧ C'.w0 = C.w0 ∧ C'.pin = C.pin ∧ C'.N = C.N) (hio : w'.os = w.os ∧ w'.tape = w.tape ∧ w'.output = w.output) : CS T C' s' a w' := by
  obtain ⟨hF, hGe, hw0, hpin, hN⟩ := hC
  refine ⟨fun t => ?_, fun id => ?_, hnx, hinj, hown, ?_, ?_, ?_, ?_, hc.defers, ?_, ?_, by rw [hw0]; exact ⟨hio.1.trans hc.io.1, hio.2.1.trans hc.io.2.1, hio.2.2.trans hc.io.2.2⟩⟩
  · rw [he]; exact (hc.env t).ext E hgs
  · rcases hb id with ⟨h1, h2, h3⟩ | h
    · rw [h2]; exact RepB.ext E h1 rfl h3 (hc.blk id)
    · exact h
  · intro b h
    rw [hGe] at h
    have := hc.g b h
    rw [hw0]
    exact ⟨this.1, (hG b h).trans this.2⟩
  · rw [hw0]; exact Nat.le_trans hc.ge hge
  · intro id b h
    rw [hpin] at h
    obtain ⟨h1, h2⟩ := hc.pin id b h
    exact ⟨by rw [(E.ids id h2).1]; exact h1, Nat.lt_of_lt_of_le h2 E.nx⟩
  · rw [hgs, hkn]; exact hc.kn
  · rw [hN]; exact hc.sz
  · intro b h
    rw [hF] at h
    exact Nat.lt_of_lt_of_le (hc.f b h) hge

/-- Only the tape has moved on. -/
theorem CS.world (hc : CS T C s a w) (h : w'.heap = w.heap) (hio : w'.os = w.os ∧ w'.tape = w.tape ∧ w'.output = w.output := by exact ⟨rfl, rfl, rfl⟩) : CS T C s a w' := by
  refine hc.heap (C' := C) (s' := s) ⟨fun b _ _ => by rw [h], fun b _ h => h, Nat.le_refl _, fun _ _ => ⟨rfl, rfl, rfl⟩, fun id _ wr' t' b' l' h => ⟨wr', b', l', h, rfl⟩⟩ rfl rfl rfl
    (fun id => ?_) hc.nx hc.inj (fun id b hb => by rw [h]; exact hc.own id b hb) (by rw [h]; exact Nat.le_refl _) (fun b _ => by rw [h]) ⟨rfl, rfl, rfl, rfl, rfl⟩ hio
  by_cases hid : id < s.nx
  · exact .inl ⟨hid, rfl, fun g _ => by rw [h]⟩
  · right; rw [hc.nx id (by omega)]; trivial

def Cx.at (C : Cx) (n : Nat) (β : Nat) (base : Option Addr) (cap : Nat) : Cx := { C with β := upd C.β n β, base := upd C.base n base, cap := upd C.cap n cap }

def St.add (s : St) (b : AB) : St := ⟨s.env, (s.nx, b) :: s.heap, s.nx + 1, s.gs, s.kn⟩

theorem ownB_add {β : Nat} {base : Option Addr} {cap : Nat} {b : AB} {id : Nat} (h : id ≠ s.nx) :
    ownB (C.at s.nx β base cap) (s.add b).heap id = ownB C s.heap id := by
  simp only [ownB, St.add, getB_cons, h, if_false, Cx.at, upd_ne _ _ h]

/-- A new block, behind what was there. -/
theorem Ext.add (hsame : ∀ b, b < w.heap.size → w'.heap[b]? = w.heap[b]?) {β : Nat} {base : Option Addr} {cap : Nat} {b : AB}
    (hnew : ∀ g, ownB (C.at s.nx β base cap) (s.add b).heap s.nx = some g → w.heap.size ≤ g) : Ext C s w (C.at s.nx β base cap) (s.add b) w' := by
  refine ⟨fun b hb _ => hsame b hb, fun g hg hx => ?_, Nat.le_succ _, fun id hid => ?_, fun id hid wr' t' b' l' h => ?_⟩
  · rcases hx with hx | ⟨id, hx⟩
    · exact .inl hx
    · by_cases e : id = s.nx
      · subst e; have := hnew g hx; omega
      · rw [ownB_add e] at hx; exact .inr ⟨id, hx⟩
  · have : id ≠ s.nx := by omega
    simp only [Cx.at, upd_ne _ _ this, and_self]
  · have : id ≠ s.nx := by omega
    simp only [St.add, getB_cons, this, if_false] at h
    exact ⟨wr', b', l', h, rfl⟩

theorem CS.add (hc : CS T C s a w) (hge : w.heap.size ≤ w'.heap.size) (hsame : ∀ b, b < w.heap.size → w'.heap[b]? = w.heap[b]?) {β : Nat} {base : Option Addr} {cap : Nat} {b : AB}
    (hnew : ∀ g, ownB (C.at s.nx β base cap) (s.add b).heap s.nx = some g → w.heap.size ≤ g ∧ g < w'.heap.size)
    (hrep : RepB T (C.at s.nx β base cap) (s.add b) w' s.nx b) (hio : w'.os = w.os ∧ w'.tape = w.tape ∧ w'.output = w.output := by exact ⟨rfl, rfl, rfl⟩) : CS T (C.at s.nx β base cap) (s.add b) a w' := by
  have E : Ext C s w (C.at s.nx β base cap) (s.add b) w' := Ext.add hsame (fun g h => (hnew g h).1)
  refine hc.heap E rfl rfl rfl (fun id => ?_) (fun id hid => ?_) (fun id id' g h h' => ?_) (fun id g h => ?_) hge (fun g hg => hsame g (Nat.lt_of_lt_of_le (hc.g g hg).1 hc.ge)) ⟨rfl, rfl, rfl, rfl, rfl⟩ hio
  · by_cases e : id = s.nx
    · subst e; right; simp only [St.add, getB_cons, if_true]; exact hrep
    · by_cases hlt : id < s.nx
      · left; exact ⟨hlt, by simp only [St.add, getB_cons, e, if_false], fun g hg => hsame g (hc.own id g hg).1⟩
      · right; simp only [St.add, getB_cons, e, if_false]; rw [hc.nx id (by omega)]; trivial
  · have h1 : id ≠ s.nx := by simp [St.add] at hid; omega
    simp only [St.add, getB_cons, h1, if_false]
    exact hc.nx id (by simp [St.add] at hid; omega)
  · by_cases e : id = s.nx
    · by_cases e' : id' = s.nx
      · rw [e, e']
      · subst e
        rw [ownB_add e'] at h'
        have h1 := (hnew g h).1
        have h2 := (hc.own id' g h').1
        omega
    · by_cases e' : id' = s.nx
      · subst e'
        rw [ownB_add e] at h
        have h1 := (hnew g h').1
        have h2 := (hc.own id g h).1
        omega
      · rw [ownB_add e] at h
        rw [ownB_add e'] at h'
        exact hc.inj id id' g h h'
  · by_cases e : id = s.nx
    · subst e
      have h1 := hnew g h
      refine ⟨h1.2, fun hG => ?_, fun hF => ?_⟩
      · have := (hc.g g hG).1; have := hc.ge; omega
      · have := hc.f g hF; omega
    · rw [ownB_add e] at h
      have := hc.own id g h
      exact ⟨Nat.lt_of_lt_of_le this.1 hge, this.2.1, this.2.2⟩

def St.set (s : St) (id : Nat) (b : AB) : St := ⟨s.env, (id, b) :: s.heap, s.nx, s.gs, s.kn⟩

/-- An own block's contents have changed. -/
theorem CS.set (hc : CS T C s a w) {id g0 : Nat} (hid : id < s.nx) (ho : ownB C s.heap id = some g0) {b : AB} (ho' : ownB C (s.set id b).heap id = some g0)
    (hshp : ∀ wr' t' b' l', b = .arr wr' t' b' l' → ∃ wr b0 l, getB s.heap id = .arr wr t' b0 l ∧ l.length = l'.length)
    (hsz : w'.heap.size = w.heap.size) (hsame : ∀ g, g ≠ g0 → w'.heap[g]? = w.heap[g]?)
    (hrep : Ext C s w C (s.set id b) w' → RepB T C (s.set id b) w' id b) (hio : w'.os = w.os ∧ w'.tape = w.tape ∧ w'.output = w.output := by exact ⟨rfl, rfl, rfl⟩) : CS T C (s.set id b) a w' := by
  have hother : ∀ i, i ≠ id → ownB C (s.set id b).heap i = ownB C s.heap i := fun i hi => by simp only [ownB, St.set, getB_cons, hi, if_false]
  have hall : ∀ i, ownB C (s.set id b).heap i = ownB C s.heap i := fun i => by
    by_cases e : i = id
    · subst e; rw [ho', ho]
    · exact hother i e
  have E : Ext C s w C (s.set id b) w' := by
    refine ⟨fun g hg hx => hsame g (fun e => hx (.inr ⟨id, by rw [e]; exact ho⟩)), fun g _ hx => ?_, Nat.le_refl _, fun _ _ => ⟨rfl, rfl, rfl⟩, fun i hi wr' t' b' l' h => ?_⟩
    · rcases hx with hx | ⟨i, hx⟩
      · exact .inl hx
      · rw [hall] at hx; exact .inr ⟨i, hx⟩
    · by_cases e : i = id
      · subst e
        simp only [St.set, getB_cons, if_true] at h
        exact hshp _ _ _ _ h
      · simp only [St.set, getB_cons, e, if_false] at h
        exact ⟨wr', b', l', h, rfl⟩
  refine hc.heap E rfl rfl rfl (fun i => ?_) (fun i hi => ?_) (fun i i' g h h' => ?_) (fun i g h => ?_) (Nat.le_of_eq hsz.symm) (fun g hg => hsame g (fun e => ?_)) ⟨rfl, rfl, rfl, rfl, rfl⟩ hio
  · by_cases e : i = id
    · subst e; right; simp only [St.set, getB_cons, if_true]; exact hrep E
    · by_cases hlt : i < s.nx
      · left
        refine ⟨hlt, by simp only [St.set, getB_cons, e, if_false], fun g hg => hsame g (fun e' => e ?_)⟩
        subst e'; exact hc.inj i id g hg ho
      · right; simp only [St.set, getB_cons, e, if_false]; rw [hc.nx i (by omega)]; trivial
  · have : i ≠ id := by simp [St.set] at hi; omega
    simp only [St.set, getB_cons, this, if_false]
    exact hc.nx i (by simpa [St.set] using hi)
  · rw [hall] at h h'; exact hc.inj i i' g h h'
  · rw [hall] at h; rw [hsz]; exact hc.own i g h
  · subst e; exact (hc.own id g ho).2.1 hg

/-- Own slices that nobody writes to any more. -/
theorem CS.frzE (hc : CS T C s a w) {id : Nat} {wr : Bool} {t : TypeId} {b : Bool} {l : List (List AV)} (hb : getB s.heap id = .arr wr t b l) : Ext C s w C (s.set id (.arr false t b l)) w := by
  have hid : id < s.nx := by
    rcases Nat.lt_or_ge id s.nx with h | h
    · exact h
    · rw [hc.nx id h] at hb; cases hb
  have hself : ownB C (s.set id (.arr false t b l)).heap id = none := by simp [ownB, St.set, getB_cons]
  have hother : ∀ i, i ≠ id → ownB C (s.set id (.arr false t b l)).heap i = ownB C s.heap i := fun i hi => by simp only [ownB, St.set, getB_cons, hi, if_false]
  have hle : ∀ i g, ownB C (s.set id (.arr false t b l)).heap i = some g → i ≠ id ∧ ownB C s.heap i = some g := fun i g h => by
    by_cases e : i = id
    · subst e; rw [hself] at h; cases h
    · rw [hother i e] at h; exact ⟨e, h⟩
  refine ⟨fun _ _ _ => rfl, fun g _ hx => ?_, Nat.le_refl _, fun _ _ => ⟨rfl, rfl, rfl⟩, fun i hi wr' t' b' l' h => ?_⟩
  · rcases hx with hx | ⟨i, hx⟩
    · exact .inl hx
    · exact .inr ⟨i, (hle i g hx).2⟩
  · by_cases e : i = id
    · subst e
      simp only [St.set, getB_cons, if_true] at h
      injection h with h1 h2 h3 h4
      subst h2 h3 h4
      exact ⟨wr, b, l, hb, rfl⟩
    · simp only [St.set, getB_cons, e, if_false] at h
      exact ⟨wr', b', l', h, rfl⟩
theorem CS.frz (hc : CS T C s a w) {id : Nat} {wr : Bool} {t : TypeId} {b : Bool} {l : List (List AV)} (hb : getB s.heap id = .arr wr t b l) : CS T C (s.set id (.arr false t b l)) a w := by
  have hid : id < s.nx := by
    rcases Nat.lt_or_ge id s.nx with h | h
    · exact h
    · rw [hc.nx id h] at hb; cases hb
  have hself : ownB C (s.set id (.arr false t b l)).heap id = none := by simp [ownB, St.set, getB_cons]
  have hother : ∀ i, i ≠ id → ownB C (s.set id (.arr false t b l)).heap i = ownB C s.heap i := fun i hi => by simp only [ownB, St.set, getB_cons, hi, if_false]
  have hle : ∀ i g, ownB C (s.set id (.arr false t b l)).heap i = some g → i ≠ id ∧ ownB C s.heap i = some g := fun i g h => by
    by_cases e : i = id
    · subst e; rw [hself] at h; cases h
    · rw [hother i e] at h; exact ⟨e, h⟩
  have E := hc.frzE hb
  refine hc.heap E rfl rfl rfl (fun i => ?_) (fun i hi => ?_) (fun i i' g h h' => hc.inj i i' g (hle i g h).2 (hle i' g h').2) (fun i g h => hc.own i g (hle i g h).2) (Nat.le_refl _) (fun _ _ => rfl) ⟨rfl, rfl, rfl, rfl, rfl⟩ ⟨rfl, rfl, rfl⟩
  · by_cases e : i = id
    · subst e; right; simp only [St.set, getB_cons, if_true]
      have hr := hc.blk i
      rw [hb] at hr
      obtain ⟨cks, hk, hp, h⟩ := hr
      refine ⟨cks, hk, hp, ?_⟩
      rcases h with h | ⟨hn, hcap, g, o, hbase, hlen, hrr, hw, hf⟩
      · exact .inl h
      · have hrow : RowsRep T w (XB C (s.set i (.arr false t b l)).heap) g o cks l := hrr.keep (fun _ _ _ => rfl) E.h2 rfl
        refine .inr ⟨hn, hcap, g, o, hbase, hlen, hrow, (fun h => by cases h), fun _ hl hx => ?_⟩
        cases wr with
        | true =>
          have hg : ownB C s.heap i = some g := by simp [ownB, hb, hbase, Nat.ne_of_gt hcap]
          rcases hx with hx | ⟨i', hx⟩
          · exact (hc.own i g hg).2.2 hx
          · obtain ⟨h1, h2⟩ := hle i' g hx
            exact h1 (hc.inj i' i g h2 hg)
        | false =>
          refine hf rfl hl ?_
          rcases hx with hx | ⟨i', hx⟩
          · exact .inl hx
          · exact .inr ⟨i', (hle i' g hx).2⟩
    · by_cases hlt : i < s.nx
      · left; exact ⟨hlt, by simp only [St.set, getB_cons, e, if_false], fun _ _ => rfl⟩
      · right; simp only [St.set, getB_cons, e, if_false]; rw [hc.nx i (by omega)]; trivial
  · have : i ≠ id := by simp [St.set] at hi; omega
    simp only [St.set, getB_cons, this, if_false]
    exact hc.nx i (by simpa [St.set] using hi)

theorem frz_stays : ∀ (r : List Nat) {h : Hp} {id : Nat} {t : TypeId} {b : Bool} {l : List (List AV)} (_ : getB h id = .arr false t b l) {wr : Bool} {t' : TypeId} {b' : Bool} {l' : List (List AV)}, getB (Go.Proofs.Ytaghkmaelbgljaa.VX.freeze h r) id = .arr wr t' b' l' → wr = false
  | [], _, _, _, _, _, hb, _, _, _, _, h' => by simp only [Go.Proofs.Ytaghkmaelbgljaa.VX.freeze] at h'; rw [hb] at h'; injection h' with h' _ _ _; exact h'.symm
  | i :: r, h, id, t, b, l, hb, _, _, _, _, h' => by
    simp only [Go.Proofs.Ytaghkmaelbgljaa.VX.freeze] at h'
    cases hi : getB h i with
    | arr wr0 t0 b0 l0 =>
      rw [hi] at h'
      refine frz_stays r (t := if id = i then t0 else t) (b := if id = i then b0 else b) (l := if id = i then l0 else l) ?_ h'
      rw [getB_cons]
      by_cases e : id = i
      · simp [e]
      · simp [e, hb]
    | box _ _ => rw [hi] at h'; exact frz_stays r hb h'
    | gone => rw [hi] at h'; exact frz_stays r hb h'
theorem Ext.trans {C C' C'' : Cx} {s s' s'' : St} {w w' w'' : World} (E : Ext C s w C' s' w') (E' : Ext C' s' w' C'' s'' w'') (hsz : w.heap.size ≤ w'.heap.size) : Ext C s w C'' s'' w'' := by
  refine ⟨fun b hb hx => ?_, fun b hb hx => E.h2 b hb (E'.h2 b (by omega) hx), Nat.le_trans E.nx E'.nx, fun id hid => ?_, fun id hid wr' t' b' l' h => ?_⟩
  · rw [E'.h1 b (by omega) (fun hx' => hx (E.h2 b hb hx')), E.h1 b hb hx]
  · have h1 := E.ids id hid
    have h2 := E'.ids id (Nat.lt_of_lt_of_le hid E.nx)
    exact ⟨h2.1.trans h1.1, h2.2.1.trans h1.2.1, h2.2.2.trans h1.2.2⟩
  · obtain ⟨wr1, b1, l1, h1, e1⟩ := E'.shp id (Nat.lt_of_lt_of_le hid E.nx) _ _ _ _ h
    obtain ⟨wr2, b2, l2, h2, e2⟩ := E.shp id hid _ _ _ _ h1
    exact ⟨wr2, b2, l2, h2, e2.trans e1⟩
theorem Ext.refl (C : Cx) (s : St) (w : World) : Ext C s w C s w :=
  ⟨fun _ _ _ => rfl, fun _ _ h => h, Nat.le_refl _, fun _ _ => ⟨rfl, rfl, rfl⟩, fun id _ wr' t' b' l' h => ⟨wr', b', l', h, rfl⟩⟩
/-- Frozen ones. -/
def frzs (s : St) (ids : List Nat) : St := ⟨s.env, Go.Proofs.Ytaghkmaelbgljaa.VX.freeze s.heap ids, s.nx, s.gs, s.kn⟩
theorem CS.freeze (hc : CS T C s a w) (ids : List Nat) : CS T C (frzs s ids) a w ∧ Ext C s w C (frzs s ids) w ∧
    (∀ id, (∀ wr t b l, getB s.heap id = .arr wr t b l → ∃ wr', getB (frzs s ids).heap id = .arr wr' t b l ∧ (id ∈ ids → wr' = false)) ∧ ((∀ wr t b l, getB s.heap id ≠ .arr wr t b l) → getB (frzs s ids).heap id = getB s.heap id)) := by
  induction ids generalizing s with
  | nil => exact ⟨hc, Ext.refl _ _ _, fun id => ⟨fun wr t b l h => ⟨wr, h, fun h => by cases h⟩, fun _ => rfl⟩⟩
  | cons i r ih =>
    cases hb : getB s.heap i with
    | arr wr t b l =>
      obtain ⟨h1, h2, h3⟩ := ih (hc.frz hb)
      have e : frzs s (i :: r) = frzs (s.set i (.arr false t b l)) r := by simp only [frzs, Go.Proofs.Ytaghkmaelbgljaa.VX.freeze, hb]; rfl
      rw [e]
      refine ⟨h1, (hc.frzE hb).trans h2 (Nat.le_refl _), fun id => ?_⟩
      by_cases he : id = i
      · subst he
        refine ⟨fun wr' t' b' l' h => ?_, fun h => absurd hb (h _ _ _ _)⟩
        rw [hb] at h
        injection h with _ e2 e3 e4
        subst e2 e3 e4
        obtain ⟨wr1, h4, h5⟩ := (h3 id).1 false t b l (by simp [St.set, getB_cons])
        refine ⟨wr1, h4, fun _ => ?_⟩
        by_cases hm : id ∈ r
        · exact h5 hm
        · exact frz_stays r (h := (s.set id (.arr false t b l)).heap) (id := id) (t := t) (b := b) (l := l) (by simp [St.set, getB_cons]) h4
      · have hs : getB (s.set i (.arr false t b l)).heap id = getB s.heap id := by simp only [St.set, getB_cons, he, if_false]
        have := h3 id
        rw [hs] at this
        refine ⟨fun wr' t' b' l' h => ?_, this.2⟩
        obtain ⟨wr1, h4, h5⟩ := this.1 wr' t' b' l' h
        exact ⟨wr1, h4, fun hm => h5 (by rcases List.mem_cons.1 hm with hm | hm; exact absurd hm he; exact hm)⟩
    | box t cs =>
      obtain ⟨h1, h2, h3⟩ := ih hc
      have e : frzs s (i :: r) = frzs s r := by simp only [frzs, Go.Proofs.Ytaghkmaelbgljaa.VX.freeze, hb]
      rw [e]
      refine ⟨h1, h2, fun id => ⟨fun wr' t' b' l' h => ?_, (h3 id).2⟩⟩
      obtain ⟨wr1, h4, h5⟩ := (h3 id).1 wr' t' b' l' h
      exact ⟨wr1, h4, fun hm => h5 (by rcases List.mem_cons.1 hm with hm | hm; subst hm; rw [hb] at h; cases h; exact hm)⟩
    | gone =>
      obtain ⟨h1, h2, h3⟩ := ih hc
      have e : frzs s (i :: r) = frzs s r := by simp only [frzs, Go.Proofs.Ytaghkmaelbgljaa.VX.freeze, hb]
      rw [e]
      refine ⟨h1, h2, fun id => ⟨fun wr' t' b' l' h => ?_, (h3 id).2⟩⟩
      obtain ⟨wr1, h4, h5⟩ := (h3 id).1 wr' t' b' l' h
      exact ⟨wr1, h4, fun hm => h5 (by rcases List.mem_cons.1 hm with hm | hm; subst hm; rw [hb] at h; cases h; exact hm)⟩
end
end Go.Proofs.Ytaghkmaelbgljaa.VX
