/- The table of types, and the operations that only compute and read. -/
import Derived.Test.YtaghkmaelbgljaaVX1
import Derived.Laws.StructEq
namespace Go.Proofs.Ytaghkmaelbgljaa.VX

/-- A constant's value, of one cell. -/
def zv : AV → Option Value
  | .int k n => some (.int k n)
  | .kb b => some (.bool b)
  | .str s => if s.size = 0 then some (.string .empty) else none
  | .nilp => some (.pointer none)
  | .nils => some (.slice none 0 0)
  | .nili => some .nilIface
  | .nilf => some .nilFunc
  | _ => none
def vIs : Value → Value → Bool
  | .int k n, .int k' n' => decide (k = k') && decide (n = n')
  | .bool b, .bool b' => b == b'
  | .string s, .string s' => decide (s.size = 0) && decide (s'.size = 0)
  | .pointer none, .pointer none => true
  | .slice none 0 0, .slice none 0 0 => true
  | .nilIface, .nilIface => true
  | .nilFunc, .nilFunc => true
  | _, _ => false
theorem size_zero {s : ByteArray} (h : s.size = 0) : s = .empty := by
  obtain ⟨⟨l⟩⟩ := s
  cases l with
  | nil => rfl
  | cons x r => simp [ByteArray.size] at h
theorem vIs_eq {a b : Value} (h : vIs a b = true) : a = b := by
  unfold vIs at h
  split at h <;> simp_all

def zerosOK : List AV → List Value → Bool
  | [], [] => true
  | x :: xs, v :: vs => (match zv x with | some u => vIs u v | none => false) && zerosOK xs vs
  | _, _ => false

def ckV : CK → Value
  | .int k => .int k 0
  | .bool => .bool false
  | .str => .string .empty
  | .sl _ => .slice none 0 0
def ckOK : List CK → List Value → Bool
  | [], [] => true
  | c :: cs, v :: vs => vIs (ckV c) v && ckOK cs vs
  | _, _ => false

def fieldsOK (P : Program) : List (TypeId × Nat × Nat × Bool) → List Field → Bool
  | [], [] => true
  | (t, off, size, blank) :: r, f :: fs => Nat.beq t f.type && Nat.beq off f.offset && Nat.beq size (P.cellsOf f.type) && (blank == (f.name == "_")) && (P.info? f.type).isSome && fieldsOK P r fs
  | _, _ => false

def descOK (P : Program) : XD → TypeDesc → Bool
  | .int k, .int k' => decide (k = k')
  | .bool, .bool => true
  | .str, .string => true
  | .ptr e, .pointer e' => Nat.beq e e'
  | .slice e, .slice e' => Nat.beq e e'
  | .arr n e, .array n' e' => Nat.beq n n' && Nat.beq e e'
  | .struct fs, .struct fs' => fieldsOK P fs fs'.toList
  | .other, .func _ _ _ => true
  | .other, .interface _ => true
  | .other, .map _ _ => true
  | .other, .chan _ _ => true
  | .other, .tuple _ => true
  | .other, .unsafePointer => true
  | _, _ => false

def eqFs (P : Program) (g : TypeId → Option (List CK)) : Nat → List Field → Option (List CK)
  | _, [] => some []
  | o, f :: fs => match g f.type with
    | some c => bif Nat.beq f.offset o && Nat.beq (P.cellsOf f.type) c.length && f.name != "_" then (match eqFs P g (o + c.length) fs with | some r => some (c ++ r) | none => none) else none
    | none => none
/-- The cells of a flat type: of whole numbers, bools and strings alone. -/
def eqCk (P : Program) : Nat → TypeId → Option (List CK)
  | 0, _ => none
  | d + 1, t => match P.underlying t with
    | some (.int k) => some [.int k]
    | some .bool => some [.bool]
    | some .string => some [.str]
    | some (.struct fs) => bif P.stoodInHeld t then none else eqFs P (eqCk P d) 0 fs.toList
    | _ => none
def ckIs : List CK → List CK → Bool
  | [], [] => true
  | .int k :: r, .int k' :: r' => decide (k = k') && ckIs r r'
  | .bool :: r, .bool :: r' => ckIs r r'
  | .str :: r, .str :: r' => ckIs r r'
  | _, _ => false
theorem ckIs_eq : ∀ {a b : List CK}, ckIs a b = true → a = b
  | [], [], _ => rfl
  | .int k :: r, .int k' :: r', h => by simp [ckIs] at h; rw [h.1, ckIs_eq h.2]
  | .bool :: r, .bool :: r', h => by simp [ckIs] at h; rw [ckIs_eq h]
  | .str :: r, .str :: r', h => by simp [ckIs] at h; rw [ckIs_eq h]
  | .int _ :: _, [], h | .bool :: _, [], h | .str :: _, [], h | .sl _ :: _, [], h => by simp [ckIs] at h
  | [], _ :: _, h => by simp [ckIs] at h
  | .int _ :: _, .bool :: _, h | .int _ :: _, .str :: _, h | .int _ :: _, .sl _ :: _, h => by simp [ckIs] at h
  | .bool :: _, .int _ :: _, h | .bool :: _, .str :: _, h | .bool :: _, .sl _ :: _, h => by simp [ckIs] at h
  | .str :: _, .int _ :: _, h | .str :: _, .bool :: _, h | .str :: _, .sl _ :: _, h => by simp [ckIs] at h
  | .sl _ :: _, _ :: _, h => by simp [ckIs] at h

def rowOK (P : Program) (t : TypeId) (x : XI) : Bool :=
  (match P.info? t with
    | some i => Nat.beq i.size x.size && Nat.beq i.bytes x.bytes && (match i.zero with
      | some z => zerosOK x.zero z.cells.toList && Nat.beq x.zero.length x.size && (match x.ck with
        | some c => ckOK c z.cells.toList && Nat.blt 0 c.length && Nat.beq c.length x.size && Nat.blt 0 x.bytes
        | none => true)
      | none => false)
    | none => false) &&
  (match P.underlying t with
    | some d => descOK P x.desc d
    | none => false) &&
  (!x.eq || Nat.ble 8 P.depth && (match eqCk P 8 t, x.ck with | some c, some c' => ckIs c c' | _, _ => false))
def tabOK (P : Program) (T : Tab) : Bool := T.all fun r => rowOK P r.1 r.2

structure RowOK (P : Program) (t : TypeId) (x : XI) : Prop where
  info : ∃ i z, P.info? t = some i ∧ i.size = x.size ∧ i.bytes = x.bytes ∧ i.zero = some z ∧ zerosOK x.zero z.cells.toList = true ∧ x.zero.length = x.size ∧
    ∀ c, x.ck = some c → ckOK c z.cells.toList = true ∧ 0 < c.length ∧ c.length = x.size ∧ 0 < x.bytes
  desc : ∃ d, P.underlying t = some d ∧ descOK P x.desc d = true
  eq : x.eq = true → 8 ≤ P.depth ∧ ∃ c, eqCk P 8 t = some c ∧ x.ck = some c

theorem beq_nat {a b : Nat} (h : Nat.beq a b = true) : a = b := Nat.eq_of_beq_eq_true h
theorem rowOK_spec {P : Program} {t : TypeId} {x : XI} (h : rowOK P t x = true) : RowOK P t x := by
  unfold rowOK at h
  simp only [Bool.and_eq_true] at h
  obtain ⟨⟨h1, h2⟩, h3⟩ := h
  refine ⟨?_, ?_, fun he => ?_⟩
  · cases hi : P.info? t with
    | none => simp [hi] at h1
    | some i =>
      simp only [hi, Bool.and_eq_true] at h1
      obtain ⟨⟨ha, hb⟩, hz⟩ := h1
      cases hz' : i.zero with
      | none => simp [hz'] at hz
      | some z =>
        simp only [hz', Bool.and_eq_true] at hz
        obtain ⟨⟨hz1, hz2⟩, hz3⟩ := hz
        refine ⟨i, z, rfl, beq_nat ha, beq_nat hb, hz', hz1, beq_nat hz2, fun c hc => ?_⟩
        rw [hc] at hz3
        simp only [Bool.and_eq_true] at hz3
        exact ⟨hz3.1.1.1, Nat.lt_of_lt_of_le Nat.zero_lt_one (by simpa [Nat.blt] using hz3.1.1.2), beq_nat hz3.1.2, Nat.lt_of_lt_of_le Nat.zero_lt_one (by simpa [Nat.blt] using hz3.2)⟩
  · cases hu : P.underlying t with
    | none => simp [hu] at h2
    | some d => exact ⟨d, rfl, by simpa [hu] using h2⟩
  · simp only [he, Bool.not_true, Bool.false_or] at h3
    simp only [Bool.and_eq_true] at h3
    obtain ⟨h0, h3⟩ := h3
    refine ⟨Nat.le_of_ble_eq_true h0, ?_⟩
    cases h4 : eqCk P 8 t with
    | none => simp [h4] at h3
    | some c =>
      cases h5 : x.ck with
      | none => simp [h4, h5] at h3
      | some c' =>
        simp only [h4, h5] at h3
        rw [ckIs_eq h3]
        exact ⟨c', rfl, rfl⟩
theorem tab_get {P : Program} : ∀ {T : Tab}, tabOK P T = true → ∀ {t : TypeId} {x : XI}, T.get t = some x → RowOK P t x
  | [], _, _, _, h => by simp [Tab.get] at h
  | (s, y) :: r, hT, t, x, h => by
    simp only [tabOK, List.all_cons, Bool.and_eq_true] at hT
    simp only [Tab.get] at h
    cases e : Nat.beq s t with
    | true =>
      simp only [e, cond_true] at h
      injection h with h
      subst h
      have := beq_nat e
      subst this
      exact rowOK_spec hT.1
    | false =>
      simp only [e, cond_false] at h
      exact tab_get (by simpa [tabOK] using hT.2) h

section
variable {P : Program} {T : Tab}
theorem RowOK.size {t : TypeId} {x : XI} (h : RowOK P t x) (w : World) : (sizeOf t).run P w = .ok x.size w := by
  obtain ⟨i, z, hi, hs, _⟩ := h.info
  simp [sizeOf, typeInfo, hi, hs]
theorem RowOK.cells {t : TypeId} {x : XI} (h : RowOK P t x) : P.cellsOf t = x.size := by
  obtain ⟨i, z, hi, hs, _⟩ := h.info
  simp [Program.cellsOf, hi, hs]
theorem RowOK.isRow {t : TypeId} {x : XI} (h : RowOK P t x) : ∃ d, P.underlying t = some d ∧ d.isRow = x.desc.isAgg := by
  obtain ⟨d, hu, hd⟩ := h.desc
  refine ⟨d, hu, ?_⟩
  unfold descOK at hd
  split at hd <;> simp_all [XD.isAgg]
theorem run_isAgg {t : TypeId} {d : TypeDesc} (hu : P.underlying t = some d) (w : World) : (isAgg t).run P w = .ok d.isRow w := by
  unfold isAgg
  rw [Sem.run_bind, run_underlying hu w]
  cases d <;> simp
theorem RowOK.agg {t : TypeId} {x : XI} (h : RowOK P t x) (w : World) : (isAgg t).run P w = .ok x.desc.isAgg w := by
  obtain ⟨d, hu, hd⟩ := h.isRow
  rw [run_isAgg hu w, hd]

theorem ckOf_some {t : TypeId} {cks : List CK} (h : ckOf T t = some cks) : ∃ x, T.get t = some x ∧ x.ck = some cks := by
  unfold ckOf at h
  cases hx : T.get t with
  | none => simp [hx] at h
  | some x => exact ⟨x, rfl, by simpa [hx] using h⟩
theorem elemOf_some {t e : TypeId} (h : elemOf T t = some e) : ∃ x, T.get t = some x ∧ x.desc = .slice e := by
  unfold elemOf at h
  cases hx : T.get t with
  | none => simp [hx] at h
  | some x =>
    refine ⟨x, rfl, ?_⟩
    simp only [hx] at h
    cases hd : x.desc <;> simp_all
theorem RowOK.slice {t e : TypeId} {x : XI} (h : RowOK P t x) (hd : x.desc = .slice e) : P.underlying t = some (.slice e) := by
  obtain ⟨d, hu, hk⟩ := h.desc
  rw [hd] at hk
  cases d <;> simp [descOK] at hk
  rw [hu, hk]
theorem RowOK.int {t : TypeId} {k : IntKind} {x : XI} (h : RowOK P t x) (hd : x.desc = .int k) : P.underlying t = some (.int k) := by
  obtain ⟨d, hu, hk⟩ := h.desc
  rw [hd] at hk
  cases d <;> simp [descOK] at hk
  rw [hu, hk]
theorem RowOK.bool {t : TypeId} {x : XI} (h : RowOK P t x) (hd : x.desc = .bool) : P.underlying t = some .bool := by
  obtain ⟨d, hu, hk⟩ := h.desc
  rw [hd] at hk
  cases d <;> simp [descOK] at hk
  rw [hu]
theorem RowOK.str {t : TypeId} {x : XI} (h : RowOK P t x) (hd : x.desc = .str) : P.underlying t = some .string := by
  obtain ⟨d, hu, hk⟩ := h.desc
  rw [hd] at hk
  cases d <;> simp [descOK] at hk
  rw [hu]
theorem RowOK.ptr {t e : TypeId} {x : XI} (h : RowOK P t x) (hd : x.desc = .ptr e) : P.underlying t = some (.pointer e) := by
  obtain ⟨d, hu, hk⟩ := h.desc
  rw [hd] at hk
  cases d <;> simp [descOK] at hk
  rw [hu, hk]
theorem RowOK.arr {t e : TypeId} {n : Nat} {x : XI} (h : RowOK P t x) (hd : x.desc = .arr n e) : P.underlying t = some (.array n e) := by
  obtain ⟨d, hu, hk⟩ := h.desc
  rw [hd] at hk
  cases d <;> simp [descOK] at hk
  rw [hu, hk.1, hk.2]
theorem fieldsOK_get : ∀ {fs : List (TypeId × Nat × Nat × Bool)} {gs : List Field}, fieldsOK P fs gs = true → ∀ {i : Nat} {t : TypeId} {off size : Nat} {b : Bool}, fs[i]? = some (t, off, size, b) →
    ∃ f, gs[i]? = some f ∧ f.type = t ∧ f.offset = off ∧ P.cellsOf f.type = size
  | (t0, off0, size0, b0) :: r, g :: gs, h, 0, t, off, size, b, hi => by
    simp only [fieldsOK, Bool.and_eq_true] at h
    simp at hi
    obtain ⟨rfl, rfl, rfl, rfl⟩ := hi
    exact ⟨g, rfl, (beq_nat h.1.1.1.1.1).symm, (beq_nat h.1.1.1.1.2).symm, (beq_nat h.1.1.1.2).symm⟩
  | _ :: r, g :: gs, h, i + 1, t, off, size, b, hi => by
    simp only [fieldsOK, Bool.and_eq_true] at h
    simpa using fieldsOK_get h.2 (i := i) (by simpa using hi)
  | [], _, _, _, _, _, _, _, hi => by simp at hi
  | _ :: _, [], h, _, _, _, _, _, _ => by simp [fieldsOK] at h
theorem RowOK.struct {t : TypeId} {fs : List (TypeId × Nat × Nat × Bool)} {x : XI} (h : RowOK P t x) (hd : x.desc = .struct fs) : ∃ gs : Array Field, P.underlying t = some (.struct gs) ∧ fieldsOK P fs gs.toList = true := by
  obtain ⟨d, hu, hk⟩ := h.desc
  rw [hd] at hk
  cases d <;> simp [descOK] at hk
  exact ⟨_, hu, hk⟩
end
end Go.Proofs.Ytaghkmaelbgljaa.VX
