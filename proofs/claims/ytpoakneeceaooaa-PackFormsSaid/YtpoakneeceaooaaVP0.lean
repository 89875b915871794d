/- Layer 8's functions in plain form: shapes and windows. -/
import Derived.Test.YtpoakneeceaooaaVS
import Derived.IntWalk
import Derived.Handy
import Derived.WalkKit
import Derived.Laws.Strings
import Derived.Test.YtpoakneeceaooaaVX2
set_option linter.unusedVariables false
set_option linter.unusedSimpArgs false
set_option linter.unusedVariables false
namespace Go.Proofs.Ytpoakneeceaooaa.VX
/-- A cell of a row. -/
def cI (r : List AV) (j : Nat) : Int := (r.getD j .dead).toInt
def cN (r : List AV) (j : Nat) : Bool := (r.getD j .dead).toNil
def cR (r : List AV) (j : Nat) : Rws := (r.getD j .dead).toRows
theorem ri_eq (l : Rws) (i j : Nat) : ri l i j = cI (l.getD i []) j := rfl
theorem rn_eq (l : Rws) (i j : Nat) : rn l i j = cN (l.getD i []) j := rfl
theorem rr_eq (l : Rws) (i j : Nat) : rr l i j = cR (l.getD i []) j := rfl

theorem wrap64_in {x : Int} (h : -9223372036854775808 ≤ x) (h' : x ≤ 9223372036854775807) : IntKind.i64.wrap x = x := by
  rw [IntKind.wrap_i64]; omega
theorem W.bindI {α β : Type} {x : W α} {f : α → W β} {R : β → Prop} (h : x.run fun a => (f a).run R) : (W.bind x f).run R := h
structure Shp where
  h : Int
  w : Int
  c : Int
  deriving DecidableEq, Inhabited
def Shp.ok (s : Shp) : Prop := (1 ≤ s.h ∧ s.h ≤ 1024) ∧ (1 ≤ s.w ∧ s.w ≤ 1024) ∧ (1 ≤ s.c ∧ s.c ≤ 1024) ∧ s.h * s.w * s.c ≤ 16384
instance (s : Shp) : Decidable s.ok := by unfold Shp.ok; infer_instance
theorem mul_bd {a b A B : Int} (ha : 0 ≤ a) (hA : a ≤ A) (hb : 0 ≤ b) (hB : b ≤ B) : 0 ≤ a * b ∧ a * b ≤ A * B :=
  ⟨Int.mul_nonneg ha hb, Int.mul_le_mul hA hB hb (Int.le_trans ha hA)⟩
theorem prod3 {a b c : Int} (ha : 1 ≤ a ∧ a ≤ 1024) (hb : 1 ≤ b ∧ b ≤ 1024) (hc : 1 ≤ c ∧ c ≤ 1024) : 0 ≤ a * b ∧ a * b ≤ 1048576 ∧ 0 ≤ a * b * c ∧ a * b * c ≤ 1073741824 := by
  have h1 := mul_bd (A := 1024) (B := 1024) (by omega : 0 ≤ a) (by omega) (by omega : 0 ≤ b) (by omega)
  have h2 := mul_bd (A := 1048576) (B := 1024) h1.1 (by omega) (by omega : 0 ≤ c) (by omega)
  exact ⟨h1.1, by omega, h2.1, by omega⟩

theorem g_ref05_dim_ok (a : Int) {R : Bool → Prop} (h : R (decide (1 ≤ a ∧ a ≤ 1024))) : (g_ref05_dim a).run R := by
  unfold g_ref05_dim
  simpa using h
theorem g_ref05_Valid_ok (a b c : Int) {R : Bool → Prop} (h : R (decide (Shp.ok ⟨a, b, c⟩))) : (g_ref05_Valid a b c).run R := by
  unfold g_ref05_Valid
  refine W.bindI ?_
  refine W.bindI (g_ref05_dim_ok _ ?_)
  simp only [W.run_ite, decide_eq_true_eq]
  split
  · rename_i h1
    refine W.bindI (g_ref05_dim_ok _ ?_)
    simp only [W.run_ite, decide_eq_true_eq]
    split
    · rename_i h2
      refine W.bindI (g_ref05_dim_ok _ ?_)
      simp only [W.run_ret]
      refine cast (congrArg R ?_) h
      by_cases h3 : 1 ≤ c ∧ c ≤ 1024
      · obtain ⟨q1, q2, q3, q4⟩ := prod3 h1 h2 h3
        rw [wrap64_in (x := a * b) (by omega) (by omega), wrap64_in (by omega) (by omega)]
        simp [Shp.ok, h1, h2, h3]
      · simp [Shp.ok, h3]
    · rename_i h2
      simpa [Shp.ok, h2] using h
  · rename_i h1
    simpa [Shp.ok, h1] using h
theorem g_shape_Elems_ok (a b c : Int) {R : Int × Int → Prop} (h : R (if Shp.ok ⟨a, b, c⟩ then (a * b * c, 0) else (0, 50))) : (g_shape_Elems a b c).run R := by
  unfold g_shape_Elems
  simp only [W.run_ite, W.run_ret, Bool.or_eq_true, decide_eq_true_eq]
  by_cases h1 : 1 ≤ a ∧ a ≤ 1024
  · by_cases h2 : 1 ≤ b ∧ b ≤ 1024
    · by_cases h3 : 1 ≤ c ∧ c ≤ 1024
      · obtain ⟨q1, q2, q3, q4⟩ := prod3 h1 h2 h3
        rw [if_neg (by omega), if_neg (by omega), if_neg (by omega), Int.one_mul, wrap64_in (x := a) (by omega) (by omega), wrap64_in (x := a * b) (by omega) (by omega), wrap64_in (x := a * b * c) (by omega) (by omega)]
        split
        · rwa [if_neg (by simp only [Shp.ok]; omega)] at h
        · rwa [if_pos (by simp only [Shp.ok]; omega)] at h
      · rw [if_neg (by omega), if_neg (by omega), if_pos (by omega)]
        rwa [if_neg (by simp [Shp.ok, h3])] at h
    · rw [if_neg (by omega), if_pos (by omega)]
      rwa [if_neg (by simp [Shp.ok, h2])] at h
  · rw [if_pos (by omega)]
    rwa [if_neg (by simp [Shp.ok, h1])] at h
end Go.Proofs.Ytpoakneeceaooaa.VX

set_option linter.unusedVariables false
namespace Go.Proofs.Ytpoakneeceaooaa.VX
theorem W.iteT {α : Type} {b : Bool} {x y : W α} {R : α → Prop} (hb : b = true) (h : x.run R) : (W.ite b x y).run R := ⟨fun _ => h, fun e => (by rw [hb] at e; cases e)⟩
theorem W.iteF {α : Type} {b : Bool} {x y : W α} {R : α → Prop} (hb : b = false) (h : y.run R) : (W.ite b x y).run R := ⟨fun e => (by rw [hb] at e; cases e), fun _ => h⟩
theorem W.needI {α : Type} {c : Prop} {x : W α} {R : α → Prop} (hc : c) (h : x.run R) : (W.need c x).run R := ⟨hc, h⟩
theorem W.retI {α : Type} {a : α} {R : α → Prop} (h : R a) : (W.ret a).run R := h
theorem W.retE {α : Type} {a b : α} {R : α → Prop} (h : R b) (e : a = b) : (W.ret a).run R := e ▸ h
/-- By cases of a condition. -/
theorem W.iteC {α : Type} {b : Bool} {x y : W α} {R : α → Prop} (c : Prop) [Decidable c] (hb : b = decide c) (hx : c → x.run R) (hy : ¬ c → y.run R) : (W.ite b x y).run R :=
  ⟨fun e => hx (by rw [hb] at e; simpa using e), fun e => hy (by rw [hb] at e; simpa using e)⟩

structure Win where
  kh : Int
  kw : Int
  sh : Int
  sw : Int
  top : Int
  left : Int
  bottom : Int
  right : Int
  deriving DecidableEq
def sideOK (k s t b : Int) : Prop := (1 ≤ k ∧ k ≤ 32) ∧ (1 ≤ s ∧ s ≤ 32) ∧ (0 ≤ t ∧ t ≤ k - 1) ∧ (0 ≤ b ∧ b ≤ k - 1)
instance (k s t b : Int) : Decidable (sideOK k s t b) := by unfold sideOK; infer_instance
def Win.ok (w : Win) : Prop := sideOK w.kh w.sh w.top w.bottom ∧ sideOK w.kw w.sw w.left w.right
instance (w : Win) : Decidable w.ok := by unfold Win.ok; infer_instance
/-- How many places a window of k has on n in steps of s. -/
def places (n k s : Int) : Int := if n - k < 0 then 0 else (n - k) / s + 1
def wout (s : Shp) (w : Win) : Int × Int × Int :=
  if ¬ s.ok then (0, 0, 50) else if ¬ w.ok then (0, 0, 60)
  else if places (s.h + w.top + w.bottom) w.kh w.sh = 0 ∨ places (s.w + w.left + w.right) w.kw w.sw = 0 then (0, 0, 60)
  else (places (s.h + w.top + w.bottom) w.kh w.sh, places (s.w + w.left + w.right) w.kw w.sw, 0)

theorem places_zero {n k s : Int} (hs : 1 ≤ s) : places n k s = 0 ↔ n - k < 0 := by
  unfold places
  split
  · simp [*]
  · rename_i h
    have := Int.ediv_nonneg (a := n - k) (b := s) (by omega) (by omega)
    omega
theorem places_bd {n k s : Int} (hs : 1 ≤ s) (hk : 1 ≤ k) : 0 ≤ places n k s ∧ (0 ≤ n → places n k s ≤ n) := by
  unfold places
  split
  · exact ⟨Int.le_refl _, fun h => h⟩
  · rename_i h
    have h1 := Int.ediv_nonneg (a := n - k) (b := s) (by omega) (by omega)
    have h2 := Int.ediv_le_self (a := n - k) s (by omega)
    omega

theorem g_window_within_ok (a b c : Int) {R : Bool → Prop} (h : R (decide (b ≤ a ∧ a ≤ c))) : (g_window_within a b c).run R := by
  unfold g_window_within
  simpa using h
theorem g_ref06_in_ok (a b c : Int) {R : Bool → Prop} (h : R (decide (b ≤ a ∧ a ≤ c))) : (g_ref06_in a b c).run R := by
  unfold g_ref06_in
  simpa using h
theorem g_window_side_ok (k s t b : Int) {R : Bool → Prop} (h : R (decide (sideOK k s t b))) : (g_window_side k s t b).run R := by
  unfold g_window_side
  refine W.bindI (W.bindI (g_window_within_ok _ _ _ (W.iteC _ rfl (fun h1 => ?_) fun h1 => ?_)))
  · refine W.bindI (g_window_within_ok _ _ _ (W.iteC _ rfl (fun h2 => ?_) fun h2 => ?_))
    · rw [wrap64_in (x := k - 1) (by omega) (by omega)]
      refine W.bindI (g_window_within_ok _ _ _ (W.iteC _ rfl (fun h3 => ?_) fun h3 => ?_))
      · refine W.bindI (g_window_within_ok _ _ _ ?_)
        simpa [sideOK, h1, h2, h3] using h
      · simpa [sideOK, h1, h2, h3] using h
    · simpa [sideOK, h1, h2] using h
  · simpa [sideOK, h1] using h
theorem g_window_Valid_ok (w : Win) {R : Bool → Prop} (h : R (decide w.ok)) : (g_window_Valid w.kh w.kw w.sh w.sw w.top w.left w.bottom w.right).run R := by
  unfold g_window_Valid
  refine W.bindI (W.bindI (g_window_side_ok _ _ _ _ (W.iteC _ rfl (fun h1 => ?_) fun h1 => ?_)))
  · refine W.bindI (g_window_side_ok _ _ _ _ ?_)
    simpa [Win.ok, h1] using h
  · simpa [Win.ok, h1] using h
theorem g_ref06_Valid_ok (w : Win) {R : Bool → Prop} (h : R (decide w.ok)) : (g_ref06_Valid w.kh w.kw w.sh w.sw w.top w.left w.bottom w.right).run R := by
  unfold g_ref06_Valid
  have no : ∀ {Q : Bool → Prop}, ¬ w.ok → (Q (decide w.ok)) → Q false := fun hn q => by simpa [hn] using q
  refine W.bindI (W.bindI (g_ref06_in_ok _ _ _ (W.iteC _ rfl (fun h1 => ?_) fun h1 => no (by unfold Win.ok sideOK; omega) h)))
  refine W.bindI (g_ref06_in_ok _ _ _ (W.iteC _ rfl (fun h2 => ?_) fun h2 => no (by unfold Win.ok sideOK; omega) h))
  refine W.bindI (g_ref06_in_ok _ _ _ (W.iteC _ rfl (fun h3 => ?_) fun h3 => no (by unfold Win.ok sideOK; omega) h))
  refine W.bindI (g_ref06_in_ok _ _ _ (W.iteC _ rfl (fun h4 => ?_) fun h4 => no (by unfold Win.ok sideOK; omega) h))
  rw [wrap64_in (x := w.kh - 1) (by omega) (by omega), wrap64_in (x := w.kw - 1) (by omega) (by omega)]
  refine W.bindI (g_ref06_in_ok _ _ _ (W.iteC _ rfl (fun h5 => ?_) fun h5 => no (by unfold Win.ok sideOK; omega) h))
  refine W.bindI (g_ref06_in_ok _ _ _ (W.iteC _ rfl (fun h6 => ?_) fun h6 => no (by unfold Win.ok sideOK; omega) h))
  refine W.bindI (g_ref06_in_ok _ _ _ (W.iteC _ rfl (fun h7 => ?_) fun h7 => no (by unfold Win.ok sideOK; omega) h))
  refine W.bindI (g_ref06_in_ok _ _ _ ?_)
  refine cast (congrArg R ?_) h
  rw [decide_eq_decide]
  unfold Win.ok sideOK
  omega
theorem g_ref06_count_ok (n k s : Int) (hk : 1 ≤ k ∧ k ≤ 32) (hs : 1 ≤ s ∧ s ≤ 32) (hn : -1000000 ≤ n ∧ n ≤ 1000000) {R : Int → Prop} (h : R (places n k s)) : (g_ref06_count n k s).run R := by
  unfold g_ref06_count
  refine W.bindI (W.loop_inv (fun v : Int × Int => v.2 = v.1 * s ∧ 0 ≤ v.1 ∧ 0 ≤ v.2 ∧ v.2 ≤ 1000100 ∧ (v.1 = 0 ∨ v.2 - s + k ≤ n)) (fun v => (1000200 - v.2).toNat) (fun v hv => ?_) ⟨by simp, by simp, by simp, by simp, .inl rfl⟩)
  obtain ⟨c, p⟩ := v
  obtain ⟨h1, h2, h3, h4, h5⟩ := hv
  dsimp only at h1 h2 h3 h4 h5 ⊢
  rw [wrap64_in (x := p + k) (by omega) (by omega)]
  have hcp : c ≤ p := by rw [h1]; have := Int.mul_le_mul_of_nonneg_left (a := 1) (b := s) (c := c) hs.1 h2; omega
  refine W.iteC (p + k ≤ n) rfl (fun hle => ?_) fun hgt => ?_
  · rw [wrap64_in (x := c + 1) (by omega) (by omega), wrap64_in (x := p + s) (by omega) (by omega)]
    refine ⟨⟨?_, by dsimp only; omega, by dsimp only; omega, by dsimp only; omega, .inr (by dsimp only; omega)⟩, by dsimp only; omega⟩
    dsimp only
    rw [h1, Int.add_mul, Int.one_mul]
  · refine W.retI (W.retE h ?_)
    unfold places
    split
    · rename_i hneg
      rcases h5 with h5 | h5
      · exact h5
      · by_cases hc : c = 0
        · exact hc
        · have := Int.mul_le_mul_of_nonneg_right (a := 1) (b := c) (c := s) (by omega) (by omega)
          rw [← h1] at this
          omega
    · rename_i hpos
      have hc : c ≠ 0 := fun e => by rw [e] at h1; omega
      have hp : p - s ≤ n - k := by omega
      have e1 : c - 1 ≤ (n - k) / s := by
        refine Int.le_ediv_of_mul_le (by omega) ?_
        rw [Int.sub_mul, Int.one_mul, ← h1]; exact hp
      have e2 : (n - k) / s < c := by
        refine Int.ediv_lt_of_lt_mul (by omega) ?_
        rw [← h1]; omega
      omega
theorem g_ref06_Out_ok (s : Shp) (w : Win) {R : Int × Int × Int → Prop} (h : R (wout s w)) : (g_ref06_Out s.h s.w s.c w.kh w.kw w.sh w.sw w.top w.left w.bottom w.right).run R := by
  unfold g_ref06_Out
  refine W.bindI (g_ref05_Valid_ok _ _ _ (W.iteC (¬ s.ok) (by simp) (fun h1 => ?_) fun h1 => ?_))
  · simpa [wout, h1] using h
  · refine W.bindI (g_ref06_Valid_ok _ (W.iteC (¬ w.ok) (by simp) (fun h2 => ?_) fun h2 => ?_))
    · have h1 : s.ok := by simpa using h1
      simpa [wout, h1, h2] using h
    · have h1 : s.ok := by simpa using h1
      have h2 : w.ok := by simpa using h2
      have g1 := h1
      have g2 := h2
      unfold Shp.ok at g1
      unfold Win.ok sideOK at g2
      rw [wrap64_in (x := s.h + w.top) (by omega) (by omega), wrap64_in (x := s.h + w.top + w.bottom) (by omega) (by omega), wrap64_in (x := s.w + w.left) (by omega) (by omega), wrap64_in (x := s.w + w.left + w.right) (by omega) (by omega)]
      refine W.bindI (g_ref06_count_ok _ _ _ (by omega) (by omega) (by omega) (W.bindI (g_ref06_count_ok _ _ _ (by omega) (by omega) (by omega) ?_)))
      refine W.iteC (places (s.h + w.top + w.bottom) w.kh w.sh = 0 ∨ places (s.w + w.left + w.right) w.kw w.sw = 0) (by rw [Bool.decide_or]; rfl) (fun h3 => ?_) fun h3 => ?_
      · simpa [wout, h1, h2, h3] using h
      · refine W.retE h ?_
        simp only [wout, h1, h2, not_true, if_false]
        rw [if_neg h3]
theorem g_window_Out_ok (s : Shp) (w : Win) {R : Int × Int × Int → Prop} (h : R (wout s w)) : (g_window_Out s.h s.w s.c w.kh w.kw w.sh w.sw w.top w.left w.bottom w.right).run R := by
  unfold g_window_Out
  refine W.bindI (g_shape_Elems_ok _ _ _ (W.iteC (¬ s.ok) (by split <;> simp_all) (fun h1 => ?_) fun h1 => ?_))
  · rw [if_neg h1]
    simpa [wout, h1] using h
  · refine W.bindI (g_window_Valid_ok _ (W.iteC (¬ w.ok) (by simp) (fun h2 => ?_) fun h2 => ?_))
    · have h1 : s.ok := by simpa using h1
      simpa [wout, h1, h2] using h
    · have h1 : s.ok := by simpa using h1
      have h2 : w.ok := by simpa using h2
      have g1 := h1
      have g2 := h2
      unfold Shp.ok at g1
      unfold Win.ok sideOK at g2
      rw [wrap64_in (x := s.h + w.top) (by omega) (by omega), wrap64_in (x := s.h + w.top + w.bottom) (by omega) (by omega), wrap64_in (x := s.w + w.left) (by omega) (by omega), wrap64_in (x := s.w + w.left + w.right) (by omega) (by omega),
        wrap64_in (x := s.h + w.top + w.bottom - w.kh) (by omega) (by omega), wrap64_in (x := s.w + w.left + w.right - w.kw) (by omega) (by omega)]
      have z1 := places_zero (n := s.h + w.top + w.bottom) (k := w.kh) (s := w.sh) (by omega)
      have z2 := places_zero (n := s.w + w.left + w.right) (k := w.kw) (s := w.sw) (by omega)
      refine W.iteC (places (s.h + w.top + w.bottom) w.kh w.sh = 0 ∨ places (s.w + w.left + w.right) w.kw w.sw = 0) (by rw [← Bool.decide_or, decide_eq_decide, z1, z2]) (fun h3 => ?_) fun h3 => ?_
      · simpa [wout, h1, h2, h3] using h
      · refine W.needI (by omega) (W.needI (by omega) (W.retE h ?_))
        simp only [wout, h1, h2, not_true, if_false]
        rw [if_neg h3]
        rw [not_or, z1, z2] at h3
        have b1 := Int.ediv_nonneg (a := s.h + w.top + w.bottom - w.kh) (b := w.sh) (by omega) (by omega)
        have b2 := Int.ediv_nonneg (a := s.w + w.left + w.right - w.kw) (b := w.sw) (by omega) (by omega)
        have b3 := Int.ediv_le_self (a := s.h + w.top + w.bottom - w.kh) w.sh (by omega)
        have b4 := Int.ediv_le_self (a := s.w + w.left + w.right - w.kw) w.sw (by omega)
        rw [Int.tdiv_eq_ediv_of_nonneg (by omega), Int.tdiv_eq_ediv_of_nonneg (by omega)]
        rw [wrap64_in (x := (s.h + w.top + w.bottom - w.kh) / w.sh) (by omega) (by omega), wrap64_in (x := (s.w + w.left + w.right - w.kw) / w.sw) (by omega) (by omega),
          wrap64_in (x := (s.h + w.top + w.bottom - w.kh) / w.sh + 1) (by omega) (by omega), wrap64_in (x := (s.w + w.left + w.right - w.kw) / w.sw + 1) (by omega) (by omega)]
        simp only [places]
        rw [if_neg h3.1, if_neg h3.2]
end Go.Proofs.Ytpoakneeceaooaa.VX

set_option linter.unusedVariables false
namespace Go.Proofs.Ytpoakneeceaooaa.VX
structure Opr where
  kind : Int
  a : Int
  b : Int
  m : Int
  win : Win
  wn : Bool
  ws : Rws
  bn : Bool
  bs : Rws
  sam : Int
  sas : Int
  sbm : Int
  sbs : Int
  zero : Int
  pad : Int
  lo : Int
  hi : Int
/-- An op out of a row. -/
def Opr.of (r : List AV) : Opr :=
  ⟨cI r 0, cI r 1, cI r 2, cI r 3, ⟨cI r 4, cI r 5, cI r 6, cI r 7, cI r 8, cI r 9, cI r 10, cI r 11⟩, cN r 12, cR r 12, cN r 13, cR r 13, cI r 14, cI r 15, cI r 16, cI r 17, cI r 18, cI r 19, cI r 20, cI r 21⟩
def Shp.enc (s : Shp) : List AV := [I s.h, I s.w, I s.c]
theorem ri_shp0 (S : List Shp) (i : Nat) : ri (S.map Shp.enc) i 0 = (S.getD i default).h := by
  simp only [ri, cellOf, List.getD, List.getElem?_map]
  cases S[i]? <;> rfl
theorem ri_shp1 (S : List Shp) (i : Nat) : ri (S.map Shp.enc) i 1 = (S.getD i default).w := by
  simp only [ri, cellOf, List.getD, List.getElem?_map]
  cases S[i]? <;> rfl
theorem ri_shp2 (S : List Shp) (i : Nat) : ri (S.map Shp.enc) i 2 = (S.getD i default).c := by
  simp only [ri, cellOf, List.getD, List.getElem?_map]
  cases S[i]? <;> rfl

def slides (k : Int) : Prop := 2 ≤ k ∧ k ≤ 5
def weighs (k : Int) : Prop := 1 ≤ k ∧ k ≤ 3
def scales (k : Int) : Prop := (1 ≤ k ∧ k ≤ 3) ∨ k = 6 ∨ k = 7
def reduces (k : Int) : Prop := 1 ≤ k ∧ k ≤ 4
def scaleOK (m s : Int) : Prop := 1 ≤ m ∧ m ≤ 2147483647 ∧ 0 ≤ s ∧ s ≤ 62
def val (n : Int) : Prop := -128 ≤ n ∧ n ≤ 127
instance (k : Int) : Decidable (slides k) := by unfold slides; infer_instance
instance (k : Int) : Decidable (weighs k) := by unfold weighs; infer_instance
instance (k : Int) : Decidable (scales k) := by unfold scales; infer_instance
instance (k : Int) : Decidable (reduces k) := by unfold reduces; infer_instance
instance (m s : Int) : Decidable (scaleOK m s) := by unfold scaleOK; infer_instance
instance (n : Int) : Decidable (val n) := by unfold val; infer_instance
namespace Opr
def spare (o : Opr) : Prop :=
  (o.kind = 6 ∨ (o.b = 0 ∧ o.sbm = 0 ∧ o.sbs = 0)) ∧ (o.kind ≤ 2 ∨ o.m = 0) ∧ (weighs o.kind ∨ (o.ws.length = 0 ∧ o.bs.length = 0)) ∧ (scales o.kind ∨ (o.sam = 0 ∧ o.sas = 0 ∧ o.zero = 0)) ∧
  (slides o.kind ∨ o.win = ⟨0, 0, 0, 0, 0, 0, 0, 0⟩) ∧ (o.kind = 2 ∨ o.kind = 3 ∨ o.pad = 0) ∧ ((o.kind ≠ 4 ∧ o.kind ≠ 5) ∨ (o.win.top = 0 ∧ o.win.left = 0 ∧ o.win.bottom = 0 ∧ o.win.right = 0))
instance (o : Opr) : Decidable o.spare := by unfold spare; infer_instance
def len (o : Opr) (s : Shp) : Int := if o.kind = 1 then s.h * s.w * s.c else if o.kind = 2 then o.win.kh * o.win.kw * s.c else o.win.kh * o.win.kw
def mk1 (o : Opr) (s : Shp) : Shp × Int :=
  if o.kind = 1 then (⟨1, 1, o.m⟩, 0)
  else if slides o.kind then (if (wout s o.win).2.2 ≠ 0 then (⟨0, 0, 0⟩, (wout s o.win).2.2) else (⟨(wout s o.win).1, (wout s o.win).2.1, if o.kind = 2 then o.m else s.c⟩, 0))
  else (s, 0)
def lists (o : Opr) (s : Shp) : Int × Int := if o.kind = 1 ∨ o.kind = 2 then (o.m * o.len s, o.m) else if o.kind = 3 then (s.c * o.len s, s.c) else (0, 0)
def labour (o : Opr) (s t : Shp) : Int := if reduces o.kind then t.h * t.w * t.c * o.len s else if o.kind = 5 then t.h * t.w * t.c * o.win.kh * o.win.kw else t.h * t.w * t.c
/-- What is wrong with an op over shapes, and the shape that it makes. -/
def one (o : Opr) (S : List Shp) : Shp × Int :=
  if o.kind < 1 ∨ 8 < o.kind then (⟨0, 0, 0⟩, 81)
  else if (o.a < 0 ∨ S.length ≤ o.a) ∨ o.kind = 6 ∧ (o.b < 0 ∨ S.length ≤ o.b) then (⟨0, 0, 0⟩, 82)
  else if ¬ o.spare then (⟨0, 0, 0⟩, 83)
  else if o.kind ≤ 2 ∧ (o.m < 1 ∨ 1024 < o.m) then (⟨0, 0, 0⟩, 2)
  else if (o.mk1 (S.getD o.a.toNat default)).2 ≠ 0 then (⟨0, 0, 0⟩, (o.mk1 (S.getD o.a.toNat default)).2)
  else if (o.kind = 6 ∧ S.getD o.b.toNat default ≠ S.getD o.a.toNat default) ∨ ¬ (o.mk1 (S.getD o.a.toNat default)).1.ok then (⟨0, 0, 0⟩, 50)
  else if reduces o.kind ∧ 512 < o.len (S.getD o.a.toNat default) then (⟨0, 0, 0⟩, 84)
  else if (o.ws.length : Int) ≠ (o.lists (S.getD o.a.toNat default)).1 ∨ (o.bs.length : Int) ≠ (o.lists (S.getD o.a.toNat default)).2 then (⟨0, 0, 0⟩, 70)
  else if scales o.kind ∧ ¬ scaleOK o.sam o.sas ∨ o.kind = 6 ∧ ¬ scaleOK o.sbm o.sbs then (⟨0, 0, 0⟩, 20)
  else if ¬ val o.lo ∨ ¬ val o.hi ∨ o.hi < o.lo ∨ ¬ val o.zero ∨ ¬ val o.pad then (⟨0, 0, 0⟩, 85)
  else ((o.mk1 (S.getD o.a.toNat default)).1, 0)
end Opr

theorem g_ref08_values_ok (a : Int) {R : Bool → Prop} (h : R (decide (val a))) : (g_ref08_values a).run R := by
  unfold g_ref08_values; exact W.retE h (by rw [Bool.eq_iff_iff, decide_eq_true_eq]; simp [val])
theorem g_ref08_Weighs_ok (a : Int) {R : Bool → Prop} (h : R (decide (weighs a))) : (g_ref08_Weighs a).run R := by
  unfold g_ref08_Weighs; exact W.retE h (by rw [Bool.eq_iff_iff, decide_eq_true_eq]; simp [weighs])
theorem g_ref08_Slides_ok (a : Int) {R : Bool → Prop} (h : R (decide (slides a))) : (g_ref08_Slides a).run R := by
  unfold g_ref08_Slides; exact W.retE h (by rw [Bool.eq_iff_iff, decide_eq_true_eq]; simp [slides])
theorem g_ref08_Reduces_ok (a : Int) {R : Bool → Prop} (h : R (decide (reduces a))) : (g_ref08_Reduces a).run R := by
  unfold g_ref08_Reduces; exact W.retE h (by rw [Bool.eq_iff_iff, decide_eq_true_eq]; simp [reduces])
theorem g_ref08_Scales_ok (a : Int) {R : Bool → Prop} (h : R (decide (scales a))) : (g_ref08_Scales a).run R := by
  unfold g_ref08_Scales
  exact W.retE h (by rw [Bool.eq_iff_iff, decide_eq_true_eq]; simp [scales, or_assoc])
theorem g_ref02_Valid_ok (a b : Int) {R : Bool → Prop} (h : R (decide (scaleOK a b))) : (g_ref02_Valid a b).run R := by
  unfold g_ref02_Valid
  exact W.retE h (by rw [Bool.eq_iff_iff, decide_eq_true_eq]; simp [scaleOK, and_assoc])

theorem g_ref08_spare_ok (o : Opr) (hw : o.ws.length ≤ 70368744175616) (hb : o.bs.length ≤ 35184372087808) {R : Bool → Prop} (h : R (decide o.spare)) :
    (g_ref08_spare o.kind o.a o.b o.m o.win.kh o.win.kw o.win.sh o.win.sw o.win.top o.win.left o.win.bottom o.win.right o.wn o.ws o.bn o.bs o.sam o.sas o.sbm o.sbs o.zero o.pad o.lo o.hi).run R := by
  have no : ∀ {Q : Bool → Prop}, ¬ o.spare → (Q (decide o.spare)) → Q false := fun hn q => by simpa [hn] using q
  obtain ⟨k, a, b, m, ⟨kh, kw, sh, sw, tp, lf, bt, rt⟩, wn, ws, bn, bs, sam, sas, sbm, sbs, zero, pad, lo, hi⟩ := o
  dsimp only at hw hb ⊢
  unfold g_ref08_spare
  refine W.iteC (k ≠ 6 ∧ (b ≠ 0 ∨ ¬ (sbm = 0 ∧ sbs = 0))) (by simp; rfl) (fun h1 => no (by unfold Opr.spare; dsimp only; omega) h) fun h1 => ?_
  have fin : ∀ (q : (k ≤ 2 ∨ m = 0) ∧ (weighs k ∨ (ws.length = 0 ∧ bs.length = 0)) ∧ (scales k ∨ (sam = 0 ∧ sas = 0 ∧ zero = 0))), ((W.bind (g_ref08_Slides k) fun v3 =>
      W.ite (!v3 && !(kh == 0 && (kw == 0 && (sh == 0 && (sw == 0 && (tp == 0 && (lf == 0 && (bt == 0 && rt == 0))))))) || k != 2 && k != 3 && pad != 0) (W.ret false)
        (W.ret (k != 4 && k != 5 || tp == 0 && lf == 0 && bt == 0 && rt == 0)))).run R := fun q => by
    refine W.bindI (g_ref08_Slides_ok _ ?_)
    refine W.iteC ((¬ slides k ∧ ¬ (kh = 0 ∧ kw = 0 ∧ sh = 0 ∧ sw = 0 ∧ tp = 0 ∧ lf = 0 ∧ bt = 0 ∧ rt = 0)) ∨ (k ≠ 2 ∧ k ≠ 3 ∧ pad ≠ 0)) (by simp [Bool.and_assoc]; rfl) (fun h2 => no ?_ h) fun h2 => W.retE h ?_
    · rintro ⟨_, _, _, _, q5, q6, _⟩
      rcases h2 with ⟨h2, h3⟩ | h2
      · rcases q5 with q5 | q5
        · exact h2 q5
        · injection q5; dsimp only at *; omega
      · dsimp only at q6; omega
    · have e : (decide (Opr.spare ⟨k, a, b, m, ⟨kh, kw, sh, sw, tp, lf, bt, rt⟩, wn, ws, bn, bs, sam, sas, sbm, sbs, zero, pad, lo, hi⟩)) = decide ((k ≠ 4 ∧ k ≠ 5) ∨ (tp = 0 ∧ lf = 0 ∧ bt = 0 ∧ rt = 0)) := by
        rw [decide_eq_decide]
        unfold Opr.spare
        dsimp only
        simp only [Win.mk.injEq]
        rw [not_or, Classical.not_and_iff_not_or_not, Classical.not_not, Classical.not_not] at h2
        constructor
        · exact fun h => h.2.2.2.2.2.2
        · exact fun h => ⟨by omega, q.1, q.2.1, q.2.2, h2.1, by omega, h⟩
      rw [e]
      simp [Bool.and_assoc]; rfl
  refine W.bindI (W.iteC (2 < k ∧ m ≠ 0) (by simp; rfl) (fun h2 => W.retI (W.iteT rfl (no (by unfold Opr.spare; dsimp only; omega) h))) fun h2 => ?_)
  refine W.bindI (g_ref08_Weighs_ok _ (W.iteC (¬ weighs k ∧ (ws.length ≠ 0 ∨ bs.length ≠ 0)) ?_ (fun h3 => W.retI (W.iteT rfl (no ?_ h))) fun h3 => ?_))
  · rw [wrap64_in (by omega) (by omega)]
    rw [Bool.decide_and, decide_not]
    congr 1
    rw [decide_eq_decide]; omega
  · rintro ⟨_, _, q3, _⟩
    rcases q3 with q3 | q3
    · exact h3.1 q3
    · dsimp only at q3; omega
  · refine W.bindI (g_ref08_Scales_ok _ (W.retI ?_))
    by_cases h4 : ¬ scales k ∧ (¬ (sam = 0 ∧ sas = 0) ∨ zero ≠ 0)
    · refine W.iteT ?_ (no ?_ h)
      · simp only [h4.1, decide_false, Bool.not_false, Bool.true_and, Bool.or_eq_true, Bool.not_eq_true', bne_iff_ne, ne_eq, Bool.and_eq_false_imp, beq_iff_eq]
        rcases h4.2 with h5 | h5
        · left; intro e; simp [e] at h5 ⊢; exact h5
        · right; exact h5
      · rintro ⟨_, _, _, q4, _⟩
        rcases q4 with q4 | q4
        · exact h4.1 q4
        · dsimp only at q4; omega
    · refine W.iteF ?_ (fin ⟨by omega, ?_, ?_⟩)
      · rw [Bool.eq_false_iff]
        intro e
        apply h4
        simp only [Bool.and_eq_true, Bool.not_eq_true', decide_eq_false_iff_not, Bool.or_eq_true, bne_iff_ne] at e
        refine ⟨e.1, ?_⟩
        rcases e.2 with e | e
        · left; intro q; simp [q.1, q.2] at e
        · right; exact e
      · by_cases hw : weighs k
        · exact .inl hw
        · have h6 : ¬ (ws.length ≠ 0 ∨ bs.length ≠ 0) := fun q => h3 ⟨hw, q⟩
          right; omega
      · by_cases hs : scales k
        · exact .inl hs
        · have h6 : ¬ (¬ (sam = 0 ∧ sas = 0) ∨ zero ≠ 0) := fun q => h4 ⟨hs, q⟩
          right; omega
end Go.Proofs.Ytpoakneeceaooaa.VX

set_option linter.unusedVariables false
namespace Go.Proofs.Ytpoakneeceaooaa.VX
theorem wout_win {s : Shp} {w : Win} (h : (wout s w).2.2 = 0) : s.ok ∧ w.ok := by
  unfold wout at h
  split at h
  · simp at h
  · split at h
    · simp at h
    · rename_i h1 h2; exact ⟨by simpa using h1, by simpa using h2⟩
def Win.dims (w : Win) : Prop := (0 ≤ w.kh ∧ w.kh ≤ 32) ∧ (0 ≤ w.kw ∧ w.kw ≤ 32)
theorem Win.ok.dims {w : Win} (h : w.ok) : w.dims := by unfold Win.ok sideOK at h; unfold Win.dims; omega
theorem g_ref08_Makes_ok (o : Opr) (s : Shp) {R : Int × Int × Int × Int → Prop} (h : R ((o.mk1 s).1.h, (o.mk1 s).1.w, (o.mk1 s).1.c, (o.mk1 s).2)) :
    (g_ref08_Makes o.kind o.a o.b o.m o.win.kh o.win.kw o.win.sh o.win.sw o.win.top o.win.left o.win.bottom o.win.right o.wn o.ws o.bn o.bs o.sam o.sas o.sbm o.sbs o.zero o.pad o.lo o.hi s.h s.w s.c).run R := by
  unfold g_ref08_Makes
  have h1 : ∀ v0 : Int × Int × Int, (v0 = if o.kind = 1 then (1, 1, o.m) else (s.h, s.w, s.c)) → _ := fun v0 e => e
  refine W.bindI (W.iteC (o.kind = 1) rfl (fun hk => W.retI ?_) fun hk => W.retI ?_)
  · refine W.bindI (W.bindI (g_ref08_Slides_ok _ (W.iteF (by rw [decide_eq_false_iff_not]; unfold slides; omega) (W.retI (W.retE h ?_)))))
    simp [Opr.mk1, hk]
  · refine W.bindI (W.bindI (g_ref08_Slides_ok _ (W.iteC (slides o.kind) rfl (fun hs => ?_) fun hs => W.retI (W.retE h ?_))))
    · refine W.bindI (g_ref06_Out_ok s o.win (W.iteC ((wout s o.win).2.2 ≠ 0) (by first | (simp; done) | (simp; rfl)) (fun he => W.retI (W.retE h ?_)) fun he => ?_))
      · simp [Opr.mk1, hk, hs, he]
      · have he : (wout s o.win).2.2 = 0 := by simpa using he
        refine W.iteC (o.kind = 2) rfl (fun h2 => W.retI (W.retE h ?_)) fun h2 => W.retI (W.retE h ?_)
        · simp only [Opr.mk1]; rw [if_neg hk, if_pos hs, if_neg (by simp [he]), if_pos h2]
        · simp only [Opr.mk1]; rw [if_neg hk, if_pos hs, if_neg (by simp [he]), if_neg h2]
    · simp [Opr.mk1, hk, hs]
theorem len_bd (o : Opr) (s : Shp) (hs : s.ok) (hw : o.kind ≠ 1 → o.win.dims) : 0 ≤ o.len s ∧ o.len s ≤ 1048576 := by
  unfold Shp.ok at hs
  unfold Opr.len
  obtain ⟨p1, p2, p3, p4⟩ := prod3 hs.1 hs.2.1 hs.2.2.1
  by_cases h1 : o.kind = 1
  · rw [if_pos h1]; omega
  · rw [if_neg h1]
    have hw := hw h1
    unfold Win.dims at hw
    have q := mul_bd (A := 32) (B := 32) hw.1.1 hw.1.2 hw.2.1 hw.2.2
    have q2 := mul_bd (A := 1024) (B := 1024) q.1 (by omega) (by omega : 0 ≤ s.c) (by omega)
    split <;> omega
theorem g_ref08_Length_ok (o : Opr) (s : Shp) (hs : s.ok) (hw : o.kind ≠ 1 → o.win.dims) {R : Int → Prop} (h : R (o.len s)) :
    (g_ref08_Length o.kind o.a o.b o.m o.win.kh o.win.kw o.win.sh o.win.sw o.win.top o.win.left o.win.bottom o.win.right o.wn o.ws o.bn o.bs o.sam o.sas o.sbm o.sbs o.zero o.pad o.lo o.hi s.h s.w s.c).run R := by
  have hs' := hs
  unfold Shp.ok at hs'
  obtain ⟨p1, p2, p3, p4⟩ := prod3 hs'.1 hs'.2.1 hs'.2.2.1
  unfold g_ref08_Length
  refine W.iteC (o.kind = 1) rfl (fun h1 => W.retE h ?_) fun h1 => ?_
  · rw [wrap64_in (x := s.h * s.w) (by omega) (by omega), wrap64_in (by omega) (by omega)]
    simp [Opr.len, h1]
  · have hw := hw h1
    unfold Win.dims at hw
    have q := mul_bd (A := 32) (B := 32) hw.1.1 hw.1.2 hw.2.1 hw.2.2
    have q2 := mul_bd (A := 1024) (B := 1024) q.1 (by omega) (by omega : 0 ≤ s.c) (by omega)
    rw [wrap64_in (x := o.win.kh * o.win.kw) (by omega) (by omega), wrap64_in (by omega) (by omega)]
    refine W.iteC (o.kind = 2) rfl (fun h2 => W.retE h ?_) fun h2 => W.retE h ?_
    · unfold Opr.len; rw [if_neg h1, if_pos h2]
    · unfold Opr.len; rw [if_neg h1, if_neg h2]
theorem g_ref08_Lists_ok (o : Opr) (s : Shp) (hs : s.ok) (hw : o.kind = 2 ∨ o.kind = 3 → o.win.dims) (hm : o.kind = 1 ∨ o.kind = 2 → 0 ≤ o.m ∧ o.m ≤ 1024) {R : Int × Int → Prop} (h : R (o.lists s)) :
    (g_ref08_Lists o.kind o.a o.b o.m o.win.kh o.win.kw o.win.sh o.win.sw o.win.top o.win.left o.win.bottom o.win.right o.wn o.ws o.bn o.bs o.sam o.sas o.sbm o.sbs o.zero o.pad o.lo o.hi s.h s.w s.c).run R := by
  have hs' := hs
  unfold Shp.ok at hs'
  unfold g_ref08_Lists
  have key : ∀ b : Bool, b = decide (o.kind = 1 ∨ o.kind = 2) → (W.ite b (W.bind (g_ref08_Length o.kind o.a o.b o.m o.win.kh o.win.kw o.win.sh o.win.sw o.win.top o.win.left o.win.bottom o.win.right o.wn o.ws o.bn o.bs o.sam o.sas o.sbm o.sbs o.zero o.pad o.lo o.hi s.h s.w s.c) fun v1 =>
      W.ret (IntKind.i64.wrap (o.m * v1), o.m))
      (W.ite (o.kind == 3) (W.bind (g_ref08_Length o.kind o.a o.b o.m o.win.kh o.win.kw o.win.sh o.win.sw o.win.top o.win.left o.win.bottom o.win.right o.wn o.ws o.bn o.bs o.sam o.sas o.sbm o.sbs o.zero o.pad o.lo o.hi s.h s.w s.c) fun v2 =>
        W.ret (IntKind.i64.wrap (s.c * v2), s.c))
        (W.ret (0, 0)))).run R := fun b hb => by
    refine W.iteC _ hb (fun h1 => ?_) fun h1 => ?_
    · have hd : o.kind ≠ 1 → o.win.dims := fun h2 => hw (by omega)
      refine W.bindI (g_ref08_Length_ok o s hs hd (W.retE h ?_))
      have q := len_bd o s hs hd
      have q2 := mul_bd (A := 1024) (B := 1048576) (hm h1).1 (hm h1).2 q.1 q.2
      rw [wrap64_in (by omega) (by omega)]
      simp [Opr.lists, h1]
    · refine W.iteC (o.kind = 3) rfl (fun h2 => ?_) fun h2 => W.retE h ?_
      · have hd : o.kind ≠ 1 → o.win.dims := fun h3 => hw (by omega)
        refine W.bindI (g_ref08_Length_ok o s hs hd (W.retE h ?_))
        have q := len_bd o s hs hd
        have q2 := mul_bd (a := s.c) (A := 1024) (B := 1048576) (by omega) (by omega) q.1 q.2
        rw [wrap64_in (by omega) (by omega)]
        simp [Opr.lists, h2]
      · simp [Opr.lists, h1, h2]
  refine W.bindI (W.iteC (o.kind = 1) rfl (fun h1 => W.retI (key _ ?_)) fun h1 => W.retI (key _ ?_))
  · simp [h1]
  · rw [Bool.eq_iff_iff]; simp [h1]
theorem labour_bd (o : Opr) (s t : Shp) (hs : s.ok) (ht : t.ok) (hw : slides o.kind → o.win.dims) : 0 ≤ o.labour s t ∧ o.labour s t ≤ 17179869184 := by
  have ht' := ht
  unfold Shp.ok at ht'
  obtain ⟨p1, p2, p3, p4⟩ := prod3 ht'.1 ht'.2.1 ht'.2.2.1
  unfold Opr.labour
  split
  · rename_i h1
    have q := len_bd o s hs (fun h2 => hw (by unfold reduces at h1; unfold slides; omega))
    have := mul_bd (A := 16384) (B := 1048576) p3 ht'.2.2.2 q.1 q.2
    omega
  · split
    · rename_i h2
      have hw := hw (by unfold slides; omega)
      unfold Win.dims at hw
      have q := mul_bd (A := 16384) (B := 32) p3 ht'.2.2.2 hw.1.1 hw.1.2
      have q2 := mul_bd (A := 524288) (B := 32) q.1 (by omega) hw.2.1 hw.2.2
      omega
    · omega
theorem g_ref08_Labour_ok (o : Opr) (s t : Shp) (hs : s.ok) (ht : t.ok) (hw : slides o.kind → o.win.dims) {R : Int → Prop} (h : R (o.labour s t)) :
    (g_ref08_Labour o.kind o.a o.b o.m o.win.kh o.win.kw o.win.sh o.win.sw o.win.top o.win.left o.win.bottom o.win.right o.wn o.ws o.bn o.bs o.sam o.sas o.sbm o.sbs o.zero o.pad o.lo o.hi s.h s.w s.c t.h t.w t.c).run R := by
  have ht' := ht
  unfold Shp.ok at ht'
  obtain ⟨p1, p2, p3, p4⟩ := prod3 ht'.1 ht'.2.1 ht'.2.2.1
  have bd := labour_bd o s t hs ht hw
  unfold Opr.labour at bd
  unfold g_ref08_Labour
  rw [wrap64_in (x := t.h * t.w) (by omega) (by omega), wrap64_in (x := t.h * t.w * t.c) (by omega) (by omega)]
  refine W.bindI (g_ref08_Reduces_ok _ (W.iteC (reduces o.kind) rfl (fun h1 => ?_) fun h1 => ?_))
  · rw [if_pos h1] at bd
    have hd : o.kind ≠ 1 → o.win.dims := fun h2 => hw (by unfold reduces at h1; unfold slides; omega)
    refine W.bindI (g_ref08_Length_ok o s hs hd (W.retE h ?_))
    rw [wrap64_in (by omega) (by omega)]
    simp [Opr.labour, h1]
  · rw [if_neg h1] at bd
    refine W.iteC (o.kind = 5) rfl (fun h2 => W.retE h ?_) fun h2 => W.retE h ?_
    · rw [if_pos h2] at bd
      have hw := hw (by unfold slides; omega)
      unfold Win.dims at hw
      have q := mul_bd (A := 16384) (B := 32) p3 ht'.2.2.2 hw.1.1 hw.1.2
      rw [wrap64_in (x := t.h * t.w * t.c * o.win.kh) (by omega) (by omega), wrap64_in (by omega) (by omega)]
      unfold Opr.labour; rw [if_neg h1, if_pos h2]
    · unfold Opr.labour; rw [if_neg h1, if_neg h2]

theorem mk1_dims {o : Opr} {s : Shp} (h : (o.mk1 s).2 = 0) : slides o.kind → o.win.dims := fun hs => by
  unfold Opr.mk1 at h
  rw [if_neg (by unfold slides at hs; omega), if_pos hs] at h
  split at h
  · rename_i h1; exact absurd h h1
  · rename_i h1
    exact (wout_win (by simpa using h1)).2.dims

theorem g_ref08_one_ok (o : Opr) (S : List Shp) (nl : Bool) (hS : ∀ s ∈ S, s.ok) (hw : o.ws.length ≤ 70368744175616) (hb : o.bs.length ≤ 35184372087808) {R : Int × Int × Int × Int → Prop} (h : R ((o.one S).1.h, (o.one S).1.w, (o.one S).1.c, (o.one S).2)) :
    (g_ref08_one o.kind o.a o.b o.m o.win.kh o.win.kw o.win.sh o.win.sw o.win.top o.win.left o.win.bottom o.win.right o.wn o.ws o.bn o.bs o.sam o.sas o.sbm o.sbs o.zero o.pad o.lo o.hi S.length nl (S.map Shp.enc)).run R := by
  unfold g_ref08_one
  refine W.iteC (o.kind < 1 ∨ 8 < o.kind) (by rw [Bool.decide_or]) (fun h1 => W.retE h (by simp [Opr.one, h1])) fun h1 => ?_
  refine W.iteC ((o.a < 0 ∨ S.length ≤ o.a) ∨ o.kind = 6 ∧ (o.b < 0 ∨ S.length ≤ o.b)) (by first | (simp; done) | (simp; rfl)) (fun h2 => W.retE h (by simp only [Opr.one]; rw [if_neg h1, if_pos h2])) fun h2 => ?_
  refine W.bindI (g_ref08_spare_ok o hw hb (W.iteC (¬ o.spare) (by simp) (fun h3 => W.retE h (by simp only [Opr.one]; rw [if_neg h1, if_neg h2, if_pos h3])) fun h3 => ?_))
  refine W.iteC (o.kind ≤ 2 ∧ (o.m < 1 ∨ 1024 < o.m)) (by first | (simp; done) | (simp; rfl)) (fun h4 => W.retE h (by simp only [Opr.one]; rw [if_neg h1, if_neg h2, if_neg h3, if_pos h4])) fun h4 => ?_
  rw [List.length_map]
  refine W.needI (by omega) ?_
  have hsa : (S.getD o.a.toNat default).ok := by
    have hlt : o.a.toNat < S.length := by omega
    rw [List.getD_eq_getElem?_getD, List.getElem?_eq_getElem hlt]
    exact hS _ (List.getElem_mem hlt)
  rw [ri_shp0, ri_shp1, ri_shp2]
  refine W.bindI (g_ref08_Makes_ok o _ ?_)
  refine W.iteC ((o.mk1 (S.getD o.a.toNat default)).2 ≠ 0) (by first | (simp; done) | (simp; rfl)) (fun h5 => W.retE h (by simp only [Opr.one]; rw [if_neg h1, if_neg h2, if_neg h3, if_neg h4, if_pos h5])) fun h5 => ?_
  have h5' : (o.mk1 (S.getD o.a.toNat default)).2 = 0 := by simpa using h5
  have hd := mk1_dims h5'
  -- the shapes
  have key6 : ∀ {Q : Bool → Prop}, Q (decide ((o.kind = 6 ∧ S.getD o.b.toNat default ≠ S.getD o.a.toNat default) ∨ ¬ (o.mk1 (S.getD o.a.toNat default)).1.ok)) →
      (W.need ((o.kind == 6) = true ∧ True → 0 ≤ o.b ∧ o.b < (S.length : Int)) <|
        W.ite (o.kind == 6 && !(ri (S.map Shp.enc) o.b.toNat 0 == (S.getD o.a.toNat default).h && (ri (S.map Shp.enc) o.b.toNat 1 == (S.getD o.a.toNat default).w && ri (S.map Shp.enc) o.b.toNat 2 == (S.getD o.a.toNat default).c))) (W.ret true)
        (W.bind (g_ref05_Valid (o.mk1 (S.getD o.a.toNat default)).1.h (o.mk1 (S.getD o.a.toNat default)).1.w (o.mk1 (S.getD o.a.toNat default)).1.c) fun v2 => W.ret !v2)).run Q := fun {Q} hq => by
    refine W.needI (fun e => by have : o.kind = 6 := by simpa using e
                                omega) ?_
    rw [ri_shp0, ri_shp1, ri_shp2]
    refine W.iteC (o.kind = 6 ∧ S.getD o.b.toNat default ≠ S.getD o.a.toNat default) ?_ (fun h6 => W.retE hq (decide_eq_true (Or.inl h6)).symm) fun h6 => W.bindI (g_ref05_Valid_ok _ _ _ (W.retE hq ?_))
    · rw [Bool.eq_iff_iff, decide_eq_true_eq]
      generalize S.getD o.b.toNat default = x
      generalize S.getD o.a.toNat default = y
      obtain ⟨x1, x2, x3⟩ := x
      obtain ⟨y1, y2, y3⟩ := y
      simp
      omega
    · rw [Bool.eq_iff_iff, decide_eq_true_eq, Bool.not_eq_true', decide_eq_false_iff_not]
      exact ⟨.inr, fun q => q.resolve_left h6⟩
  refine W.bindI (key6 ?_)
  refine W.iteC _ rfl (fun h6 => W.retE h (by simp only [Opr.one]; rw [if_neg h1, if_neg h2, if_neg h3, if_neg h4, if_neg h5, if_pos h6])) fun h6 => ?_
  have hdl : reduces o.kind → o.kind ≠ 1 → o.win.dims := fun hr hk => hd (by unfold reduces at hr; unfold slides; omega)
  have key7 : ∀ {Q : Bool → Prop}, Q (decide (reduces o.kind ∧ 512 < o.len (S.getD o.a.toNat default))) →
      (W.bind (g_ref08_Reduces o.kind) fun v4 => W.ite v4 (W.bind (g_ref08_Length o.kind o.a o.b o.m o.win.kh o.win.kw o.win.sh o.win.sw o.win.top o.win.left o.win.bottom o.win.right o.wn o.ws o.bn o.bs o.sam o.sas o.sbm o.sbs o.zero o.pad o.lo o.hi (S.getD o.a.toNat default).h (S.getD o.a.toNat default).w (S.getD o.a.toNat default).c) fun v5 => W.ret (decide (512 < v5))) (W.ret false)).run Q := fun {Q} hq => by
    refine W.bindI (g_ref08_Reduces_ok _ (W.iteC (reduces o.kind) rfl (fun h7 => W.bindI (g_ref08_Length_ok o _ hsa (hdl h7) (W.retE hq (by simp [h7])))) fun h7 => W.retE hq (by simp [h7])))
  refine W.bindI (key7 ?_)
  refine W.iteC _ rfl (fun h7 => W.retE h (by simp only [Opr.one]; rw [if_neg h1, if_neg h2, if_neg h3, if_neg h4, if_neg h5, if_neg h6, if_pos h7])) fun h7 => ?_
  refine W.bindI (g_ref08_Lists_ok o _ hsa (fun hk => hd (by unfold slides; omega)) (fun hk => by omega) ?_)
  refine W.iteC ((o.ws.length : Int) ≠ (o.lists (S.getD o.a.toNat default)).1 ∨ (o.bs.length : Int) ≠ (o.lists (S.getD o.a.toNat default)).2) (by first | (simp; done) | (simp; rfl))
    (fun h8 => W.retE h (by simp only [Opr.one]; rw [if_neg h1, if_neg h2, if_neg h3, if_neg h4, if_neg h5, if_neg h6, if_neg h7, if_pos h8])) fun h8 => ?_
  have key9 : ∀ {Q : Bool → Prop}, Q (decide (scales o.kind ∧ ¬ scaleOK o.sam o.sas ∨ o.kind = 6 ∧ ¬ scaleOK o.sbm o.sbs)) →
      (W.bind (g_ref08_Scales o.kind) fun v8 => W.ite v8 (W.bind (g_ref02_Valid o.sam o.sas) fun v9 => W.ite (!v9) (W.ret true) (W.ite (o.kind == 6) (W.bind (g_ref02_Valid o.sbm o.sbs) fun v10 => W.ret !v10) (W.ret false)))
        (W.ite (o.kind == 6) (W.bind (g_ref02_Valid o.sbm o.sbs) fun v11 => W.ret !v11) (W.ret false))).run Q := fun {Q} hq => by
    have tail : ∀ {Q : Bool → Prop}, Q (decide (o.kind = 6 ∧ ¬ scaleOK o.sbm o.sbs)) → (W.ite (o.kind == 6) (W.bind (g_ref02_Valid o.sbm o.sbs) fun v11 => W.ret !v11) (W.ret false)).run Q := fun {Q} hq =>
      W.iteC (o.kind = 6) rfl (fun q => W.bindI (g_ref02_Valid_ok _ _ (W.retE hq (by simp [q])))) fun q => W.retE hq (by simp [q])
    refine W.bindI (g_ref08_Scales_ok _ (W.iteC (scales o.kind) rfl (fun q1 => W.bindI (g_ref02_Valid_ok _ _ (W.iteC (¬ scaleOK o.sam o.sas) (by simp) (fun q2 => W.retE hq (by simp [q1, q2])) fun q2 => tail ?_))) fun q1 => tail ?_))
    · simpa [q1, q2] using hq
    · simpa [q1] using hq
  refine W.bindI (key9 ?_)
  refine W.iteC _ rfl (fun h9 => W.retE h (by simp only [Opr.one]; rw [if_neg h1, if_neg h2, if_neg h3, if_neg h4, if_neg h5, if_neg h6, if_neg h7, if_neg h8, if_pos h9])) fun h9 => ?_
  have key10 : ∀ {Q : Bool → Prop}, Q (decide (¬ val o.lo ∨ ¬ val o.hi ∨ o.hi < o.lo ∨ ¬ val o.zero ∨ ¬ val o.pad)) →
      (W.bind (g_ref08_values o.lo) fun v13 => W.ite (!v13) (W.ret true) (W.bind (g_ref08_values o.hi) fun v14 => W.ite (!v14 || decide (o.hi < o.lo)) (W.ret true)
        (W.bind (g_ref08_values o.zero) fun v15 => W.ite (!v15) (W.ret true) (W.bind (g_ref08_values o.pad) fun v16 => W.ret !v16)))).run Q := fun {Q} hq => by
    refine W.bindI (g_ref08_values_ok _ (W.iteC (¬ val o.lo) (by simp) (fun q1 => W.retE hq (by simp [q1])) fun q1 => ?_))
    refine W.bindI (g_ref08_values_ok _ (W.iteC (¬ val o.hi ∨ o.hi < o.lo) (by simp) (fun q2 => W.retE hq (by rcases q2 with q2 | q2 <;> simp [q2])) fun q2 => ?_))
    rw [not_or] at q2
    refine W.bindI (g_ref08_values_ok _ (W.iteC (¬ val o.zero) (by simp) (fun q3 => W.retE hq (by simp [q3])) fun q3 => W.bindI (g_ref08_values_ok _ (W.retE hq ?_))))
    have q1 : val o.lo := by simpa using q1
    have q3 : val o.zero := by simpa using q3
    have q2a : val o.hi := by simpa using q2.1
    rw [Bool.eq_iff_iff]
    simp [q1, q2a, q3]
    omega
  refine W.bindI (key10 ?_)
  refine W.iteC _ rfl (fun h10 => W.retE h (by simp only [Opr.one]; rw [if_neg h1, if_neg h2, if_neg h3, if_neg h4, if_neg h5, if_neg h6, if_neg h7, if_neg h8, if_neg h9, if_pos h10])) fun h10 => W.retE h ?_
  simp only [Opr.one]; rw [if_neg h1, if_neg h2, if_neg h3, if_neg h4, if_neg h5, if_neg h6, if_neg h7, if_neg h8, if_neg h9, if_neg h10]
end Go.Proofs.Ytpoakneeceaooaa.VX

set_option linter.unusedVariables false
namespace Go.Proofs.Ytpoakneeceaooaa.VX
/-- Work, error, op, shapes. -/
structure Ans8 where
  work : Int
  err : Int
  op : Int
  S : List Shp
def walk8 : List Opr → Int → Int → List Shp → Ans8
  | [], _, w, S => ⟨w, 0, 0, S⟩
  | o :: r, i, w, S =>
    if (o.one S).2 ≠ 0 then ⟨0, (o.one S).2, i + 1, []⟩
    else if 131072 < w + o.labour (S.getD o.a.toNat default) (o.one S).1 then ⟨0, 86, i + 1, []⟩
    else walk8 r (i + 1) (w + o.labour (S.getD o.a.toNat default) (o.one S).1) (S ++ [(o.one S).1])
def look8 (s : Shp) (lo hi : Int) (ops : List Opr) (out : Int) : Ans8 :=
  if ¬ s.ok then ⟨0, 50, 0, []⟩
  else if ¬ val lo ∨ ¬ val hi ∨ hi < lo then ⟨0, 85, 0, []⟩
  else if 64 < ops.length then ⟨0, 80, 0, []⟩
  else if out < 0 ∨ ops.length < out then ⟨0, 3, 0, []⟩
  else walk8 ops 0 0 [s]
/-- As the functions answer it. -/
def Ans8.tup (a : Ans8) : Int × Int × Int × Int × Bool × Rws := (a.work, a.err, a.op, 0, decide (a.err ≠ 0), a.S.map Shp.enc)
def oprs (l : Rws) : List Opr := l.map Opr.of
/-- No list of an op is longer than this. -/
def short (l : Rws) : Prop := ∀ r ∈ l, (Opr.of r).ws.length ≤ 70368744175616 ∧ (Opr.of r).bs.length ≤ 35184372087808

theorem one_ok {o : Opr} {S : List Shp} (h : (o.one S).2 = 0) : (0 ≤ o.a ∧ o.a < S.length) ∧ (o.one S).1.ok ∧ (slides o.kind → o.win.dims) ∧ (o.mk1 (S.getD o.a.toNat default)).2 = 0 := by
  unfold Opr.one at h ⊢
  repeat' split at h
  all_goals try (exfalso; simp at h; done)
  · rename_i h5; exact absurd h h5
  · rename_i h1 h2 h3 h4 h5 h6 h7 h8 h9 h10
    rw [if_neg h1, if_neg h2, if_neg h3, if_neg h4, if_neg h5, if_neg h6, if_neg h7, if_neg h8, if_neg h9, if_neg h10]
    rw [not_or] at h6
    have h5' : (o.mk1 (S.getD o.a.toNat default)).2 = 0 := by simpa using h5
    exact ⟨by omega, Classical.not_not.1 h6.2, mk1_dims h5', h5'⟩
theorem getD_mem {S : List Shp} {i : Nat} (h : i < S.length) : S.getD i default ∈ S := by
  rw [List.getD_eq_getElem?_getD, List.getElem?_eq_getElem h]; exact List.getElem_mem h

theorem row_opr (l : Rws) (k : Nat) (h : k < l.length) : (oprs l)[k]? = some (Opr.of (l.getD k [])) := by
  unfold oprs
  rw [List.getElem?_map, List.getD_eq_getElem?_getD, List.getElem?_eq_getElem h]; rfl
theorem drop_opr (l : Rws) (k : Nat) (h : k < l.length) : (oprs l).drop k = Opr.of (l.getD k []) :: (oprs l).drop (k + 1) := by
  have h' : k < (oprs l).length := by simpa [oprs] using h
  rw [List.drop_eq_getElem_cons h']
  congr 1
  have := row_opr l k h
  rw [List.getElem?_eq_getElem h'] at this
  exact Option.some.inj this

theorem g_ref08_one_row (l : Rws) (k : Nat) (S : List Shp) (nl : Bool) (hS : ∀ s ∈ S, s.ok) (hw : (Opr.of (l.getD k [])).ws.length ≤ 70368744175616) (hb : (Opr.of (l.getD k [])).bs.length ≤ 35184372087808) {R : Int × Int × Int × Int → Prop} (h : R (((Opr.of (l.getD k [])).one S).1.h, ((Opr.of (l.getD k [])).one S).1.w, ((Opr.of (l.getD k [])).one S).1.c, ((Opr.of (l.getD k [])).one S).2)) :
    (g_ref08_one (ri l k 0) (ri l k 1) (ri l k 2) (ri l k 3) (ri l k 4) (ri l k 5) (ri l k 6) (ri l k 7) (ri l k 8) (ri l k 9) (ri l k 10) (ri l k 11) (rn l k 12) (rr l k 12) (rn l k 13) (rr l k 13) (ri l k 14) (ri l k 15) (ri l k 16) (ri l k 17) (ri l k 18) (ri l k 19) (ri l k 20) (ri l k 21) S.length nl (S.map Shp.enc)).run R :=
  g_ref08_one_ok (Opr.of (l.getD k [])) S nl hS hw hb h
theorem g_ref08_Labour_row (l : Rws) (k : Nat) (s t : Shp) (hs : s.ok) (ht : t.ok) (hw : slides (Opr.of (l.getD k [])).kind → (Opr.of (l.getD k [])).win.dims) {R : Int → Prop} (h : R ((Opr.of (l.getD k [])).labour s t)) :
    (g_ref08_Labour (ri l k 0) (ri l k 1) (ri l k 2) (ri l k 3) (ri l k 4) (ri l k 5) (ri l k 6) (ri l k 7) (ri l k 8) (ri l k 9) (ri l k 10) (ri l k 11) (rn l k 12) (rr l k 12) (rn l k 13) (rr l k 13) (ri l k 14) (ri l k 15) (ri l k 16) (ri l k 17) (ri l k 18) (ri l k 19) (ri l k 20) (ri l k 21) s.h s.w s.c t.h t.w t.c).run R :=
  g_ref08_Labour_ok (Opr.of (l.getD k [])) s t hs ht hw h
theorem g_ref08_Look_ok (s : Shp) (lo hi : Int) (nl : Bool) (l : Rws) (out : Int) (hl : l.length ≤ 676622540150) (hsh : short l) {R : Int × Int × Int × Int × Bool × Rws → Prop} (h : R (look8 s lo hi (oprs l) out).tup) :
    (g_ref08_Look s.h s.w s.c lo hi nl l out).run R := by
  have hlen : (oprs l).length = l.length := by simp [oprs]
  unfold g_ref08_Look
  have key : ∀ {Q : Int → Prop}, Q (if ¬ s.ok then 50 else if ¬ val lo ∨ ¬ val hi ∨ hi < lo then 85 else if 64 < l.length then 80 else if out < 0 ∨ l.length < out then 3 else 0) →
      (W.bind (g_ref05_Valid s.h s.w s.c) fun v0 => W.ite (!v0) (W.ret 50) (W.bind (α := Bool) (W.bind (g_ref08_values lo) fun v1 => W.ite (!v1) (W.ret true) (W.bind (g_ref08_values hi) fun v2 => W.ret (!v2 || decide (hi < lo)))) fun v3 =>
        W.ite v3 (W.ret 85) (W.ite (decide (64 < (↑(List.length l) : Int))) (W.ret 80) (W.ite (decide (out < 0) || decide ((↑(List.length l) : Int) < out)) (W.ret 3) (W.ret 0))))).run Q := fun {Q} hq => by
    refine W.bindI (g_ref05_Valid_ok _ _ _ (W.iteC (¬ s.ok) (by simp) (fun h1 => W.retE hq (by rw [if_pos h1])) fun h1 => ?_))
    rw [if_neg h1] at hq
    have tail : ∀ b : Bool, b = decide (¬ val lo ∨ ¬ val hi ∨ hi < lo) → (W.ite b (W.ret 85) (W.ite (decide (64 < (↑(List.length l) : Int))) (W.ret 80) (W.ite (decide (out < 0) || decide ((↑(List.length l) : Int) < out)) (W.ret 3) (W.ret 0)))).run Q := fun b hb => by
      refine W.iteC _ hb (fun h2 => W.retE hq (by rw [if_pos h2])) fun h2 => ?_
      refine W.iteC (64 < l.length) (by rw [decide_eq_decide]; omega) (fun h3 => W.retE hq (by rw [if_neg h2, if_pos h3])) fun h3 => ?_
      exact W.iteC (out < 0 ∨ l.length < out) (by rw [Bool.decide_or]) (fun h4 => W.retE hq (by rw [if_neg h2, if_neg h3, if_pos h4])) fun h4 => W.retE hq (by rw [if_neg h2, if_neg h3, if_neg h4])
    refine W.bindI (W.bindI (g_ref08_values_ok _ (W.iteC (¬ val lo) (by simp) (fun h2 => W.retI (tail _ (by simp [h2]))) fun h2 => W.bindI (g_ref08_values_ok _ (W.retI (tail _ ?_))))))
    have h2 : val lo := by simpa using h2
    simp [h2]
  refine W.bindI (key ?_)
  unfold look8 at h
  rw [hlen] at h
  by_cases h1 : s.ok
  case neg => rw [if_pos h1] at h ⊢; exact W.iteT rfl (W.retE h rfl)
  rw [if_neg (by simpa using h1)] at h ⊢
  by_cases h2 : ¬ val lo ∨ ¬ val hi ∨ hi < lo
  · rw [if_pos h2] at h ⊢; exact W.iteT rfl (W.retE h rfl)
  rw [if_neg h2] at h ⊢
  by_cases h3 : 64 < l.length
  · rw [if_pos h3] at h ⊢; exact W.iteT rfl (W.retE h rfl)
  rw [if_neg h3] at h ⊢
  by_cases h4 : out < 0 ∨ (l.length : Int) < out
  · rw [if_pos h4] at h ⊢; exact W.iteT rfl (W.retE h rfl)
  rw [if_neg h4] at h ⊢
  refine W.iteF rfl (W.bindI (W.loop_inv (fun v : Int × Int × Rws => ∃ (k : Nat) (S : List Shp), v.2.1 = k ∧ k ≤ l.length ∧ v.2.2 = S.map Shp.enc ∧ S.length = k + 1 ∧ (∀ s ∈ S, s.ok) ∧ 0 ≤ v.1 ∧ v.1 ≤ 131072 ∧ R (walk8 ((oprs l).drop k) k v.1 S).tup)
    (fun v => l.length - v.2.1.toNat) ?_ ⟨0, [s], rfl, Nat.zero_le _, rfl, rfl, by simpa using h1, by dsimp only; omega, by dsimp only; omega, h⟩))
  rintro ⟨w, i, rows⟩ ⟨k, S, rfl, hk, rfl, hSl, hS, hw0, hw1, hR⟩
  dsimp only at hw0 hw1 hR ⊢
  refine W.iteC (k < l.length) (by rw [decide_eq_decide]; omega) (fun hlt => W.needI (by omega) ?_) fun hge => ?_
  · rw [Int.toNat_natCast, wrap64_in (x := (k : Int) + 1) (by omega) (by omega)]
    have hmem : l.getD k [] ∈ l := by rw [List.getD_eq_getElem?_getD, List.getElem?_eq_getElem hlt]; exact List.getElem_mem hlt
    obtain ⟨s1, s2⟩ := hsh _ hmem
    rw [drop_opr l k hlt] at hR
    have e1 : ((k : Int) + 1) = (S.length : Int) := by omega
    rw [e1]
    refine W.bindI (g_ref08_one_row l k S false hS s1 s2 ?_)
    dsimp only
    unfold walk8 at hR
    refine W.iteC (((Opr.of (l.getD k [])).one S).2 ≠ 0) (by first | (simp; done) | (simp; rfl)) (fun h5 => ?_) fun h5 => ?_
    · rw [if_pos h5] at hR
      refine W.retI (W.retE hR ?_)
      simp only [Ans8.tup, e1]
      simp [h5, -List.getD_eq_getElem?_getD]
    · rw [if_neg h5] at hR
      have h5' : ((Opr.of (l.getD k [])).one S).2 = 0 := by simpa using h5
      obtain ⟨q1, q2, q3, q4⟩ := one_ok h5'
      have hsa := hS _ (getD_mem (S := S) (i := (Opr.of (l.getD k [])).a.toNat) (by omega))
      rw [List.length_map]
      refine W.needI q1 ?_
      have e2 : (ri l k 1) = (Opr.of (l.getD k [])).a := rfl
      rw [ri_shp0, ri_shp1, ri_shp2]
      refine W.bindI (g_ref08_Labour_row l k (S.getD (Opr.of (l.getD k [])).a.toNat default) _ hsa q2 q3 ?_)
      have bd := labour_bd (Opr.of (l.getD k [])) _ _ hsa q2 q3
      rw [wrap64_in (by omega) (by omega)]
      refine W.iteC _ rfl (fun h6 => ?_) fun h6 => ?_
      · rw [if_pos h6] at hR
        refine W.retI (W.retE hR ?_)
        simp only [Ans8.tup, e1]
        simp
      · rw [if_neg h6] at hR
        refine W.needI (by omega) (W.retI ⟨⟨k + 1, S ++ [((Opr.of (l.getD k [])).one S).1], by simpa using e1.symm, hlt, by simp [Shp.enc], by simp [hSl], ?_, by dsimp only; omega, by dsimp only; omega, ?_⟩, ?_⟩)
        · intro x hx
          rcases List.mem_append.1 hx with hx | hx
          · exact hS x hx
          · simp at hx; subst hx; exact q2
        · simpa using hR
        · dsimp only; omega
  · have e : k = l.length := by omega
    subst e
    rw [List.drop_eq_nil_of_le (by omega)] at hR
    exact W.retI (W.retE hR (by simp [walk8, Ans8.tup]))
end Go.Proofs.Ytpoakneeceaooaa.VX

set_option linter.unusedVariables false
namespace Go.Proofs.Ytpoakneeceaooaa.VX
theorem W.iteR {α : Type} {b : Bool} {x y : α} {R : α → Prop} (h : R (bif b then x else y)) : (W.ite b (W.ret x) (W.ret y)).run R := by
  cases b
  · exact W.iteF rfl h
  · exact W.iteT rfl h
structure Uses where
  b : Bool
  m : Bool
  win : Bool
  pads : Bool
  weights : Bool
  sa : Bool
  sb : Bool
  pad : Bool
def usesOf (k : Int) : Uses := ⟨decide (k = 6), decide (k ≤ 2), decide (slides k), decide (k = 2 ∨ k = 3), decide (weighs k), decide (scales k), decide (k = 6), decide (k = 2 ∨ k = 3)⟩
theorem kind_cases {k : Int} (h : ¬ (k < 1 ∨ 8 < k)) : k = 1 ∨ k = 2 ∨ k = 3 ∨ k = 4 ∨ k = 5 ∨ k = 6 ∨ k = 7 ∨ k = 8 := by omega
theorem g_model_of_ok (k : Int) (h : ¬ (k < 1 ∨ 8 < k)) {R : Bool × Bool × Bool × Bool × Bool × Bool × Bool × Bool × Bool → Prop}
    (hR : R ((usesOf k).b, (usesOf k).m, (usesOf k).win, (usesOf k).pads, (usesOf k).weights, (usesOf k).sa, (usesOf k).sb, (usesOf k).pad, true)) : (g_model_of k).run R := by
  unfold g_model_of
  rcases kind_cases h with rfl | rfl | rfl | rfl | rfl | rfl | rfl | rfl
  · exact W.iteT rfl (W.retE hR rfl)
  · exact W.iteF rfl (W.iteT rfl (W.retE hR rfl))
  · exact W.iteF rfl (W.iteF rfl (W.iteT rfl (W.retE hR rfl)))
  · exact W.iteF rfl (W.iteF rfl (W.iteF rfl (W.bindI (W.iteT rfl (W.retI (W.iteT rfl (W.retE hR rfl)))))))
  · exact W.iteF rfl (W.iteF rfl (W.iteF rfl (W.bindI (W.iteF rfl (W.retI (W.iteT rfl (W.retE hR rfl)))))))
  · exact W.iteF rfl (W.iteF rfl (W.iteF rfl (W.bindI (W.iteF rfl (W.retI (W.iteF rfl (W.iteT rfl (W.retE hR rfl))))))))
  · exact W.iteF rfl (W.iteF rfl (W.iteF rfl (W.bindI (W.iteF rfl (W.retI (W.iteF rfl (W.iteF rfl (W.iteT rfl (W.retE hR rfl)))))))))
  · exact W.iteF rfl (W.iteF rfl (W.iteF rfl (W.bindI (W.iteF rfl (W.retI (W.iteF rfl (W.iteF rfl (W.iteF rfl (W.iteT rfl (W.retE hR rfl))))))))))
theorem g_model_of_bad (k : Int) (h : k < 1 ∨ 8 < k) {R : Bool × Bool × Bool × Bool × Bool × Bool × Bool × Bool × Bool → Prop} (hR : R (false, false, false, false, false, false, false, false, false)) : (g_model_of k).run R := by
  have ne : ∀ n : Int, 1 ≤ n → n ≤ 8 → (k == n) = false := fun n h1 h2 => by simp; omega
  unfold g_model_of
  exact W.iteF (ne 1 (by omega) (by omega)) (W.iteF (ne 2 (by omega) (by omega)) (W.iteF (ne 3 (by omega) (by omega)) (W.bindI (W.iteF (ne 4 (by omega) (by omega)) (W.retI (W.iteF (ne 5 (by omega) (by omega)) (W.iteF (ne 6 (by omega) (by omega)) (W.iteF (ne 7 (by omega) (by omega)) (W.iteF (ne 8 (by omega) (by omega)) (W.retI hR))))))))))

/-- Is all zero that isn't used? -/
def restB (o : Opr) (u : Uses) : Bool :=
  (bif u.b then 0 else o.b) == 0 && (bif u.m then 0 else o.m) == 0 &&
  (bif u.pads then true else (bif u.win then true else o.win.kh == 0 && o.win.kw == 0 && o.win.sh == 0 && o.win.sw == 0) && (o.win.top == 0 && o.win.left == 0 && o.win.bottom == 0 && o.win.right == 0)) &&
  (bif u.weights then true else o.ws.isEmpty && o.bs.isEmpty) && (bif u.sa then true else o.sam == 0 && o.sas == 0 && o.zero == 0) && (bif u.sb then true else o.sbm == 0 && o.sbs == 0) && (bif u.pad then true else o.pad == 0)
theorem nil_len (l : Rws) : ((l.length : Int) == 0) = l.isEmpty := by cases l <;> simp <;> omega
theorem bare_empty_ok (o : Opr) (u : Uses) {R : Bool → Prop} (h : R (restB o u)) :
    (W.bind (g_model_bare o.kind o.a o.b o.m o.win.kh o.win.kw o.win.sh o.win.sw o.win.top o.win.left o.win.bottom o.win.right o.wn o.ws o.bn o.bs o.sam o.sas o.sbm o.sbs o.zero o.pad o.lo o.hi u.b u.m u.win u.pads u.weights u.sa u.sb u.pad) fun v1 =>
      g_model_empty (v1.fst) (v1.snd.fst) (v1.snd.snd.fst) (v1.snd.snd.snd.fst) (v1.snd.snd.snd.snd.fst) (v1.snd.snd.snd.snd.snd.fst) (v1.snd.snd.snd.snd.snd.snd.fst) (v1.snd.snd.snd.snd.snd.snd.snd.fst) (v1.snd.snd.snd.snd.snd.snd.snd.snd.fst) (v1.snd.snd.snd.snd.snd.snd.snd.snd.snd.fst) (v1.snd.snd.snd.snd.snd.snd.snd.snd.snd.snd.fst) (v1.snd.snd.snd.snd.snd.snd.snd.snd.snd.snd.snd.fst) (v1.snd.snd.snd.snd.snd.snd.snd.snd.snd.snd.snd.snd.fst) (v1.snd.snd.snd.snd.snd.snd.snd.snd.snd.snd.snd.snd.snd.fst) (v1.snd.snd.snd.snd.snd.snd.snd.snd.snd.snd.snd.snd.snd.snd.fst) (v1.snd.snd.snd.snd.snd.snd.snd.snd.snd.snd.snd.snd.snd.snd.snd.fst) (v1.snd.snd.snd.snd.snd.snd.snd.snd.snd.snd.snd.snd.snd.snd.snd.snd.fst) (v1.snd.snd.snd.snd.snd.snd.snd.snd.snd.snd.snd.snd.snd.snd.snd.snd.snd.fst) (v1.snd.snd.snd.snd.snd.snd.snd.snd.snd.snd.snd.snd.snd.snd.snd.snd.snd.snd.fst) (v1.snd.snd.snd.snd.snd.snd.snd.snd.snd.snd.snd.snd.snd.snd.snd.snd.snd.snd.snd.fst) (v1.snd.snd.snd.snd.snd.snd.snd.snd.snd.snd.snd.snd.snd.snd.snd.snd.snd.snd.snd.snd.fst) (v1.snd.snd.snd.snd.snd.snd.snd.snd.snd.snd.snd.snd.snd.snd.snd.snd.snd.snd.snd.snd.snd.fst) (v1.snd.snd.snd.snd.snd.snd.snd.snd.snd.snd.snd.snd.snd.snd.snd.snd.snd.snd.snd.snd.snd.snd.fst) (v1.snd.snd.snd.snd.snd.snd.snd.snd.snd.snd.snd.snd.snd.snd.snd.snd.snd.snd.snd.snd.snd.snd.snd)).run R := by
  unfold g_model_bare g_model_empty
  refine W.bindI (W.bindI ?_)
  iterate 7 (refine W.iteR ?_; refine W.bindI ?_)
  refine W.iteR ?_
  refine W.retI ?_
  refine W.retE h ?_
  obtain ⟨ub, um, uwin, upads, uw, usa, usb, upad⟩ := u
  dsimp only
  simp only [restB, nil_len]
  cases ub <;> cases um <;> cases uwin <;> cases upads <;> cases uw <;> cases usa <;> cases usb <;> cases upad <;> simp only [cond_true, cond_false] <;> simp <;> ac_rfl
end Go.Proofs.Ytpoakneeceaooaa.VX

set_option linter.unusedVariables false
namespace Go.Proofs.Ytpoakneeceaooaa.VX
theorem restB_eq (o : Opr) (h : ¬ (o.kind < 1 ∨ 8 < o.kind)) : restB o (usesOf o.kind) = decide o.spare := by
  obtain ⟨k, a, b, m, ⟨kh, kw, sh, sw, tp, lf, bt, rt⟩, wn, ws, bn, bs, sam, sas, sbm, sbs, zero, pad, lo, hi⟩ := o
  dsimp only at h ⊢
  rw [Bool.eq_iff_iff, decide_eq_true_eq]
  rcases kind_cases h with rfl | rfl | rfl | rfl | rfl | rfl | rfl | rfl <;> simp [restB, usesOf, Opr.spare, slides, weighs, scales, List.isEmpty_iff, List.length_eq_zero_iff, Win.mk.injEq] <;> (constructor <;> intro q <;> simp_all)

theorem g_model_makes_ok (o : Opr) (s : Shp) (hk : ¬ (o.kind < 1 ∨ 8 < o.kind)) (hs : s.ok) (hm : o.kind ≤ 2 → 1 ≤ o.m ∧ o.m ≤ 1024) {R : Int × Int × Int × Int × Int × Int → Prop}
    (h : R (if (o.mk1 s).2 ≠ 0 then (0, 0, 0, 0, 0, (o.mk1 s).2) else ((o.mk1 s).1.h, (o.mk1 s).1.w, (o.mk1 s).1.c, if reduces o.kind then o.len s else 0, o.labour s (o.mk1 s).1, 0))) :
    (g_model_makes o.kind o.a o.b o.m o.win.kh o.win.kw o.win.sh o.win.sw o.win.top o.win.left o.win.bottom o.win.right o.wn o.ws o.bn o.bs o.sam o.sas o.sbm o.sbs o.zero o.pad o.lo o.hi s.h s.w s.c).run R := by
  have hs' := hs
  unfold Shp.ok at hs'
  obtain ⟨p1, p2, p3, p4⟩ := prod3 hs'.1 hs'.2.1 hs'.2.2.1
  unfold g_model_makes
  refine W.bindI (g_model_of_ok _ hk (W.bindI (W.iteC (slides o.kind) rfl (fun h1 => ?_) fun h1 => ?_)))
  · -- a window
    have hk1 : o.kind ≠ 1 := by unfold slides at h1; omega
    refine W.bindI (g_window_Out_ok s o.win (W.iteC ((wout s o.win).2.2 ≠ 0) (by first | (simp; done) | (simp; rfl)) (fun he => W.retI (W.retE h ?_)) fun he => W.retI ?_))
    · have e : (o.mk1 s).2 ≠ 0 := by unfold Opr.mk1; rw [if_neg hk1, if_pos h1, if_pos he]; exact he
      rw [if_pos e]
      unfold Opr.mk1; rw [if_neg hk1, if_pos h1, if_pos he]
    · have he' : (wout s o.win).2.2 = 0 := by simpa using he
      have hd := (wout_win he').2
      have hd2 := hd.dims
      unfold Win.dims at hd2
      have q := mul_bd (A := 32) (B := 32) hd2.1.1 hd2.1.2 hd2.2.1 hd2.2.2
      have q2 := mul_bd (A := 1024) (B := 1024) q.1 (by omega) (by omega : 0 ≤ s.c) (by omega)
      have hmk : o.mk1 s = (⟨(wout s o.win).1, (wout s o.win).2.1, if o.kind = 2 then o.m else s.c⟩, 0) := by unfold Opr.mk1; rw [if_neg hk1, if_pos h1, if_neg he]
      rw [hmk] at h
      dsimp only at h
      rw [if_neg (by simp)] at h
      -- its dims
      have hwo : (0 ≤ (wout s o.win).1 ∧ (wout s o.win).1 ≤ 2000) ∧ (0 ≤ (wout s o.win).2.1 ∧ (wout s o.win).2.1 ≤ 2000) := by
        have hd3 := hd
        unfold Win.ok sideOK at hd3
        unfold wout
        rw [if_neg (by simpa using hs), if_neg (by simpa using hd)]
        have b1 := places_bd (n := s.h + o.win.top + o.win.bottom) (k := o.win.kh) (s := o.win.sh) (by omega) (by omega)
        have b2 := places_bd (n := s.w + o.win.left + o.win.right) (k := o.win.kw) (s := o.win.sw) (by omega) (by omega)
        split
        · simp
        · dsimp only; omega
      have w1 := mul_bd (A := 2000) (B := 2000) hwo.1.1 hwo.1.2 hwo.2.1 hwo.2.2
      have w2 : ∀ c : Int, 0 ≤ c → c ≤ 1024 → 0 ≤ (wout s o.win).1 * (wout s o.win).2.1 * c ∧ (wout s o.win).1 * (wout s o.win).2.1 * c ≤ 4096000000 := fun c h0 h1 => by
        have := mul_bd (A := 4000000) (B := 1024) w1.1 (by omega) h0 h1; omega
      have w3 : ∀ c t : Int, 0 ≤ c → c ≤ 1024 → 0 ≤ t → t ≤ 1048576 → 0 ≤ (wout s o.win).1 * (wout s o.win).2.1 * c * t ∧ (wout s o.win).1 * (wout s o.win).2.1 * c * t ≤ 4294967296000000 := fun c t h0 h1 h2 h3 => by
        have := mul_bd (A := 4096000000) (B := 1048576) (w2 c h0 h1).1 (w2 c h0 h1).2 h2 h3; omega
      rw [wrap64_in (x := o.win.kh * o.win.kw) (by omega) (by omega)]
      refine W.bindI (W.iteF (by simp [hk1]) (W.iteC (o.kind = 2) rfl (fun h2 => W.retI (W.retE h ?_)) fun h2 => W.bindI ?_))
      · have e1 := w2 o.m (by omega) (by omega)
        have e2 := w3 o.m (o.win.kh * o.win.kw * s.c) (by omega) (by omega) q2.1 (by omega)
        dsimp only
        rw [wrap64_in (x := o.win.kh * o.win.kw * s.c) (by omega) (by omega), wrap64_in (x := (wout s o.win).1 * (wout s o.win).2.1) (by omega) (by omega), wrap64_in (x := (wout s o.win).1 * (wout s o.win).2.1 * o.m) (by omega) (by omega), wrap64_in (by omega) (by omega)]
        have hr : reduces o.kind := by unfold reduces; omega
        rw [if_pos h2, if_pos hr]
        simp only [Opr.labour, Opr.len]
        rw [if_pos hr, if_neg hk1, if_pos h2]
      · have e1 := w2 s.c (by omega) (by omega)
        have e2 := w3 s.c (o.win.kh * o.win.kw) (by omega) (by omega) q.1 (by omega)
        rw [if_neg h2] at h
        have key : ∀ b : Bool, b = decide (o.kind = 3 ∨ o.kind = 4) → (W.ite b (W.ret (o.win.kh * o.win.kw, o.win.kh * o.win.kw, (wout s o.win).1, (wout s o.win).2.1, s.c)) (W.ret (o.win.kh * o.win.kw, 0, (wout s o.win).1, (wout s o.win).2.1, s.c))).run fun v4 =>
            (W.ret (v4.snd.snd.fst, v4.snd.snd.snd.fst, v4.snd.snd.snd.snd, v4.snd.fst, IntKind.i64.wrap (IntKind.i64.wrap (IntKind.i64.wrap (v4.snd.snd.fst * v4.snd.snd.snd.fst) * v4.snd.snd.snd.snd) * v4.fst), (0 : Int))).run R := fun b hb => by
          have hlab : o.labour s ⟨(wout s o.win).1, (wout s o.win).2.1, s.c⟩ = (wout s o.win).1 * (wout s o.win).2.1 * s.c * (o.win.kh * o.win.kw) := by
            unfold Opr.labour Opr.len
            dsimp only
            by_cases hr : reduces o.kind
            · rw [if_pos hr, if_neg hk1, if_neg h2]
            · rw [if_neg hr, if_pos (by unfold reduces at hr; unfold slides at h1; omega)]
              rw [Int.mul_assoc ((wout s o.win).1 * (wout s o.win).2.1 * s.c)]
          have hlen : o.len s = o.win.kh * o.win.kw := by unfold Opr.len; rw [if_neg hk1, if_neg h2]
          rw [hlab, hlen] at h
          refine W.iteC _ hb (fun h3 => W.retI (W.retE h ?_)) fun h3 => W.retI (W.retE h ?_)
          · rw [if_pos (by unfold reduces; omega)]
            dsimp only
            rw [wrap64_in (x := (wout s o.win).1 * (wout s o.win).2.1) (by omega) (by omega), wrap64_in (x := (wout s o.win).1 * (wout s o.win).2.1 * s.c) (by omega) (by omega), wrap64_in (by omega) (by omega)]
          · rw [if_neg (by unfold reduces; unfold slides at h1; omega)]
            dsimp only
            rw [wrap64_in (x := (wout s o.win).1 * (wout s o.win).2.1) (by omega) (by omega), wrap64_in (x := (wout s o.win).1 * (wout s o.win).2.1 * s.c) (by omega) (by omega), wrap64_in (by omega) (by omega)]
        refine (W.iteC (o.kind = 3) rfl (fun h3 => W.retI (key (o.kind == 3) (by simp [h3]))) fun h3 => W.retI (key (o.kind == 4) (by rw [Bool.eq_iff_iff]; simp [h3])))
  · refine W.retI (W.bindI (W.iteC (o.kind = 1) rfl (fun h2 => W.retI ?_) fun h2 => W.iteF (by simp; unfold slides at h1; omega) (W.bindI (W.iteF (by simp; unfold slides at h1; omega) (W.retI (W.iteF (by simp; unfold slides at h1; omega) (W.retI ?_)))))))
    · have hmk : o.mk1 s = (⟨1, 1, o.m⟩, 0) := by unfold Opr.mk1; rw [if_pos h2]
      have hr : reduces o.kind := by unfold reduces; omega
      have hm := hm (by omega)
      have q := mul_bd (A := 1024) (B := 16384) (by omega : 0 ≤ o.m) hm.2 p3 hs'.2.2.2
      have hlen : o.len s = s.h * s.w * s.c := by unfold Opr.len; rw [if_pos h2]
      have hlab : o.labour s ⟨1, 1, o.m⟩ = o.m * (s.h * s.w * s.c) := by
        unfold Opr.labour; rw [if_pos hr, hlen]; simp only [Int.one_mul]
      rw [hmk] at h
      dsimp only at h
      rw [if_neg (by simp : ¬ ((0 : Int) ≠ 0)), if_pos hr, hlen, hlab] at h
      refine W.retE h ?_
      dsimp only
      rw [wrap64_in (x := s.h * s.w) (by omega) (by omega), wrap64_in (x := s.h * s.w * s.c) (by omega) (by omega), wrap64_in (x := (1 : Int) * 1) (by omega) (by omega)]
      simp only [Int.one_mul]
      rw [wrap64_in (x := o.m) (by omega) (by omega), wrap64_in (by omega) (by omega)]
    · have hmk : o.mk1 s = (s, 0) := by unfold Opr.mk1; rw [if_neg h2, if_neg h1]
      have hr : ¬ reduces o.kind := by unfold reduces; unfold slides at h1; omega
      have hlab : o.labour s s = s.h * s.w * s.c := by
        unfold Opr.labour; rw [if_neg hr, if_neg (by unfold slides at h1; omega)]
      rw [hmk] at h
      dsimp only at h
      rw [if_neg (by simp : ¬ ((0 : Int) ≠ 0)), if_neg hr, hlab] at h
      refine W.retE h ?_
      dsimp only
      rw [wrap64_in (x := s.h * s.w) (by omega) (by omega), wrap64_in (x := s.h * s.w * s.c) (by omega) (by omega), Int.mul_one, wrap64_in (by omega) (by omega)]
theorem g_fixq_Valid_ok (a b : Int) {R : Bool → Prop} (h : R (decide (scaleOK a b))) : (g_fixq_Valid a b).run R := by
  unfold g_fixq_Valid
  exact W.retE h (by rw [Bool.eq_iff_iff, decide_eq_true_eq]; simp [scaleOK, and_assoc]; omega)
end Go.Proofs.Ytpoakneeceaooaa.VX

set_option linter.unusedVariables false
namespace Go.Proofs.Ytpoakneeceaooaa.VX
theorem W.assoc {α β γ : Type} {x : W α} {f : α → W β} {g : β → W γ} {R : γ → Prop} (h : (W.bind (W.bind x f) g).run R) : (W.bind x fun a => W.bind (f a) g).run R := h
def intRows (l : List Int) : Rws := l.map fun n => [I n]
theorem ri_ints (l : List Int) (i : Nat) : ri (intRows l) i 0 = l.getD i 0 := by
  simp only [ri, cellOf, intRows, List.getD_eq_getElem?_getD, List.getElem?_map]
  cases l[i]? <;> rfl
theorem g_model_byte8_ok (nl : Bool) (l : List Int) (hl : l.length ≤ 70368744175616) {R : Bool → Prop} (h : R (decide (∀ n ∈ l, val n))) : (g_model_byte8 nl (intRows l)).run R := by
  have hlen : (intRows l).length = l.length := by simp [intRows]
  unfold g_model_byte8
  refine W.bindI (W.loop_inv (fun v : Int => ∃ k : Nat, v = k ∧ k ≤ l.length ∧ ∀ n ∈ l.take k, val n) (fun v => l.length - v.toNat) ?_ ⟨0, rfl, Nat.zero_le _, by simp⟩)
  rintro _ ⟨k, rfl, hk, hv⟩
  rw [hlen]
  refine W.iteC (k < l.length) (by rw [decide_eq_decide]; omega) (fun hlt => W.needI (by omega) ?_) fun hge => ?_
  · rw [Int.toNat_natCast, ri_ints]
    have hg : l.getD k 0 = l[k] := by rw [List.getD_eq_getElem?_getD, List.getElem?_eq_getElem hlt]; rfl
    rw [hg]
    refine W.iteC (¬ val l[k]) (by rw [Bool.eq_iff_iff, decide_eq_true_eq]; simp [val]; omega) (fun h1 => W.retI (W.retE h ?_)) fun h1 => W.retI ?_
    · have : ¬ ∀ n ∈ l, val n := fun q => h1 (q _ (List.getElem_mem hlt))
      simp [this]
    · rw [wrap64_in (by omega) (by omega)]
      refine ⟨⟨k + 1, by omega, hlt, fun n hn => ?_⟩, by omega⟩
      rw [List.take_succ_eq_append_getElem hlt] at hn
      rcases List.mem_append.1 hn with hn | hn
      · exact hv n hn
      · simp at hn; subst hn; exact Classical.not_not.1 h1
  · refine W.retI (W.retE h ?_)
    have e : k = l.length := by omega
    subst e
    rw [List.take_length] at hv
    exact (decide_eq_true hv).symm

theorem g_model_op_ok (o : Opr) (S : List Shp) (nl : Bool) (hS : ∀ s ∈ S, s.ok) (hw : o.ws.length ≤ 70368744175616) (hb : o.bs.length ≤ 35184372087808) {R : Int × Int × Int × Int × Int → Prop}
    (h : R (if (o.one S).2 ≠ 0 then (0, 0, 0, 0, (o.one S).2) else ((o.one S).1.h, (o.one S).1.w, (o.one S).1.c, o.labour (S.getD o.a.toNat default) (o.one S).1, 0))) :
    (g_model_op o.kind o.a o.b o.m o.win.kh o.win.kw o.win.sh o.win.sw o.win.top o.win.left o.win.bottom o.win.right o.wn o.ws o.bn o.bs o.sam o.sas o.sbm o.sbs o.zero o.pad o.lo o.hi nl (S.map Shp.enc)).run R := by
  have fail : ∀ e : Int, o.one S = (⟨0, 0, 0⟩, e) → e ≠ 0 → R (0, 0, 0, 0, e) := fun e h1 h2 => by rw [h1] at h; dsimp only at h; rwa [if_pos h2] at h
  unfold g_model_op
  refine W.bindI ?_
  by_cases h1 : o.kind < 1 ∨ 8 < o.kind
  · exact g_model_of_bad _ h1 (W.iteT rfl (W.retI (fail 81 (by simp only [Opr.one]; rw [if_pos h1]) (by decide))))
  refine g_model_of_ok _ h1 (W.iteF rfl ?_)
  rw [List.length_map]
  refine W.iteC ((o.a < 0 ∨ S.length ≤ o.a) ∨ o.kind = 6 ∧ (o.b < 0 ∨ S.length ≤ o.b)) (by simp [usesOf]) (fun h2 => W.retI (fail 82 (by simp only [Opr.one]; rw [if_neg h1, if_pos h2]) (by decide))) fun h2 => ?_
  refine W.assoc (W.bindI (bare_empty_ok o (usesOf o.kind) ?_))
  rw [restB_eq o h1]
  refine W.iteC (¬ o.spare) (by simp) (fun h3 => W.retI (fail 83 (by simp only [Opr.one]; rw [if_neg h1, if_neg h2, if_pos h3]) (by decide))) fun h3 => ?_
  refine W.iteC (o.kind ≤ 2 ∧ (o.m < 1 ∨ 1024 < o.m)) (by simp [usesOf]) (fun h4 => W.retI (fail 2 (by simp only [Opr.one]; rw [if_neg h1, if_neg h2, if_neg h3, if_pos h4]) (by decide))) fun h4 => ?_
  refine W.needI (by omega) ?_
  have hsa : (S.getD o.a.toNat default).ok := hS _ (getD_mem (by omega))
  rw [ri_shp0, ri_shp1, ri_shp2]
  refine W.bindI (g_model_makes_ok o _ h1 hsa (by omega) ?_)
  by_cases h5 : (o.mk1 (S.getD o.a.toNat default)).2 ≠ 0
  · rw [if_pos h5]
    exact W.iteT (by simpa using h5) (W.retI (fail _ (by simp only [Opr.one]; rw [if_neg h1, if_neg h2, if_neg h3, if_neg h4, if_pos h5]) h5))
  rw [if_neg h5]
  have h5' : (o.mk1 (S.getD o.a.toNat default)).2 = 0 := Classical.not_not.1 h5
  have hd := mk1_dims h5'
  refine W.iteF rfl ?_
  dsimp only
  refine W.bindI (g_shape_Elems_ok _ _ _ ?_)
  have hel : ∀ b : Int × Int, b = (if Shp.ok ⟨(o.mk1 (S.getD o.a.toNat default)).1.h, (o.mk1 (S.getD o.a.toNat default)).1.w, (o.mk1 (S.getD o.a.toNat default)).1.c⟩ then ((o.mk1 (S.getD o.a.toNat default)).1.h * (o.mk1 (S.getD o.a.toNat default)).1.w * (o.mk1 (S.getD o.a.toNat default)).1.c, 0) else (0, 50)) →
      (b.2 != 0) = decide (¬ (o.mk1 (S.getD o.a.toNat default)).1.ok) := fun b hb => by
    subst hb
    generalize o.mk1 (S.getD o.a.toNat default) = t
    obtain ⟨⟨x, y, z⟩, e⟩ := t
    dsimp only
    split <;> simp_all
  generalize hq : (if Shp.ok ⟨(o.mk1 (S.getD o.a.toNat default)).1.h, (o.mk1 (S.getD o.a.toNat default)).1.w, (o.mk1 (S.getD o.a.toNat default)).1.c⟩ then ((o.mk1 (S.getD o.a.toNat default)).1.h * (o.mk1 (S.getD o.a.toNat default)).1.w * (o.mk1 (S.getD o.a.toNat default)).1.c, (0 : Int)) else (0, 50)) = q
  rw [hel q hq.symm]
  refine W.needI (fun e => by have : o.kind = 6 := by simpa [usesOf] using e.1
                              omega) ?_
  rw [ri_shp0, ri_shp1, ri_shp2]
  refine W.iteC ((o.kind = 6 ∧ S.getD o.b.toNat default ≠ S.getD o.a.toNat default) ∨ ¬ (o.mk1 (S.getD o.a.toNat default)).1.ok) ?_
    (fun h6 => W.retI (fail 50 (by simp only [Opr.one]; rw [if_neg h1, if_neg h2, if_neg h3, if_neg h4, if_neg h5, if_pos h6]) (by decide))) fun h6 => ?_
  · rw [Bool.eq_iff_iff, decide_eq_true_eq]
    generalize S.getD o.b.toNat default = x
    generalize o.mk1 (S.getD o.a.toNat default) = t
    generalize S.getD o.a.toNat default = y
    obtain ⟨x1, x2, x3⟩ := x
    obtain ⟨y1, y2, y3⟩ := y
    by_cases hk6 : o.kind = 6 <;> simp [usesOf, hk6]
    by_cases ht : t.1.ok <;> simp [ht]
    omega
  have hout : (o.mk1 (S.getD o.a.toNat default)).1.ok := by
    rw [not_or] at h6; exact Classical.not_not.1 h6.2
  have hdl : reduces o.kind → o.kind ≠ 1 → o.win.dims := fun hr hk => hd (by unfold reduces at hr; unfold slides; omega)
  have hlists : o.lists (S.getD o.a.toNat default) = ((if weighs o.kind then (o.mk1 (S.getD o.a.toNat default)).1.c else 0) * (if reduces o.kind then o.len (S.getD o.a.toNat default) else 0), (if weighs o.kind then (o.mk1 (S.getD o.a.toNat default)).1.c else 0)) := by
    unfold Opr.lists
    by_cases k12 : o.kind = 1 ∨ o.kind = 2
    · have hc : (o.mk1 (S.getD o.a.toNat default)).1.c = o.m := by
        unfold Opr.mk1
        rcases k12 with k | k
        · rw [if_pos k]
        · rw [if_neg (by omega), if_pos (by unfold slides; omega)]
          unfold Opr.mk1 at h5'
          rw [if_neg (by omega), if_pos (by unfold slides; omega)] at h5'
          split at h5'
          · rename_i q; exact absurd h5' q
          · rename_i q; rw [if_neg q, if_pos k]
      rw [if_pos k12, if_pos (by unfold weighs; omega), if_pos (by unfold reduces; omega), hc]
    · rw [if_neg k12]
      by_cases k3 : o.kind = 3
      · have hc : (o.mk1 (S.getD o.a.toNat default)).1.c = (S.getD o.a.toNat default).c := by
          unfold Opr.mk1
          rw [if_neg (by omega), if_pos (by unfold slides; omega)]
          unfold Opr.mk1 at h5'
          rw [if_neg (by omega), if_pos (by unfold slides; omega)] at h5'
          split at h5'
          · rename_i q; exact absurd h5' q
          · rename_i q; rw [if_neg q, if_neg (by omega)]
        rw [if_pos k3, if_pos (by unfold weighs; omega), if_pos (by unfold reduces; omega), hc]
      · rw [if_neg k3, if_neg (by unfold weighs; omega), Int.zero_mul]
  refine W.bindI (W.iteR ?_)
  have hrows : (bif (usesOf o.kind).weights then (o.mk1 (S.getD o.a.toNat default)).1.c else 0) = (if weighs o.kind then (o.mk1 (S.getD o.a.toNat default)).1.c else 0) := by
    unfold usesOf; dsimp only; by_cases hh : weighs o.kind <;> simp [hh]
  rw [hrows]
  refine W.iteC (reduces o.kind ∧ 512 < o.len (S.getD o.a.toNat default)) ?_
    (fun h7 => W.retI (fail 84 (by simp only [Opr.one]; rw [if_neg h1, if_neg h2, if_neg h3, if_neg h4, if_neg h5, if_neg h6, if_pos h7]) (by decide))) fun h7 => ?_
  · rw [decide_eq_decide]
    by_cases hr : reduces o.kind <;> simp [hr]
  have hlb : 0 ≤ (if reduces o.kind then o.len (S.getD o.a.toNat default) else 0) ∧ (if reduces o.kind then o.len (S.getD o.a.toNat default) else 0) ≤ 512 := by
    by_cases hr : reduces o.kind
    · rw [if_pos hr]
      have := len_bd o _ hsa (hdl hr)
      have h7' : ¬ 512 < o.len (S.getD o.a.toNat default) := fun q => h7 ⟨hr, q⟩
      omega
    · rw [if_neg hr]; omega
  have hrb : 0 ≤ (if weighs o.kind then (o.mk1 (S.getD o.a.toNat default)).1.c else 0) ∧ (if weighs o.kind then (o.mk1 (S.getD o.a.toNat default)).1.c else 0) ≤ 1024 := by
    unfold Shp.ok at hout
    split <;> omega
  have hm := mul_bd (A := 1024) (B := 512) hrb.1 hrb.2 hlb.1 hlb.2
  rw [wrap64_in (by omega) (by omega)]
  refine W.iteC ((o.ws.length : Int) ≠ (o.lists (S.getD o.a.toNat default)).1 ∨ (o.bs.length : Int) ≠ (o.lists (S.getD o.a.toNat default)).2) (by rw [hlists]; first | (simp; done) | (simp; rfl))
    (fun h8 => W.retI (fail 70 (by simp only [Opr.one]; rw [if_neg h1, if_neg h2, if_neg h3, if_neg h4, if_neg h5, if_neg h6, if_neg h7, if_pos h8]) (by decide))) fun h8 => ?_
  have key9 : ∀ {Q : Bool → Prop}, Q (decide (scales o.kind ∧ ¬ scaleOK o.sam o.sas ∨ o.kind = 6 ∧ ¬ scaleOK o.sbm o.sbs)) →
      (W.ite (usesOf o.kind).sa (W.bind (g_fixq_Valid o.sam o.sas) fun v6 => W.ite (!v6) (W.ret true) (W.ite (usesOf o.kind).sb (W.bind (g_fixq_Valid o.sbm o.sbs) fun v7 => W.ret !v7) (W.ret false)))
        (W.ite (usesOf o.kind).sb (W.bind (g_fixq_Valid o.sbm o.sbs) fun v8 => W.ret !v8) (W.ret false))).run Q := fun {Q} hq => by
    have tail : ∀ {Q : Bool → Prop}, Q (decide (o.kind = 6 ∧ ¬ scaleOK o.sbm o.sbs)) → (W.ite (usesOf o.kind).sb (W.bind (g_fixq_Valid o.sbm o.sbs) fun v11 => W.ret !v11) (W.ret false)).run Q := fun {Q} hq =>
      W.iteC (o.kind = 6) rfl (fun q => W.bindI (g_fixq_Valid_ok _ _ (W.retE hq (by simp [q])))) fun q => W.retE hq (by simp [q])
    refine W.iteC (scales o.kind) rfl (fun q1 => W.bindI (g_fixq_Valid_ok _ _ (W.iteC (¬ scaleOK o.sam o.sas) (by simp) (fun q2 => W.retE hq (by simp [q1, q2])) fun q2 => tail ?_))) fun q1 => tail ?_
    · simpa [q1, q2] using hq
    · simpa [q1] using hq
  refine W.bindI (key9 ?_)
  refine W.iteC _ rfl (fun h9 => W.retI (fail 20 (by simp only [Opr.one]; rw [if_neg h1, if_neg h2, if_neg h3, if_neg h4, if_neg h5, if_neg h6, if_neg h7, if_neg h8, if_pos h9]) (by decide))) fun h9 => ?_
  refine W.bindI (g_model_byte8_ok false [o.lo, o.hi, o.zero, o.pad] (by simp) ?_)
  refine W.iteC (¬ val o.lo ∨ ¬ val o.hi ∨ o.hi < o.lo ∨ ¬ val o.zero ∨ ¬ val o.pad) (by rw [Bool.eq_iff_iff, decide_eq_true_eq]; by_cases a : val o.lo <;> by_cases b : val o.hi <;> by_cases c : val o.zero <;> by_cases d : val o.pad <;> simp [a, b, c, d])
    (fun h10 => W.retI (fail 85 (by simp only [Opr.one]; rw [if_neg h1, if_neg h2, if_neg h3, if_neg h4, if_neg h5, if_neg h6, if_neg h7, if_neg h8, if_neg h9, if_pos h10]) (by decide))) fun h10 => ?_
  have hone : o.one S = ((o.mk1 (S.getD o.a.toNat default)).1, 0) := by
    simp only [Opr.one]; rw [if_neg h1, if_neg h2, if_neg h3, if_neg h4, if_neg h5, if_neg h6, if_neg h7, if_neg h8, if_neg h9, if_neg h10]
  rw [hone] at h
  dsimp only at h
  rw [if_neg (by simp : ¬ ((0 : Int) ≠ 0))] at h
  exact W.retI h
end Go.Proofs.Ytpoakneeceaooaa.VX

set_option linter.unusedVariables false
namespace Go.Proofs.Ytpoakneeceaooaa.VX
theorem g_model_op_row (l : Rws) (k : Nat) (S : List Shp) (nl : Bool) (hS : ∀ s ∈ S, s.ok) (hw : (Opr.of (l.getD k [])).ws.length ≤ 70368744175616) (hb : (Opr.of (l.getD k [])).bs.length ≤ 35184372087808) {R : Int × Int × Int × Int × Int → Prop}
    (h : R (if ((Opr.of (l.getD k [])).one S).2 ≠ 0 then (0, 0, 0, 0, ((Opr.of (l.getD k [])).one S).2) else (((Opr.of (l.getD k [])).one S).1.h, ((Opr.of (l.getD k [])).one S).1.w, ((Opr.of (l.getD k [])).one S).1.c, (Opr.of (l.getD k [])).labour (S.getD (Opr.of (l.getD k [])).a.toNat default) ((Opr.of (l.getD k [])).one S).1, 0))) :
    (g_model_op (ri l k 0) (ri l k 1) (ri l k 2) (ri l k 3) (ri l k 4) (ri l k 5) (ri l k 6) (ri l k 7) (ri l k 8) (ri l k 9) (ri l k 10) (ri l k 11) (rn l k 12) (rr l k 12) (rn l k 13) (rr l k 13) (ri l k 14) (ri l k 15) (ri l k 16) (ri l k 17) (ri l k 18) (ri l k 19) (ri l k 20) (ri l k 21) nl (S.map Shp.enc)).run R :=
  by have q := g_model_op_ok (R := R) (Opr.of (l.getD k [])) S nl hS hw hb h
     refine (congrArg (fun x : W _ => x.run R) ?_).mp q
     congr 1
theorem g_model_whole_ok (s : Shp) (lo hi : Int) (nl : Bool) (l : Rws) (out : Int) (hl : l.length ≤ 676622540150) (hsh : short l) {R : Int × Int × Int × Int × Bool × Rws → Prop} (h : R (look8 s lo hi (oprs l) out).tup) :
    (g_model_whole s.h s.w s.c lo hi nl l out).run R := by
  have hlen : (oprs l).length = l.length := by simp [oprs]
  unfold g_model_whole
  unfold look8 at h
  rw [hlen] at h
  refine W.bindI (g_shape_Elems_ok _ _ _ (W.iteC (¬ s.ok) (by split <;> simp_all) (fun h1 => ?_) fun h1 => ?_))
  · rw [if_neg h1]
    rw [if_pos h1] at h
    exact W.retE h rfl
  rw [if_neg h1] at h
  refine W.bindI (g_model_byte8_ok false [lo, hi] (by simp) (W.iteC (¬ val lo ∨ ¬ val hi ∨ hi < lo) ?_ (fun h2 => ?_) fun h2 => ?_))
  · rw [Bool.eq_iff_iff, decide_eq_true_eq]; by_cases a : val lo <;> by_cases b : val hi <;> simp [a, b]
  · rw [if_pos h2] at h; exact W.retE h rfl
  rw [if_neg h2] at h
  refine W.iteC (64 < l.length) (by rw [decide_eq_decide]; omega) (fun h3 => ?_) fun h3 => ?_
  · rw [if_pos h3] at h; exact W.retE h rfl
  rw [if_neg h3] at h
  refine W.iteC (out < 0 ∨ l.length < out) (by rw [Bool.decide_or]) (fun h4 => ?_) fun h4 => ?_
  · rw [if_pos h4] at h; exact W.retE h rfl
  rw [if_neg h4] at h
  refine W.bindI (W.loop_inv (fun v : Int × Int × Rws => ∃ (k : Nat) (S : List Shp), v.2.1 = k ∧ k ≤ l.length ∧ v.2.2 = S.map Shp.enc ∧ S.length = k + 1 ∧ (∀ s ∈ S, s.ok) ∧ 0 ≤ v.1 ∧ v.1 ≤ 131072 ∧ R (walk8 ((oprs l).drop k) k v.1 S).tup)
    (fun v => l.length - v.2.1.toNat) ?_ ⟨0, [s], rfl, Nat.zero_le _, rfl, rfl, by simpa using h1, by dsimp only; omega, by dsimp only; omega, h⟩)
  rintro ⟨w, i, rows⟩ ⟨k, S, rfl, hk, rfl, hSl, hS, hw0, hw1, hR⟩
  dsimp only at hw0 hw1 hR ⊢
  refine W.iteC (k < l.length) (by rw [decide_eq_decide]; omega) (fun hlt => W.needI (by omega) ?_) fun hge => ?_
  · rw [Int.toNat_natCast, wrap64_in (x := (k : Int) + 1) (by omega) (by omega)]
    have hmem : l.getD k [] ∈ l := by rw [List.getD_eq_getElem?_getD, List.getElem?_eq_getElem hlt]; exact List.getElem_mem hlt
    obtain ⟨s1, s2⟩ := hsh _ hmem
    rw [drop_opr l k hlt] at hR
    refine W.bindI (g_model_op_row l k S false hS s1 s2 ?_)
    unfold walk8 at hR
    by_cases h5 : ((Opr.of (l.getD k [])).one S).2 ≠ 0
    · rw [if_pos h5] at hR ⊢
      dsimp only
      rw [Int.add_zero, wrap64_in (by omega) (by omega)]
      refine W.bindI (W.iteF (by simp [h5, -List.getD_eq_getElem?_getD]) (W.retI (W.iteT (by simp [h5, -List.getD_eq_getElem?_getD]) (W.retI (W.retE hR ?_)))))
      simp only [Ans8.tup]
      simp [h5, -List.getD_eq_getElem?_getD]
    · rw [if_neg h5] at hR ⊢
      have h5' : ((Opr.of (l.getD k [])).one S).2 = 0 := Classical.not_not.1 h5
      obtain ⟨q1, q2, q3, q4⟩ := one_ok h5'
      have hsa := hS _ (getD_mem (S := S) (i := (Opr.of (l.getD k [])).a.toNat) (by omega))
      have bd := labour_bd (Opr.of (l.getD k [])) _ _ hsa q2 q3
      dsimp only
      rw [wrap64_in (by omega) (by omega)]
      refine W.bindI (W.iteC (131072 < w + (Opr.of (l.getD k [])).labour (S.getD (Opr.of (l.getD k [])).a.toNat default) ((Opr.of (l.getD k [])).one S).1) (by simp) (fun h6 => W.retI (W.iteT rfl (W.retI ?_))) fun h6 => W.retI (W.iteF rfl ?_))
      · rw [if_pos h6] at hR
        exact W.retE hR rfl
      · rw [if_neg h6] at hR
        rw [List.length_map]
        refine W.needI (by omega) (W.retI ⟨⟨k + 1, S ++ [((Opr.of (l.getD k [])).one S).1], rfl, hlt, by simp [Shp.enc], by simp [hSl], ?_, by dsimp only; omega, by dsimp only; omega, ?_⟩, ?_⟩)
        · intro x hx
          rcases List.mem_append.1 hx with hx | hx
          · exact hS x hx
          · simp at hx; subst hx; exact q2
        · simpa using hR
        · dsimp only; omega
  · have e : k = l.length := by omega
    subst e
    rw [List.drop_eq_nil_of_le (by omega)] at hR
    exact W.retI (W.retE hR (by simp [walk8, Ans8.tup]))
theorem g_model_Check_ok (s : Shp) (lo hi : Int) (nl : Bool) (l : Rws) (out : Int) (hl : l.length ≤ 676622540150) (hsh : short l) {R : Int × Int × Int → Prop} (h : R ((look8 s lo hi (oprs l) out).err, (look8 s lo hi (oprs l) out).op, 0)) : (g_model_Check s.h s.w s.c lo hi nl l out).run R := by
  unfold g_model_Check
  exact W.bindI (g_model_whole_ok s lo hi nl l out hl hsh (W.retI h))
theorem g_model_Check_v (a b c : Int) (lo hi : Int) (nl : Bool) (l : Rws) (out : Int) (hl : l.length ≤ 676622540150) (hsh : short l) {R : Int × Int × Int → Prop} (h : R ((look8 ⟨a, b, c⟩ lo hi (oprs l) out).err, (look8 ⟨a, b, c⟩ lo hi (oprs l) out).op, 0)) : (g_model_Check a b c lo hi nl l out).run R := g_model_Check_ok ⟨a, b, c⟩ lo hi nl l out hl hsh h
theorem g_ref08_Look_v (a b c : Int) (lo hi : Int) (nl : Bool) (l : Rws) (out : Int) (hl : l.length ≤ 676622540150) (hsh : short l) {R : Int × Int × Int × Int × Bool × Rws → Prop} (h : R (look8 ⟨a, b, c⟩ lo hi (oprs l) out).tup) : (g_ref08_Look a b c lo hi nl l out).run R := g_ref08_Look_ok ⟨a, b, c⟩ lo hi nl l out hl hsh h
/-! ### Comparing -/
end Go.Proofs.Ytpoakneeceaooaa.VX

set_option linter.unusedVariables false
namespace Go.Proofs.Ytpoakneeceaooaa.VX
def Opr.flags (o : Opr) (a b : Bool) : Opr := { o with wn := a, bn := b }
theorem one_flags (o : Opr) (a b : Bool) (S : List Shp) : (o.flags a b).one S = o.one S := rfl
theorem labour_flags (o : Opr) (a b : Bool) (s t : Shp) : (o.flags a b).labour s t = o.labour s t := rfl
/-- The same ops but for what is nil. -/
def sameOps : List Opr → List Opr → Prop
  | [], [] => True
  | o :: r, p :: q => (∃ a b, p = o.flags a b) ∧ sameOps r q
  | _, _ => False
theorem sameOps_len : ∀ {l m : List Opr}, sameOps l m → l.length = m.length
  | [], [], _ => rfl
  | _ :: _, _ :: _, h => by simp [sameOps_len h.2]
  | [], _ :: _, h => h.elim
  | _ :: _, [], h => h.elim
theorem sameOps_get : ∀ {l m : List Opr}, sameOps l m → ∀ {k : Nat} {o p : Opr}, l[k]? = some o → m[k]? = some p → ∃ a b, p = o.flags a b
  | _ :: _, _ :: _, h, 0, o, p, h1, h2 => by simp at h1 h2; subst h1 h2; exact h.1
  | _ :: _, _ :: _, h, k + 1, o, p, h1, h2 => sameOps_get h.2 (by simpa using h1) (by simpa using h2)
  | [], _, _, _, _, _, h1, _ => by simp at h1
  | _ :: _, [], h, _, _, _, _, _ => h.elim
theorem walk8_same : ∀ {l m : List Opr}, sameOps l m → ∀ i w S, walk8 m i w S = walk8 l i w S
  | [], [], _, i, w, S => rfl
  | o :: r, p :: q, h, i, w, S => by
    obtain ⟨⟨a, b, rfl⟩, h2⟩ := h
    simp only [walk8, one_flags, labour_flags]
    rw [walk8_same h2]; rfl
  | [], _ :: _, h, _, _, _ => h.elim
  | _ :: _, [], h, _, _, _ => h.elim
theorem look8_same {l m : List Opr} (h : sameOps l m) (s : Shp) (lo hi out : Int) : look8 s lo hi m out = look8 s lo hi l out := by
  unfold look8
  rw [sameOps_len h, walk8_same h]

/-- A row of a copy. -/
def cpRow (r : List AV) : List AV :=
  [I (cI r 0), I (cI r 1), I (cI r 2), I (cI r 3), I (cI r 4), I (cI r 5), I (cI r 6), I (cI r 7), I (cI r 8), I (cI r 9), I (cI r 10), I (cI r 11), .sl false 0 (cR r 12), .sl false 0 (cR r 13), I (cI r 14), I (cI r 15), I (cI r 16), I (cI r 17), I (cI r 18), I (cI r 19), I (cI r 20), I (cI r 21)]
theorem of_cpRow (r : List AV) : Opr.of (cpRow r) = (Opr.of r).flags false false := rfl
theorem sameOps_cp : ∀ l : Rws, sameOps (oprs l) (oprs (l.map cpRow))
  | [] => trivial
  | r :: l => ⟨⟨false, false, of_cpRow r⟩, sameOps_cp l⟩
theorem short_cp {l : Rws} (h : short l) : short (l.map cpRow) := by
  intro r hr
  obtain ⟨r', h1, rfl⟩ := List.mem_map.1 hr
  exact h r' h1
theorem g_ref08_Copy_ok (h w c lo hi : Int) (nl : Bool) (l : Rws) (out : Int) (hl : l.length ≤ 676622540150) (hsh : short l) {R : Int × Int × Int × Int × Int × Int × Bool × Rws → Prop} (hR : R (h, w, c, lo, hi, out, l.isEmpty, l.map cpRow)) : (g_ref08_Copy h w c lo hi nl l out).run R := by
  unfold g_ref08_Copy
  refine W.bindI (W.loop_inv (fun v : Int × Bool × Rws => ∃ k : Nat, v.1 = k ∧ k ≤ l.length ∧ v.2.1 = (l.take k).isEmpty ∧ v.2.2 = (l.take k).map cpRow) (fun v => l.length - v.1.toNat) ?_ ⟨0, rfl, Nat.zero_le _, by simp, by simp⟩)
  rintro ⟨i, b, rows⟩ ⟨k, rfl, hk, rfl, rfl⟩
  dsimp only
  refine W.iteC (k < l.length) (by rw [decide_eq_decide]; omega) (fun hlt => W.needI (by omega) ?_) fun hge => ?_
  · rw [Int.toNat_natCast]
    have hmem : l.getD k [] ∈ l := by rw [List.getD_eq_getElem?_getD, List.getElem?_eq_getElem hlt]; exact List.getElem_mem hlt
    obtain ⟨s1, s2⟩ := hsh _ hmem
    have s1 : (rr l k 12).length ≤ 70368744175616 := s1
    have s2 : (rr l k 13).length ≤ 35184372087808 := s2
    have s3 : ((l.take k).map cpRow).length ≤ 676622540150 := by simp; omega
    refine W.needI (by omega) (W.needI (by omega) (W.needI (by omega) (W.retI ⟨⟨k + 1, wrap64_in (x := (k : Int) + 1) (by omega) (by omega), hlt, ?_, ?_⟩, ?_⟩)))
    · dsimp only
      rw [List.take_succ_eq_append_getElem hlt]
      simp
      intro e; subst e; simp at hlt
    · dsimp only
      rw [List.take_succ_eq_append_getElem hlt, List.map_append]
      have e : l[k] = l.getD k [] := by rw [List.getD_eq_getElem?_getD, List.getElem?_eq_getElem hlt]; rfl
      rw [e]; rfl
    · dsimp only
      rw [wrap64_in (by omega) (by omega)]; omega
  · have e : k = l.length := by omega
    subst e
    rw [List.take_length]
    exact W.retI hR

theorem listsLoop (a b : Rws) (hab : a = b) (hl : a.length ≤ 140737488351232) {R : Unit ⊕ Unit → Prop} (h : R (.inr ())) :
    (W.loop (σ := Int) (ε := Unit ⊕ Unit) (fun v0 => W.ite (decide (v0 < (↑(List.length a) : Int))) (W.need (0 ≤ v0 ∧ v0 < (↑(List.length a) : Int)) <| W.need (0 ≤ v0 ∧ v0 < (↑(List.length b) : Int)) <|
      W.ite (ri a v0.toNat 0 != ri b v0.toNat 0) (W.ret (Sum.inr (Sum.inl ()))) (W.ret (Sum.inl (IntKind.i64.wrap (v0 + 1))))) (W.ret (Sum.inr (Sum.inr ())))) 0).run R := by
  subst hab
  refine W.loop_inv (fun v : Int => ∃ k : Nat, v = k ∧ k ≤ a.length) (fun v => a.length - v.toNat) ?_ ⟨0, rfl, Nat.zero_le _⟩
  rintro _ ⟨k, rfl, hk⟩
  refine W.iteC (k < a.length) (by rw [decide_eq_decide]; omega) (fun hlt => W.needI (by omega) (W.needI (by omega) (W.iteF (by simp) (W.retI ?_)))) fun hge => W.retI h
  rw [wrap64_in (by omega) (by omega)]
  exact ⟨⟨k + 1, by omega, hlt⟩, by omega⟩
theorem g_ref08_SameOp_ok (o : Opr) (wn bn : Bool) (hw : o.ws.length ≤ 70368744175616) (hb : o.bs.length ≤ 35184372087808) {R : Bool → Prop} (h : R true) :
    (g_ref08_SameOp o.kind o.a o.b o.m o.win.kh o.win.kw o.win.sh o.win.sw o.win.top o.win.left o.win.bottom o.win.right o.wn o.ws o.bn o.bs o.sam o.sas o.sbm o.sbs o.zero o.pad o.lo o.hi
      o.kind o.a o.b o.m o.win.kh o.win.kw o.win.sh o.win.sw o.win.top o.win.left o.win.bottom o.win.right wn o.ws bn o.bs o.sam o.sas o.sbm o.sbs o.zero o.pad o.lo o.hi).run R := by
  unfold g_ref08_SameOp
  refine W.iteF (by simp) (W.iteF (by simp) (W.bindI (listsLoop _ _ rfl (by omega) (W.bindI (listsLoop _ _ rfl (by omega) (W.retI h))))))
theorem g_ref08_SameOp_row (l m : Rws) (k : Nat) (a b : Bool) (e : Opr.of (m.getD k []) = (Opr.of (l.getD k [])).flags a b) (hw : (Opr.of (l.getD k [])).ws.length ≤ 70368744175616) (hb : (Opr.of (l.getD k [])).bs.length ≤ 35184372087808) {R : Bool → Prop} (h : R true) :
    (g_ref08_SameOp (ri l k 0) (ri l k 1) (ri l k 2) (ri l k 3) (ri l k 4) (ri l k 5) (ri l k 6) (ri l k 7) (ri l k 8) (ri l k 9) (ri l k 10) (ri l k 11) (rn l k 12) (rr l k 12) (rn l k 13) (rr l k 13) (ri l k 14) (ri l k 15) (ri l k 16) (ri l k 17) (ri l k 18) (ri l k 19) (ri l k 20) (ri l k 21)
      (ri m k 0) (ri m k 1) (ri m k 2) (ri m k 3) (ri m k 4) (ri m k 5) (ri m k 6) (ri m k 7) (ri m k 8) (ri m k 9) (ri m k 10) (ri m k 11) (rn m k 12) (rr m k 12) (rn m k 13) (rr m k 13) (ri m k 14) (ri m k 15) (ri m k 16) (ri m k 17) (ri m k 18) (ri m k 19) (ri m k 20) (ri m k 21)).run R := by
  have q := g_ref08_SameOp_ok (R := R) (Opr.of (l.getD k [])) (Opr.of (m.getD k [])).wn (Opr.of (m.getD k [])).bn hw hb h
  have q2 : (g_ref08_SameOp (Opr.of (l.getD k [])).kind (Opr.of (l.getD k [])).a (Opr.of (l.getD k [])).b (Opr.of (l.getD k [])).m (Opr.of (l.getD k [])).win.kh (Opr.of (l.getD k [])).win.kw (Opr.of (l.getD k [])).win.sh (Opr.of (l.getD k [])).win.sw (Opr.of (l.getD k [])).win.top (Opr.of (l.getD k [])).win.left (Opr.of (l.getD k [])).win.bottom (Opr.of (l.getD k [])).win.right (Opr.of (l.getD k [])).wn (Opr.of (l.getD k [])).ws (Opr.of (l.getD k [])).bn (Opr.of (l.getD k [])).bs (Opr.of (l.getD k [])).sam (Opr.of (l.getD k [])).sas (Opr.of (l.getD k [])).sbm (Opr.of (l.getD k [])).sbs (Opr.of (l.getD k [])).zero (Opr.of (l.getD k [])).pad (Opr.of (l.getD k [])).lo (Opr.of (l.getD k [])).hi
      (Opr.of (m.getD k [])).kind (Opr.of (m.getD k [])).a (Opr.of (m.getD k [])).b (Opr.of (m.getD k [])).m (Opr.of (m.getD k [])).win.kh (Opr.of (m.getD k [])).win.kw (Opr.of (m.getD k [])).win.sh (Opr.of (m.getD k [])).win.sw (Opr.of (m.getD k [])).win.top (Opr.of (m.getD k [])).win.left (Opr.of (m.getD k [])).win.bottom (Opr.of (m.getD k [])).win.right (Opr.of (m.getD k [])).wn (Opr.of (m.getD k [])).ws (Opr.of (m.getD k [])).bn (Opr.of (m.getD k [])).bs (Opr.of (m.getD k [])).sam (Opr.of (m.getD k [])).sas (Opr.of (m.getD k [])).sbm (Opr.of (m.getD k [])).sbs (Opr.of (m.getD k [])).zero (Opr.of (m.getD k [])).pad (Opr.of (m.getD k [])).lo (Opr.of (m.getD k [])).hi).run R := by
    rw [e] at q ⊢; exact q
  refine (congrArg (fun x : W _ => x.run R) ?_).mp q2
  congr 1
theorem g_ref08_Same_ok (h w c lo hi out : Int) (n1 n2 : Bool) (l m : Rws) (hl : l.length ≤ 676622540150) (hsh : short l) (hm : sameOps (oprs l) (oprs m)) {R : Bool → Prop} (hR : R true) : (g_ref08_Same h w c lo hi n1 l out h w c lo hi n2 m out).run R := by
  have hlen : l.length = m.length := by have := sameOps_len hm; simpa [oprs] using this
  unfold g_ref08_Same
  refine W.iteF (by simp [hlen]) (W.bindI (W.loop_inv (fun v : Int => ∃ k : Nat, v = k ∧ k ≤ l.length) (fun v => l.length - v.toNat) ?_ ⟨0, rfl, Nat.zero_le _⟩))
  rintro _ ⟨k, rfl, hk⟩
  refine W.iteC (k < l.length) (by rw [decide_eq_decide]; omega) (fun hlt => W.needI (by omega) (W.needI (by omega) ?_)) fun hge => W.retI (W.retI hR)
  rw [Int.toNat_natCast, wrap64_in (by omega) (by omega)]
  have hmem : l.getD k [] ∈ l := by rw [List.getD_eq_getElem?_getD, List.getElem?_eq_getElem hlt]; exact List.getElem_mem hlt
  obtain ⟨s1, s2⟩ := hsh _ hmem
  obtain ⟨a, b, e⟩ := sameOps_get hm (row_opr l k hlt) (row_opr m k (by omega))
  exact W.bindI (g_ref08_SameOp_row l m k a b e s1 s2 (W.iteF rfl (W.retI ⟨⟨k + 1, by omega, hlt⟩, by omega⟩)))

deriving instance DecidableEq for Ans8
def plainRow (a : Int) : List AV := [I 1, I a, I 0, I 1, I 0, I 0, I 0, I 0, I 0, I 0, I 0, I 0, AV.sl false 0 [[I 3], [I (-2)]], AV.sl false 0 [[I 1]], I 1, I 0, I 0, I 0, I 0, I 0, I (-128), I 127]
theorem plain_look : look8 ⟨1, 1, 2⟩ (-128) 127 (oprs [plainRow 0]) 1 = ⟨2, 0, 0, [⟨1, 1, 2⟩, ⟨1, 1, 1⟩]⟩ := by decide +kernel
theorem plain_look1 : look8 ⟨1, 1, 2⟩ (-128) 127 (oprs [plainRow 1]) 1 = ⟨0, 82, 1, []⟩ := by decide +kernel
theorem short_plain (a : Int) : short [plainRow a] := by
  intro r hr
  simp at hr
  subst hr
  exact ⟨Nat.le_of_ble_eq_true rfl, Nat.le_of_ble_eq_true rfl⟩
theorem plain_set : List.set [plainRow 0] 0 [I (ri [plainRow 0] 0 0), I 1, I (ri [plainRow 0] 0 2), I (ri [plainRow 0] 0 3), I (ri [plainRow 0] 0 4), I (ri [plainRow 0] 0 5), I (ri [plainRow 0] 0 6), I (ri [plainRow 0] 0 7), I (ri [plainRow 0] 0 8), I (ri [plainRow 0] 0 9), I (ri [plainRow 0] 0 10), I (ri [plainRow 0] 0 11), .sl (rn [plainRow 0] 0 12) 0 (rr [plainRow 0] 0 12), .sl (rn [plainRow 0] 0 13) 0 (rr [plainRow 0] 0 13), I (ri [plainRow 0] 0 14), I (ri [plainRow 0] 0 15), I (ri [plainRow 0] 0 16), I (ri [plainRow 0] 0 17), I (ri [plainRow 0] 0 18), I (ri [plainRow 0] 0 19), I (ri [plainRow 0] 0 20), I (ri [plainRow 0] 0 21)] = [plainRow 1] := rfl
theorem walk8_len : ∀ (l : List Opr) (i w : Int) (S : List Shp), (walk8 l i w S).S.length ≤ S.length + l.length
  | [], i, w, S => by simp [walk8]
  | o :: r, i, w, S => by
    unfold walk8
    split
    · simp
    · split
      · simp
      · have := walk8_len r (i + 1) (w + o.labour (S.getD o.a.toNat default) (o.one S).1) (S ++ [(o.one S).1])
        simp at this ⊢; omega
theorem look8_len (s : Shp) (lo hi : Int) (l : List Opr) (out : Int) : (look8 s lo hi l out).S.length ≤ 65 := by
  unfold look8
  repeat' split
  all_goals try (simp; done)
  have := walk8_len l 0 0 [s]
  simp at this
  omega
end Go.Proofs.Ytpoakneeceaooaa.VX

namespace Go.Proofs.Ytpoakneeceaooaa.VX
set_option linter.unusedVariables false
theorem walk8_facts : ∀ (l : List Opr) (i w : Int) (S : List Shp), ((walk8 l i w S).err = 0 → (walk8 l i w S).op = 0 ∧ (walk8 l i w S).S.length = S.length + l.length) ∧
    ((walk8 l i w S).err ≠ 0 → (walk8 l i w S).S = [] ∧ (walk8 l i w S).work = 0 ∧ i < (walk8 l i w S).op ∧ (walk8 l i w S).op ≤ i + l.length)
  | [], i, w, S => by simp [walk8]
  | o :: r, i, w, S => by
    unfold walk8
    split
    · rename_i h
      exact ⟨fun e => absurd e h, fun _ => ⟨rfl, rfl, by simp; omega, by simp; omega⟩⟩
    · split
      · exact ⟨fun e => by simp at e, fun _ => ⟨rfl, rfl, by simp; omega, by simp; omega⟩⟩
      · have := walk8_facts r (i + 1) (w + o.labour (S.getD o.a.toNat default) (o.one S).1) (S ++ [(o.one S).1])
        refine ⟨fun e => ?_, fun e => ?_⟩
        · have q := this.1 e
          refine ⟨q.1, ?_⟩
          rw [q.2]; simp; omega
        · have q := this.2 e
          refine ⟨q.1, q.2.1, by omega, ?_⟩
          have := q.2.2.2
          simp at this ⊢; omega
theorem step_ok {o : Opr} {S : List Shp} (hS : ∀ s ∈ S, s.ok) (h : ¬ (o.one S).2 ≠ 0) : 0 ≤ o.labour (S.getD o.a.toNat default) (o.one S).1 ∧ ∀ s ∈ S ++ [(o.one S).1], s.ok := by
  obtain ⟨h1, h2, h3, _⟩ := one_ok (Classical.not_not.1 h)
  refine ⟨(labour_bd o _ _ (hS _ (getD_mem (by omega))) h2 h3).1, fun s hs => ?_⟩
  rcases List.mem_append.1 hs with hs | hs
  · exact hS s hs
  · simp at hs; subst hs; exact h2
theorem walk8_mono : ∀ (l : List Opr) (i w : Int) (S : List Shp), (∀ s ∈ S, s.ok) → (walk8 l i w S).err = 0 → w ≤ (walk8 l i w S).work ∧ (walk8 l i w S).S.take S.length = S
  | [], i, w, S, _, _ => by simp [walk8]
  | o :: r, i, w, S, hS, he => by
    unfold walk8 at he ⊢
    split at he
    · rename_i h; exact absurd he h
    · rename_i h
      rw [if_neg h]
      split at he
      · simp at he
      · rename_i h2
        rw [if_neg h2]
        obtain ⟨q1, q2⟩ := step_ok hS h
        have := walk8_mono r _ _ _ q2 he
        refine ⟨by omega, ?_⟩
        have t := congrArg (List.take S.length) this.2
        rw [List.take_take, List.length_append] at t
        simpa using t
theorem walk8_take : ∀ (l : List Opr) (k : Nat) (i w : Int) (S : List Shp), (∀ s ∈ S, s.ok) → k ≤ l.length → ((walk8 l i w S).err = 0 ∨ i + k < (walk8 l i w S).op) →
    (walk8 (l.take k) i w S).err = 0 ∧ w ≤ (walk8 (l.take k) i w S).work ∧ ((walk8 l i w S).err = 0 → (walk8 (l.take k) i w S).work ≤ (walk8 l i w S).work ∧ (walk8 (l.take k) i w S).S = (walk8 l i w S).S.take (S.length + k))
  | l, 0, i, w, S, hS, _, h => by
    rw [List.take_zero]
    refine ⟨rfl, Int.le_refl _, fun e => ?_⟩
    have := walk8_mono l i w S hS e
    exact ⟨this.1, this.2.symm⟩
  | [], k + 1, i, w, S, _, hk, _ => by simp at hk
  | o :: r, k + 1, i, w, S, hS, hk, h => by
    rw [List.take_succ_cons]
    unfold walk8 at h ⊢
    by_cases h1 : (o.one S).2 ≠ 0
    · rw [if_pos h1] at h
      rcases h with h | h
      · exact absurd h h1
      · simp at h; omega
    · rw [if_neg h1] at h
      rw [if_neg h1, if_neg h1]
      by_cases h2 : 131072 < w + o.labour (S.getD o.a.toNat default) (o.one S).1
      · rw [if_pos h2] at h
        rcases h with h | h
        · simp at h
        · simp at h; omega
      · rw [if_neg h2] at h
        rw [if_neg h2, if_neg h2]
        obtain ⟨q1, q2⟩ := step_ok hS h1
        have := walk8_take r k (i + 1) _ _ q2 (by simpa using hk) (by
          rcases h with h | h
          · exact .inl h
          · exact .inr (by omega))
        refine ⟨this.1, by omega, fun e => ?_⟩
        have q := this.2.2 e
        refine ⟨q.1, ?_⟩
        rw [q.2]
        congr 1
        simp; omega
theorem look8_facts (s : Shp) (lo hi : Int) (l : List Opr) (out : Int) : ((look8 s lo hi l out).err = 0 → (look8 s lo hi l out).op = 0 ∧ (look8 s lo hi l out).S.length = l.length + 1) ∧
    ((look8 s lo hi l out).err ≠ 0 → (look8 s lo hi l out).S = [] ∧ (look8 s lo hi l out).work = 0 ∧ 0 ≤ (look8 s lo hi l out).op ∧ (look8 s lo hi l out).op ≤ l.length) := by
  unfold look8
  repeat' split
  all_goals try (exact ⟨fun e => by simp at e, fun _ => ⟨rfl, rfl, by simp, by simp⟩⟩)
  have := walk8_facts l 0 0 [s]
  refine ⟨fun e => ?_, fun e => ?_⟩
  · have q := this.1 e
    exact ⟨q.1, by rw [q.2]; simp; omega⟩
  · have q := this.2 e
    exact ⟨q.1, q.2.1, by omega, by have := q.2.2.2; omega⟩
theorem look8_take (s : Shp) (lo hi : Int) (l : List Opr) (out : Int) (k : Nat) (hk : k ≤ l.length) (h : (look8 s lo hi l out).err = 0 ∨ (k : Int) < (look8 s lo hi l out).op) :
    (look8 s lo hi (l.take k) k).err = 0 ∧ (look8 s lo hi (l.take k) k).op = 0 ∧ 0 ≤ (look8 s lo hi (l.take k) k).work ∧
    ((look8 s lo hi l out).err = 0 → (look8 s lo hi (l.take k) k).work ≤ (look8 s lo hi l out).work ∧ (look8 s lo hi (l.take k) k).S = (look8 s lo hi l out).S.take (k + 1)) := by
  have hf := look8_facts s lo hi (l.take k) k
  suffices q : (look8 s lo hi (l.take k) k).err = 0 ∧ 0 ≤ (look8 s lo hi (l.take k) k).work ∧
    ((look8 s lo hi l out).err = 0 → (look8 s lo hi (l.take k) k).work ≤ (look8 s lo hi l out).work ∧ (look8 s lo hi (l.take k) k).S = (look8 s lo hi l out).S.take (k + 1)) from ⟨q.1, (hf.1 q.1).1, q.2⟩
  clear hf
  by_cases h1 : ¬ s.ok
  · unfold look8 at h; rw [if_pos h1] at h; rcases h with h | h <;> simp at h; omega
  by_cases h2 : ¬ val lo ∨ ¬ val hi ∨ hi < lo
  · unfold look8 at h; rw [if_neg h1, if_pos h2] at h; rcases h with h | h <;> simp at h; omega
  by_cases h3 : 64 < l.length
  · unfold look8 at h; rw [if_neg h1, if_neg h2, if_pos h3] at h; rcases h with h | h <;> simp at h; omega
  by_cases h4 : out < 0 ∨ l.length < out
  · unfold look8 at h; rw [if_neg h1, if_neg h2, if_neg h3, if_pos h4] at h; rcases h with h | h <;> simp at h; omega
  have e1 : look8 s lo hi l out = walk8 l 0 0 [s] := by unfold look8; rw [if_neg h1, if_neg h2, if_neg h3, if_neg h4]
  have e2 : look8 s lo hi (l.take k) k = walk8 (l.take k) 0 0 [s] := by
    have hl : (l.take k).length = k := by simp; omega
    unfold look8; rw [if_neg h1, if_neg h2, if_neg (by omega), if_neg (by omega)]
  rw [e1] at h ⊢
  rw [e2]
  have q := walk8_take l k 0 0 [s] (by intro t ht; simp at ht; subst ht; exact Classical.not_not.1 h1) hk (by simpa using h)
  refine ⟨q.1, q.2.1, fun e => ?_⟩
  have := q.2.2 e
  exact ⟨this.1, by rw [this.2]; congr 1; simp; omega⟩
theorem wrapU64_eq (x : Int) : IntKind.u64.wrap x = x % 18446744073709551616 := by
  simp [IntKind.wrap, IntKind.signed, IntKind.bits]
theorem wrapU64_in {x : Int} (h : 0 ≤ x) (h' : x < 18446744073709551616) : IntKind.u64.wrap x = x := by rw [wrapU64_eq]; omega
theorem wrapU64_rng (x : Int) : 0 ≤ IntKind.u64.wrap x ∧ IntKind.u64.wrap x < 18446744073709551616 := by rw [wrapU64_eq]; omega
theorem short_take {l : Rws} (h : short l) (k : Nat) : short (l.take k) := fun r hr => h r (List.mem_of_mem_take hr)
theorem oprs_take (l : Rws) (k : Nat) : oprs (l.take k) = (oprs l).take k := by unfold oprs; rw [List.map_take]
end Go.Proofs.Ytpoakneeceaooaa.VX

set_option linter.unusedVariables false
set_option linter.unusedSimpArgs false
namespace Go.Proofs.Ytpoakneeceaooaa.VX
theorem W.iteB {α : Type} {b : Bool} {x y : W α} {R : α → Prop} (h : b = true → x.run R) (h' : b = false → y.run R) : (W.ite b x y).run R := XSplit.mk h h'
theorem wrapu64_in {x : Int} (h : 0 ≤ x) (h' : x ≤ 18446744073709551615) : IntKind.u64.wrap x = x := by
  rw [IntKind.wrap_u64]; omega
/-- The bytes of a number: seven bits each, the low ones first. -/
def uB (n : Nat) : List Nat := if n < 128 then [n] else (n % 128 + 128) :: uB (n / 128)
termination_by n
decreasing_by omega
def rowsB (l : List Nat) : Rws := l.map fun (b : Nat) => [I (b : Int)]
theorem rowsB_app (l m : List Nat) : rowsB (l ++ m) = rowsB l ++ rowsB m := by simp [rowsB]
theorem rowsB_len (l : List Nat) : (rowsB l).length = l.length := by simp [rowsB]
theorem uB_small {n : Nat} (h : n < 128) : uB n = [n] := by rw [uB, if_pos h]
theorem uB_big {n : Nat} (h : 128 ≤ n) : uB n = (n % 128 + 128) :: uB (n / 128) := by rw [uB, if_neg (by omega)]
theorem uB_len : ∀ (k n : Nat), n < 128 ^ (k + 1) → (uB n).length ≤ k + 1
  | 0, n, h => by rw [uB_small (by omega)]; simp
  | k + 1, n, h => by
    by_cases hn : n < 128
    · rw [uB_small hn]; simp
    · rw [uB_big (by omega)]
      have := uB_len k (n / 128) (by rw [Nat.div_lt_iff_lt_mul (by omega), ← Nat.pow_succ]; exact h)
      simp; omega
theorem uB_len10 {n : Nat} (h : n < 18446744073709551616) : (uB n).length ≤ 10 := uB_len 9 n (by omega)
theorem uB_pos (n : Nat) : 0 < (uB n).length := by
  by_cases h : n < 128
  · rw [uB_small h]; simp
  · rw [uB_big (by omega)]; simp

theorem g_ref04_U_ok {n : Nat} (hn : n < 18446744073709551616) {R : Bool × Rws → Prop} (h : R (false, rowsB (uB n))) : (g_ref04_U (n : Int)).run R := by
  unfold g_ref04_U
  refine W.bindI (W.loop_inv (fun s => ∃ (v : Nat) (acc : List Nat), v < 18446744073709551616 ∧ s.1 = (v : Int) ∧ s.2.2 = rowsB acc ∧ acc ++ uB v = uB n) (fun s => s.1.toNat) ?_ ⟨n, [], hn, rfl, rfl, rfl⟩)
  rintro ⟨s1, s2, s3⟩ ⟨v, acc, hv, rfl, rfl, hacc⟩
  have hl := congrArg List.length hacc
  have h10 := uB_len10 hn
  have hp := uB_pos v
  simp only [List.length_append] at hl
  refine W.iteB (fun e => ?_) (fun e => ?_)
  · have e : 128 ≤ v := by have := of_decide_eq_true e; omega
    refine W.needI (by simp only [rowsB_len]; omega) (W.retI ?_)
    have e0 : (v : Int).tdiv 128 = ((v / 128 : Nat) : Int) := rfl
    have e2 : (v : Int).tmod 128 = ((v % 128 : Nat) : Int) := rfl
    refine ⟨⟨v / 128, acc ++ [v % 128 + 128], by omega, ?_, ?_, ?_⟩, ?_⟩
    · show IntKind.u64.wrap ((v : Int).tdiv 128) = _
      rw [e0, wrapu64_in (by omega) (by omega)]
    · show rowsB acc ++ [[I (IntKind.u8.wrap (IntKind.u64.wrap ((v : Int).tmod 128 + 128)))]] = _
      have e1 : IntKind.u8.wrap (IntKind.u64.wrap ((v : Int).tmod 128 + 128)) = ((v % 128 + 128 : Nat) : Int) := by
        rw [e2, wrapu64_in (by omega) (by omega), IntKind.wrap_u8]; omega
      rw [e1, rowsB_app]; rfl
    · rw [List.append_assoc, ← hacc, uB_big e]; rfl
    · show (IntKind.u64.wrap ((v : Int).tdiv 128)).toNat < (v : Int).toNat
      rw [e0, wrapu64_in (by omega) (by omega)]; omega
  · have e : v < 128 := by have := of_decide_eq_false e; omega
    refine W.retI ?_
    refine W.needI (by simp only [rowsB_len]; omega) (W.retI ?_)
    have e1 : IntKind.u8.wrap (v : Int) = (v : Int) := by rw [IntKind.wrap_u8]; omega
    simp only [Bool.and_false, e1]
    rw [← hacc, uB_small e, rowsB_app] at h
    exact h
end Go.Proofs.Ytpoakneeceaooaa.VX
namespace Go.Proofs.Ytpoakneeceaooaa.VX
theorem orU8 (b : BitVec 8) : b ||| 128#8 = BitVec.ofNat 8 (b.toNat % 128 + 128) := by
  revert b; decide
theorem or128 (v : Nat) : ibits BinOp.or IntKind.u8 (IntKind.u8.wrap (v : Int)) 128 = ((v % 128 + 128 : Nat) : Int) := by
  have h1 : IntKind.u8.wrap (v : Int) = ((v % 256 : Nat) : Int) := by rw [IntKind.wrap_u8]; omega
  rw [h1]
  show IntKind.u8.wrap (((BitVec.ofInt 8 ((v % 256 : Nat) : Int) ||| BitVec.ofInt 8 128 : BitVec 8).toNat : Nat) : Int) = _
  have h2 : (BitVec.ofInt 8 ((v % 256 : Nat) : Int)) = BitVec.ofNat 8 v := by
    rw [BitVec.ofInt_natCast]
    apply BitVec.eq_of_toNat_eq
    simp
  have h3 : (BitVec.ofInt 8 128) = 128#8 := rfl
  rw [h2, h3, orU8 (BitVec.ofNat 8 v), IntKind.wrap_u8]
  simp
  omega

theorem g_slices_Grow_ok {n : Nat} (hn : n ≤ 140737488355328) {R : Bool × Rws → Prop} (h : ∀ b, R (b, [])) : (g_slices_Grow___byte_byte__z (n : Int)).run R := by
  unfold g_slices_Grow___byte_byte__z
  have e : IntKind.i64.wrap ((n : Int) - 0) = n := by rw [wrap64_in] <;> omega
  refine W.iteF (by simp) ?_
  rw [e]
  refine W.iteB (fun h1 => ?_) (fun _ => W.retI (h _))
  have h1 := of_decide_eq_true h1
  exact W.needI (by omega) (W.needI (by simp) (W.retI (by simpa using h false)))
theorem g_slices_Concat_ok (b b1 b2 : Bool) (l m : Rws) (hl : l.length + m.length ≤ 140737488355328) {R : Bool × Rws → Prop} (h : ∀ b, R (b, l ++ m)) : (g_slices_Concat___byte_byte_ b [[AV.sl b1 0 l], [AV.sl b2 0 m]]).run R := by
  unfold g_slices_Concat___byte_byte_
  have r0 : rr [[AV.sl b1 0 l], [AV.sl b2 0 m]] 0 0 = l := rfl
  have r1 : rr [[AV.sl b1 0 l], [AV.sl b2 0 m]] 1 0 = m := rfl
  have t1 : (IntKind.i64.wrap ((0 : Int) + 1)).toNat = 1 := by decide
  have t2 : IntKind.i64.wrap ((0 : Int) + 1) = 1 := by decide
  have t3 : IntKind.i64.wrap ((1 : Int) + 1) = 2 := by decide
  have a0 : IntKind.i64.wrap (0 + (l.length : Int)) = (l.length : Int) := by rw [wrap64_in] <;> omega
  have a1 : IntKind.i64.wrap ((l.length : Int) + (m.length : Int)) = ((l.length + m.length : Nat) : Int) := by rw [wrap64_in] <;> omega
  refine W.bindI ?_
  refine W.loop_unroll (W.iteT rfl (W.needI (by simp) ?_))
  simp only [show (0 : Int).toNat = 0 from rfl, r0, a0, t2]
  refine W.iteF (by simp) (W.retI ?_)
  refine W.loop_unroll (W.iteT rfl (W.needI (by simp) ?_))
  simp only [show (1 : Int).toNat = 1 from rfl, r1, a1, t3]
  refine W.iteF (by simp; omega) (W.retI ?_)
  refine W.loop_unroll (W.iteF rfl (W.retI ?_))
  refine W.bindI (g_slices_Grow_ok hl fun b0 => ?_)
  refine W.bindI ?_
  refine W.loop_unroll (W.iteT rfl (W.needI (by simp) ?_))
  simp only [show (0 : Int).toNat = 0 from rfl, r0, t2]
  refine W.needI (by simp; omega) (W.retI ?_)
  refine W.loop_unroll (W.iteT rfl (W.needI (by simp) ?_))
  simp only [show (1 : Int).toNat = 1 from rfl, r1, t3]
  refine W.needI (by simp; omega) (W.retI ?_)
  refine W.loop_unroll (W.iteF rfl (W.retI ?_))
  exact W.retI (by simpa using h _)
theorem g_wire_PutU_ok (b : Bool) (l : Rws) {n : Nat} (hn : n < 18446744073709551616) (hl : l.length + 10 ≤ 140737488355328) {R : Bool × Rws → Prop} (h : R (false, l ++ rowsB (uB n))) : (g_wire_PutU b l (n : Int)).run R := by
  unfold g_wire_PutU
  refine W.bindI (g_slices_Concat_ok _ _ _ l [] (by simp; omega) fun b0 => ?_)
  simp only [List.append_nil]
  refine W.bindI (W.loop_inv (fun s => ∃ (v : Nat) (acc : List Nat), v < 18446744073709551616 ∧ s.1 = (v : Int) ∧ s.2.2 = l ++ rowsB acc ∧ acc ++ uB v = uB n) (fun s => s.1.toNat) ?_ ⟨n, [], hn, rfl, by simp [rowsB], rfl⟩)
  rintro ⟨s1, s2, s3⟩ ⟨v, acc, hv, rfl, rfl, hacc⟩
  have hln := congrArg List.length hacc
  have h10 := uB_len10 hn
  have hp := uB_pos v
  simp only [List.length_append] at hln
  have e0 : (v : Int).fdiv 128 = ((v / 128 : Nat) : Int) := by rw [Int.fdiv_eq_ediv_of_nonneg _ (by omega)]; rfl
  refine W.iteB (fun e => ?_) (fun e => ?_)
  · have e : 128 ≤ v := by have := of_decide_eq_true e; omega
    refine W.needI (by simp only [List.length_append, rowsB_len]; omega) (W.retI ?_)
    refine ⟨⟨v / 128, acc ++ [v % 128 + 128], by omega, e0, ?_, ?_⟩, ?_⟩
    · show l ++ rowsB acc ++ [[I (ibits BinOp.or IntKind.u8 (IntKind.u8.wrap (v : Int)) 128)]] = _
      rw [or128, rowsB_app, List.append_assoc]; rfl
    · rw [List.append_assoc, ← hacc, uB_big e]; rfl
    · show ((v : Int).fdiv 128).toNat < (v : Int).toNat
      rw [e0]; omega
  · have e : v < 128 := by have := of_decide_eq_false e; omega
    refine W.retI ?_
    refine W.needI (by simp only [List.length_append, rowsB_len]; omega) (W.retI ?_)
    have e1 : IntKind.u8.wrap (v : Int) = (v : Int) := by rw [IntKind.wrap_u8]; omega
    simp only [Bool.and_false, e1]
    rw [← hacc, uB_small e, rowsB_app] at h
    rw [List.append_assoc]
    exact h
/-- Whole numbers of either sign, folded. -/
def zz (x : Int) : Nat := if 0 ≤ x then (2 * x).toNat else (-2 * x - 1).toNat
theorem zz_lt {x : Int} (h : -9223372036854775808 ≤ x) (h' : x ≤ 9223372036854775807) : zz x < 18446744073709551616 := by unfold zz; split <;> omega
theorem g_ref04_Fold_ok {x : Int} (h1 : -9223372036854775808 ≤ x) (h2 : x ≤ 9223372036854775807) {R : Int → Prop} (h : R (zz x : Int)) : (g_ref04_Fold x).run R := by
  unfold g_ref04_Fold
  unfold zz at h
  by_cases hx : 0 ≤ x
  · rw [if_pos hx] at h
    refine W.iteT (by simpa using hx) (W.retI ?_)
    rw [wrapu64_in (x := x) (by omega) (by omega), wrapu64_in (by omega) (by omega)]
    rwa [show (((2 * x).toNat : Nat) : Int) = 2 * x by omega] at h
  · rw [if_neg hx] at h
    refine W.iteF (by simpa using hx) (W.retI ?_)
    rw [wrap64_in (x := x + 1) (by omega) (by omega), wrap64_in (x := 0 - (x + 1)) (by omega) (by omega), wrapu64_in (x := 0 - (x + 1)) (by omega) (by omega), wrapu64_in (x := 2 * (0 - (x + 1))) (by omega) (by omega), wrapu64_in (by omega) (by omega)]
    rwa [show (((-2 * x - 1).toNat : Nat) : Int) = 2 * (0 - (x + 1)) + 1 by omega] at h
theorem g_ref04_S_ok {x : Int} (h1 : -9223372036854775808 ≤ x) (h2 : x ≤ 9223372036854775807) {R : Bool × Rws → Prop} (h : R (false, rowsB (uB (zz x)))) : (g_ref04_S x).run R := by
  unfold g_ref04_S
  exact W.bindI (g_ref04_Fold_ok h1 h2 (W.bindI (g_ref04_U_ok (zz_lt h1 h2) (W.retI h))))
theorem xor_zz {x : Int} (h1 : -9223372036854775808 ≤ x) (h2 : x ≤ 9223372036854775807) :
    ibits BinOp.xor IntKind.u64 (IntKind.u64.wrap (IntKind.u64.wrap x * 2)) (IntKind.u64.wrap (x.fdiv 9223372036854775808)) = (zz x : Int) := by
  have hib : ∀ a b : Int, ibits BinOp.xor IntKind.u64 a b = IntKind.u64.wrap (((BitVec.ofInt 64 a ^^^ BitVec.ofInt 64 b : BitVec 64).toNat : Nat) : Int) := fun _ _ => rfl
  rw [hib]
  have hd : x.fdiv 9223372036854775808 = if 0 ≤ x then 0 else -1 := by
    rw [Int.fdiv_eq_ediv_of_nonneg _ (by omega)]
    split <;> omega
  rw [hd]
  unfold zz
  by_cases hx : 0 ≤ x
  · rw [if_pos hx, if_pos hx, wrapu64_in (x := x) (by omega) (by omega), wrapu64_in (x := x * 2) (by omega) (by omega)]
    have e : (BitVec.ofInt 64 (IntKind.u64.wrap 0)) = 0#64 := by decide
    rw [e, BitVec.xor_zero]
    have e2 : (BitVec.ofInt 64 (x * 2)).toNat = (2 * x).toNat := by
      rw [BitVec.toNat_ofInt]; omega
    rw [e2, wrapu64_in (by omega) (by omega)]
  · rw [if_neg hx, if_neg hx]
    have e : (BitVec.ofInt 64 (IntKind.u64.wrap (-1))) = BitVec.allOnes 64 := by decide
    rw [e]
    have e1 : IntKind.u64.wrap (IntKind.u64.wrap x * 2) = 2 * x + 18446744073709551616 := by
      simp only [IntKind.wrap_u64]; omega
    rw [e1]
    have e2 : (BitVec.ofInt 64 (2 * x + 18446744073709551616) ^^^ BitVec.allOnes 64) = ~~~(BitVec.ofInt 64 (2 * x + 18446744073709551616)) := BitVec.xor_allOnes
    rw [e2]
    have e3 : (~~~(BitVec.ofInt 64 (2 * x + 18446744073709551616))).toNat = (-2 * x - 1).toNat := by
      rw [BitVec.toNat_not, BitVec.toNat_ofInt]; omega
    rw [e3, wrapu64_in (by omega) (by omega)]
theorem g_wire_PutS_ok (b : Bool) (l : Rws) {x : Int} (h1 : -9223372036854775808 ≤ x) (h2 : x ≤ 9223372036854775807) (hl : l.length + 10 ≤ 140737488355328) {R : Bool × Rws → Prop} (h : R (false, l ++ rowsB (uB (zz x)))) : (g_wire_PutS b l x).run R := by
  unfold g_wire_PutS
  rw [xor_zz h1 h2]
  exact W.bindI (g_wire_PutU_ok b l (zz_lt h1 h2) hl (W.retI h))
end Go.Proofs.Ytpoakneeceaooaa.VX

set_option linter.unusedVariables false
set_option linter.unusedSimpArgs false
namespace Go.Proofs.Ytpoakneeceaooaa.VX
/-- A loop that counts. -/
theorem W.loop_for {σ ε : Type} {f : σ → W (σ ⊕ ε)} {R : ε → Prop} (n : Nat) (J : Nat → σ → Prop) (h : ∀ i s, i < n → J i s → (f s).run (W.on (J (i + 1)) R)) (hend : ∀ s, J n s → (f s).run (W.on (fun _ => False) R)) {s : σ} (h0 : J 0 s) : (W.loop f s).run R := by
  have key : ∀ k i s, n - i = k → i ≤ n → J i s → (W.loop f s).run R := by
    intro k
    induction k with
    | zero =>
      intro i s hk hi hJ
      have : i = n := by omega
      subst this
      exact W.loop_unroll ((f s).mono (W.on_mono (fun _ q => q.elim) fun _ => id) (hend s hJ))
    | succ k ih =>
      intro i s hk hi hJ
      exact W.loop_unroll ((f s).mono (W.on_mono (fun s' q => ih (i + 1) s' (by omega) (by omega) q) fun _ => id) (h i s (by omega) hJ))
  exact key n 0 s (by omega) (by omega) h0
def in64 (x : Int) : Prop := -9223372036854775808 ≤ x ∧ x ≤ 9223372036854775807
/-- Numbers that a machine holds. -/
def num (l : Rws) : Prop := ∀ r ∈ l, ∀ j, in64 (cI r j)
theorem num_get {l : Rws} (h : num l) (i j : Nat) : in64 (ri l i j) := by
  rw [ri_eq]
  by_cases hi : i < l.length
  · rw [show l.getD i [] = l[i] by simp [hi]]
    exact h _ (List.getElem_mem hi) j
  · rw [show l.getD i [] = [] by simp [Nat.le_of_not_lt hi]]
    simp [cI, in64, AV.toInt]
def uI (x : Int) : List Nat := uB (IntKind.u64.wrap x).toNat
def spB (r : List AV) : List Nat := uB (zz (cI r 0)) ++ uB (zz (cI r 1))
def chB (r : List AV) : List Nat := uI (cI r 0) ++ uI (cI r 1) ++ (uB (zz (cI r 2)) ++ uB (zz (cI r 3))) ++ (uB (zz (cI r 4)) ++ uB (zz (cI r 5)))
def plB (r : List AV) : List Nat := uI ((cR r 0).length : Int) ++ (cR r 0).flatMap chB
def encB (sp pl : Rws) : List Nat := [83, 87, 67, 49] ++ uI (sp.length : Int) ++ sp.flatMap spB ++ uI (pl.length : Int) ++ pl.flatMap plB
theorem wrapu_nat (x : Int) : ((IntKind.u64.wrap x).toNat : Int) = IntKind.u64.wrap x ∧ (IntKind.u64.wrap x).toNat < 18446744073709551616 := by
  rw [IntKind.wrap_u64]; omega
theorem uI_len (x : Int) : (uI x).length ≤ 10 := uB_len10 (wrapu_nat x).2
theorem zzB_len {x : Int} (h : in64 x) : (uB (zz x)).length ≤ 10 := uB_len10 (zz_lt h.1 h.2)
theorem flat_len {α β : Type} {f : α → List β} {k : Nat} : ∀ {l : List α}, (∀ r ∈ l, (f r).length ≤ k) → (l.flatMap f).length ≤ k * l.length
  | [], _ => by simp
  | r :: l, h => by
    have h1 := h r (List.mem_cons_self ..)
    have h2 := flat_len (f := f) (fun x hx => h x (List.mem_cons_of_mem _ hx))
    simp only [List.flatMap_cons, List.length_append, List.length_cons, Nat.mul_add, Nat.mul_one]
    omega
theorem take_flat {α β : Type} {f : List α → List β} {l : List (List α)} {i : Nat} (h : i < l.length) : (l.take (i + 1)).flatMap f = (l.take i).flatMap f ++ f (l.getD i []) := by
  rw [List.take_succ_eq_append_getElem h, List.flatMap_append]
  simp [h]
theorem num_take {l : Rws} (h : num l) (i : Nat) : num (l.take i) := fun r hr => h r (List.mem_of_mem_take hr)
theorem spB_len {l : Rws} (h : num l) : (l.flatMap spB).length ≤ 20 * l.length := flat_len fun r hr => by
  have h1 := zzB_len (h r hr 0)
  have h2 := zzB_len (h r hr 1)
  simp only [spB, List.length_append]; omega
theorem chB_len {l : Rws} (h : num l) : (l.flatMap chB).length ≤ 60 * l.length := flat_len fun r hr => by
  have h1 := zzB_len (h r hr 2)
  have h2 := zzB_len (h r hr 3)
  have h3 := zzB_len (h r hr 4)
  have h4 := zzB_len (h r hr 5)
  have h5 := uI_len (cI r 0)
  have h6 := uI_len (cI r 1)
  simp only [chB, List.length_append]; omega

theorem PutU_uI (b : Bool) (l : Rws) (x : Int) (hl : l.length + 10 ≤ 140737488355328) {R : Bool × Rws → Prop} (h : R (false, l ++ rowsB (uI x))) : (g_wire_PutU b l (IntKind.u64.wrap x)).run R := by
  obtain ⟨h1, h2⟩ := wrapu_nat x
  rw [← h1]
  exact g_wire_PutU_ok b l h2 hl h
theorem wrap_succ {i : Nat} (h : i ≤ 140737488355328) : IntKind.i64.wrap ((i : Int) + 1) = ((i + 1 : Nat) : Int) := by rw [wrap64_in] <;> omega
end Go.Proofs.Ytpoakneeceaooaa.VX

set_option linter.unusedVariables false
set_option linter.unusedSimpArgs false
namespace Go.Proofs.Ytpoakneeceaooaa.VX
def badCh (r : List AV) : Bool := !(decide (0 ≤ cI r 0 ∧ cI r 0 ≤ 2147483647 ∧ 0 ≤ cI r 1 ∧ cI r 1 ≤ 2147483647))
def hdGo : Rws → Nat → Int × Int × Int
  | [], _ => (0, 0, 0)
  | r :: rest, i => if 1024 < (cR r 0).length then (42, (i + 1 : Nat), 0) else match (cR r 0).findIdx? badCh with
    | some j => (2, (i + 1 : Nat), (j + 1 : Nat))
    | none => hdGo rest (i + 1)
def hd (sp pl : Rws) : Int × Int × Int := if 65 < sp.length ∨ 64 < pl.length then (42, 0, 0) else hdGo pl 0
theorem hdGo_cons (r : List AV) (rest : Rws) (i : Nat) : hdGo (r :: rest) i = if 1024 < (cR r 0).length then (42, ((i + 1 : Nat) : Int), 0) else match (cR r 0).findIdx? badCh with
    | some j => (2, ((i + 1 : Nat) : Int), ((j + 1 : Nat) : Int))
    | none => hdGo rest (i + 1) := rfl
theorem hdGo_ok : ∀ {pl : Rws} {i : Nat}, (hdGo pl i).1 = 0 → hdGo pl i = (0, 0, 0) ∧ ∀ r ∈ pl, (cR r 0).length ≤ 1024 ∧ ∀ c ∈ cR r 0, badCh c = false
  | [], _, _ => ⟨rfl, by simp⟩
  | r :: rest, i, h => by
    unfold hdGo at h ⊢
    by_cases h1 : 1024 < (cR r 0).length
    · rw [if_pos h1] at h; cases h
    · rw [if_neg h1] at h ⊢
      cases hf : (cR r 0).findIdx? badCh with
      | some j => rw [hf] at h; cases h
      | none =>
        rw [hf] at h
        obtain ⟨q1, q2⟩ := hdGo_ok h
        refine ⟨q1, fun x hx => ?_⟩
        rcases List.mem_cons.1 hx with rfl | hx
        · exact ⟨by omega, List.findIdx?_eq_none_iff.1 hf⟩
        · exact q2 x hx
theorem hd_ok {sp pl : Rws} (h : (hd sp pl).1 = 0) : hd sp pl = (0, 0, 0) ∧ sp.length ≤ 65 ∧ pl.length ≤ 64 ∧ ∀ r ∈ pl, (cR r 0).length ≤ 1024 ∧ ∀ c ∈ cR r 0, badCh c = false := by
  unfold hd at h ⊢
  by_cases h1 : 65 < sp.length ∨ 64 < pl.length
  · rw [if_pos h1] at h; cases h
  · rw [if_neg h1] at h ⊢
    obtain ⟨q1, q2⟩ := hdGo_ok h
    exact ⟨q1, by omega, by omega, q2⟩
theorem imin_f (a b : Int) : imin false a b = min a b := by simp only [imin]; first | rfl | (simp; omega) | (split <;> omega)
theorem imin_t (a b : Int) : imin true a b = max a b := by simp only [imin]; first | rfl | (simp; omega) | (split <;> omega)
theorem bad_imin (r : List AV) : (decide (imin false (cI r 0) (cI r 1) < 0) || decide (2147483647 < imin true (cI r 0) (cI r 1))) = badCh r := by
  rw [imin_f, imin_t]
  unfold badCh
  rw [Bool.eq_iff_iff]
  simp
  omega
theorem find_some {l : Rws} {j : Nat} (hj : j < l.length) (hb : badCh (l.getD j []) = true) (hlt : ∀ i, i < j → badCh (l.getD i []) = false) : l.findIdx? badCh = some j := by
  rw [List.findIdx?_eq_some_iff_getElem]
  refine ⟨hj, ?_, fun i hi => ?_⟩
  · simpa [hj] using hb
  · have := hlt i hi
    have hi' : i < l.length := by omega
    simpa [hi'] using this
theorem find_none {l : Rws} (hlt : ∀ i, i < l.length → badCh (l.getD i []) = false) : l.findIdx? badCh = none := by
  rw [List.findIdx?_eq_none_iff]
  intro x hx
  obtain ⟨i, hi, rfl⟩ := List.mem_iff_getElem.1 hx
  have := hlt i hi
  simpa [hi] using this
theorem drop_get {l : Rws} {i : Nat} (h : i < l.length) : l.drop i = l.getD i [] :: l.drop (i + 1) := by
  rw [List.drop_eq_getElem_cons h]; simp [h]

end Go.Proofs.Ytpoakneeceaooaa.VX

set_option linter.unusedVariables false
set_option linter.unusedSimpArgs false
namespace Go.Proofs.Ytpoakneeceaooaa.VX
/-- A certificate's lists, within what is encoded. -/
structure Fine (sp pl : Rws) : Prop where
  a : sp.length ≤ 65
  b : pl.length ≤ 64
  c : ∀ r ∈ pl, (cR r 0).length ≤ 1024
  sp : num sp
  pl : ∀ r ∈ pl, num (cR r 0)
theorem Fine.get {sp pl : Rws} (h : Fine sp pl) {i : Nat} (hi : i < pl.length) : (cR (pl.getD i []) 0).length ≤ 1024 ∧ num (cR (pl.getD i []) 0) := by
  have hm : pl.getD i [] ∈ pl := by
    rw [show pl.getD i [] = pl[i] by simp [hi]]
    exact List.getElem_mem hi
  exact ⟨h.c _ hm, h.pl _ hm⟩
theorem Fine.plB_len {sp pl : Rws} (h : Fine sp pl) (i : Nat) : ((pl.take i).flatMap plB).length ≤ 61450 * 64 := by
  have h1 : ((pl.take i).flatMap plB).length ≤ 61450 * (pl.take i).length := flat_len fun r hr => by
    have hr := List.mem_of_mem_take hr
    have h2 := chB_len (h.pl r hr)
    have h3 := h.c r hr
    have h4 := uI_len ((cR r 0).length : Int)
    simp only [plB, List.length_append]; omega
  have h2 : (pl.take i).length ≤ 64 := by have := h.b; simp; omega
  omega
/-- What stands before the channels. -/
def preB (sp pl : Rws) : List Nat := [83, 87, 67, 49] ++ uI (sp.length : Int) ++ sp.flatMap spB ++ uI (pl.length : Int)
theorem preB_len {sp pl : Rws} (h : Fine sp pl) : (preB sp pl).length ≤ 1324 := by
  have h1 := uI_len (sp.length : Int)
  have h2 := uI_len (pl.length : Int)
  have h3 := spB_len h.sp
  have h4 := h.a
  simp only [preB, List.length_append, List.length_cons, List.length_nil]; omega
end Go.Proofs.Ytpoakneeceaooaa.VX

set_option linter.unusedVariables false
set_option linter.unusedSimpArgs false
set_option maxRecDepth 100000
set_option maxHeartbeats 0
namespace Go.Proofs.Ytpoakneeceaooaa.VX
theorem XSplit.tt' {b : Bool} {x y : Prop} (h : b = true) (h' : x) : XSplit b x y := ⟨fun _ => h', fun e => by rw [h] at e; cases e⟩
theorem XSplit.ff' {b : Bool} {x y : Prop} (h : b = false) (h' : y) : XSplit b x y := ⟨fun e => (by rw [h] at e; cases e), fun _ => h'⟩
theorem loop_go {σ ε : Type} {f : σ → W (σ ⊕ ε)} {s : σ} {R : ε → Prop} (h : (f s).run (W.on (fun s' => (W.loop f s').run R) R)) : (W.loop f s).pr R := W.loop_unroll h
attribute [local irreducible] W.loop
end Go.Proofs.Ytpoakneeceaooaa.VX

set_option linter.unusedVariables false
set_option linter.unusedSimpArgs false
namespace Go.Proofs.Ytpoakneeceaooaa.VX
/-- Lists of plans that hold the same channels. -/
def eqPl (pl pl' : Rws) : Prop := pl.length = pl'.length ∧ ∀ i, i < pl.length → cR (pl.getD i []) 0 = cR (pl'.getD i []) 0
end Go.Proofs.Ytpoakneeceaooaa.VX

set_option linter.unusedVariables false
set_option linter.unusedSimpArgs false
namespace Go.Proofs.Ytpoakneeceaooaa.VX
def plans (pl : Rws) : List Rws := pl.map fun r => cR r 0
theorem eqPl_plans {pl pl' : Rws} (h : eqPl pl pl') : plans pl = plans pl' := by
  apply List.ext_getElem
  · simp [plans, h.1]
  · intro i h1 h2
    have hi : i < pl.length := by simpa [plans] using h1
    have hi' : i < pl'.length := by simpa [plans] using h2
    have := h.2 i hi
    simpa [plans, hi, hi'] using this
theorem hdGo_plans : ∀ {pl pl' : Rws} {i : Nat}, plans pl = plans pl' → hdGo pl i = hdGo pl' i
  | [], [], _, _ => rfl
  | [], _ :: _, _, h => by simp [plans] at h
  | _ :: _, [], _, h => by simp [plans] at h
  | r :: pl, r' :: pl', i, h => by
    simp only [plans, List.map_cons, List.cons.injEq] at h
    rw [hdGo_cons, hdGo_cons, h.1, hdGo_plans (i := i + 1) h.2]
theorem plB_plans : ∀ {pl pl' : Rws}, plans pl = plans pl' → pl.flatMap plB = pl'.flatMap plB
  | [], [], _ => rfl
  | [], _ :: _, h => by simp [plans] at h
  | _ :: _, [], h => by simp [plans] at h
  | r :: pl, r' :: pl', h => by
    simp only [plans, List.map_cons, List.cons.injEq] at h
    simp only [List.flatMap_cons, plB, h.1, plB_plans h.2]
theorem len_plans {pl pl' : Rws} (h : plans pl = plans pl') : pl.length = pl'.length := by
  have := congrArg List.length h
  simpa [plans] using this
theorem hd_plans {sp pl pl' : Rws} (h : plans pl = plans pl') : hd sp pl = hd sp pl' := by
  unfold hd
  rw [len_plans h, hdGo_plans h]
theorem encB_plans {sp pl pl' : Rws} (h : plans pl = plans pl') : encB sp pl = encB sp pl' := by
  unfold encB
  rw [len_plans h, plB_plans h]
theorem mem_plans {pl : Rws} {p : Rws → Prop} : (∀ r ∈ pl, p (cR r 0)) ↔ ∀ q ∈ plans pl, p q := by simp [plans]
theorem fine_of {sp pl : Rws} (hs : num sp) (hp : ∀ r ∈ pl, num (cR r 0)) (h : (hd sp pl).1 = 0) : Fine sp pl := by
  obtain ⟨_, h1, h2, h3⟩ := hd_ok h
  exact ⟨h1, h2, fun r hr => (h3 r hr).1, hs, hp⟩
theorem encB_len {sp pl : Rws} (h : Fine sp pl) : (encB sp pl).length ≤ 4000000 := by
  have h1 := preB_len h
  have h2 := h.plB_len pl.length
  rw [List.take_length] at h2
  have e : encB sp pl = preB sp pl ++ pl.flatMap plB := rfl
  rw [e, List.length_append]; omega
end Go.Proofs.Ytpoakneeceaooaa.VX

set_option linter.unusedVariables false
set_option linter.unusedSimpArgs false
namespace Go.Proofs.Ytpoakneeceaooaa.VX
/-- Rows of bytes. -/
def byt (l : Rws) : Prop := ∀ r ∈ l, 0 ≤ cI r 0 ∧ cI r 0 ≤ 255
def gvGo : Rws → Nat → Nat → Nat × Nat × Int
  | [], _, _ => (0, 0, 40)
  | r :: rest, i, acc =>
    if i = 9 ∧ 1 < (cI r 0).toNat then (0, 0, 41)
    else if (cI r 0).toNat < 128 then (if 0 < i ∧ (cI r 0).toNat = 0 then (0, 0, 41) else (acc + (cI r 0).toNat * 2 ^ (7 * i), i + 1, 0))
    else gvGo rest (i + 1) (acc + ((cI r 0).toNat - 128) * 2 ^ (7 * i))
/-- The number at the head of the bytes: the number, its length, or the fault. -/
def gv (l : Rws) : Nat × Nat × Int := gvGo l 0 0
theorem gvGo_cons (r : List AV) (rest : Rws) (i acc : Nat) : gvGo (r :: rest) i acc = if i = 9 ∧ 1 < (cI r 0).toNat then (0, 0, 41)
    else if (cI r 0).toNat < 128 then (if 0 < i ∧ (cI r 0).toNat = 0 then (0, 0, 41) else (acc + (cI r 0).toNat * 2 ^ (7 * i), i + 1, 0))
    else gvGo rest (i + 1) (acc + ((cI r 0).toNat - 128) * 2 ^ (7 * i)) := rfl
theorem byt_get {l : Rws} (h : byt l) (i : Nat) : 0 ≤ ri l i 0 ∧ ri l i 0 ≤ 255 := by
  rw [ri_eq]
  by_cases hi : i < l.length
  · rw [show l.getD i [] = l[i] by simp [hi]]
    exact h _ (List.getElem_mem hi)
  · rw [show l.getD i [] = [] by simp [Nat.le_of_not_lt hi]]
    simp [cI, AV.toInt]
theorem byt_drop {l : Rws} (h : byt l) (n : Nat) : byt (l.drop n) := fun r hr => h r (List.mem_of_mem_drop hr)
theorem or_u64 {a c k : Nat} (ha : a < 2 ^ k) (ha2 : a < 18446744073709551616) (hc : c * 2 ^ k < 18446744073709551616) : ibits BinOp.or IntKind.u64 (a : Int) ((c * 2 ^ k : Nat) : Int) = ((a + c * 2 ^ k : Nat) : Int) := by
  have hib : ∀ x y : Int, ibits BinOp.or IntKind.u64 x y = IntKind.u64.wrap (((BitVec.ofInt 64 x ||| BitVec.ofInt 64 y : BitVec 64).toNat : Nat) : Int) := fun _ _ => rfl
  have e : a ||| (c * 2 ^ k) = a + c * 2 ^ k := by
    have := Nat.two_pow_add_eq_or_of_lt ha c
    rw [Nat.or_comm, Nat.mul_comm c, ← this, Nat.add_comm]
  by_cases h0 : c = 0
  · subst h0
    simp only [Nat.zero_mul, Nat.add_zero]
    rw [hib]
    have e0 : (BitVec.ofInt 64 ((0 : Nat) : Int)) = 0#64 := by decide
    rw [e0]
    have e2 : (BitVec.ofInt 64 (a : Int) ||| 0#64).toNat = a := by
      rw [BitVec.or_zero, BitVec.ofInt_natCast, BitVec.toNat_ofNat]; omega
    rw [e2, wrapu64_in] <;> omega
  · have hk : 2 ^ k ≤ c * 2 ^ k := Nat.le_mul_of_pos_left _ (by omega)
    rw [hib, BitVec.ofInt_natCast, BitVec.ofInt_natCast, BitVec.toNat_or, BitVec.toNat_ofNat, BitVec.toNat_ofNat, Nat.mod_eq_of_lt (by omega), Nat.mod_eq_of_lt (by omega), e]
    have : a + c * 2 ^ k < 18446744073709551616 := by
      rw [← e]; exact Nat.or_lt_two_pow (n := 64) (by omega) (by omega)
    rw [wrapu64_in] <;> omega
theorem ten {i : Nat} (h : i ≤ 9) : i = 0 ∨ i = 1 ∨ i = 2 ∨ i = 3 ∨ i = 4 ∨ i = 5 ∨ i = 6 ∨ i = 7 ∨ i = 8 ∨ i = 9 := by omega
theorem part_lt {i b : Nat} (hi : i ≤ 9) (hb : b ≤ 255) (h9 : i = 9 → b ≤ 1) : b % 128 * 2 ^ (7 * i) < 18446744073709551616 := by
  rcases ten hi with rfl | rfl | rfl | rfl | rfl | rfl | rfl | rfl | rfl | rfl <;> simp <;> omega
theorem acc_lt {i acc : Nat} (hi : i ≤ 9) (h : acc < 2 ^ (7 * i)) : acc < 18446744073709551616 := by
  rcases ten hi with rfl | rfl | rfl | rfl | rfl | rfl | rfl | rfl | rfl | rfl <;> simp at h <;> omega
theorem acc_next {i acc c : Nat} (h : acc < 2 ^ (7 * i)) (hc : c ≤ 127) : acc + c * 2 ^ (7 * i) < 2 ^ (7 * (i + 1)) := by
  have e : 2 ^ (7 * (i + 1)) = 128 * 2 ^ (7 * i) := by rw [show 7 * (i + 1) = 7 * i + 7 by omega, Nat.pow_add]; omega
  have h2 : c * 2 ^ (7 * i) ≤ 127 * 2 ^ (7 * i) := Nat.mul_le_mul_right _ hc
  rw [e]; omega
theorem exp7 {i : Nat} (hi : i ≤ 9) : min (IntKind.u64.wrap (IntKind.i64.wrap (7 * (i : Int)))).toNat 64 = 7 * i := by
  rw [wrap64_in (x := 7 * (i : Int)) (by omega) (by omega), wrapu64_in (by omega) (by omega)]; omega
theorem get_term {i acc : Nat} {x : Int} (hi : i ≤ 9) (hx : 0 ≤ x ∧ x ≤ 255) (h9 : i = 9 → x ≤ 1) (ha : acc < 2 ^ (7 * i)) :
    ibits BinOp.or IntKind.u64 (acc : Int) (IntKind.u64.wrap ((IntKind.u64.wrap x).tmod 128 * 2 ^ min (IntKind.u64.wrap (IntKind.i64.wrap (7 * (i : Int)))).toNat 64)) = ((acc + x.toNat % 128 * 2 ^ (7 * i) : Nat) : Int) := by
  have hp := part_lt (b := x.toNat) hi (by omega) (fun e => by have := h9 e; omega)
  rw [exp7 hi, wrapu64_in (x := x) (by omega) (by omega)]
  have e1 : x.tmod 128 * 2 ^ (7 * i) = ((x.toNat % 128 * 2 ^ (7 * i) : Nat) : Int) := by
    have : x.tmod 128 = ((x.toNat % 128 : Nat) : Int) := by rw [Int.tmod_eq_emod_of_nonneg hx.1]; omega
    rw [this]; simp
  rw [e1, wrapu64_in (by omega) (by omega)]
  exact or_u64 ha (acc_lt hi ha) hp
theorem g_ref04_Get_ok (b : Bool) (l : Rws) (hl : byt l) (hn : l.length ≤ 140737488355328) {R : Int × Int × Int → Prop} (h : R (((gv l).1 : Nat), ((gv l).2.1 : Nat), (gv l).2.2)) : (g_ref04_Get b l).run R := by
  unfold g_ref04_Get
  refine W.bindI (W.loop_for l.length (fun i s => ∃ acc : Nat, s = ((acc : Int), (i : Int)) ∧ i ≤ 9 ∧ acc < 2 ^ (7 * i) ∧ gvGo (l.drop i) i acc = gv l) ?_ ?_ ⟨0, rfl, by omega, by simp, rfl⟩)
  · rintro i s hi ⟨acc, rfl, h9, ha, hg⟩
    have hb := byt_get hl i
    rw [drop_get hi, gvGo_cons, ← ri_eq] at hg
    simp only [Int.toNat_natCast]
    have ew : IntKind.u64.wrap (ri l i 0) = ri l i 0 := wrapu64_in (by omega) (by omega)
    refine W.iteT (by simp; omega) (W.needI (by constructor <;> omega) (W.iteB (fun e => ?_) (fun e => ?_)))
    · simp only [Bool.and_eq_true, beq_iff_eq, decide_eq_true_eq, ew] at e
      rw [if_pos (by omega)] at hg
      rw [← hg] at h
      exact W.retI (W.retI h)
    · have e : ¬ (i = 9 ∧ 1 < (ri l i 0).toNat) := by
        simp only [ew, Bool.and_eq_false_iff, beq_eq_false_iff_ne, decide_eq_false_iff_not] at e
        omega
      rw [if_neg e] at hg
      refine W.needI (by rw [wrap64_in (by omega) (by omega), wrapu64_in (by omega) (by omega)]; omega) (W.iteB (fun e1 => ?_) (fun e1 => ?_))
      · simp only [ew, decide_eq_true_eq] at e1
        rw [if_pos (by omega)] at hg
        refine W.iteB (fun e2 => ?_) (fun e2 => ?_)
        · simp only [ew, Bool.and_eq_true, beq_iff_eq, decide_eq_true_eq] at e2
          rw [if_pos (by omega)] at hg
          rw [← hg] at h
          exact W.retI (W.retI h)
        · have e2 : ¬ (0 < i ∧ (ri l i 0).toNat = 0) := by
            simp only [ew, Bool.and_eq_false_iff, beq_eq_false_iff_ne, decide_eq_false_iff_not] at e2
            omega
          rw [if_neg e2] at hg
          refine W.retI (W.retI ?_)
          rw [get_term h9 hb (fun e9 => by omega) ha, wrap_succ (by omega), Nat.mod_eq_of_lt (by omega)]
          rw [← hg] at h
          exact h
      · simp only [ew, decide_eq_false_iff_not] at e1
        rw [if_neg (by omega)] at hg
        refine W.retI ⟨_, by rw [get_term h9 hb (fun e9 => by omega) ha, wrap_succ (by omega)], by omega, acc_next ha (by omega), ?_⟩
        rw [show (ri l i 0).toNat % 128 = (ri l i 0).toNat - 128 by omega]
        exact hg
  · rintro s ⟨acc, rfl, h9, ha, hg⟩
    rw [List.drop_length] at hg
    refine W.iteF (by simp) (W.retI (W.retI ?_))
    rw [← hg] at h
    exact h
end Go.Proofs.Ytpoakneeceaooaa.VX

set_option linter.unusedVariables false
set_option linter.unusedSimpArgs false
namespace Go.Proofs.Ytpoakneeceaooaa.VX
theorem andU8 (b : BitVec 8) : b &&& 127#8 = BitVec.ofNat 8 (b.toNat % 128) := by
  revert b; decide
theorem and127 {x : Int} (hx : 0 ≤ x ∧ x ≤ 255) : ibits BinOp.and IntKind.u8 x 127 = ((x.toNat % 128 : Nat) : Int) := by
  show IntKind.u8.wrap (((BitVec.ofInt 8 x &&& BitVec.ofInt 8 127 : BitVec 8).toNat : Nat) : Int) = _
  obtain ⟨n, rfl⟩ := Int.eq_ofNat_of_zero_le hx.1
  have h2 : (BitVec.ofInt 8 (n : Int)) = BitVec.ofNat 8 n := by rw [BitVec.ofInt_natCast]
  have h3 : (BitVec.ofInt 8 127) = 127#8 := rfl
  rw [h2, h3, andU8, IntKind.wrap_u8]
  simp
  omega
theorem and63 {i : Nat} (hi : i ≤ 9) : ibits BinOp.and IntKind.u64 (IntKind.u64.wrap (IntKind.i64.wrap (7 * (i : Int)))) 63 = ((7 * i : Nat) : Int) := by
  rw [wrap64_in (x := 7 * (i : Int)) (by omega) (by omega), wrapu64_in (by omega) (by omega)]
  rcases ten hi with rfl | rfl | rfl | rfl | rfl | rfl | rfl | rfl | rfl | rfl <;> decide
theorem g_rot_ok {i c : Nat} (hi : i ≤ 9) (hc : c ≤ 127) (h9 : i = 9 → c ≤ 1) {R : Int → Prop} (h : R ((c * 2 ^ (7 * i) : Nat) : Int)) : (g_math_bits_RotateLeft64 (c : Int) (IntKind.i64.wrap (7 * (i : Int)))).run R := by
  unfold g_math_bits_RotateLeft64
  rw [and63 hi]
  have hp := part_lt (b := c) hi (by omega) h9
  rw [Nat.mod_eq_of_lt (by omega)] at hp
  have e1 : IntKind.u64.wrap (64 - ((7 * i : Nat) : Int)) = ((64 - 7 * i : Nat) : Int) := by rw [wrapu64_in] <;> omega
  refine W.needI (by omega) (W.needI (by rw [e1]; omega) (W.retI ?_))
  rw [e1, show min ((7 * i : Nat) : Int).toNat 64 = 7 * i by omega, show min ((64 - 7 * i : Nat) : Int).toNat 64 = 64 - 7 * i by omega]
  have e2 : (c : Int) * 2 ^ (7 * i) = ((c * 2 ^ (7 * i) : Nat) : Int) := by simp
  have e3 : (c : Int).fdiv (2 ^ (64 - 7 * i)) = ((0 * 2 ^ 64 : Nat) : Int) := by
    have : (2 : Int) ^ (64 - 7 * i) = ((2 ^ (64 - 7 * i) : Nat) : Int) := by simp
    rw [this, Int.fdiv_eq_ediv_of_nonneg _ (Int.natCast_nonneg _)]
    have hlt : c < 2 ^ (64 - 7 * i) := by
      rcases ten hi with rfl | rfl | rfl | rfl | rfl | rfl | rfl | rfl | rfl | rfl <;> simp <;> omega
    have : ((c : Int) / ((2 ^ (64 - 7 * i) : Nat) : Int)) = ((c / 2 ^ (64 - 7 * i) : Nat) : Int) := rfl
    rw [this, Nat.div_eq_of_lt hlt]
  rw [e2, e3, wrapu64_in (by omega) (by omega), or_u64 (k := 64) (a := c * 2 ^ (7 * i)) (c := 0) (by have e64 : (2 : Nat) ^ 64 = 18446744073709551616 := by { decide }; rw [e64]; exact hp) hp (by simp)]
  simpa using h
/-- The rest of the bytes. -/
theorem rest_eq (l : Rws) (p : Nat) (hp : p ≤ l.length) : List.take (((l.length : Int)) - (p : Int)).toNat (List.drop ((p : Int)).toNat l) = l.drop p := by
  rw [Int.toNat_natCast]
  exact List.take_of_length_le (by simp)
theorem g_peek_ok (b : Bool) (l : Rws) (p : Nat) (hp : p ≤ l.length) (hl : byt l) (hn : l.length ≤ 140737488355328) {R : Int × Int × Int → Prop} (h : R (((gv (l.drop p)).1 : Nat), ((gv (l.drop p)).2.1 : Nat), (gv (l.drop p)).2.2)) : (g___wire_cursor__peek_p b l (p : Int)).run R := by
  unfold g___wire_cursor__peek_p
  simp only [rest_eq l p hp]
  have hd := byt_drop hl p
  have hdl : (l.drop p).length ≤ 140737488355328 := by simp; omega
  generalize l.drop p = m at h hd hdl
  refine W.needI (by omega) (W.bindI (W.loop_for m.length (fun i s => ∃ acc : Nat, s = ((acc : Int), (i : Int)) ∧ i ≤ 9 ∧ acc < 2 ^ (7 * i) ∧ gvGo (m.drop i) i acc = gv m) ?_ ?_ ⟨0, rfl, by omega, by simp, rfl⟩))
  · rintro i s hi ⟨acc, rfl, h9, ha, hg⟩
    have hb := byt_get hd i
    rw [drop_get hi, gvGo_cons, ← ri_eq] at hg
    simp only [Int.toNat_natCast]
    refine W.iteT (by simp; omega) (W.needI (by constructor <;> omega) (W.iteB (fun e => ?_) (fun e => ?_)))
    · simp only [Bool.and_eq_true, beq_iff_eq, decide_eq_true_eq] at e
      rw [if_pos (by omega)] at hg
      rw [← hg] at h
      exact W.retI (W.retI h)
    · have e : ¬ (i = 9 ∧ 1 < (ri m i 0).toNat) := by
        simp only [Bool.and_eq_false_iff, beq_eq_false_iff_ne, decide_eq_false_iff_not] at e
        omega
      rw [if_neg e] at hg
      rw [and127 hb, wrapu64_in (by omega) (by omega)]
      have hp := part_lt (b := (ri m i 0).toNat) h9 (by omega) (fun e9 => by omega)
      refine W.bindI (g_rot_ok h9 (by omega) (fun e9 => by omega) ?_)
      simp only [or_u64 ha (acc_lt h9 ha) hp, wrap_succ (show i ≤ 140737488355328 by omega)]
      refine W.iteB (fun e1 => ?_) (fun e1 => ?_)
      · simp only [decide_eq_true_eq] at e1
        rw [if_pos (by omega)] at hg
        refine W.iteB (fun e2 => ?_) (fun e2 => ?_)
        · simp only [Bool.and_eq_true, beq_iff_eq, decide_eq_true_eq] at e2
          rw [if_pos (by omega)] at hg
          rw [← hg] at h
          exact W.retI (W.retI h)
        · have e2 : ¬ (0 < i ∧ (ri m i 0).toNat = 0) := by
            simp only [Bool.and_eq_false_iff, beq_eq_false_iff_ne, decide_eq_false_iff_not] at e2
            omega
          rw [if_neg e2] at hg
          refine W.retI (W.retI ?_)
          rw [Nat.mod_eq_of_lt (by omega)]
          rw [← hg] at h
          exact h
      · simp only [decide_eq_false_iff_not] at e1
        rw [if_neg (by omega)] at hg
        refine W.retI ⟨_, rfl, by omega, acc_next ha (by omega), ?_⟩
        rw [show (ri m i 0).toNat % 128 = (ri m i 0).toNat - 128 by omega]
        exact hg
  · rintro s ⟨acc, rfl, h9, ha, hg⟩
    rw [List.drop_length] at hg
    refine W.iteF (by simp) (W.retI (W.retI ?_))
    rw [← hg] at h
    exact h
end Go.Proofs.Ytpoakneeceaooaa.VX

set_option linter.unusedVariables false
set_option linter.unusedSimpArgs false
namespace Go.Proofs.Ytpoakneeceaooaa.VX
theorem gvGo_ok : ∀ {l : Rws} {i acc v n : Nat}, byt l → i ≤ 9 → acc < 2 ^ (7 * i) → gvGo l i acc = (v, n, 0) → i < n ∧ n ≤ i + l.length ∧ n ≤ 10 ∧ v < 18446744073709551616
  | [], i, acc, v, n, _, _, _, h => by simp [gvGo] at h
  | r :: rest, i, acc, v, n, hb, hi, ha, h => by
    have hr := hb r (List.mem_cons_self ..)
    rw [gvGo_cons] at h
    split at h
    · simp at h
    · rename_i h9
      split at h
      · split at h
        · simp at h
        · rename_i hlt h0
          simp only [Prod.mk.injEq] at h
          obtain ⟨rfl, rfl, _⟩ := h
          refine ⟨by omega, by simp, by omega, ?_⟩
          have hp := part_lt (b := (cI r 0).toNat) hi (by omega) (fun e => by omega)
          rw [Nat.mod_eq_of_lt hlt] at hp
          by_cases h8 : i = 9
          · subst h8
            have : (cI r 0).toNat ≤ 1 := by omega
            have h2 : (cI r 0).toNat * 2 ^ (7 * 9) ≤ 1 * 2 ^ (7 * 9) := Nat.mul_le_mul_right _ this
            simp at ha h2 ⊢
            omega
          · have := acc_next ha (c := (cI r 0).toNat) (by omega)
            exact acc_lt (i := i + 1) (by omega) this
      · obtain ⟨q1, q2, q3, q4⟩ := gvGo_ok (fun x hx => hb x (List.mem_cons_of_mem _ hx)) (by omega) (acc_next ha (by omega)) h
        exact ⟨by omega, by simp; omega, q3, q4⟩
theorem gv_ok {l : Rws} {v n : Nat} (hb : byt l) (h : gv l = (v, n, 0)) : 0 < n ∧ n ≤ l.length ∧ n ≤ 10 ∧ v < 18446744073709551616 := by
  have := gvGo_ok hb (by omega) (by simp) h
  exact ⟨this.1, by omega, this.2.2.1, this.2.2.2⟩
def rdU (max : Nat) (l : Rws) : Except Int (Nat × Rws) := if (gv l).2.2 ≠ 0 then .error (gv l).2.2 else if max < (gv l).1 then .error 42 else .ok ((gv l).1, l.drop (gv l).2.1)
theorem rdU_err {max : Nat} {l : Rws} {e : Int} (h : rdU max l = .error e) : e ≠ 0 := by
  unfold rdU at h
  split at h
  · rename_i h1; simp only [Except.error.injEq] at h; subst h; exact h1
  · split at h
    · simp only [Except.error.injEq] at h; subst h; decide
    · cases h
theorem rdU_ok {max : Nat} {l rest : Rws} {v : Nat} (hb : byt l) (h : rdU max l = .ok (v, rest)) : v ≤ max ∧ v < 18446744073709551616 ∧ byt rest ∧ ∃ n, rest = l.drop n ∧ n ≤ l.length ∧ 0 < n := by
  unfold rdU at h
  split at h
  · cases h
  · rename_i h1
    split at h
    · cases h
    · rename_i h2
      simp only [Except.ok.injEq, Prod.mk.injEq] at h
      obtain ⟨rfl, rfl⟩ := h
      obtain ⟨q1, q2, q3, q4⟩ := gv_ok hb (v := (gv l).1) (n := (gv l).2.1) (by rw [← show (gv l).2.2 = 0 by omega])
      exact ⟨by omega, q4, byt_drop hb _, _, rfl, q2, q1⟩
/-- What a read comes to, at a place. -/
structure At (l : Rws) (p : Nat) (rest : Rws) : Prop where
  le : p ≤ l.length
  eq : l.drop p = rest
theorem take_ok (max : Nat) (b : Bool) (l : Rws) (p : Nat) (rest : Rws) (hp : At l p rest) (hl : byt l) (hn : l.length ≤ 140737488355328) (hmax : max < 18446744073709551616) {R : Int × Int × Int → Prop}
    (he : ∀ e, rdU max rest = .error e → R (0, e, p)) (hk : ∀ v rest' (p' : Nat), rdU max rest = .ok (v, rest') → At l p' rest' → R ((v : Int), 0, (p' : Int))) : (g___wire_Reader__take_p (max : Int) 0 b l (p : Int)).run R := by
  unfold g___wire_Reader__take_p
  obtain ⟨hp1, rfl⟩ := hp
  refine W.iteF (by simp) (W.bindI (g_peek_ok b l p hp1 hl hn ?_))
  have hd := byt_drop hl p
  by_cases h0 : (gv (l.drop p)).2.2 = 0
  · by_cases hm : max < (gv (l.drop p)).1
    · have e : rdU max (l.drop p) = .error 42 := by unfold rdU; rw [if_neg (by omega), if_pos hm]
      exact W.bindI (W.iteT (by simp [h0]; omega) (W.retI (W.iteT (by decide) (W.retI (he _ e)))))
    · have e : rdU max (l.drop p) = .ok ((gv (l.drop p)).1, (l.drop p).drop (gv (l.drop p)).2.1) := by unfold rdU; rw [if_neg (by omega), if_neg hm]
      obtain ⟨q1, q2, q3, q4⟩ := gv_ok hd (v := (gv (l.drop p)).1) (n := (gv (l.drop p)).2.1) (by rw [← h0])
      rw [List.length_drop] at q2
      refine W.bindI (W.iteF (by simp [h0]; omega) (W.retI (W.iteF (by simp [h0]) (W.retI ?_))))
      rw [show IntKind.i64.wrap ((p : Int) + ((gv (l.drop p)).2.1 : Int)) = ((p + (gv (l.drop p)).2.1 : Nat) : Int) by rw [wrap64_in] <;> omega]
      exact hk _ _ _ e ⟨by omega, by rw [List.drop_drop]⟩
  · have e : rdU max (l.drop p) = .error (gv (l.drop p)).2.2 := by unfold rdU; rw [if_pos h0]
    exact W.bindI (W.iteF (by simp [h0]) (W.retI (W.iteT (by simpa using h0) (W.retI (he _ e)))))
def unz (v : Nat) : Int := if v % 2 = 0 then ((v / 2 : Nat) : Int) else -((v / 2 : Nat) : Int) - 1
theorem xor_unz {v : Nat} (h : v < 18446744073709551616) : ibits BinOp.xor IntKind.i64 (IntKind.i64.wrap ((v : Int).fdiv 2)) (IntKind.i64.wrap (0 - IntKind.i64.wrap (ibits BinOp.and IntKind.u64 (v : Int) 1))) = unz v := by
  have h1 : ibits BinOp.and IntKind.u64 (v : Int) 1 = ((v % 2 : Nat) : Int) := by
    show IntKind.u64.wrap (((BitVec.ofInt 64 (v : Int) &&& BitVec.ofInt 64 1 : BitVec 64).toNat : Nat) : Int) = _
    have e1 : BitVec.ofInt 64 1 = 1#64 := by decide
    rw [e1, BitVec.ofInt_natCast, BitVec.toNat_and, BitVec.toNat_ofNat, Nat.mod_eq_of_lt (by omega), show (1#64).toNat = 1 from rfl, Nat.and_one_is_mod, wrapu64_in] <;> omega
  have h2 : (v : Int).fdiv 2 = ((v / 2 : Nat) : Int) := by rw [Int.fdiv_eq_ediv_of_nonneg _ (by omega)]; rfl
  rw [h1, h2, wrap64_in (x := ((v / 2 : Nat) : Int)) (by omega) (by omega), wrap64_in (x := ((v % 2 : Nat) : Int)) (by omega) (by omega), wrap64_in (x := 0 - ((v % 2 : Nat) : Int)) (by omega) (by omega)]
  have hib : ∀ x y : Int, ibits BinOp.xor IntKind.i64 x y = IntKind.i64.wrap (((BitVec.ofInt 64 x ^^^ BitVec.ofInt 64 y : BitVec 64).toNat : Nat) : Int) := fun _ _ => rfl
  rw [hib]
  unfold unz
  by_cases hz : v % 2 = 0
  · rw [if_pos hz, hz]
    have e : BitVec.ofInt 64 (0 - ((0 : Nat) : Int)) = 0#64 := by decide
    rw [e, BitVec.xor_zero, BitVec.ofInt_natCast, BitVec.toNat_ofNat, Nat.mod_eq_of_lt (by omega), wrap64_in] <;> omega
  · rw [if_neg hz, show v % 2 = 1 by omega]
    have e : BitVec.ofInt 64 (0 - ((1 : Nat) : Int)) = BitVec.allOnes 64 := by decide
    rw [e, BitVec.xor_allOnes, BitVec.toNat_not, BitVec.ofInt_natCast, BitVec.toNat_ofNat, Nat.mod_eq_of_lt (by omega), IntKind.wrap_i64]
    omega
def rdS (l : Rws) : Except Int (Int × Rws) := match rdU 18446744073709551615 l with
  | .ok (v, rest) => .ok (unz v, rest)
  | .error e => .error e
theorem S_ok (b : Bool) (l : Rws) (p : Nat) (rest : Rws) (hp : At l p rest) (hl : byt l) (hn : l.length ≤ 140737488355328) {R : Int × Int × Int → Prop}
    (he : ∀ e v, rdS rest = .error e → R (v, e, p)) (hk : ∀ v rest' (p' : Nat), rdS rest = .ok (v, rest') → At l p' rest' → R (v, 0, (p' : Int))) : (g___wire_Reader__S_p 0 b l (p : Int)).run R := by
  unfold g___wire_Reader__S_p
  have hr : byt rest := hp.eq ▸ byt_drop hl p
  refine W.bindI (take_ok 18446744073709551615 b l p rest hp hl hn (by omega) (fun e h => W.retI (he _ _ (by unfold rdS; rw [h]))) (fun v rest' p' h h' => W.retI ?_))
  have hv := (rdU_ok hr h).2.1
  show R (ibits BinOp.xor IntKind.i64 (IntKind.i64.wrap ((v : Int).fdiv 2)) (IntKind.i64.wrap (0 - IntKind.i64.wrap (ibits BinOp.and IntKind.u64 (v : Int) 1))), 0, (p' : Int))
  rw [xor_unz hv]
  exact hk _ _ _ (by unfold rdS; rw [h]) h'
theorem rdS_err {l : Rws} {e : Int} (h : rdS l = .error e) : e ≠ 0 := by
  unfold rdS at h
  cases hr : rdU 18446744073709551615 l with
  | ok x => rw [hr] at h; cases h
  | error e' => rw [hr] at h; cases h; exact rdU_err hr
theorem U_ok (b : Bool) (l : Rws) (p : Nat) (rest : Rws) (hp : At l p rest) (hl : byt l) (hn : l.length ≤ 140737488355328) {R : Int × Int × Int → Prop}
    (he : ∀ e, rdU 18446744073709551615 rest = .error e → R (0, e, p)) (hk : ∀ v rest' (p' : Nat), rdU 18446744073709551615 rest = .ok (v, rest') → At l p' rest' → R ((v : Int), 0, (p' : Int))) : (g___wire_Reader__U_p 0 b l (p : Int)).run R := by
  unfold g___wire_Reader__U_p
  exact W.bindI (take_ok 18446744073709551615 b l p rest hp hl hn (by omega) (fun e h => W.retI (he _ h)) (fun v rest' p' h h' => W.retI (hk _ _ _ h h')))
theorem N_ok (max : Nat) (b : Bool) (l : Rws) (p : Nat) (rest : Rws) (hp : At l p rest) (hl : byt l) (hn : l.length ≤ 140737488355328) (hmax : max ≤ 9223372036854775807) {R : Int × Int × Int → Prop}
    (he : ∀ e, rdU max rest = .error e → R (0, e, p)) (hk : ∀ v rest' (p' : Nat), rdU max rest = .ok (v, rest') → At l p' rest' → R ((v : Int), 0, (p' : Int))) : (g___wire_Reader__N_p (max : Int) 0 b l (p : Int)).run R := by
  unfold g___wire_Reader__N_p
  have hr : byt rest := hp.eq ▸ byt_drop hl p
  refine W.iteT (by simp) ?_
  rw [wrapu64_in (x := (max : Int)) (by omega) (by omega)]
  refine W.bindI (take_ok max b l p rest hp hl hn (by omega) (fun e h => W.retI (he _ h)) (fun v rest' p' h h' => W.retI ?_))
  have hv := (rdU_ok hr h).1
  show R (IntKind.i64.wrap (v : Int), 0, (p' : Int))
  rw [wrap64_in (by omega) (by omega)]
  exact hk _ _ _ h h'
end Go.Proofs.Ytpoakneeceaooaa.VX

set_option linter.unusedVariables false
set_option linter.unusedSimpArgs false
namespace Go.Proofs.Ytpoakneeceaooaa.VX
/-- One after the other. -/
def andE {α β : Type} (x : Except Int (α × Rws)) (f : α → Rws → Except Int (β × Rws)) : Except Int (β × Rws) := match x with
  | .ok (a, rest) => f a rest
  | .error e => .error e
def rdSp (l : Rws) : Except Int ((Int × Int) × Rws) := andE (rdS l) fun lo r => andE (rdS r) fun hi r => .ok ((lo, hi), r)
def rdV (l : Rws) : Except Int (Nat × Rws) := andE (rdU 18446744073709551615 l) fun v r => if 2147483647 < v then .error 41 else .ok (v, r)
def rdCh (l : Rws) : Except Int (List AV × Rws) := andE (rdV l) fun a r => andE (rdV r) fun b r => andE (rdSp r) fun s r => andE (rdSp r) fun t r => .ok ([I (a : Int), I (b : Int), I s.1, I s.2, I t.1, I t.2], r)
/-- n things one behind another; at a fault: how many had been read. -/
def rdMany {α ε : Type} (f : Rws → Except ε (α × Rws)) : Nat → Rws → Except (ε × Nat) (List α × Rws)
  | 0, l => .ok ([], l)
  | n + 1, l => match f l with
    | .error e => .error (e, 0)
    | .ok (a, r) => match rdMany f n r with
      | .error (e, k) => .error (e, k + 1)
      | .ok (xs, r) => .ok (a :: xs, r)
theorem rdMany_succ {α ε : Type} (f : Rws → Except ε (α × Rws)) (n : Nat) (l : Rws) : rdMany f (n + 1) l = match f l with
    | .error e => .error (e, 0)
    | .ok (a, r) => match rdMany f n r with
      | .error (e, k) => .error (e, k + 1)
      | .ok (xs, r) => .ok (a :: xs, r) := rfl
def rdList (l : Rws) : Except (Int × Nat) (Rws × Rws) := match rdU 1024 l with
  | .error e => .error (e, 0)
  | .ok (n, r) => match rdMany rdCh n r with
    | .error (e, k) => .error (e, k + 1)
    | .ok x => .ok x
theorem At.byt {l : Rws} {p : Nat} {rest : Rws} (h : At l p rest) (hl : byt l) : byt rest := h.eq ▸ byt_drop hl p
end Go.Proofs.Ytpoakneeceaooaa.VX

set_option linter.unusedVariables false
set_option linter.unusedSimpArgs false
namespace Go.Proofs.Ytpoakneeceaooaa.VX
def magic (l : Rws) : Bool := ri l 0 0 == 83 && (ri l 1 0 == 87 && (ri l 2 0 == 67 && ri l 3 0 == 49))
theorem u8_eq {x : Int} {n : Nat} (hx : 0 ≤ x ∧ x ≤ 255) (hn : n < 256) : (x.toNat.toUInt8 == n.toUInt8) = (x == (n : Int)) := by
  obtain ⟨m, rfl⟩ := Int.eq_ofNat_of_zero_le hx.1
  rw [Bool.eq_iff_iff, beq_iff_eq, beq_iff_eq]
  constructor
  · intro h
    have h2 := congrArg UInt8.toNat h
    simp at h2
    omega
  · intro h
    have : m = n := by omega
    subst this
    rfl
theorem magic_eq {l : Rws} (hb : byt l) (hl : 4 ≤ l.length) : ((bytesR (List.take 4 (List.drop 0 l))).toList == (bs [83, 87, 67, 49]).toList) = magic l := by
  match l, hl with
  | r0 :: r1 :: r2 :: r3 :: rest, _ =>
    have e1 : (bytesR (List.take 4 (List.drop 0 (r0 :: r1 :: r2 :: r3 :: rest)))).toList = [(cI r0 0).toNat.toUInt8, (cI r1 0).toNat.toUInt8, (cI r2 0).toNat.toUInt8, (cI r3 0).toNat.toUInt8] := by
      unfold bytesR
      rw [ByteArray.toList_mk]
      rfl
    have e2 : (bs [83, 87, 67, 49]).toList = [(83 : Nat).toUInt8, (87 : Nat).toUInt8, (67 : Nat).toUInt8, (49 : Nat).toUInt8] := by
      unfold bs
      rw [ByteArray.toList_mk]
      rfl
    have h0 := hb r0 (by simp)
    have h1 := hb r1 (by simp)
    have h2 := hb r2 (by simp)
    have h3 := hb r3 (by simp)
    rw [e1, e2]
    show (((cI r0 0).toNat.toUInt8 == (83 : Nat).toUInt8) && (((cI r1 0).toNat.toUInt8 == (87 : Nat).toUInt8) && (((cI r2 0).toNat.toUInt8 == (67 : Nat).toUInt8) && (((cI r3 0).toNat.toUInt8 == (49 : Nat).toUInt8) && true)))) = _
    rw [u8_eq h0 (by omega), u8_eq h1 (by omega), u8_eq h2 (by omega), u8_eq h3 (by omega), Bool.and_true]
    rfl
def rdSpR (l : Rws) : Except Int (List AV × Rws) := andE (rdSp l) fun s r => .ok ([I s.1, I s.2], r)
def body (l : Rws) : Except (Int × Nat × Nat) (Rws × List Rws) := match rdU 65 l with
  | .error e => .error (e, 0, 0)
  | .ok (n, r) => match rdMany rdSpR n r with
    | .error (e, _) => .error (e, 0, 0)
    | .ok (sp, r) => match rdU 64 r with
      | .error e => .error (e, 0, 0)
      | .ok (m, r) => match rdMany rdList m r with
        | .error ((e, k), i) => .error (e, i + 1, k)
        | .ok (pl, r) => if r.length = 0 then .ok (sp, pl) else .error (43, 0, 0)
def dec (l : Rws) : Except (Int × Nat × Nat) (Rws × List Rws) := if l.length < 4 then .error (40, 0, 0) else if magic l = true then body (l.drop 4) else .error (41, 0, 0)
theorem rdList_err {l : Rws} {e : Int} {k : Nat} (h : rdList l = .error (e, k)) : True := trivial
end Go.Proofs.Ytpoakneeceaooaa.VX

set_option linter.unusedVariables false
set_option linter.unusedSimpArgs false
namespace Go.Proofs.Ytpoakneeceaooaa.VX
theorem pow7 (i : Nat) : 2 ^ (7 * (i + 1)) = 128 * 2 ^ (7 * i) := by rw [show 7 * (i + 1) = 7 * i + 7 by omega, Nat.pow_add]; omega
theorem split128 (n P : Nat) : n % 128 * P + n / 128 * (128 * P) = n * P := by
  have h := Nat.div_add_mod n 128
  calc n % 128 * P + n / 128 * (128 * P) = n % 128 * P + (128 * (n / 128)) * P := by rw [← Nat.mul_assoc, Nat.mul_comm (n / 128) 128]
    _ = (n % 128 + 128 * (n / 128)) * P := by rw [Nat.add_mul]
    _ = n * P := by rw [Nat.add_comm, h]
theorem one_of9 {i n : Nat} (h9 : i = 9) (h : n * 2 ^ (7 * i) < 18446744073709551616) : n ≤ 1 := by
  subst h9
  simp at h
  omega
theorem gvGo_fwd : ∀ (n i acc : Nat) (t : Rws), i ≤ 9 → n * 2 ^ (7 * i) < 18446744073709551616 → (0 < i → n ≠ 0) → gvGo (rowsB (uB n) ++ t) i acc = (acc + n * 2 ^ (7 * i), i + (uB n).length, 0) := by
  intro n
  induction n using Nat.strongRecOn with
  | _ n ih =>
    intro i acc t hi hn h0
    by_cases hs : n < 128
    · rw [uB_small hs]
      show gvGo ([I (n : Int)] :: t) i acc = _
      have e : (cI [I (n : Int)] 0).toNat = n := rfl
      rw [gvGo_cons, e, if_neg (fun h => by have := one_of9 h.1 hn; omega), if_pos hs, if_neg (fun h => h0 h.1 h.2)]
      rfl
    · have h9 : i ≤ 8 := by
        by_cases h : i = 9
        · have := one_of9 h hn; omega
        · omega
      rw [uB_big (by omega)]
      show gvGo ([I ((n % 128 + 128 : Nat) : Int)] :: (rowsB (uB (n / 128)) ++ t)) i acc = _
      have e : (cI [I ((n % 128 + 128 : Nat) : Int)] 0).toNat = n % 128 + 128 := rfl
      have hsp := split128 n (2 ^ (7 * i))
      have hlt : n / 128 * 2 ^ (7 * (i + 1)) < 18446744073709551616 := by rw [pow7]; omega
      rw [gvGo_cons, e, if_neg (by omega), if_neg (by omega), ih (n / 128) (by omega) (i + 1) _ t (by omega) hlt (by omega), pow7]
      refine Prod.ext ?_ (Prod.ext ?_ rfl)
      · show acc + (n % 128 + 128 - 128) * 2 ^ (7 * i) + n / 128 * (128 * 2 ^ (7 * i)) = acc + n * 2 ^ (7 * i)
        rw [Nat.add_sub_cancel, Nat.add_assoc, hsp]
      · simp; omega
theorem gvGo_cut : ∀ (n i acc : Nat) (s t : Rws), i ≤ 9 → n * 2 ^ (7 * i) < 18446744073709551616 → t ≠ [] → s ++ t = rowsB (uB n) → gvGo s i acc = (0, 0, 40) := by
  intro n
  induction n using Nat.strongRecOn with
  | _ n ih =>
    intro i acc s t hi hn ht h
    cases s with
    | nil => rfl
    | cons r s =>
      by_cases hs : n < 128
      · rw [uB_small hs] at h
        have h : r :: (s ++ t) = [[I (n : Int)]] := h
        injection h with _ h
        have := (List.append_eq_nil_iff.1 h).2
        exact absurd this ht
      · have h9 : i ≤ 8 := by
          by_cases h : i = 9
          · have := one_of9 h hn; omega
          · omega
        rw [uB_big (by omega)] at h
        have h : r :: (s ++ t) = [I ((n % 128 + 128 : Nat) : Int)] :: rowsB (uB (n / 128)) := h
        injection h with h1 h2
        subst h1
        have e : (cI [I ((n % 128 + 128 : Nat) : Int)] 0).toNat = n % 128 + 128 := rfl
        have hsp := split128 n (2 ^ (7 * i))
        have hlt : n / 128 * 2 ^ (7 * (i + 1)) < 18446744073709551616 := by rw [pow7]; omega
        rw [gvGo_cons, e, if_neg (by omega), if_neg (by omega)]
        exact ih (n / 128) (by omega) (i + 1) _ s t (by omega) hlt ht h2
/-- What is laid down as e is read as a; cut short it is refused. -/
structure Cd {α ε : Type} (f : Rws → Except ε (α × Rws)) (e : Rws) (a : α) (bad : ε → Prop) : Prop where
  fwd : ∀ t, f (e ++ t) = .ok (a, t)
  cut : ∀ s t, t ≠ [] → s ++ t = e → ∃ x, f s = .error x ∧ bad x
theorem rdU_cd {max n : Nat} (hm : n ≤ max) (hn : n < 18446744073709551616) : Cd (rdU max) (rowsB (uB n)) n (fun e => e = 40) where
  fwd := fun t => by
    have h := gvGo_fwd n 0 0 t (by omega) (by simpa using hn) (by omega)
    have h : gv (rowsB (uB n) ++ t) = (n, (uB n).length, 0) := by
      unfold gv; rw [h]; simp
    unfold rdU
    rw [h, if_neg (by simp), if_neg (by simpa using hm)]
    rw [show (n, (uB n).length, (0 : Int)).2.1 = (rowsB (uB n)).length by simp [rowsB_len], List.drop_left]
  cut := fun s t ht h => by
    have h2 : gv s = (0, 0, 40) := gvGo_cut n 0 0 s t (by omega) (by simpa using hn) ht h
    exact ⟨40, by unfold rdU; rw [h2]; rfl, rfl⟩
theorem app_cut {s t e1 e2 : Rws} (ht : t ≠ []) (h : s ++ t = e1 ++ e2) : (∃ t', t' ≠ [] ∧ s ++ t' = e1) ∨ ∃ s2, s = e1 ++ s2 ∧ s2 ++ t = e2 := by
  rcases List.append_eq_append_iff.1 h with ⟨x, h1, h2⟩ | ⟨x, h1, h2⟩
  · by_cases hx : x = []
    · subst hx
      exact .inr ⟨[], by simpa using h1.symm, by simpa using h2⟩
    · exact .inl ⟨x, hx, h1.symm⟩
  · exact .inr ⟨x, h1, h2.symm⟩
theorem andE_cd {α β : Type} {f : Rws → Except Int (α × Rws)} {g : α → Rws → Except Int (β × Rws)} {e1 e2 : Rws} {a : α} {b : β} {bad : Int → Prop} (h1 : Cd f e1 a bad) (h2 : Cd (g a) e2 b bad) : Cd (fun l => andE (f l) g) (e1 ++ e2) b bad where
  fwd := fun t => by
    show andE (f (e1 ++ e2 ++ t)) g = _
    rw [List.append_assoc, h1.fwd]
    exact h2.fwd t
  cut := fun s t ht h => by
    rcases app_cut ht h with ⟨t', h3, h4⟩ | ⟨s2, rfl, h3⟩
    · obtain ⟨x, h5, h6⟩ := h1.cut s t' h3 h4
      exact ⟨x, by show andE (f s) g = _; rw [h5]; rfl, h6⟩
    · obtain ⟨x, h5, h6⟩ := h2.cut s2 t ht h3
      exact ⟨x, by show andE (f (e1 ++ s2)) g = _; rw [h1.fwd]; exact h5, h6⟩
theorem ret_cd {α : Type} (a : α) (bad : Int → Prop) : Cd (fun r => (.ok (a, r) : Except Int (α × Rws))) [] a bad where
  fwd := fun t => rfl
  cut := fun s t ht h => absurd (List.append_eq_nil_iff.1 h).2 ht
theorem unz_zz {x : Int} (h : in64 x) : unz (zz x) = x := by
  unfold unz zz
  split <;> split <;> omega
theorem rdS_cd {x : Int} (h : in64 x) : Cd rdS (rowsB (uB (zz x))) x (fun e => e = 40) where
  fwd := fun t => by
    have hz := zz_lt h.1 h.2
    unfold rdS
    rw [(rdU_cd (max := 18446744073709551615) (n := zz x) (by omega) hz).fwd t]
    show Except.ok (unz (zz x), t) = _
    rw [unz_zz h]
  cut := fun s t ht h' => by
    have hz := zz_lt h.1 h.2
    obtain ⟨e, h1, h2⟩ := (rdU_cd (max := 18446744073709551615) (n := zz x) (by omega) hz).cut s t ht h'
    exact ⟨e, by unfold rdS; rw [h1], h2⟩
theorem Cd.cast {α ε : Type} {f : Rws → Except ε (α × Rws)} {e e' : Rws} {a a' : α} {bad : ε → Prop} (h : Cd f e a bad) (he : e = e') (ha : a = a') : Cd f e' a' bad := by subst he ha; exact h
theorem rdSp_cd {r : List AV} (h0 : in64 (cI r 0)) (h1 : in64 (cI r 1)) : Cd rdSp (rowsB (spB r)) (cI r 0, cI r 1) (fun e => e = 40) :=
  (andE_cd (g := fun lo r => andE (rdS r) fun hi r => .ok ((lo, hi), r)) (rdS_cd h0) (andE_cd (g := fun hi q => .ok ((cI r 0, hi), q)) (rdS_cd h1) (ret_cd _ _))).cast (by simp [spB, rowsB_app]) rfl
end Go.Proofs.Ytpoakneeceaooaa.VX

set_option linter.unusedVariables false
set_option linter.unusedSimpArgs false
namespace Go.Proofs.Ytpoakneeceaooaa.VX
theorem rdV_cd {n : Nat} (h : n ≤ 2147483647) : Cd rdV (rowsB (uB n)) n (fun e => e = 40) :=
  (andE_cd (g := fun v q => if 2147483647 < v then .error 41 else .ok (v, q)) (rdU_cd (max := 18446744073709551615) (by omega) (by omega)) (b := n) (e2 := []) ⟨fun t => if_neg (by omega), fun s t ht h => absurd (List.append_eq_nil_iff.1 h).2 ht⟩).cast (by simp) rfl
/-- A channel as it is read. -/
def chV (r : List AV) : List AV := [I (cI r 0), I (cI r 1), I (cI r 2), I (cI r 3), I (cI r 4), I (cI r 5)]
theorem uI_nat {x : Int} (h : 0 ≤ x) (h' : x ≤ 18446744073709551615) : uI x = uB x.toNat := by unfold uI; rw [wrapu64_in h h']
theorem rdCh_cd {r : List AV} (hb : badCh r = false) (hn : ∀ j, in64 (cI r j)) : Cd rdCh (rowsB (chB r)) (chV r) (fun e => e = 40) := by
  have hk : 0 ≤ cI r 0 ∧ cI r 0 ≤ 2147483647 ∧ 0 ≤ cI r 1 ∧ cI r 1 ≤ 2147483647 := by
    unfold badCh at hb
    simpa using hb
  have hs : Cd rdSp (rowsB (uB (zz (cI r 2)) ++ uB (zz (cI r 3)))) (cI r 2, cI r 3) (fun e => e = 40) :=
    (rdSp_cd (r := [I (cI r 2), I (cI r 3)]) (hn 2) (hn 3))
  have ht : Cd rdSp (rowsB (uB (zz (cI r 4)) ++ uB (zz (cI r 5)))) (cI r 4, cI r 5) (fun e => e = 40) :=
    (rdSp_cd (r := [I (cI r 4), I (cI r 5)]) (hn 4) (hn 5))
  have h1 := rdV_cd (n := (cI r 0).toNat) (by omega)
  have h2 := rdV_cd (n := (cI r 1).toNat) (by omega)
  have e0 : (((cI r 0).toNat : Nat) : Int) = cI r 0 := by omega
  have e1 : (((cI r 1).toNat : Nat) : Int) = cI r 1 := by omega
  refine (andE_cd (g := fun (a : Nat) q => andE (rdV q) fun (b : Nat) q => andE (rdSp q) fun s q => andE (rdSp q) fun t q => .ok ([I (a : Int), I (b : Int), I s.1, I s.2, I t.1, I t.2], q)) h1
    (andE_cd (g := fun (b : Nat) q => andE (rdSp q) fun s q => andE (rdSp q) fun t q => .ok ([I (((cI r 0).toNat : Nat) : Int), I (b : Int), I s.1, I s.2, I t.1, I t.2], q)) h2
      (andE_cd (g := fun s q => andE (rdSp q) fun t q => .ok ([I (((cI r 0).toNat : Nat) : Int), I (((cI r 1).toNat : Nat) : Int), I s.1, I s.2, I t.1, I t.2], q)) hs
        (andE_cd (g := fun t q => .ok ([I (((cI r 0).toNat : Nat) : Int), I (((cI r 1).toNat : Nat) : Int), I (cI r 2), I (cI r 3), I t.1, I t.2], q)) ht (ret_cd _ _))))).cast ?_ ?_
  · simp only [chB, rowsB_app, uI_nat hk.1 (by omega), uI_nat hk.2.2.1 (by omega), List.append_assoc, List.append_nil]
  · simp only [chV, e0, e1]
theorem rdMany_cd {X α ε : Type} {f : Rws → Except ε (α × Rws)} {enc : X → List Nat} {val : X → α} {bad : ε → Prop} : ∀ {xs : List X}, (∀ x ∈ xs, Cd f (rowsB (enc x)) (val x) bad) → Cd (rdMany f xs.length) (rowsB (xs.flatMap enc)) (xs.map val) (fun p => bad p.1)
  | [], _ => ⟨fun t => rfl, fun s t ht h => absurd (List.append_eq_nil_iff.1 h).2 ht⟩
  | x :: xs, h => by
    have hx := h x (List.mem_cons_self ..)
    have hr := rdMany_cd (xs := xs) fun y hy => h y (List.mem_cons_of_mem _ hy)
    constructor
    · intro t
      rw [List.length_cons, rdMany_succ, List.flatMap_cons, rowsB_app, List.append_assoc, hx.fwd]
      dsimp only
      rw [hr.fwd]
      rfl
    · intro s t ht he
      rw [List.flatMap_cons, rowsB_app] at he
      rw [List.length_cons, rdMany_succ]
      rcases app_cut ht he with ⟨t', h3, h4⟩ | ⟨s2, rfl, h3⟩
      · obtain ⟨e, h5, h6⟩ := hx.cut s t' h3 h4
        exact ⟨(e, 0), by rw [h5], h6⟩
      · obtain ⟨⟨e, k⟩, h5, h6⟩ := hr.cut s2 t ht h3
        exact ⟨(e, k + 1), by rw [hx.fwd]; dsimp only; rw [h5], h6⟩
theorem uI_len' {n : Nat} (h : n ≤ 18446744073709551615) : uI (n : Int) = uB n := by rw [uI_nat (by omega) (by omega), Int.toNat_natCast]
theorem rdList_cd {r : List AV} (hl : (cR r 0).length ≤ 1024) (hb : ∀ c ∈ cR r 0, badCh c = false) (hn : num (cR r 0)) : Cd rdList (rowsB (plB r)) ((cR r 0).map chV) (fun p => p.1 = 40) := by
  have h1 := rdU_cd (max := 1024) (n := (cR r 0).length) hl (by omega)
  have h2 := rdMany_cd (xs := cR r 0) (f := rdCh) (enc := chB) (val := chV) fun c hc => rdCh_cd (hb c hc) (hn c hc)
  have he : rowsB (plB r) = rowsB (uB (cR r 0).length) ++ rowsB ((cR r 0).flatMap chB) := by
    unfold plB
    rw [uI_len' (by omega), rowsB_app]
  constructor
  · intro t
    rw [he, List.append_assoc]
    unfold rdList
    rw [h1.fwd]
    dsimp only
    rw [h2.fwd]
  · intro s t ht h
    rw [he] at h
    unfold rdList
    rcases app_cut ht h with ⟨t', h3, h4⟩ | ⟨s2, rfl, h3⟩
    · obtain ⟨e, h5, h6⟩ := h1.cut s t' h3 h4
      exact ⟨(e, 0), by rw [h5], h6⟩
    · obtain ⟨⟨e, k⟩, h5, h6⟩ := h2.cut s2 t ht h3
      exact ⟨(e, k + 1), by rw [h1.fwd]; dsimp only; rw [h5], h6⟩
def spV (r : List AV) : List AV := [I (cI r 0), I (cI r 1)]
theorem rdSpR_cd {r : List AV} (h : ∀ j, in64 (cI r j)) : Cd rdSpR (rowsB (spB r)) (spV r) (fun e => e = 40) :=
  (andE_cd (g := fun (s : Int × Int) q => .ok ([I s.1, I s.2], q)) (rdSp_cd (r := r) (h 0) (h 1)) (ret_cd _ _)).cast (by simp) rfl
/-- What stands behind the magic. -/
def bodyB (sp pl : Rws) : List Nat := uB sp.length ++ (sp.flatMap spB ++ (uB pl.length ++ pl.flatMap plB))
theorem body_ok {sp pl : Rws} (hF : Fine sp pl) (hz : (hd sp pl).1 = 0) : (∀ t, body (rowsB (bodyB sp pl) ++ t) = if t.length = 0 then .ok (sp.map spV, pl.map fun r => (cR r 0).map chV) else .error (43, 0, 0)) ∧
    ∀ s t, t ≠ [] → s ++ t = rowsB (bodyB sp pl) → ∃ i k, body s = .error (40, i, k) := by
  obtain ⟨_, hA, hB, hC⟩ := hd_ok hz
  have h1 := rdU_cd (max := 65) (n := sp.length) hA (by omega)
  have h2 := rdMany_cd (xs := sp) (f := rdSpR) (enc := spB) (val := spV) fun c hc => rdSpR_cd (hF.sp c hc)
  have h3 := rdU_cd (max := 64) (n := pl.length) hB (by omega)
  have h4 := rdMany_cd (xs := pl) (f := rdList) (enc := plB) (val := fun r => (cR r 0).map chV) fun r hr => rdList_cd (hC r hr).1 (hC r hr).2 (hF.pl r hr)
  have he : rowsB (bodyB sp pl) = rowsB (uB sp.length) ++ (rowsB (sp.flatMap spB) ++ (rowsB (uB pl.length) ++ rowsB (pl.flatMap plB))) := by
    simp only [bodyB, rowsB_app]
  constructor
  · intro t
    rw [he, List.append_assoc, List.append_assoc, List.append_assoc]
    unfold body
    rw [h1.fwd]
    dsimp only
    rw [h2.fwd]
    dsimp only
    rw [h3.fwd]
    dsimp only
    rw [h4.fwd]
  · intro s t ht h
    rw [he] at h
    unfold body
    rcases app_cut ht h with ⟨t', q1, q2⟩ | ⟨s2, rfl, k2⟩
    · obtain ⟨e, q3, rfl⟩ := h1.cut s t' q1 q2
      exact ⟨0, 0, by rw [q3]⟩
    rw [h1.fwd]
    dsimp only
    rcases app_cut ht k2 with ⟨t', q1, q2⟩ | ⟨s3, rfl, k3⟩
    · obtain ⟨⟨e, k⟩, q3, q4⟩ := h2.cut s2 t' q1 q2
      have q4 : e = 40 := q4
      subst q4
      exact ⟨0, 0, by rw [q3]⟩
    rw [h2.fwd]
    dsimp only
    rcases app_cut ht k3 with ⟨t', q1, q2⟩ | ⟨s4, rfl, k4⟩
    · obtain ⟨e, q3, rfl⟩ := h3.cut s3 t' q1 q2
      exact ⟨0, 0, by rw [q3]⟩
    rw [h3.fwd]
    dsimp only
    obtain ⟨⟨⟨e, k⟩, i⟩, q3, q4⟩ := h4.cut s4 t ht k4
    have q4 : e = 40 := q4
    subst q4
    exact ⟨i + 1, k, by rw [q3]⟩
theorem encB_body {sp pl : Rws} (hF : Fine sp pl) : rowsB (encB sp pl) = [I 83] :: [I 87] :: [I 67] :: [I 49] :: rowsB (bodyB sp pl) := by
  have hA := hF.a
  have hB := hF.b
  have e : encB sp pl = [83, 87, 67, 49] ++ bodyB sp pl := by
    unfold encB bodyB
    rw [uI_len' (by omega), uI_len' (by omega)]
    simp only [List.append_assoc]
  rw [e, rowsB_app]
  rfl
theorem magic_go (r : Rws) : magic ([I 83] :: [I 87] :: [I 67] :: [I 49] :: r) = true := rfl
theorem dec_go (r : Rws) : dec ([I 83] :: [I 87] :: [I 67] :: [I 49] :: r) = body r := by
  unfold dec
  rw [if_neg (by simp), if_pos (magic_go r)]
  rfl
theorem dec_fwd {sp pl : Rws} (hF : Fine sp pl) (hz : (hd sp pl).1 = 0) (t : Rws) : dec (rowsB (encB sp pl) ++ t) = if t.length = 0 then .ok (sp.map spV, pl.map fun r => (cR r 0).map chV) else .error (43, 0, 0) := by
  rw [encB_body hF]
  exact (dec_go _).trans ((body_ok hF hz).1 t)
theorem dec_cut {sp pl : Rws} (hF : Fine sp pl) (hz : (hd sp pl).1 = 0) {s t : Rws} (ht : t ≠ []) (h : s ++ t = rowsB (encB sp pl)) : ∃ i k, dec s = .error (40, i, k) := by
  rw [encB_body hF] at h
  match s, h with
  | [], _ => exact ⟨0, 0, rfl⟩
  | [_], _ => exact ⟨0, 0, rfl⟩
  | [_, _], _ => exact ⟨0, 0, rfl⟩
  | [_, _, _], _ => exact ⟨0, 0, rfl⟩
  | a :: b :: c :: d :: s, h =>
    injection h with h1 h
    injection h with h2 h
    injection h with h3 h
    injection h with h4 h
    subst h1 h2 h3 h4
    rw [dec_go]
    exact (body_ok hF hz).2 s t ht h
end Go.Proofs.Ytpoakneeceaooaa.VX

set_option linter.unusedVariables false
set_option linter.unusedSimpArgs false
namespace Go.Proofs.Ytpoakneeceaooaa.VX
theorem uB_lt : ∀ (n : Nat), ∀ b ∈ uB n, b < 256 := by
  intro n
  induction n using Nat.strongRecOn with
  | _ n ih =>
    intro b hb
    by_cases h : n < 128
    · rw [uB_small h] at hb
      simp at hb
      omega
    · rw [uB_big (by omega)] at hb
      rcases List.mem_cons.1 hb with rfl | hb
      · omega
      · exact ih (n / 128) (by omega) b hb
theorem uI_lt (x : Int) : ∀ b ∈ uI x, b < 256 := uB_lt _
theorem encB_lt (sp pl : Rws) : ∀ b ∈ encB sp pl, b < 256 := by
  intro b hb
  simp only [encB, List.mem_append, List.mem_flatMap] at hb
  rcases hb with ((((hb | hb) | ⟨r, _, hb⟩) | hb) | ⟨r, _, hb⟩)
  · simp at hb; omega
  · exact uI_lt _ b hb
  · simp only [spB, List.mem_append] at hb
    rcases hb with hb | hb <;> exact uB_lt _ b hb
  · exact uI_lt _ b hb
  · simp only [plB, List.mem_append, List.mem_flatMap] at hb
    rcases hb with hb | ⟨c, _, hb⟩
    · exact uI_lt _ b hb
    · simp only [chB, List.mem_append] at hb
      rcases hb with ((hb | hb) | (hb | hb)) | (hb | hb) <;> first | exact uI_lt _ b hb | exact uB_lt _ b hb
theorem byt_rows {l : List Nat} (h : ∀ b ∈ l, b < 256) : byt (rowsB l) := by
  intro r hr
  simp only [rowsB, List.mem_map] at hr
  obtain ⟨b, hb, rfl⟩ := hr
  have := h b hb
  show 0 ≤ (b : Int) ∧ (b : Int) ≤ 255
  omega
theorem byt_app {l m : Rws} (h : byt l) (h' : byt m) : byt (l ++ m) := fun r hr => by
  rcases List.mem_append.1 hr with hr | hr
  · exact h r hr
  · exact h' r hr
end Go.Proofs.Ytpoakneeceaooaa.VX

set_option linter.unusedVariables false
set_option linter.unusedSimpArgs false
namespace Go.Proofs.Ytpoakneeceaooaa.VX
/-- Rows of one byte each. -/
def byr (l : Rws) : Prop := ∀ r ∈ l, r = [I (cI r 0)] ∧ 0 ≤ cI r 0 ∧ cI r 0 ≤ 255
theorem byr.byt {l : Rws} (h : byr l) : byt l := fun r hr => (h r hr).2
theorem byr.app {e l r : Rws} (h : byr l) (he : l = e ++ r) : byr r := fun x hx => h x (by rw [he]; simp [hx])
theorem gvGo_inv : ∀ {l : Rws} {i acc v n : Nat}, byr l → gvGo l i acc = (v, n, 0) → ∃ m, v = acc + m * 2 ^ (7 * i) ∧ (0 < i → m ≠ 0) ∧ l = rowsB (uB m) ++ l.drop (n - i) ∧ i < n
  | [], i, acc, v, n, _, h => by simp [gvGo] at h
  | r :: rest, i, acc, v, n, hb, h => by
    obtain ⟨hr, h0, h255⟩ := hb r (List.mem_cons_self ..)
    have hrow : r = [I (((cI r 0).toNat : Nat) : Int)] := by rw [Int.toNat_of_nonneg h0]; exact hr
    have hbn : (cI r 0).toNat ≤ 255 := by omega
    rw [gvGo_cons] at h
    generalize (cI r 0).toNat = b at h hrow hbn
    subst hrow
    split at h
    · simp at h
    · split at h
      · split at h
        · simp at h
        · rename_i hlt hz
          simp only [Prod.mk.injEq] at h
          obtain ⟨rfl, rfl, _⟩ := h
          refine ⟨b, rfl, fun hi hb0 => hz ⟨hi, hb0⟩, ?_, by omega⟩
          rw [uB_small hlt, show i + 1 - i = 1 by omega]
          rfl
      · rename_i hge
        obtain ⟨m, q1, q2, q3, q4⟩ := gvGo_inv (fun x hx => hb x (List.mem_cons_of_mem _ hx)) h
        have hm := q2 (by omega)
        refine ⟨b - 128 + 128 * m, ?_, fun _ => by omega, ?_, by omega⟩
        · rw [q1, pow7, Nat.add_mul, Nat.add_assoc]
          congr 2
          rw [← Nat.mul_assoc, Nat.mul_comm m 128]
        · rw [uB_big (n := b - 128 + 128 * m) (by omega), show (b - 128 + 128 * m) % 128 + 128 = b by omega, show (b - 128 + 128 * m) / 128 = m by omega, show n - i = (n - (i + 1)) + 1 by omega]
          show [I (b : Int)] :: rest = [I (b : Int)] :: (rowsB (uB m) ++ rest.drop (n - (i + 1)))
          rw [← q3]
theorem rdU_inv {max v : Nat} {l r : Rws} (hb : byr l) (h : rdU max l = .ok (v, r)) : l = rowsB (uB v) ++ r ∧ v ≤ max ∧ v < 18446744073709551616 := by
  have h2 := rdU_ok hb.byt h
  refine ⟨?_, h2.1, h2.2.1⟩
  unfold rdU at h
  split at h
  · cases h
  · rename_i h1
    split at h
    · cases h
    · simp only [Except.ok.injEq, Prod.mk.injEq] at h
      obtain ⟨rfl, rfl⟩ := h
      obtain ⟨m, q1, _, q3, _⟩ := gvGo_inv (l := l) (i := 0) (acc := 0) (v := (gv l).1) (n := (gv l).2.1) hb (by show gv l = _; rw [← show (gv l).2.2 = 0 by omega])
      have : (gv l).1 = m := by rw [q1]; simp
      rw [this]
      exact q3
theorem zz_unz {v : Nat} (h : v < 18446744073709551616) : zz (unz v) = v ∧ in64 (unz v) := by
  unfold unz
  split
  · constructor
    · unfold zz; rw [if_pos (by omega)]; omega
    · unfold in64; omega
  · constructor
    · unfold zz; rw [if_neg (by omega)]; omega
    · unfold in64; omega
theorem rdS_inv {x : Int} {l r : Rws} (hb : byr l) (h : rdS l = .ok (x, r)) : l = rowsB (uB (zz x)) ++ r ∧ in64 x := by
  unfold rdS at h
  cases hr : rdU 18446744073709551615 l with
  | error e => rw [hr] at h; cases h
  | ok p =>
    obtain ⟨v, r'⟩ := p
    rw [hr] at h
    simp only [Except.ok.injEq, Prod.mk.injEq] at h
    obtain ⟨rfl, rfl⟩ := h
    obtain ⟨q1, _, q3⟩ := rdU_inv hb hr
    obtain ⟨z1, z2⟩ := zz_unz q3
    exact ⟨by rw [z1]; exact q1, z2⟩
theorem andE_inv {α β : Type} {x : Except Int (α × Rws)} {f : α → Rws → Except Int (β × Rws)} {y : β × Rws} (h : andE x f = .ok y) : ∃ a r, x = .ok (a, r) ∧ f a r = .ok y := by
  cases x with
  | error e => cases h
  | ok p => exact ⟨p.1, p.2, rfl, h⟩
theorem rdSp_inv {s : Int × Int} {l r : Rws} (hb : byr l) (h : rdSp l = .ok (s, r)) : l = rowsB (uB (zz s.1) ++ uB (zz s.2)) ++ r ∧ in64 s.1 ∧ in64 s.2 := by
  obtain ⟨lo, r1, h1, h⟩ := andE_inv h
  obtain ⟨hi, r2, h2, h⟩ := andE_inv h
  simp only [Except.ok.injEq, Prod.mk.injEq] at h
  obtain ⟨rfl, rfl⟩ := h
  obtain ⟨q1, q2⟩ := rdS_inv hb h1
  obtain ⟨q3, q4⟩ := rdS_inv (hb.app q1) h2
  refine ⟨?_, q2, q4⟩
  rw [rowsB_app, List.append_assoc, ← q3]
  exact q1
theorem rdV_inv {v : Nat} {l r : Rws} (hb : byr l) (h : rdV l = .ok (v, r)) : l = rowsB (uB v) ++ r ∧ v ≤ 2147483647 := by
  obtain ⟨w, r1, h1, h⟩ := andE_inv h
  split at h
  · cases h
  · simp only [Except.ok.injEq, Prod.mk.injEq] at h
    obtain ⟨rfl, rfl⟩ := h
    exact ⟨(rdU_inv hb h1).1, by omega⟩
/-- A channel that may be written. -/
def goodCh (c : List AV) : Prop := badCh c = false ∧ ∀ j, in64 (cI c j)
theorem in64_z : in64 0 := by unfold in64; omega
theorem rdCh_inv {c : List AV} {l r : Rws} (hb : byr l) (h : rdCh l = .ok (c, r)) : l = rowsB (chB c) ++ r ∧ goodCh c := by
  obtain ⟨a, r1, h1, h⟩ := andE_inv h
  obtain ⟨b, r2, h2, h⟩ := andE_inv h
  obtain ⟨s, r3, h3, h⟩ := andE_inv h
  obtain ⟨t, r4, h4, h⟩ := andE_inv h
  simp only [Except.ok.injEq, Prod.mk.injEq] at h
  obtain ⟨rfl, rfl⟩ := h
  obtain ⟨q1, b1⟩ := rdV_inv hb h1
  have hb1 := hb.app q1
  obtain ⟨q2, b2⟩ := rdV_inv hb1 h2
  have hb2 := hb1.app q2
  obtain ⟨q3, b3⟩ := rdSp_inv hb2 h3
  have hb3 := hb2.app q3
  obtain ⟨q4, b4⟩ := rdSp_inv hb3 h4
  refine ⟨?_, ?_, fun j => ?_⟩
  · have e : chB [I (a : Int), I (b : Int), I s.1, I s.2, I t.1, I t.2] = uB a ++ uB b ++ (uB (zz s.1) ++ uB (zz s.2)) ++ (uB (zz t.1) ++ uB (zz t.2)) := by
      show uI (a : Int) ++ uI (b : Int) ++ _ ++ _ = _
      rw [uI_len' (by omega), uI_len' (by omega)]
      rfl
    rw [e, rowsB_app, rowsB_app, rowsB_app, List.append_assoc, List.append_assoc, List.append_assoc, ← q4, ← q3, ← q2]
    exact q1
  · show (!(decide (0 ≤ (a : Int) ∧ (a : Int) ≤ 2147483647 ∧ 0 ≤ (b : Int) ∧ (b : Int) ≤ 2147483647))) = false
    simp
    omega
  · match j with
    | 0 => show in64 (a : Int); unfold in64; omega
    | 1 => show in64 (b : Int); unfold in64; omega
    | 2 => exact b3.1
    | 3 => exact b3.2
    | 4 => exact b4.1
    | 5 => exact b4.2
    | j + 6 => exact in64_z
theorem rdMany_inv {α ε : Type} {f : Rws → Except ε (α × Rws)} {enc : α → List Nat} {P : α → Prop} (hf : ∀ {l r : Rws} {a : α}, byr l → f l = .ok (a, r) → l = rowsB (enc a) ++ r ∧ P a) : ∀ {n : Nat} {l r : Rws} {xs : List α}, byr l → rdMany f n l = .ok (xs, r) → l = rowsB (xs.flatMap enc) ++ r ∧ xs.length = n ∧ ∀ x ∈ xs, P x
  | 0, l, r, xs, _, h => by
    simp only [rdMany, Except.ok.injEq, Prod.mk.injEq] at h
    obtain ⟨rfl, rfl⟩ := h
    exact ⟨by simp [rowsB], rfl, by simp⟩
  | n + 1, l, r, xs, hb, h => by
    rw [rdMany_succ] at h
    cases h1 : f l with
    | error e => rw [h1] at h; cases h
    | ok p =>
      obtain ⟨a, r1⟩ := p
      rw [h1] at h
      dsimp only at h
      obtain ⟨q1, q2⟩ := hf hb h1
      cases h2 : rdMany f n r1 with
      | error e => rw [h2] at h; cases h
      | ok p =>
        obtain ⟨ys, r2⟩ := p
        rw [h2] at h
        simp only [Except.ok.injEq, Prod.mk.injEq] at h
        obtain ⟨rfl, rfl⟩ := h
        obtain ⟨z1, z2, z3⟩ := rdMany_inv hf (hb.app q1) h2
        refine ⟨?_, by simp [z2], fun x hx => ?_⟩
        · rw [List.flatMap_cons, rowsB_app, List.append_assoc, ← z1]
          exact q1
        · rcases List.mem_cons.1 hx with rfl | hx
          · exact q2
          · exact z3 x hx
def listB (cs : Rws) : List Nat := uB cs.length ++ cs.flatMap chB
theorem rdList_inv {cs l r : Rws} (hb : byr l) (h : rdList l = .ok (cs, r)) : l = rowsB (listB cs) ++ r ∧ cs.length ≤ 1024 ∧ ∀ c ∈ cs, goodCh c := by
  unfold rdList at h
  cases h1 : rdU 1024 l with
  | error e => rw [h1] at h; cases h
  | ok p =>
    obtain ⟨n, r1⟩ := p
    rw [h1] at h
    dsimp only at h
    obtain ⟨q1, q2, _⟩ := rdU_inv hb h1
    cases h2 : rdMany rdCh n r1 with
    | error e => rw [h2] at h; cases h
    | ok p =>
      obtain ⟨ys, r2⟩ := p
      rw [h2] at h
      simp only [Except.ok.injEq, Prod.mk.injEq] at h
      obtain ⟨rfl, rfl⟩ := h
      obtain ⟨z1, z2, z3⟩ := rdMany_inv (enc := chB) (P := goodCh) (fun hb h => rdCh_inv hb h) (hb.app q1) h2
      refine ⟨?_, by omega, z3⟩
      unfold listB
      rw [rowsB_app, List.append_assoc, ← z1, z2]
      exact q1
theorem rdSpR_inv {s : List AV} {l r : Rws} (hb : byr l) (h : rdSpR l = .ok (s, r)) : l = rowsB (spB s) ++ r ∧ ∀ j, in64 (cI s j) := by
  obtain ⟨x, r1, h1, h⟩ := andE_inv h
  simp only [Except.ok.injEq, Prod.mk.injEq] at h
  obtain ⟨rfl, rfl⟩ := h
  obtain ⟨q1, q2, q3⟩ := rdSp_inv hb h1
  refine ⟨q1, fun j => ?_⟩
  match j with
  | 0 => exact q2
  | 1 => exact q3
  | j + 2 => exact in64_z
theorem body_inv {sp : Rws} {pls : List Rws} {l : Rws} (hb : byr l) (h : body l = .ok (sp, pls)) : l = rowsB (uB sp.length ++ (sp.flatMap spB ++ (uB pls.length ++ pls.flatMap listB))) ∧ sp.length ≤ 65 ∧ num sp ∧ pls.length ≤ 64 ∧ ∀ cs ∈ pls, cs.length ≤ 1024 ∧ ∀ c ∈ cs, goodCh c := by
  unfold body at h
  cases h1 : rdU 65 l with
  | error e => rw [h1] at h; cases h
  | ok p =>
  obtain ⟨n, r1⟩ := p
  rw [h1] at h
  dsimp only at h
  obtain ⟨q1, q2, _⟩ := rdU_inv hb h1
  have hb1 := hb.app q1
  cases h2 : rdMany rdSpR n r1 with
  | error e => rw [h2] at h; cases h
  | ok p =>
  obtain ⟨xs, r2⟩ := p
  rw [h2] at h
  dsimp only at h
  obtain ⟨z1, z2, z3⟩ := rdMany_inv (enc := spB) (P := fun s => ∀ j, in64 (cI s j)) (fun hb h => rdSpR_inv hb h) hb1 h2
  have hb2 := hb1.app z1
  cases h3 : rdU 64 r2 with
  | error e => rw [h3] at h; cases h
  | ok p =>
  obtain ⟨m, r3⟩ := p
  rw [h3] at h
  dsimp only at h
  obtain ⟨y1, y2, _⟩ := rdU_inv hb2 h3
  have hb3 := hb2.app y1
  cases h4 : rdMany rdList m r3 with
  | error e => obtain ⟨⟨e, k⟩, i⟩ := e; rw [h4] at h; cases h
  | ok p =>
  obtain ⟨ys, r4⟩ := p
  rw [h4] at h
  dsimp only at h
  obtain ⟨x1, x2, x3⟩ := rdMany_inv (enc := listB) (P := fun cs => cs.length ≤ 1024 ∧ ∀ c ∈ cs, goodCh c) (fun hb h => rdList_inv hb h) hb3 h4
  split at h
  · rename_i hr
    simp only [Except.ok.injEq, Prod.mk.injEq] at h
    obtain ⟨rfl, rfl⟩ := h
    have hr : r4 = [] := List.length_eq_zero_iff.1 hr
    subst hr
    refine ⟨?_, by omega, z3, by omega, x3⟩
    rw [List.append_nil] at x1
    rw [rowsB_app, rowsB_app, rowsB_app, ← x1, x2, ← y1, ← z1, z2]
    exact q1
  · cases h
end Go.Proofs.Ytpoakneeceaooaa.VX

set_option linter.unusedVariables false
set_option linter.unusedSimpArgs false
namespace Go.Proofs.Ytpoakneeceaooaa.VX
theorem hdGo_good : ∀ {pl : Rws} {i : Nat}, (∀ r ∈ pl, (cR r 0).length ≤ 1024 ∧ ∀ c ∈ cR r 0, badCh c = false) → hdGo pl i = (0, 0, 0)
  | [], _, _ => rfl
  | r :: pl, i, h => by
    obtain ⟨h1, h2⟩ := h r (List.mem_cons_self ..)
    have hn : (cR r 0).findIdx? badCh = none := by rw [List.findIdx?_eq_none_iff]; exact h2
    rw [hdGo_cons, if_neg (by omega), hn]
    exact hdGo_good fun x hx => h x (List.mem_cons_of_mem _ hx)
theorem plB_list : ∀ {pl : Rws} {pls : List Rws}, plans pl = pls → (∀ cs ∈ pls, cs.length ≤ 1024) → pl.flatMap plB = pls.flatMap listB
  | [], pls, h, _ => by subst h; rfl
  | r :: pl, pls, h, hl => by
    subst h
    have h1 := hl (cR r 0) (by simp [plans])
    have h2 := plB_list (pl := pl) rfl (fun cs hc => hl cs (by simp only [plans, List.map_cons, List.mem_cons]; exact .inr hc))
    show plB r ++ pl.flatMap plB = listB (cR r 0) ++ (plans pl).flatMap listB
    rw [h2]
    unfold plB listB
    rw [uI_len' (by omega)]
theorem dec_inv {sp : Rws} {pls : List Rws} {l pl : Rws} (hb : byr l) (h : dec l = .ok (sp, pls)) (hp : plans pl = pls) : l = rowsB (encB sp pl) ∧ Fine sp pl ∧ (hd sp pl).1 = 0 := by
  unfold dec at h
  split at h
  · cases h
  · rename_i hlen
    split at h
    · rename_i hm
      have hbd : byr (l.drop 4) := fun r hr => hb r (List.mem_of_mem_drop hr)
      obtain ⟨q1, q2, q3, q4, q5⟩ := body_inv hbd h
      have hlp : pl.length = pls.length := by rw [← hp]; simp [plans]
      have hmem : ∀ r ∈ pl, cR r 0 ∈ pls := fun r hr => by rw [← hp]; exact List.mem_map.2 ⟨r, hr, rfl⟩
      refine ⟨?_, ⟨q2, by omega, fun r hr => (q5 _ (hmem r hr)).1, q3, fun r hr c hc => ((q5 _ (hmem r hr)).2 c hc).2⟩, ?_⟩
      · match l, hlen, hm, hb, q1 with
        | r0 :: r1 :: r2 :: r3 :: rest, _, hm, hb, q1 =>
          have h0 := (hb r0 (by simp)).1
          have h1 := (hb r1 (by simp)).1
          have h2 := (hb r2 (by simp)).1
          have h3 := (hb r3 (by simp)).1
          unfold magic at hm
          simp only [Bool.and_eq_true, beq_iff_eq] at hm
          obtain ⟨m0, m1, m2, m3⟩ := hm
          have m0 : cI r0 0 = 83 := m0
          have m1 : cI r1 0 = 87 := m1
          have m2 : cI r2 0 = 67 := m2
          have m3 : cI r3 0 = 49 := m3
          rw [m0] at h0
          rw [m1] at h1
          rw [m2] at h2
          rw [m3] at h3
          have q1 : rest = _ := q1
          have e : encB sp pl = [83, 87, 67, 49] ++ (uB sp.length ++ (sp.flatMap spB ++ (uB pls.length ++ pls.flatMap listB))) := by
            unfold encB
            rw [uI_len' (by omega), uI_len' (by omega), plB_list hp (fun cs hc => (q5 cs hc).1), hlp]
            simp only [List.append_assoc]
          rw [e, rowsB_app, ← q1, h0, h1, h2, h3]
          rfl
        | [], hlen, _, _, _ => exact absurd (by simp) hlen
        | [_], hlen, _, _, _ => exact absurd (by simp) hlen
        | [_, _], hlen, _, _, _ => exact absurd (by simp) hlen
        | [_, _, _], hlen, _, _, _ => exact absurd (by simp) hlen
      · unfold hd
        rw [if_neg (by omega), hdGo_good fun r hr => ⟨(q5 _ (hmem r hr)).1, fun c hc => ((q5 _ (hmem r hr)).2 c hc).1⟩]
    · cases h
theorem ri_map {f : List AV → List AV} {l : Rws} {i : Nat} (hi : i < l.length) (j : Nat) : ri (l.map f) i j = cI (f (l.getD i [])) j := by
  rw [ri_eq]
  simp [hi]
theorem cR_plans {pl : Rws} {i : Nat} (hi : i < pl.length) : cR (pl.getD i []) 0 = (plans pl).getD i [] := by
  simp [plans, hi]
end Go.Proofs.Ytpoakneeceaooaa.VX

set_option linter.unusedVariables false
set_option linter.unusedSimpArgs false
namespace Go.Proofs.Ytpoakneeceaooaa.VX
theorem gvGo_err : ∀ {l : Rws} {i acc : Nat}, (gvGo l i acc).2.2 ≠ 0 → (gvGo l i acc).1 = 0 ∧ (gvGo l i acc).2.1 = 0
  | [], _, _, _ => ⟨rfl, rfl⟩
  | r :: rest, i, acc, h => by
    rw [gvGo_cons] at h ⊢
    split
    · exact ⟨rfl, rfl⟩
    · rename_i h9
      rw [if_neg h9] at h
      split
      · rename_i h1
        rw [if_pos h1] at h
        split
        · exact ⟨rfl, rfl⟩
        · rename_i h2
          rw [if_neg h2] at h
          exact absurd rfl h
      · rename_i h1
        rw [if_neg h1] at h
        exact gvGo_err h
/-- Bytes that a machine holds. -/
structure Bl (l : Rws) : Prop where
  b : byt l
  n : l.length ≤ 140737488355328
theorem Bl.drop {l : Rws} (h : Bl l) (n : Nat) : Bl (l.drop n) := ⟨byt_drop h.b n, by have := h.n; simp; omega⟩
theorem drop_eq (l : Rws) (n : Nat) : List.take (((l.length : Int)) - (n : Int)).toNat (List.drop ((n : Int)).toNat l) = l.drop n := by
  rw [Int.toNat_natCast]
  exact List.take_of_length_le (by simp)
theorem gv_le {l : Rws} (h : Bl l) : (gv l).2.1 ≤ l.length := by
  by_cases he : (gv l).2.2 = 0
  · exact (gv_ok h.b (v := (gv l).1) (n := (gv l).2.1) (by rw [← he])).2.1
  · have := (gvGo_err (l := l) (i := 0) (acc := 0) he).2
    have : (gv l).2.1 = 0 := this
    omega
theorem refU_any (b : Bool) (l : Rws) (err a3 a4 a5 a6 : Int) (hl : Bl l) {R : Int × Rws × Int → Prop} (h : ∀ v r e, Bl r → R (v, r, e)) : (g___ref04_Reader__U_p b l err a3 a4 a5 a6).run R := by
  unfold g___ref04_Reader__U_p
  refine W.iteB (fun _ => W.retI (h _ _ _ hl)) (fun _ => ?_)
  have := gv_le hl
  refine W.bindI (g_ref04_Get_ok b l hl.b hl.n (W.needI (by dsimp only; omega) (W.retI ?_)))
  show R (_, List.take (((l.length : Int)) - (((gv l).2.1 : Nat) : Int)).toNat (List.drop ((((gv l).2.1 : Nat) : Int)).toNat l), _)
  rw [drop_eq]
  exact h _ _ _ (hl.drop _)
theorem refU_good (b : Bool) (l : Rws) (a3 a4 a5 a6 : Int) (hl : Bl l) {R : Int × Rws × Int → Prop} (he : ∀ e, e ≠ 0 → rdU 18446744073709551615 l = .error e → R (0, l, e)) (hk : ∀ (v : Nat) r, rdU 18446744073709551615 l = .ok (v, r) → Bl r → R ((v : Int), r, 0)) : (g___ref04_Reader__U_p b l 0 a3 a4 a5 a6).run R := by
  unfold g___ref04_Reader__U_p
  have hle := gv_le hl
  refine W.iteF (by simp) (W.bindI (g_ref04_Get_ok b l hl.b hl.n (W.needI (by dsimp only; omega) (W.retI ?_))))
  show R (_, List.take (((l.length : Int)) - (((gv l).2.1 : Nat) : Int)).toNat (List.drop ((((gv l).2.1 : Nat) : Int)).toNat l), _)
  rw [drop_eq]
  by_cases h0 : (gv l).2.2 = 0
  · have hv := (gv_ok hl.b (v := (gv l).1) (n := (gv l).2.1) (by rw [← h0])).2.2.2
    rw [h0]
    exact hk _ _ (by unfold rdU; rw [if_neg (by omega), if_neg (by omega)]) (hl.drop _)
  · obtain ⟨q1, q2⟩ := gvGo_err (l := l) (i := 0) (acc := 0) h0
    have q1 : (gv l).1 = 0 := q1
    have q2 : (gv l).2.1 = 0 := q2
    have := he _ h0 (by unfold rdU; rw [if_pos h0])
    dsimp only
    rw [q1, q2]
    exact this
theorem refN_any (max : Nat) (b : Bool) (l : Rws) (err a4 a5 a6 a7 : Int) (hl : Bl l) {R : Int × Rws × Int → Prop} (h : ∀ v r e, Bl r → R (v, r, e)) : (g___ref04_Reader__N_p (max : Int) b l err a4 a5 a6 a7).run R := by
  unfold g___ref04_Reader__N_p
  refine W.iteB (fun _ => W.retI (h _ _ _ hl)) (fun _ => ?_)
  have := gv_le hl
  refine W.bindI (g_ref04_Get_ok b l hl.b hl.n (W.bindI (W.iteB (fun _ => W.retI (W.iteT (by decide) (W.retI (h _ _ _ hl)))) (fun _ => W.retI (W.iteB (fun _ => W.retI (h _ _ _ hl)) (fun _ => W.needI (by dsimp only; omega) (W.retI ?_)))))))
  show R (_, List.take (((l.length : Int)) - (((gv l).2.1 : Nat) : Int)).toNat (List.drop ((((gv l).2.1 : Nat) : Int)).toNat l), _)
  rw [drop_eq]
  exact h _ _ _ (hl.drop _)
theorem refN_good (max : Nat) (hm : max ≤ 9223372036854775807) (b : Bool) (l : Rws) (a4 a5 a6 a7 : Int) (hl : Bl l) {R : Int × Rws × Int → Prop} (he : ∀ e, e ≠ 0 → rdU max l = .error e → R (0, l, e)) (hk : ∀ (v : Nat) r, rdU max l = .ok (v, r) → Bl r → R ((v : Int), r, 0)) : (g___ref04_Reader__N_p (max : Int) b l 0 a4 a5 a6 a7).run R := by
  unfold g___ref04_Reader__N_p
  have hle := gv_le hl
  refine W.iteF (by simp) (W.bindI (g_ref04_Get_ok b l hl.b hl.n ?_))
  rw [wrapu64_in (x := (max : Int)) (by omega) (by omega)]
  by_cases h0 : (gv l).2.2 = 0
  · by_cases hx : max < (gv l).1
    · have e : rdU max l = .error 42 := by unfold rdU; rw [if_neg (by omega), if_pos hx]
      exact W.bindI (W.iteT (by simp [h0]; omega) (W.retI (W.iteT (by decide) (W.retI (he 42 (by decide) e)))))
    · have e : rdU max l = .ok ((gv l).1, l.drop (gv l).2.1) := by unfold rdU; rw [if_neg (by omega), if_neg hx]
      refine W.bindI (W.iteF (by simp [h0]; omega) (W.retI (W.iteF (by simp [h0]) (W.needI (by dsimp only; omega) (W.retI ?_)))))
      show R (IntKind.i64.wrap (((gv l).1 : Nat) : Int), List.take (((l.length : Int)) - (((gv l).2.1 : Nat) : Int)).toNat (List.drop ((((gv l).2.1 : Nat) : Int)).toNat l), (gv l).2.2)
      rw [drop_eq, wrap64_in (by omega) (by omega), h0]
      exact hk _ _ e (hl.drop _)
  · have e : rdU max l = .error (gv l).2.2 := by unfold rdU; rw [if_pos h0]
    exact W.bindI (W.iteF (by simp [h0]) (W.retI (W.iteT (by simpa using h0) (W.retI (he _ h0 e)))))
theorem unfold_ok {v : Nat} (h : v < 18446744073709551616) {R : Int → Prop} (hr : R (unz v)) : (g_ref04_Unfold (v : Int)).run R := by
  unfold g_ref04_Unfold
  have e1 : (v : Int).tmod 2 = ((v % 2 : Nat) : Int) := rfl
  have e2 : (v : Int).tdiv 2 = ((v / 2 : Nat) : Int) := rfl
  rw [e1, e2, wrapu64_in (x := ((v / 2 : Nat) : Int)) (by omega) (by omega), wrap64_in (x := ((v / 2 : Nat) : Int)) (by omega) (by omega), wrap64_in (x := 0 - ((v / 2 : Nat) : Int)) (by omega) (by omega), wrap64_in (x := 0 - ((v / 2 : Nat) : Int) - 1) (by omega) (by omega)]
  unfold unz at hr
  by_cases h2 : v % 2 = 0
  · rw [if_pos h2] at hr
    exact W.iteT (by rw [h2]; rfl) (W.retI hr)
  · rw [if_neg h2] at hr
    refine W.iteF (by rw [show v % 2 = 1 by omega]; rfl) (W.retI ?_)
    rwa [show 0 - ((v / 2 : Nat) : Int) - 1 = -((v / 2 : Nat) : Int) - 1 by omega]
theorem unfold_any (x : Int) {R : Int → Prop} (hr : ∀ y, R y) : (g_ref04_Unfold x).run R := by
  unfold g_ref04_Unfold
  exact W.iteB (fun _ => W.retI (hr _)) (fun _ => W.retI (hr _))
theorem refS_any (b : Bool) (l : Rws) (err a3 a4 a5 a6 : Int) (hl : Bl l) {R : Int × Rws × Int → Prop} (h : ∀ v r e, Bl r → R (v, r, e)) : (g___ref04_Reader__S_p b l err a3 a4 a5 a6).run R := by
  unfold g___ref04_Reader__S_p
  exact W.bindI (refU_any _ _ _ _ _ _ _ hl fun v r e hr => W.bindI (unfold_any _ fun y => W.retI (h _ _ _ hr)))
theorem refS_good (b : Bool) (l : Rws) (a3 a4 a5 a6 : Int) (hl : Bl l) {R : Int × Rws × Int → Prop} (he : ∀ e v, e ≠ 0 → rdS l = .error e → R (v, l, e)) (hk : ∀ v r, rdS l = .ok (v, r) → Bl r → R (v, r, 0)) : (g___ref04_Reader__S_p b l 0 a3 a4 a5 a6).run R := by
  unfold g___ref04_Reader__S_p
  refine W.bindI (refU_good _ _ _ _ _ _ hl (fun e hne h => W.bindI (unfold_any _ fun y => W.retI (he _ _ hne (by unfold rdS; rw [h])))) (fun v r h hr => ?_))
  exact W.bindI (unfold_ok (rdU_ok hl.b h).2.1 (W.retI (hk _ _ (by unfold rdS; rw [h]) hr)))
end Go.Proofs.Ytpoakneeceaooaa.VX

set_option linter.unusedVariables false
set_option linter.unusedSimpArgs false
namespace Go.Proofs.Ytpoakneeceaooaa.VX
/-! ### What is to be read -/
def rdR (lo hi : Int) (l : Rws) : Except Int (Int × Rws) := andE (rdS l) fun x r => if x < lo ∨ hi < x then .error 41 else .ok (x, r)
abbrev rd32 : Rws → Except Int (Int × Rws) := rdR (-2147483648) 2147483647
def rdRow (lo hi : Int) (l : Rws) : Except Int (List AV × Rws) := andE (rdR lo hi l) fun x r => .ok ([I x], r)
def rdL {α : Type} (f : Rws → Except Int (α × Rws)) (n : Nat) (l : Rws) : Except Int (List α × Rws) := match rdMany f n l with
  | .ok x => .ok x
  | .error (e, _) => .error e
def rdOp (l : Rws) : Except Int (Opr × Rws) :=
  andE (rdV l) fun x0 r => andE (rdV r) fun x1 r => andE (rdV r) fun x2 r => andE (rdV r) fun x3 r => andE (rdV r) fun x4 r => andE (rdV r) fun x5 r => andE (rdV r) fun x6 r => andE (rdV r) fun x7 r =>
  andE (rdV r) fun x8 r => andE (rdV r) fun x9 r => andE (rdV r) fun x10 r => andE (rdV r) fun x11 r =>
  andE (rdU 131072 r) fun n r => andE (rdL (rdRow (-32768) 32767) n r) fun ws r => andE (rdU 1024 r) fun m r => andE (rdL (rdRow (-2147483648) 2147483647) m r) fun bs r =>
  andE (rdV r) fun y0 r => andE (rdV r) fun y1 r => andE (rdV r) fun y2 r => andE (rdV r) fun y3 r => andE (rd32 r) fun z0 r => andE (rd32 r) fun z1 r => andE (rd32 r) fun z2 r => andE (rd32 r) fun z3 r =>
  .ok (⟨x0, x1, x2, x3, ⟨x4, x5, x6, x7, x8, x9, x10, x11⟩, decide (n = 0), ws, decide (m = 0), bs, y0, y1, y2, y3, z0, z1, z2, z3⟩, r)
/-- A model, as it is read. -/
structure Mdl where
  h : Int
  w : Int
  c : Int
  lo : Int
  hi : Int
  ops : List Opr
  out : Int
def rdHd (l : Rws) : Except Int ((Int × Int × Int × Int × Int × Nat) × Rws) :=
  andE (rdV l) fun h r => andE (rdV r) fun w r => andE (rdV r) fun c r => andE (rd32 r) fun lo r => andE (rd32 r) fun hi r => andE (rdU 64 r) fun n r => .ok (((h : Int), (w : Int), (c : Int), lo, hi, n), r)
def bodyM (l : Rws) : Except (Int × Nat) Mdl := match rdHd l with
  | .error e => .error (e, 0)
  | .ok ((h, w, c, lo, hi, n), r) => match rdMany rdOp n r with
    | .error (e, i) => .error (e, i + 1)
    | .ok (ops, r) => match rdV r with
      | .error e => .error (e, 0)
      | .ok (out, r) => if r.length = 0 then .ok ⟨h, w, c, lo, hi, ops, out⟩ else .error (43, 0)
def magicM (l : Rws) : Bool := ri l 0 0 == 83 && (ri l 1 0 == 87 && (ri l 2 0 == 77 && ri l 3 0 == 49))
def decM (l : Rws) : Except (Int × Nat) Mdl := if l.length < 4 then .error (40, 0) else if magicM l = true then bodyM (l.drop 4) else .error (41, 0)
theorem rdV_err {l : Rws} {e : Int} (h : rdV l = .error e) : e ≠ 0 := by
  unfold rdV andE at h
  cases hr : rdU 18446744073709551615 l with
  | error e' => rw [hr] at h; cases h; exact rdU_err hr
  | ok x => rw [hr] at h; dsimp only at h; split at h
            · cases h; decide
            · cases h
theorem rdR_err {lo hi : Int} {l : Rws} {e : Int} (h : rdR lo hi l = .error e) : e ≠ 0 := by
  unfold rdR andE at h
  cases hr : rdS l with
  | error e' => rw [hr] at h; cases h; exact rdS_err hr
  | ok x => rw [hr] at h; dsimp only at h; split at h
            · cases h; decide
            · cases h
/-- What is known of what is still to be read. -/
def RD {β : Type} (x : Except Int (β × Rws)) (Err : Int → Prop) (Ok : β → Rws → Prop) : Prop := match x with
  | .error e => e ≠ 0 → Err e
  | .ok (a, r) => Ok a r
section
variable {α β : Type} {Err : Int → Prop} {Ok : β → Rws → Prop}
theorem RD.err {x : Except Int (α × Rws)} {F : α → Rws → Except Int (β × Rws)} (h : RD (andE x F) Err Ok) {e : Int} (hx : x = .error e) (he : e ≠ 0) : Err e := by subst hx; exact h he
theorem RD.go {x : Except Int (α × Rws)} {F : α → Rws → Except Int (β × Rws)} (h : RD (andE x F) Err Ok) {a : α} {r : Rws} (hx : x = .ok (a, r)) : RD (F a r) Err Ok := by subst hx; exact h
end
/-! ### The decoder's reads -/
theorem psure_ok (op err : Int) (b : Bool) (l : Rws) (p : Int) {R : Unit ⊕ (Int × Int × Int) → Prop} (h : err = 0 → R (.inl ())) (h' : err ≠ 0 → R (.inr (err, op, 0))) : (g___pack_decoder__sure_p op err b l p).run R := by
  unfold g___pack_decoder__sure_p g___wire_Reader__Err_p g___pack_decoder__giveUp_p_2
  refine W.bindI (W.retI (W.iteB (fun e => W.bindI (W.retI (W.retI (h' (by simpa using e))))) (fun e => W.retI (h (by simpa using e)))))
/-- Where the decoder stands. -/
structure Dk (l : Rws) : Prop where
  b : byt l
  n : l.length ≤ 140737488355328
section
variable {β γ δ : Type} {Err : Int → Prop} {Ok : β → Rws → Prop} {op : Int} {b : Bool} {l : Rws} {p : Nat} {rest : Rws}
theorem pu_ok (hd : Dk l) (hp : At l p rest) {R : (Int × Int × Int) ⊕ (Int × Int × Int × Int × Int) → Prop} (he : ∀ e x y, e ≠ 0 → rdV rest = .error e → R (.inr (e, op, 0, x, y))) (hk : ∀ (v : Nat) r (p' : Nat), rdV rest = .ok (v, r) → At l p' r → R (.inl ((v : Int), 0, (p' : Int)))) :
    (g___pack_decoder__u_p op 0 b l (p : Int)).run R := by
  unfold g___pack_decoder__u_p
  have hr : byt rest := hp.eq ▸ byt_drop hd.b p
  refine W.bindI (U_ok b l p rest hp hd.b hd.n (fun e h => ?_) (fun v r1 p1 h h1 => ?_))
  · have hne := rdU_err h
    exact W.bindI (psure_ok _ _ _ _ _ (fun h0 => absurd h0 hne) (fun _ => W.retI (he e _ _ hne (by unfold rdV andE; rw [h]))))
  · refine W.bindI (psure_ok _ _ _ _ _ (fun _ => ?_) (fun h0 => absurd rfl h0))
    refine W.iteB (fun e => ?_) (fun e => ?_)
    · have e : 2147483647 < v := by have := of_decide_eq_true e; omega
      unfold g___pack_decoder__giveUp_p_2
      exact W.bindI (W.retI (W.retI (he 41 _ _ (by decide) (by unfold rdV andE; rw [h]; exact if_pos e))))
    · have e : ¬ 2147483647 < v := by have := of_decide_eq_false e; omega
      refine W.retI ?_
      rw [wrap64_in (x := (v : Int)) (by omega) (by omega)]
      exact hk v r1 p1 (by unfold rdV andE; rw [h]; exact if_neg e) h1
theorem ps_ok {lo hi : Int} (hd : Dk l) (hp : At l p rest) {R : (Int × Int × Int) ⊕ (Int × Int × Int × Int × Int) → Prop} (he : ∀ e x y, e ≠ 0 → rdR lo hi rest = .error e → R (.inr (e, op, 0, x, y))) (hk : ∀ v r (p' : Nat), rdR lo hi rest = .ok (v, r) → At l p' r → R (.inl (v, 0, (p' : Int)))) :
    (g___pack_decoder__s_p lo hi op 0 b l (p : Int)).run R := by
  unfold g___pack_decoder__s_p
  refine W.bindI (S_ok b l p rest hp hd.b hd.n (fun e v h => ?_) (fun v r1 p1 h h1 => ?_))
  · have hne := rdS_err h
    exact W.bindI (psure_ok _ _ _ _ _ (fun h0 => absurd h0 hne) (fun _ => W.retI (he e _ _ hne (by unfold rdR andE; rw [h]))))
  · refine W.bindI (psure_ok _ _ _ _ _ (fun _ => ?_) (fun h0 => absurd rfl h0))
    refine W.iteC (v < lo ∨ hi < v) (by rw [Bool.decide_or]) (fun e => ?_) (fun e => ?_)
    · unfold g___pack_decoder__giveUp_p_2
      exact W.bindI (W.retI (W.retI (he 41 _ _ (by decide) (by unfold rdR andE; rw [h]; exact if_pos e))))
    · exact W.retI (hk v r1 p1 (by unfold rdR andE; rw [h]; exact if_neg e) h1)
theorem pn_ok {max : Nat} (hm : max ≤ 9223372036854775807) (hd : Dk l) (hp : At l p rest) {R : (Int × Int × Int) ⊕ (Int × Int × Int × Int × Int) → Prop} (he : ∀ e x y, e ≠ 0 → rdU max rest = .error e → R (.inr (e, op, 0, x, y))) (hk : ∀ (v : Nat) r (p' : Nat), rdU max rest = .ok (v, r) → At l p' r → R (.inl ((v : Int), 0, (p' : Int)))) :
    (g___pack_decoder__n_p (max : Int) op 0 b l (p : Int)).run R := by
  unfold g___pack_decoder__n_p
  refine W.bindI (N_ok max b l p rest hp hd.b hd.n hm (fun e h => ?_) (fun v r1 p1 h h1 => ?_))
  · have hne := rdU_err h
    exact W.bindI (psure_ok _ _ _ _ _ (fun h0 => absurd h0 hne) (fun _ => W.retI (he e _ _ hne h)))
  · exact W.bindI (psure_ok _ _ _ _ _ (fun _ => W.retI (hk v r1 p1 h h1)) (fun h0 => absurd rfl h0))
theorem ps32_ok (hd : Dk l) (hp : At l p rest) {R : (Int × Int × Int) ⊕ (Int × Int × Int × Int × Int) → Prop} (he : ∀ e x y, e ≠ 0 → rd32 rest = .error e → R (.inr (e, op, 0, x, y))) (hk : ∀ v r (p' : Nat), rd32 rest = .ok (v, r) → At l p' r → R (.inl (v, 0, (p' : Int)))) :
    (g___pack_decoder__s32_p op 0 b l (p : Int)).run R := by
  unfold g___pack_decoder__s32_p
  exact W.bindI (ps_ok hd hp (fun e x y hne h => W.retI (he e x y hne h)) (fun v r p' h h1 => W.retI (hk v r p' h h1)))
/-- One number after the other. -/
theorem u_step {F : Nat → Rws → Except Int (β × Rws)} {K : Int × Int × Int → W δ} {E : Int × Int × Int × Int × Int → W δ} {R : δ → Prop} (hd : Dk l) (hp : At l p rest) (hR : RD (andE (rdV rest) F) Err Ok)
    (hE : ∀ e x y, Err e → (E (e, op, 0, x, y)).run R) (hk : ∀ (v : Nat) r (p' : Nat), v ≤ 2147483647 → At l p' r → RD (F v r) Err Ok → (K ((v : Int), 0, (p' : Int))).run R) : (W.bind (g___pack_decoder__u_p op 0 b l (p : Int)) (W.sum K E)).run R :=
  W.bindI (pu_ok hd hp (fun e x y hne h => hE e x y (hR.err h hne)) (fun v r p' h h1 => hk v r p' (by
    unfold rdV andE at h
    cases hr : rdU 18446744073709551615 rest with
    | error e => rw [hr] at h; cases h
    | ok x => rw [hr] at h; dsimp only at h; split at h
              · cases h
              · cases h; omega) h1 (hR.go h)))
theorem s_step {lo hi : Int} {F : Int → Rws → Except Int (β × Rws)} {K : Int × Int × Int → W δ} {E : Int × Int × Int × Int × Int → W δ} {R : δ → Prop} (hd : Dk l) (hp : At l p rest) (hR : RD (andE (rdR lo hi rest) F) Err Ok)
    (hE : ∀ e x y, Err e → (E (e, op, 0, x, y)).run R) (hk : ∀ (v : Int) r (p' : Nat), lo ≤ v ∧ v ≤ hi → At l p' r → RD (F v r) Err Ok → (K (v, 0, (p' : Int))).run R) : (W.bind (g___pack_decoder__s_p lo hi op 0 b l (p : Int)) (W.sum K E)).run R :=
  W.bindI (ps_ok hd hp (fun e x y hne h => hE e x y (hR.err h hne)) (fun v r p' h h1 => hk v r p' (by
    unfold rdR andE at h
    cases hr : rdS rest with
    | error e => rw [hr] at h; cases h
    | ok x => rw [hr] at h; dsimp only at h; split at h
              · cases h
              · cases h; omega) h1 (hR.go h)))
theorem s32_step {F : Int → Rws → Except Int (β × Rws)} {K : Int × Int × Int → W δ} {E : Int × Int × Int × Int × Int → W δ} {R : δ → Prop} (hd : Dk l) (hp : At l p rest) (hR : RD (andE (rd32 rest) F) Err Ok)
    (hE : ∀ e x y, Err e → (E (e, op, 0, x, y)).run R) (hk : ∀ (v : Int) r (p' : Nat), -2147483648 ≤ v ∧ v ≤ 2147483647 → At l p' r → RD (F v r) Err Ok → (K (v, 0, (p' : Int))).run R) : (W.bind (g___pack_decoder__s32_p op 0 b l (p : Int)) (W.sum K E)).run R :=
  W.bindI (ps32_ok hd hp (fun e x y hne h => hE e x y (hR.err h hne)) (fun v r p' h h1 => hk v r p' (by
    unfold rd32 rdR andE at h
    cases hr : rdS rest with
    | error e => rw [hr] at h; cases h
    | ok x => rw [hr] at h; dsimp only at h; split at h
              · cases h
              · cases h; omega) h1 (hR.go h)))
theorem n_step {max : Nat} (hm : max ≤ 9223372036854775807) {F : Nat → Rws → Except Int (β × Rws)} {K : Int × Int × Int → W δ} {E : Int × Int × Int × Int × Int → W δ} {R : δ → Prop} (hd : Dk l) (hp : At l p rest) (hR : RD (andE (rdU max rest) F) Err Ok)
    (hE : ∀ e x y, Err e → (E (e, op, 0, x, y)).run R) (hk : ∀ (v : Nat) r (p' : Nat), v ≤ max → At l p' r → RD (F v r) Err Ok → (K ((v : Int), 0, (p' : Int))).run R) : (W.bind (g___pack_decoder__n_p (max : Int) op 0 b l (p : Int)) (W.sum K E)).run R :=
  W.bindI (pn_ok hm hd hp (fun e x y hne h => hE e x y (hR.err h hne)) (fun v r p' h h1 => hk v r p' (rdU_ok (hp.eq ▸ byt_drop hd.b p) h).1 h1 (hR.go h)))
end
theorem rdL_zero {α : Type} (f : Rws → Except Int (α × Rws)) (l : Rws) : rdL f 0 l = .ok ([], l) := rfl
theorem rdL_succ {α : Type} (f : Rws → Except Int (α × Rws)) (n : Nat) (l : Rws) : rdL f (n + 1) l = andE (f l) fun a r => andE (rdL f n r) fun xs r => .ok (a :: xs, r) := by
  unfold rdL
  rw [rdMany_succ]
  unfold andE
  cases f l with
  | error e => rfl
  | ok x =>
    obtain ⟨a, r⟩ := x
    dsimp only
    cases rdMany f n r with
    | error x => rfl
    | ok x => rfl
/-- What is read of a list goes behind what had been read. -/
theorem andE_app {α β : Type} (x : Except Int (List α × Rws)) (acc : List α) (a : α) (F : List α → Rws → Except Int (β × Rws)) :
    andE (andE x fun xs r => .ok (a :: xs, r)) (fun xs r => F (acc ++ xs) r) = andE x (fun xs r => F (acc ++ [a] ++ xs) r) := by
  unfold andE
  cases x with
  | error e => rfl
  | ok x => simp
theorem andE_assoc {α β γ : Type} (x : Except Int (α × Rws)) (f : α → Rws → Except Int (β × Rws)) (g : β → Rws → Except Int (γ × Rws)) : andE (andE x f) g = andE x fun a r => andE (f a r) g := by
  unfold andE
  cases x <;> rfl
theorem rdRow_ok {lo hi : Int} {β : Type} {rest : Rws} (F : List AV → Rws → Except Int (β × Rws)) : andE (rdRow lo hi rest) F = andE (rdR lo hi rest) fun x r => F [I x] r := by
  unfold rdRow
  rw [andE_assoc]; rfl
end Go.Proofs.Ytpoakneeceaooaa.VX

set_option linter.unusedVariables false
set_option linter.unusedSimpArgs false
namespace Go.Proofs.Ytpoakneeceaooaa.VX
/-- As the decoder answers an op. -/
def Opr.tupR (o : Opr) (x y : Int) : Int × Int × Int × Int × Int × Int × Int × Int × Int × Int × Int × Int × Bool × Rws × Bool × Rws × Int × Int × Int × Int × Int × Int × Int × Int × Int × Int :=
  (o.kind, o.a, o.b, o.m, o.win.kh, o.win.kw, o.win.sh, o.win.sw, o.win.top, o.win.left, o.win.bottom, o.win.right, o.wn, o.ws, o.bn, o.bs, o.sam, o.sas, o.sbm, o.sbs, o.zero, o.pad, o.lo, o.hi, x, y)
theorem wrap16_in {x : Int} (h : -32768 ≤ x ∧ x ≤ 32767) : IntKind.i16.wrap x = x := by
  have e : IntKind.i16.wrap x = (x + 32768) % 65536 - 32768 := by
    simp [IntKind.wrap, IntKind.bits, IntKind.signed]
    split <;> omega
  rw [e]; omega
theorem wrap32_in {x : Int} (h : -2147483648 ≤ x ∧ x ≤ 2147483647) : IntKind.i32.wrap x = x := by
  rw [IntKind.wrap_i32]; omega
theorem list_next {β : Type} (lo hi : Int) (k : Nat) (r acc : Rws) (G : Rws → Rws → Except Int (β × Rws)) :
    andE (rdL (rdRow lo hi) (k + 1) r) (fun ws r => G (acc ++ ws) r) = andE (rdR lo hi r) fun x r => andE (rdL (rdRow lo hi) k r) fun ws r => G (acc ++ [[I x]] ++ ws) r := by
  rw [rdL_succ, andE_assoc, rdRow_ok]
  congr 1
  funext x r
  exact andE_app (rdL (rdRow lo hi) k r) acc [I x] G
theorem list_none {β : Type} (f : Rws → Except Int (List AV × Rws)) (r acc : Rws) (G : Rws → Rws → Except Int (β × Rws)) : andE (rdL f 0 r) (fun ws r => G (acc ++ ws) r) = G acc r := by
  rw [rdL_zero]; show G (acc ++ []) r = _; rw [List.append_nil]
theorem one_ok' {op : Int} {b : Bool} {l : Rws} {p : Nat} {rest : Rws} (hd : Dk l) (hp : At l p rest) {R : (Int × Int × Int × Int × Int × Int × Int × Int × Int × Int × Int × Int × Bool × Rws × Bool × Rws × Int × Int × Int × Int × Int × Int × Int × Int × Int × Int) ⊕ (Int × Int × Int × Int × Int) → Prop}
    {Err : Int → Prop} {Ok : Opr → Rws → Prop} (hR : RD (rdOp rest) Err Ok) (hE : ∀ e x y, Err e → R (.inr (e, op, 0, x, y))) (hk : ∀ o r (p' : Nat), Ok o r → At l p' r → R (.inl (o.tupR 0 (p' : Int)))) : (g___pack_decoder__one_p op 0 b l (p : Int)).run R := by
  unfold g___pack_decoder__one_p g_pack_numbers_p_2 g_pack_scales_p g_pack_ends_p
  unfold rdOp at hR
  refine W.bindI (W.retI ?_)
  refine u_step hd hp hR (fun e x y h => W.retI (hE e x y h)) fun v1 r1 p1 b1 h1 hR => ?_
  refine u_step hd h1 hR (fun e x y h => W.retI (hE e x y h)) fun v2 r2 p2 b2 h2 hR => ?_
  refine u_step hd h2 hR (fun e x y h => W.retI (hE e x y h)) fun v3 r3 p3 b3 h3 hR => ?_
  refine u_step hd h3 hR (fun e x y h => W.retI (hE e x y h)) fun v4 r4 p4 b4 h4 hR => ?_
  refine u_step hd h4 hR (fun e x y h => W.retI (hE e x y h)) fun v5 r5 p5 b5 h5 hR => ?_
  refine u_step hd h5 hR (fun e x y h => W.retI (hE e x y h)) fun v6 r6 p6 b6 h6 hR => ?_
  refine u_step hd h6 hR (fun e x y h => W.retI (hE e x y h)) fun v7 r7 p7 b7 h7 hR => ?_
  refine u_step hd h7 hR (fun e x y h => W.retI (hE e x y h)) fun v8 r8 p8 b8 h8 hR => ?_
  refine u_step hd h8 hR (fun e x y h => W.retI (hE e x y h)) fun v9 r9 p9 b9 h9 hR => ?_
  refine u_step hd h9 hR (fun e x y h => W.retI (hE e x y h)) fun v10 r10 p10 b10 h10 hR => ?_
  refine u_step hd h10 hR (fun e x y h => W.retI (hE e x y h)) fun v11 r11 p11 b11 h11 hR => ?_
  refine u_step hd h11 hR (fun e x y h => W.retI (hE e x y h)) fun v12 r12 p12 b12 h12 hR => ?_
  refine n_step (max := 131072) (by decide) hd h12 hR (fun e x y h => W.retI (hE e x y h)) fun n r13 p13 bn h13 hR => ?_
  have hG : ∃ G : Rws → Rws → Except Int (Opr × Rws), G = fun ws r => andE (rdU 1024 r) fun m r => andE (rdL (rdRow (-2147483648) 2147483647) m r) fun bs r =>
        andE (rdV r) fun y0 r => andE (rdV r) fun y1 r => andE (rdV r) fun y2 r => andE (rdV r) fun y3 r => andE (rd32 r) fun z0 r => andE (rd32 r) fun z1 r => andE (rd32 r) fun z2 r => andE (rd32 r) fun z3 r =>
        .ok (⟨v1, v2, v3, v4, ⟨v5, v6, v7, v8, v9, v10, v11, v12⟩, decide (n = 0), ws, decide (m = 0), bs, y0, y1, y2, y3, z0, z1, z2, z3⟩, r) := ⟨_, rfl⟩
  obtain ⟨G, hG⟩ := hG
  have hR : RD (andE (rdL (rdRow (-32768) 32767) n r13) fun ws r => G ([] ++ ws) r) Err Ok := by rw [hG]; exact hR
  refine W.bindI (W.loop_for n (fun i s => ∃ (p' : Nat) (r : Rws) (acc : Rws), s = ((i : Int), 0, (p' : Int), decide (i = 0), acc) ∧ At l p' r ∧ acc.length = i ∧
      RD (andE (rdL (rdRow (-32768) 32767) (n - i) r) fun ws r => G (acc ++ ws) r) Err Ok) ?_ ?_ ⟨p13, r13, [], rfl, h13, rfl, hR⟩)
  · rintro i _ hi ⟨p', r, acc, rfl, ha, hlen, hR⟩
    refine W.iteT (by simpa using hi) ?_
    rw [show n - i = (n - (i + 1)) + 1 by omega, list_next] at hR
    refine s_step hd ha hR (fun e x y h => W.retI (hE e x y h)) fun x ra pa bx h1 hR => ?_
    have ex : IntKind.i16.wrap x = x := wrap16_in bx
    have wi := wrap_succ (show i ≤ 140737488355328 by omega)
    refine W.needI (by dsimp only; omega) (W.retI ⟨pa, ra, acc ++ [[I x]], ?_, h1, by simp [hlen], hR⟩)
    simp only [wi, ex]
    simp
  · rintro _ ⟨p', r, acc, rfl, ha, hlen, hR⟩
    refine W.iteF (by simp) (W.retI ?_)
    rw [Nat.sub_self, list_none, hG] at hR
    refine n_step (max := 1024) (by decide) hd ha hR (fun e x y h => W.retI (hE e x y h)) fun m r14 p14 bm h14 hR => ?_
    have hH : ∃ H : Rws → Rws → Except Int (Opr × Rws), H = fun bs r =>
        andE (rdV r) fun y0 r => andE (rdV r) fun y1 r => andE (rdV r) fun y2 r => andE (rdV r) fun y3 r => andE (rd32 r) fun z0 r => andE (rd32 r) fun z1 r => andE (rd32 r) fun z2 r => andE (rd32 r) fun z3 r =>
        .ok (⟨v1, v2, v3, v4, ⟨v5, v6, v7, v8, v9, v10, v11, v12⟩, decide (n = 0), acc, decide (m = 0), bs, y0, y1, y2, y3, z0, z1, z2, z3⟩, r) := ⟨_, rfl⟩
    obtain ⟨H, hH⟩ := hH
    have hR : RD (andE (rdL (rdRow (-2147483648) 2147483647) m r14) fun ws r => H ([] ++ ws) r) Err Ok := by rw [hH]; exact hR
    refine W.bindI (W.loop_for m (fun i s => ∃ (p' : Nat) (r : Rws) (acc : Rws), s = ((i : Int), 0, (p' : Int), decide (i = 0), acc) ∧ At l p' r ∧ acc.length = i ∧
      RD (andE (rdL (rdRow (-2147483648) 2147483647) (m - i) r) fun ws r => H (acc ++ ws) r) Err Ok) ?_ ?_ ⟨p14, r14, [], rfl, h14, rfl, hR⟩)
    · rintro i _ hi ⟨p', r, acc2, rfl, ha2, hlen2, hR⟩
      refine W.iteT (by simpa using hi) ?_
      rw [show m - i = (m - (i + 1)) + 1 by omega, list_next] at hR
      refine s32_step hd ha2 hR (fun e x y h => W.retI (hE e x y h)) fun x ra pa bx h1 hR => ?_
      have ex : IntKind.i32.wrap x = x := wrap32_in bx
      have wi := wrap_succ (show i ≤ 140737488355328 by omega)
      refine W.needI (by dsimp only; omega) (W.retI ⟨pa, ra, acc2 ++ [[I x]], ?_, h1, by simp [hlen2], hR⟩)
      simp only [wi, ex]
      simp
    · rintro _ ⟨p', r, acc2, rfl, ha2, hlen2, hR⟩
      refine W.iteF (by simp) (W.retI (W.bindI (W.retI ?_)))
      rw [Nat.sub_self, list_none, hH] at hR
      refine u_step hd ha2 hR (fun e x y h => W.retI (hE e x y h)) fun y0 q1 s1 c1 g1 hR => ?_
      refine u_step hd g1 hR (fun e x y h => W.retI (hE e x y h)) fun y1 q2 s2 c2 g2 hR => ?_
      refine u_step hd g2 hR (fun e x y h => W.retI (hE e x y h)) fun y2 q3 s3 c3 g3 hR => ?_
      refine u_step hd g3 hR (fun e x y h => W.retI (hE e x y h)) fun y3 q4 s4 c4 g4 hR => W.bindI (W.retI ?_)
      refine s32_step hd g4 hR (fun e x y h => W.retI (hE e x y h)) fun z0 q5 s5 c5 g5 hR => ?_
      refine s32_step hd g5 hR (fun e x y h => W.retI (hE e x y h)) fun z1 q6 s6 c6 g6 hR => ?_
      refine s32_step hd g6 hR (fun e x y h => W.retI (hE e x y h)) fun z2 q7 s7 c7 g7 hR => ?_
      refine s32_step hd g7 hR (fun e x y h => W.retI (hE e x y h)) fun z3 q8 s8 c8 g8 hR => ?_
      exact W.retI (hk _ _ _ hR g8)
theorem magicM_eq {l : Rws} (hb : byt l) (hl : 4 ≤ l.length) : ((bytesR (List.take 4 (List.drop 0 l))).toList == (bs [83, 87, 77, 49]).toList) = magicM l := by
  match l, hl with
  | r0 :: r1 :: r2 :: r3 :: rest, _ =>
    have e1 : (bytesR (List.take 4 (List.drop 0 (r0 :: r1 :: r2 :: r3 :: rest)))).toList = [(cI r0 0).toNat.toUInt8, (cI r1 0).toNat.toUInt8, (cI r2 0).toNat.toUInt8, (cI r3 0).toNat.toUInt8] := by
      unfold bytesR
      rw [ByteArray.toList_mk]
      rfl
    have e2 : (bs [83, 87, 77, 49]).toList = [(83 : Nat).toUInt8, (87 : Nat).toUInt8, (77 : Nat).toUInt8, (49 : Nat).toUInt8] := by
      unfold bs
      rw [ByteArray.toList_mk]
      rfl
    have h0 := hb r0 (by simp)
    have h1 := hb r1 (by simp)
    have h2 := hb r2 (by simp)
    have h3 := hb r3 (by simp)
    rw [e1, e2]
    show (((cI r0 0).toNat.toUInt8 == (83 : Nat).toUInt8) && (((cI r1 0).toNat.toUInt8 == (87 : Nat).toUInt8) && (((cI r2 0).toNat.toUInt8 == (77 : Nat).toUInt8) && (((cI r3 0).toNat.toUInt8 == (49 : Nat).toUInt8) && true)))) = _
    rw [u8_eq h0 (by omega), u8_eq h1 (by omega), u8_eq h2 (by omega), u8_eq h3 (by omega), Bool.and_true]
    rfl
/-- Rows of ops. -/
def Opr.row (o : Opr) : List AV := [I o.kind, I o.a, I o.b, I o.m, I o.win.kh, I o.win.kw, I o.win.sh, I o.win.sw, I o.win.top, I o.win.left, I o.win.bottom, I o.win.right, .sl o.wn 0 o.ws, .sl o.bn 0 o.bs, I o.sam, I o.sas, I o.sbm, I o.sbs, I o.zero, I o.pad, I o.lo, I o.hi]
theorem of_row (o : Opr) : Opr.of o.row = o := rfl
theorem oprs_rows : ∀ l : List Opr, oprs (l.map Opr.row) = l
  | [] => rfl
  | o :: r => congrArg (o :: ·) (oprs_rows r)
/-- The bounds of what is read of an op. -/
def Opr.fine (o : Opr) : Prop := o.ws.length ≤ 131072 ∧ o.bs.length ≤ 1024
end Go.Proofs.Ytpoakneeceaooaa.VX

set_option linter.unusedVariables false
set_option linter.unusedSimpArgs false
namespace Go.Proofs.Ytpoakneeceaooaa.VX
theorem rdL_ind {f : Rws → Except Int (List AV × Rws)} {P : List AV → Prop} (hf : ∀ r a r', f r = .ok (a, r') → P a) : ∀ (n : Nat) (l : Rws) (xs : List (List AV)) (r : Rws), rdL f n l = .ok (xs, r) → xs.length = n ∧ ∀ x ∈ xs, P x
  | 0, l, xs, r, h => by rw [rdL_zero] at h; cases h; simp
  | n + 1, l, xs, r, h => by
    rw [rdL_succ] at h
    obtain ⟨a, r1, h1, h2⟩ := andE_inv h
    obtain ⟨ys, r2, h3, h4⟩ := andE_inv h2
    cases h4
    obtain ⟨q1, q2⟩ := rdL_ind hf n r1 ys r h3
    exact ⟨by simp [q1], fun x hx => by rcases List.mem_cons.1 hx with rfl | hx; exact hf _ _ _ h1; exact q2 x hx⟩
/-- A number that is written of so few bits. -/
def I1 (lo hi : Int) (r : List AV) : Prop := ∃ x : Int, r = [I x] ∧ lo ≤ x ∧ x ≤ hi
theorem rdR_rng {lo hi : Int} {l r : Rws} {x : Int} (h : rdR lo hi l = .ok (x, r)) : lo ≤ x ∧ x ≤ hi := by
  unfold rdR at h
  obtain ⟨y, r1, _, h2⟩ := andE_inv h
  split at h2
  · cases h2
  · cases h2; omega
theorem rdRow_rng {lo hi : Int} {l r : Rws} {x : List AV} (h : rdRow lo hi l = .ok (x, r)) : I1 lo hi x := by
  unfold rdRow at h
  obtain ⟨y, r1, h1, h2⟩ := andE_inv h
  cases h2
  have := rdR_rng h1
  exact ⟨y, rfl, this.1, this.2⟩
theorem rdV_rng {l r : Rws} {v : Nat} (h : rdV l = .ok (v, r)) : v ≤ 2147483647 := by
  unfold rdV at h
  obtain ⟨y, r1, _, h2⟩ := andE_inv h
  split at h2
  · cases h2
  · cases h2; omega
theorem rdU_max {max : Nat} {l r : Rws} {v : Nat} (h : rdU max l = .ok (v, r)) : v ≤ max := by
  unfold rdU at h
  split at h
  · cases h
  · split at h
    · cases h
    · cases h; omega
/-- What an op that was read looks like. -/
structure OpOK (o : Opr) : Prop where
  n0 : 0 ≤ o.kind ∧ o.kind ≤ 2147483647
  n1 : 0 ≤ o.a ∧ o.a ≤ 2147483647
  n2 : 0 ≤ o.b ∧ o.b ≤ 2147483647
  n3 : 0 ≤ o.m ∧ o.m ≤ 2147483647
  n4 : 0 ≤ o.win.kh ∧ o.win.kh ≤ 2147483647
  n5 : 0 ≤ o.win.kw ∧ o.win.kw ≤ 2147483647
  n6 : 0 ≤ o.win.sh ∧ o.win.sh ≤ 2147483647
  n7 : 0 ≤ o.win.sw ∧ o.win.sw ≤ 2147483647
  n8 : 0 ≤ o.win.top ∧ o.win.top ≤ 2147483647
  n9 : 0 ≤ o.win.left ∧ o.win.left ≤ 2147483647
  n10 : 0 ≤ o.win.bottom ∧ o.win.bottom ≤ 2147483647
  n11 : 0 ≤ o.win.right ∧ o.win.right ≤ 2147483647
  ws : o.ws.length ≤ 131072 ∧ ∀ r ∈ o.ws, I1 (-32768) 32767 r
  bs : o.bs.length ≤ 1024 ∧ ∀ r ∈ o.bs, I1 (-2147483648) 2147483647 r
  m0 : 0 ≤ o.sam ∧ o.sam ≤ 2147483647
  m1 : 0 ≤ o.sas ∧ o.sas ≤ 2147483647
  m2 : 0 ≤ o.sbm ∧ o.sbm ≤ 2147483647
  m3 : 0 ≤ o.sbs ∧ o.sbs ≤ 2147483647
  e0 : -2147483648 ≤ o.zero ∧ o.zero ≤ 2147483647
  e1 : -2147483648 ≤ o.pad ∧ o.pad ≤ 2147483647
  e2 : -2147483648 ≤ o.lo ∧ o.lo ≤ 2147483647
  e3 : -2147483648 ≤ o.hi ∧ o.hi ≤ 2147483647
theorem rdOp_fine {l r : Rws} {o : Opr} (h : rdOp l = .ok (o, r)) : OpOK o ∧ o.wn = decide (o.ws.length = 0) ∧ o.bn = decide (o.bs.length = 0) := by
  unfold rdOp at h
  obtain ⟨x0, q0, h0, h⟩ := andE_inv h
  obtain ⟨x1, q1, h1, h⟩ := andE_inv h
  obtain ⟨x2, q2, h2, h⟩ := andE_inv h
  obtain ⟨x3, q3, h3, h⟩ := andE_inv h
  obtain ⟨x4, q4, h4, h⟩ := andE_inv h
  obtain ⟨x5, q5, h5, h⟩ := andE_inv h
  obtain ⟨x6, q6, h6, h⟩ := andE_inv h
  obtain ⟨x7, q7, h7, h⟩ := andE_inv h
  obtain ⟨x8, q8, h8, h⟩ := andE_inv h
  obtain ⟨x9, q9, h9, h⟩ := andE_inv h
  obtain ⟨x10, q10, h10, h⟩ := andE_inv h
  obtain ⟨x11, q11, h11, h⟩ := andE_inv h
  obtain ⟨n, q12, h12, h⟩ := andE_inv h
  obtain ⟨ws, q13, h13, h⟩ := andE_inv h
  obtain ⟨m, q14, h14, h⟩ := andE_inv h
  obtain ⟨bs, q15, h15, h⟩ := andE_inv h
  obtain ⟨y0, q16, h16, h⟩ := andE_inv h
  obtain ⟨y1, q17, h17, h⟩ := andE_inv h
  obtain ⟨y2, q18, h18, h⟩ := andE_inv h
  obtain ⟨y3, q19, h19, h⟩ := andE_inv h
  obtain ⟨z0, q20, h20, h⟩ := andE_inv h
  obtain ⟨z1, q21, h21, h⟩ := andE_inv h
  obtain ⟨z2, q22, h22, h⟩ := andE_inv h
  obtain ⟨z3, q23, h23, h⟩ := andE_inv h
  cases h
  have g0 := rdV_rng h0; have g1 := rdV_rng h1; have g2 := rdV_rng h2; have g3 := rdV_rng h3; have g4 := rdV_rng h4; have g5 := rdV_rng h5
  have g6 := rdV_rng h6; have g7 := rdV_rng h7; have g8 := rdV_rng h8; have g9 := rdV_rng h9; have g10 := rdV_rng h10; have g11 := rdV_rng h11
  have g12 := rdU_max h12; have g14 := rdU_max h14
  obtain ⟨a1, a2⟩ := rdL_ind (P := I1 (-32768) 32767) (fun _ _ _ => rdRow_rng) n q12 ws q13 h13
  obtain ⟨b1, b2⟩ := rdL_ind (P := I1 (-2147483648) 2147483647) (fun _ _ _ => rdRow_rng) m q14 bs q15 h15
  have g16 := rdV_rng h16; have g17 := rdV_rng h17; have g18 := rdV_rng h18; have g19 := rdV_rng h19
  have g20 := rdR_rng h20; have g21 := rdR_rng h21; have g22 := rdR_rng h22; have g23 := rdR_rng h23
  refine ⟨⟨?_, ?_, ?_, ?_, ?_, ?_, ?_, ?_, ?_, ?_, ?_, ?_, ⟨?_, a2⟩, ⟨?_, b2⟩, ?_, ?_, ?_, ?_, g20, g21, g22, g23⟩, ?_, ?_⟩
  all_goals try (dsimp only; omega)
  · show decide (n = 0) = decide (ws.length = 0); rw [a1]
  · show decide (m = 0) = decide (bs.length = 0); rw [b1]
theorem OpOK.of_rows {ops : List Opr} {rows : Rws} (h : rows = ops.map Opr.row) (hf : ∀ o ∈ ops, OpOK o) : short rows := by
  subst h
  intro r hr
  obtain ⟨o, ho, rfl⟩ := List.mem_map.1 hr
  have := hf o ho
  exact ⟨by have := this.ws.1; rw [of_row]; omega, by have := this.bs.1; rw [of_row]; omega⟩
/-- As Decode answers a model that was read. -/
def look (m : Mdl) : Ans8 := look8 ⟨m.h, m.w, m.c⟩ m.lo m.hi m.ops m.out
theorem g_pack_Decode_ok (b : Bool) (l : Rws) (hl : byt l) (hn : l.length ≤ 140737488355328) (hb : b = true → l = []) {R : Int × Int × Int × Int × Int × Int × Int × Int × Int × Bool × Rws → Prop}
    (he : ∀ e (i : Nat), e ≠ 0 → decM l = .error (e, i) → R (0, 0, 0, 0, 0, 0, e, (i : Int), 0, true, []))
    (hb2 : ∀ m, decM l = .ok m → (look m).err ≠ 0 → R (0, 0, 0, 0, 0, 0, (look m).err, (look m).op, 0, true, []))
    (hk : ∀ m c, decM l = .ok m → (look m).err = 0 → R (m.h, m.w, m.c, m.lo, m.hi, m.out, 0, 0, 0, c, m.ops.map Opr.row)) : (g_pack_Decode b l).run R := by
  unfold g_pack_Decode g___pack_decoder__giveUp_p
  refine W.iteB (fun e => ?_) (fun e => ?_)
  · have e : l.length < 4 := by have := of_decide_eq_true e; omega
    exact W.bindI (W.retI (W.retI (he 40 0 (by decide) (by unfold decM; rw [if_pos e]))))
  have e : ¬ l.length < 4 := by have := of_decide_eq_false e; omega
  refine W.needI (by omega) ?_
  rw [magicM_eq hl (by omega)]
  refine W.iteB (fun em => ?_) (fun em => ?_)
  · have em : ¬ magicM l = true := by simpa using em
    exact W.bindI (W.retI (W.retI (he 41 0 (by decide) (by unfold decM; rw [if_neg e, if_neg em]))))
  have em : magicM l = true := by simpa using em
  have hd : decM l = bodyM (l.drop 4) := by unfold decM; rw [if_neg e, if_pos em]
  rw [hd] at he hb2 hk
  have hbf : b = false := by
    cases b with
    | false => rfl
    | true => rw [hb rfl] at e; simp at e
  refine W.needI (by omega) ?_
  have hrest := rest_eq l 4 (by omega)
  rw [show ((4 : Nat) : Int) = 4 from rfl] at hrest
  rw [show List.drop 4 l = List.drop (4 : Int).toNat l from rfl, hrest]
  have hby := byt_drop hl 4
  have hln : (l.drop 4).length ≤ 140737488355328 := by simp; omega
  generalize l.drop 4 = m at he hb2 hk hby hln
  unfold g_wire_New g_slices_Clone___byte_byte_
  refine W.bindI (W.bindI (W.iteF hbf (W.needI (by omega) (W.retI (W.retI ?_)))))
  have dk : Dk m := ⟨hby, hln⟩
  have hR : RD (rdHd m) (fun e => R (0, 0, 0, 0, 0, 0, e, 0, 0, true, [])) (fun x r => rdHd m = .ok (x, r)) := by
    unfold RD
    cases hh : rdHd m with
    | error e => exact fun hne => he e 0 hne (by unfold bodyM; rw [hh])
    | ok x => rfl
  have hR0 : rdHd m = _ := rfl
  conv at hR => arg 1; unfold rdHd
  refine u_step dk ⟨Nat.zero_le _, rfl⟩ hR (fun e x y h => W.retI h) fun v1 r1 p1 b1 h1 hR => ?_
  refine u_step dk h1 hR (fun e x y h => W.retI h) fun v2 r2 p2 b2 h2 hR => ?_
  refine u_step dk h2 hR (fun e x y h => W.retI h) fun v3 r3 p3 b3 h3 hR => ?_
  refine s32_step dk h3 hR (fun e x y h => W.retI h) fun v4 r4 p4 b4 h4 hR => ?_
  refine s32_step dk h4 hR (fun e x y h => W.retI h) fun v5 r5 p5 b5 h5 hR => ?_
  refine n_step (max := 64) (by decide) dk h5 hR (fun e x y h => W.retI h) fun n r6 p6 b6 h6 hR => ?_
  have hH : rdHd m = .ok (((v1 : Int), (v2 : Int), (v3 : Int), v4, v5, n), r6) := hR
  clear hR hR0
  refine W.bindI (W.loop_for n (fun i s => ∃ (p' : Nat) (r : Rws) (ops : List Opr), s = ((i : Int), (i : Int), decide (i = 0), ops.map Opr.row, 0, (p' : Int)) ∧ At m p' r ∧ ops.length = i ∧ (∀ o ∈ ops, OpOK o) ∧
      rdMany rdOp n r6 = (match rdMany rdOp (n - i) r with | .error (e, k) => .error (e, k + i) | .ok (xs, r) => .ok (ops ++ xs, r))) ?_ ?_ ⟨p6, r6, [], rfl, h6, rfl, (fun o ho => by simp at ho), ?_⟩)
  · rintro i _ hi ⟨p', r, ops, rfl, ha, hlen, hf, hm⟩
    refine W.iteT (by simpa using hi) ?_
    rw [show n - i = (n - (i + 1)) + 1 by omega] at hm
    have wi := wrap_succ (show i ≤ 140737488355328 by omega)
    simp only [wi]
    have hR : RD (rdOp r) (fun e => R (0, 0, 0, 0, 0, 0, e, ((i + 1 : Nat) : Int), 0, true, [])) (fun o r' => rdOp r = .ok (o, r')) := by
      unfold RD
      cases hh : rdOp r with
      | error e => exact fun hne => he e (i + 1) hne (by unfold bodyM; rw [hH]; dsimp only; rw [hm, rdMany_succ, hh]; simp)
      | ok x => rfl
    refine W.bindI (one_ok' dk ha hR (fun e x y h => W.retI (W.retI h)) fun o ra pa h1 h2 => ?_)
    refine W.needI (by rw [List.length_map, hlen]; omega) (W.retI ⟨pa, ra, ops ++ [o], ?_, h2, by simp [hlen], fun q hq => ?_, ?_⟩)
    · simp [Opr.tupR, Opr.row]
    · rcases List.mem_append.1 hq with hq | hq
      · exact hf q hq
      · simp at hq; subst hq; exact (rdOp_fine h1).1
    · rw [hm, rdMany_succ, h1]
      dsimp only
      cases rdMany rdOp (n - (i + 1)) ra with
      | error x => obtain ⟨e, k⟩ := x; dsimp only; rw [show k + 1 + i = k + (i + 1) by omega]
      | ok x => obtain ⟨xs, r'⟩ := x; simp
  · rintro _ ⟨p', r, ops, rfl, ha, hlen, hf, hm⟩
    refine W.iteF (by simp) (W.retI ?_)
    rw [Nat.sub_self] at hm
    have hm : rdMany rdOp n r6 = .ok (ops, r) := by rw [hm]; simp [rdMany]
    have hB : bodyM m = (match rdV r with | .error e => .error (e, 0) | .ok (out, r) => if r.length = 0 then .ok ⟨v1, v2, v3, v4, v5, ops, out⟩ else .error (43, 0)) := by
      unfold bodyM; rw [hH]; dsimp only; rw [hm] <;> rfl
    refine W.bindI (pu_ok dk ha (fun e x y hne h => W.retI (he e 0 hne (by rw [hB, h]))) fun out r7 p7 h7 h8 => ?_)
    rw [h7] at hB
    dsimp only at hB
    have hlr : r7.length = m.length - p7 := by rw [← h8.eq]; simp
    have hle := h8.le
    unfold g___wire_Reader__End_p g___wire_Reader__Err_p g___wire_Reader__Left_p g___wire_cursor__Left_p
    refine W.bindI (W.bindI (W.retI (W.bindI (W.iteF (by simp) (W.bindI (W.bindI (W.retI (W.retI (W.retI ?_)))))))))
    rw [wrap64_in (x := (m.length : Int) - (p7 : Int)) (by omega) (by omega)]
    refine W.iteB (fun e9 => ?_) (fun e9 => ?_)
    · refine W.retI (W.iteF (by simp) ?_)
      rw [if_pos (by simp at e9; omega)] at hB
      have hops : oprs (ops.map Opr.row) = ops := oprs_rows ops
      refine W.bindI (g_model_Check_v _ _ _ _ _ _ _ _ (by rw [List.length_map]; omega) (OpOK.of_rows rfl hf) ?_)
      rw [hops]
      refine W.iteC ((look8 ⟨v1, v2, v3⟩ v4 v5 ops out).err ≠ 0) (by simp; rfl) (fun q => W.retI (hb2 _ hB q)) fun q => W.retI (hk _ _ hB (Classical.not_not.1 q))
    · unfold g___pack_decoder__giveUp_p_2
      refine W.retI (W.iteT (by decide) (W.bindI (W.retI (W.retI (he 43 0 (by decide) ?_)))))
      rw [hB, if_neg (by simp at e9; omega)]
  · rw [Nat.sub_zero]
    cases rdMany rdOp n r6 with
    | error x => rfl
    | ok x => rfl
end Go.Proofs.Ytpoakneeceaooaa.VX

set_option linter.unusedVariables false
set_option linter.unusedSimpArgs false
namespace Go.Proofs.Ytpoakneeceaooaa.VX
def rdVi (l : Rws) : Except Int (Int × Rws) := andE (rdV l) fun x r => .ok ((x : Int), r)
def rdUi (max : Nat) (l : Rws) : Except Int (Int × Rws) := andE (rdU max l) fun x r => .ok ((x : Int), r)
def rdLs (max : Nat) (lo hi : Int) (l : Rws) : Except Int ((Bool × Rws) × Rws) := andE (rdUi max l) fun n r => andE (rdL (rdRow lo hi) n.toNat r) fun ws r => .ok ((decide (n = 0), ws), r)
def rdOpI (l : Rws) : Except Int (Opr × Rws) :=
  andE (rdVi l) fun x0 r => andE (rdVi r) fun x1 r => andE (rdVi r) fun x2 r => andE (rdVi r) fun x3 r => andE (rdVi r) fun x4 r => andE (rdVi r) fun x5 r => andE (rdVi r) fun x6 r => andE (rdVi r) fun x7 r =>
  andE (rdVi r) fun x8 r => andE (rdVi r) fun x9 r => andE (rdVi r) fun x10 r => andE (rdVi r) fun x11 r =>
  andE (rdLs 131072 (-32768) 32767 r) fun ws r => andE (rdLs 1024 (-2147483648) 2147483647 r) fun bs r =>
  andE (rdVi r) fun y0 r => andE (rdVi r) fun y1 r => andE (rdVi r) fun y2 r => andE (rdVi r) fun y3 r => andE (rd32 r) fun z0 r => andE (rd32 r) fun z1 r => andE (rd32 r) fun z2 r => andE (rd32 r) fun z3 r =>
  .ok (⟨x0, x1, x2, x3, ⟨x4, x5, x6, x7, x8, x9, x10, x11⟩, ws.1, ws.2, bs.1, bs.2, y0, y1, y2, y3, z0, z1, z2, z3⟩, r)
theorem andE_ok {α β : Type} (a : α) (r : Rws) (f : α → Rws → Except Int (β × Rws)) : andE (.ok (a, r)) f = f a r := rfl
theorem rdOpI_eq (l : Rws) : rdOpI l = rdOp l := by
  unfold rdOpI rdOp rdLs rdVi rdUi
  simp only [andE_assoc, andE_ok, Int.toNat_natCast, Int.natCast_eq_zero]
section
variable {β γ δ : Type}
/-- Where the reference's decoder stands: nothing is wrong yet, or the first fault is noted. -/
inductive Md (X : Except Int (β × Rws)) (Err : Int → Int → Prop) (Ok : β → Rws → Prop) (op : Int) (r : Rws) (err bad m1 m2 : Int) : Prop
  | good (h : err = 0 ∧ bad = 0 ∧ m1 = 0 ∧ m2 = 0) (hb : Bl r) (hx : RD X (fun e => Err e op) Ok)
  | bad (h : bad ≠ 0) (h2 : m2 = 0) (hb : Bl r) (hx : Err bad m1)
variable {Err : Int → Int → Prop} {Ok : β → Rws → Prop} {Ok' : γ → Rws → Prop} {op op' : Int} {b : Bool} {rest : Rws} {err bad m1 m2 : Int}
theorem Md.off {X : Except Int (β × Rws)} {Y : Except Int (γ × Rws)} (h : Md X Err Ok op rest err bad m1 m2) (hb : bad ≠ 0) : Md Y Err Ok' op' rest err bad m1 m2 := by
  rcases h with ⟨h, _, _⟩ | ⟨h, h2, h3, h4⟩
  · exact absurd h.2.1 hb
  · exact .bad h h2 h3 h4
theorem Md.on {X : Except Int (β × Rws)} (h : Md X Err Ok op rest err bad m1 m2) (hb : bad = 0) : err = 0 ∧ m1 = 0 ∧ m2 = 0 ∧ Bl rest ∧ RD X (fun e => Err e op) Ok := by
  rcases h with ⟨h, h2, h3⟩ | ⟨h, _, _, _⟩
  · exact ⟨h.1, h.2.2.1, h.2.2.2, h2, h3⟩
  · exact absurd hb h
theorem Md.bl {X : Except Int (β × Rws)} (h : Md X Err Ok op rest err bad m1 m2) : Bl rest := by
  rcases h with ⟨_, h2, _⟩ | ⟨_, _, h, _⟩ <;> assumption
theorem Md.z {X : Except Int (β × Rws)} (h : Md X Err Ok op rest err bad m1 m2) : m2 = 0 := by
  rcases h with ⟨h, _, _⟩ | ⟨_, h, _, _⟩
  · exact h.2.2.2
  · exact h
theorem note_bad {x a2 a3 a4 : Int} {l : Rws} {R : Int × Int × Int → Prop} (h : bad ≠ 0) (hR : R (bad, m1, m2)) : (g___ref09_In__note_p x b l a2 a4 bad m1 m2).run R := by
  unfold g___ref09_In__note_p; exact W.iteF (by simp [h]) (W.retI hR)
theorem note_zero {a2 a3 a4 : Int} {l : Rws} {R : Int × Int × Int → Prop} (hR : R (bad, m1, m2)) : (g___ref09_In__note_p 0 b l a2 a4 bad m1 m2).run R := by
  unfold g___ref09_In__note_p; exact W.iteF (by simp) (W.retI hR)
theorem note_new {x a2 a4 : Int} {l : Rws} {R : Int × Int × Int → Prop} (h : x ≠ 0) (hR : R (x, a4, 0)) : (g___ref09_In__note_p x b l a2 a4 0 m1 m2).run R := by
  unfold g___ref09_In__note_p; exact W.iteT (by simp [h]) (W.retI hR)
theorem rU_step {F : Int → Rws → Except Int (β × Rws)} {K : Int × Rws × Int × Int × Int × Int → W δ} {R : δ → Prop} (h : Md (andE (rdVi rest) F) Err Ok op rest err bad m1 m2)
    (hk : ∀ v r err bad m1 m2, Md (F v r) Err Ok op r err bad m1 m2 → (K (v, r, err, bad, m1, m2)).run R) : (W.bind (g___ref09_In__U_p b rest err op bad m1 m2) K).run R := by
  unfold g___ref09_In__U_p
  rcases h with ⟨⟨rfl, rfl, rfl, rfl⟩, hb, hx⟩ | ⟨h1, h2, h3, h4⟩
  · refine W.bindI (W.bindI (refU_good b rest op 0 0 0 hb (fun e hne h => ?_) (fun v r h hr => ?_)))
    · have hE : Err e op := by
        have := hx.err (e := e) (by unfold rdVi; rw [rdV, h]; rfl) hne
        exact this
      exact W.bindI (note_new hne (W.iteF (by simp) (W.retI (hk _ _ _ _ _ _ (.bad hne rfl hb hE)))))
    · refine W.bindI (note_zero (a3 := 0) ?_)
      refine W.iteB (fun e => ?_) (fun e => ?_)
      · have e : 2147483647 < v := by have := of_decide_eq_true e; dsimp only at this; omega
        exact W.bindI (note_new (show (41 : Int) ≠ 0 by decide) (W.retI (hk _ _ _ _ _ _ (.bad (show (41 : Int) ≠ 0 by decide) rfl hr (hx.err (e := 41) (by unfold rdVi; rw [rdV, h]; simp only [andE, e, if_true]) (by decide))))))
      · have e : ¬ 2147483647 < v := by have := of_decide_eq_false e; dsimp only at this; omega
        refine W.retI ?_
        rw [wrap64_in (x := (v : Int)) (by omega) (by omega)]
        exact hk _ _ _ _ _ _ (.good ⟨rfl, rfl, rfl, rfl⟩ hr (hx.go (by unfold rdVi; rw [rdV, h]; simp only [andE, e, if_false])))
  · refine W.bindI (W.bindI (refU_any b rest err op bad m1 m2 h3 fun v r e hr => ?_))
    refine W.bindI (note_bad (a3 := 0) h1 (W.iteB (fun _ => W.bindI (note_bad (a3 := 0) h1 (W.retI ?_))) (fun _ => W.retI ?_)))
    all_goals exact hk _ _ _ _ _ _ (.bad h1 h2 hr h4)
theorem rS_step {bits lo hi : Int} (hf : ∀ v (R : Bool → Prop), R (decide (lo ≤ v ∧ v ≤ hi)) → (g_ref01_Fits bits v).run R) {F : Int → Rws → Except Int (β × Rws)} {K : Int × Rws × Int × Int × Int × Int → W δ} {R : δ → Prop} (h : Md (andE (rdR lo hi rest) F) Err Ok op rest err bad m1 m2)
    (hk : ∀ v r err bad m1 m2, (bad = 0 → lo ≤ v ∧ v ≤ hi) → Md (F v r) Err Ok op r err bad m1 m2 → (K (v, r, err, bad, m1, m2)).run R) : (W.bind (g___ref09_In__S_p bits b rest err op bad m1 m2) K).run R := by
  unfold g___ref09_In__S_p
  rcases h with ⟨⟨rfl, rfl, rfl, rfl⟩, hb, hx⟩ | ⟨h1, h2, h3, h4⟩
  · refine W.bindI (W.bindI (refS_good b rest op 0 0 0 hb (fun e v hne h => ?_) (fun v r h hr => ?_)))
    · have hE : Err e op := hx.err (e := e) (by unfold rdR; rw [h]; rfl) hne
      refine W.bindI (note_new hne (W.bindI (hf v _ (W.iteB (fun _ => W.bindI (note_bad (a3 := 0) hne (W.retI ?_))) (fun _ => W.retI ?_)))))
      all_goals exact hk _ _ _ _ _ _ (fun h => absurd h hne) (.bad hne rfl hb hE)
    · refine W.bindI (note_zero (a3 := 0) (W.bindI (hf v _ ?_)))
      refine W.iteC (¬ (lo ≤ v ∧ v ≤ hi)) (by simp only [decide_not]) (fun e => ?_) (fun e => ?_)
      · have e : v < lo ∨ hi < v := by omega
        exact W.bindI (note_new (show (41 : Int) ≠ 0 by decide) (W.retI (hk _ _ _ _ _ _ (fun h => absurd h (show (41 : Int) ≠ 0 by decide)) (.bad (show (41 : Int) ≠ 0 by decide) rfl hr (hx.err (e := 41) (by unfold rdR; rw [h]; exact if_pos e) (by decide))))))
      · have e : ¬ (v < lo ∨ hi < v) := by omega
        exact W.retI (hk _ _ _ _ _ _ (fun _ => by omega) (.good ⟨rfl, rfl, rfl, rfl⟩ hr (hx.go (by unfold rdR; rw [h]; exact if_neg e))))
  · refine W.bindI (W.bindI (refS_any b rest err op bad m1 m2 h3 fun v r e hr => ?_))
    refine W.bindI (note_bad (a3 := 0) h1 (W.bindI (hf v _ (W.iteB (fun _ => W.bindI (note_bad (a3 := 0) h1 (W.retI ?_))) (fun _ => W.retI ?_)))))
    all_goals exact hk _ _ _ _ _ _ (fun h => absurd h h1) (.bad h1 h2 hr h4)
theorem rN_step {max : Nat} (hm : max ≤ 9223372036854775807) {F : Int → Rws → Except Int (β × Rws)} {K : Int × Rws × Int × Int × Int × Int → W δ} {R : δ → Prop} (h : Md (andE (rdUi max rest) F) Err Ok op rest err bad m1 m2)
    (hk : ∀ (v : Int) r err bad m1 m2, (bad = 0 → 0 ≤ v ∧ v ≤ max) → Md (F v r) Err Ok op r err bad m1 m2 → (K (v, r, err, bad, m1, m2)).run R) : (W.bind (g___ref09_In__N_p (max : Int) b rest err op bad m1 m2) K).run R := by
  unfold g___ref09_In__N_p
  rcases h with ⟨⟨rfl, rfl, rfl, rfl⟩, hb, hx⟩ | ⟨h1, h2, h3, h4⟩
  · refine W.bindI (W.bindI (refN_good max hm b rest op 0 0 0 hb (fun e hne h => ?_) (fun v r h hr => ?_)))
    · have hE : Err e op := hx.err (e := e) (by unfold rdUi; rw [h]; rfl) hne
      exact W.bindI (note_new hne (W.retI (hk _ _ _ _ _ _ (fun h => absurd h hne) (.bad hne rfl hb hE))))
    · refine W.bindI (note_zero (a3 := 0) (W.retI ?_))
      have := rdU_max h
      exact hk _ _ _ _ _ _ (fun _ => by omega) (.good ⟨rfl, rfl, rfl, rfl⟩ hr (hx.go (by unfold rdUi; rw [h]; rfl)))
  · refine W.bindI (W.bindI (refN_any max b rest err op bad m1 m2 h3 fun v r e hr => ?_))
    exact W.bindI (note_bad (a3 := 0) h1 (W.retI (hk _ _ _ _ _ _ (fun h => absurd h h1) (.bad h1 h2 hr h4))))
theorem fits16 (v : Int) (R : Bool → Prop) (h : R (decide (-32768 ≤ v ∧ v ≤ 32767))) : (g_ref01_Fits 16 v).run R := by
  unfold g_ref01_Fits
  have e1 : IntKind.u64.wrap (IntKind.i64.wrap ((16 : Int) - 1)) = 15 := by decide +kernel
  have e2 : IntKind.i64.wrap (1 * 2 ^ min (15 : Int).toNat 64) = 32768 := by decide +kernel
  have e3 : IntKind.i64.wrap (0 - 32768) = -32768 := by decide +kernel
  rw [e1, e2, e3]
  refine W.needI (by decide) (W.retI ?_)
  have e : decide (-32768 ≤ v ∧ v ≤ 32767) = (decide (-32768 ≤ v) && decide (v < 32768)) := by
    rw [← Bool.decide_and, decide_eq_decide]; omega
  rwa [← e]
theorem fits32 (v : Int) (R : Bool → Prop) (h : R (decide (-2147483648 ≤ v ∧ v ≤ 2147483647))) : (g_ref01_Fits 32 v).run R := by
  unfold g_ref01_Fits
  have e1 : IntKind.u64.wrap (IntKind.i64.wrap ((32 : Int) - 1)) = 31 := by decide +kernel
  have e2 : IntKind.i64.wrap (1 * 2 ^ min (31 : Int).toNat 64) = 2147483648 := by decide +kernel
  have e3 : IntKind.i64.wrap (0 - 2147483648) = -2147483648 := by decide +kernel
  rw [e1, e2, e3]
  refine W.needI (by decide) (W.retI ?_)
  have e : decide (-2147483648 ≤ v ∧ v ≤ 2147483647) = (decide (-2147483648 ≤ v) && decide (v < 2147483648)) := by
    rw [← Bool.decide_and, decide_eq_decide]; omega
  rwa [← e]
/-- A list of numbers. -/
theorem rL_step {max sz : Nat} (hm : max ≤ 1000000) (hsz : sz ≤ 4) {bits lo hi : Int} {wr : Int → Int} (hw : ∀ v, lo ≤ v ∧ v ≤ hi → wr v = v) (hf : ∀ v (R : Bool → Prop), R (decide (lo ≤ v ∧ v ≤ hi)) → (g_ref01_Fits bits v).run R)
    {F : Bool × Rws → Rws → Except Int (β × Rws)} {K : Rws × Int × Int × Int × Int × Bool × Rws → W δ} {R : δ → Prop} (h : Md (andE (rdLs max lo hi rest) F) Err Ok op rest err bad m1 m2)
    (hk : ∀ r err bad m1 m2 nl acc, Md (F (nl, acc) r) Err Ok op r err bad m1 m2 → (K (r, err, bad, m1, m2, nl, acc)).run R) :
    (W.bind (g___ref09_In__N_p (max : Int) b rest err op bad m1 m2) fun v5 =>
      W.bind (W.loop (σ := Int × Rws × Int × Int × Int × Int × Bool × Rws) (ε := Rws × Int × Int × Int × Int × Bool × Rws) (fun v6 =>
        W.ite (decide (v6.fst < v5.fst) && v6.snd.snd.snd.fst == 0) (W.bind (g___ref09_In__S_p bits b (v6.snd.fst) (v6.snd.snd.fst) op (v6.snd.snd.snd.fst) (v6.snd.snd.snd.snd.fst) (v6.snd.snd.snd.snd.snd.fst)) fun v7 =>
        W.need ((List.length v6.snd.snd.snd.snd.snd.snd.snd + 1) * sz ≤ 140737488355328) <|
        W.ret (Sum.inl (IntKind.i64.wrap (v6.fst + 1), v7.snd.fst, v7.snd.snd.fst, v7.snd.snd.snd.fst, v7.snd.snd.snd.snd.fst, v7.snd.snd.snd.snd.snd, v6.snd.snd.snd.snd.snd.snd.fst && false, v6.snd.snd.snd.snd.snd.snd.snd ++ [[I (wr v7.fst)]])))
        (W.ret (Sum.inr (v6.snd.fst, v6.snd.snd.fst, v6.snd.snd.snd.fst, v6.snd.snd.snd.snd.fst, v6.snd.snd.snd.snd.snd.fst, v6.snd.snd.snd.snd.snd.snd.fst, v6.snd.snd.snd.snd.snd.snd.snd)))) (0, v5.snd.fst, v5.snd.snd.fst, v5.snd.snd.snd.fst, v5.snd.snd.snd.snd.fst, v5.snd.snd.snd.snd.snd, true, []))
      K).run R := by
  unfold rdLs at h
  rw [andE_assoc] at h
  refine rN_step (by omega) h fun n r err bad m1 m2 hn h => ?_
  simp only [andE_assoc, andE_ok] at h
  refine W.bindI (W.loop_for n.toNat (fun i s => ∃ r err bad m1 m2 nl acc, s = ((i : Int), r, err, bad, m1, m2, nl, acc) ∧ Md (andE (rdL (rdRow lo hi) (n.toNat - i) r) fun ws r => F (decide (n = 0), acc ++ ws) r) Err Ok op r err bad m1 m2 ∧
    (bad = 0 → nl = decide (i = 0) ∧ acc.length = i ∧ 0 ≤ n ∧ n ≤ max)) ?_ ?_ ⟨_, _, _, _, _, _, _, rfl, by simpa using h, fun hb => ⟨rfl, rfl, hn hb⟩⟩)
  · rintro i _ hlt ⟨r, err, bad, m1, m2, nl, acc, rfl, h, hg⟩
    refine W.iteC ((i : Int) < n ∧ bad = 0) (by simp [Bool.decide_and]; rfl) (fun e => ?_) (fun e => ?_)
    · obtain ⟨e1, e2, e3, e4⟩ := hg e.2
      have hl := list_next lo hi (n.toNat - (i + 1)) r acc (fun ws r => F (decide (n = 0), ws) r)
      rw [show n.toNat - (i + 1) + 1 = n.toNat - i by omega] at hl
      rw [hl] at h
      have wi := wrap_succ (show i ≤ 140737488355328 by omega)
      refine rS_step hf h fun v r err bad m1 m2 hv h => W.needI ?_ (W.retI ⟨r, err, bad, m1, m2, nl && false, acc ++ [[I (wr v)]], ?_, ?_, ?_⟩)
      · have : (acc.length + 1) * sz ≤ (acc.length + 1) * 4 := Nat.mul_le_mul_left _ hsz
        dsimp only; omega
      · simp only [wi]
      · by_cases hb : bad = 0
        · rw [hw v (hv hb)]; exact h
        · exact h.off hb
      · intro hb
        refine ⟨by simp, by simp [e2], e3, e4⟩
    · have hb : bad ≠ 0 := fun hb => e ⟨by omega, hb⟩
      exact W.retI (hk _ _ _ _ _ _ _ (h.off hb))
  · rintro _ ⟨r, err, bad, m1, m2, nl, acc, rfl, h, hg⟩
    refine W.iteF (by simp; omega) (W.retI (hk _ _ _ _ _ _ _ ?_))
    by_cases hb : bad = 0
    · obtain ⟨e1, e2, e3, e4⟩ := hg hb
      rw [Nat.sub_self, rdL_zero, andE_ok, List.append_nil] at h
      have : nl = decide (n = 0) := by rw [e1, decide_eq_decide]; omega
      rw [this]; exact h
    · exact h.off hb
end
end Go.Proofs.Ytpoakneeceaooaa.VX

set_option linter.unusedVariables false
set_option linter.unusedSimpArgs false
namespace Go.Proofs.Ytpoakneeceaooaa.VX
theorem g_ref08_Check_v (a b c : Int) (lo hi : Int) (nl : Bool) (l : Rws) (out : Int) (hl : l.length ≤ 676622540150) (hsh : short l) {R : Int × Int × Int → Prop} (h : R ((look8 ⟨a, b, c⟩ lo hi (oprs l) out).err, (look8 ⟨a, b, c⟩ lo hi (oprs l) out).op, 0)) : (g_ref08_Check a b c lo hi nl l out).run R := by
  unfold g_ref08_Check
  exact W.bindI (g_ref08_Look_v a b c lo hi nl l out hl hsh (W.retI h))
/-- As the reference answers an op. -/
def Opr.tupF (o : Opr) (r : Rws) (err bad m1 m2 : Int) : Int × Int × Int × Int × Int × Int × Int × Int × Int × Int × Int × Int × Int × Int × Int × Int × Int × Int × Int × Int × Rws × Int × Int × Int × Int × Bool × Rws × Bool × Rws :=
  (o.kind, o.a, o.b, o.m, o.win.kh, o.win.kw, o.win.sh, o.win.sw, o.win.top, o.win.left, o.win.bottom, o.win.right, o.sam, o.sas, o.sbm, o.sbs, o.zero, o.pad, o.lo, o.hi, r, err, bad, m1, m2, o.wn, o.ws, o.bn, o.bs)
theorem rop_ok {Err : Int → Int → Prop} {Ok : Opr → Rws → Prop} {op : Int} {b : Bool} {rest : Rws} {err bad m1 m2 : Int} {R : Int × Int × Int × Int × Int × Int × Int × Int × Int × Int × Int × Int × Int × Int × Int × Int × Int × Int × Int × Int × Rws × Int × Int × Int × Int × Bool × Rws × Bool × Rws → Prop}
    (h : Md (rdOp rest) Err Ok op rest err bad m1 m2) (hk : ∀ (o : Opr) r err bad m1 m2, Md (.ok (o, r)) Err Ok op r err bad m1 m2 → R (o.tupF r err bad m1 m2)) : (g___ref09_In__op_p b rest err op bad m1 m2).run R := by
  rw [← rdOpI_eq] at h
  unfold rdOpI at h
  unfold g___ref09_In__op_p g___ref09_In__window_p g___ref09_In__scale_p
  refine rU_step h fun v1 _ _ _ _ _ h => ?_
  refine rU_step h fun v2 _ _ _ _ _ h => ?_
  refine rU_step h fun v3 _ _ _ _ _ h => ?_
  refine rU_step h fun v4 _ _ _ _ _ h => W.bindI ?_
  refine rU_step h fun w1 _ _ _ _ _ h => ?_
  refine rU_step h fun w2 _ _ _ _ _ h => ?_
  refine rU_step h fun w3 _ _ _ _ _ h => ?_
  refine rU_step h fun w4 _ _ _ _ _ h => ?_
  refine rU_step h fun w5 _ _ _ _ _ h => ?_
  refine rU_step h fun w6 _ _ _ _ _ h => ?_
  refine rU_step h fun w7 _ _ _ _ _ h => ?_
  refine rU_step h fun w8 _ _ _ _ _ h => W.retI ?_
  refine rL_step (max := 131072) (sz := 2) (by decide) (by decide) (wr := IntKind.i16.wrap) (fun v h => wrap16_in h) fits16 h fun _ _ _ _ _ n1 l1 h => ?_
  refine rL_step (max := 1024) (sz := 4) (by decide) (by decide) (wr := IntKind.i32.wrap) (fun v h => wrap32_in h) fits32 h fun _ _ _ _ _ n2 l2 h => W.bindI ?_
  refine rU_step h fun y1 _ _ _ _ _ h => ?_
  refine rU_step h fun y2 _ _ _ _ _ h => W.retI (W.bindI ?_)
  refine rU_step h fun y3 _ _ _ _ _ h => ?_
  refine rU_step h fun y4 _ _ _ _ _ h => W.retI ?_
  refine rS_step fits32 h fun z1 _ _ _ _ _ _ h => ?_
  refine rS_step fits32 h fun z2 _ _ _ _ _ _ h => ?_
  refine rS_step fits32 h fun z3 _ _ _ _ _ _ h => ?_
  refine rS_step fits32 h fun z4 _ _ _ _ _ _ h => W.retI ?_
  exact hk _ _ _ _ _ _ h
theorem byteAt_bs4 : (bs [83, 87, 77, 49]).size = 4 ∧ byteAt (bs [83, 87, 77, 49]) 0 = 83 ∧ byteAt (bs [83, 87, 77, 49]) 1 = 87 ∧ byteAt (bs [83, 87, 77, 49]) 2 = 77 ∧ byteAt (bs [83, 87, 77, 49]) 3 = 49 := by
  decide +kernel
theorem front_ok (b : Bool) (l : Rws) (hn : l.length ≤ 140737488355328) {R : Bool × Rws × Int → Prop} (h0 : l.length < 4 → R (true, [], 40)) (h1 : ¬ l.length < 4 → magicM l = false → R (true, [], 41)) (h2 : ¬ l.length < 4 → magicM l = true → R (b, l.drop 4, 0)) :
    (g_ref09_Front b l (bs [83, 87, 77, 49])).run R := by
  obtain ⟨e0, e1, e2, e3, e4⟩ := byteAt_bs4
  unfold g_ref09_Front
  refine W.iteB (fun e => W.retI (h0 (by have := of_decide_eq_true e; omega))) (fun e => ?_)
  have e : ¬ l.length < 4 := by have := of_decide_eq_false e; omega
  have n0 : ∀ k : Int, 0 ≤ k → k < 4 → (0 : Int) ≤ k ∧ k < (l.length : Int) := fun k h h' => by omega
  rw [e0]
  rw [e1, e2, e3, e4]
  refine W.needI (n0 _ (by decide) (by decide)) (W.needI (by decide) (W.iteB (fun q => W.retI (h1 e ?_)) fun q0 => ?_))
  · have q : ri l 0 0 ≠ 83 := by simpa using q
    unfold magicM; simp [q]
  refine W.needI (n0 _ (by decide) (by decide)) (W.needI (by decide) (W.iteB (fun q => W.retI (h1 e ?_)) fun q1 => ?_))
  · have q : ri l 1 0 ≠ 87 := by simpa using q
    unfold magicM; simp [q]
  refine W.needI (n0 _ (by decide) (by decide)) (W.needI (by decide) (W.iteB (fun q => W.retI (h1 e ?_)) fun q2 => ?_))
  · have q : ri l 2 0 ≠ 77 := by simpa using q
    unfold magicM; simp [q]
  refine W.needI (n0 _ (by decide) (by decide)) (W.needI (by decide) (W.iteB (fun q => W.retI (h1 e ?_)) fun q3 => ?_))
  · have q : ri l 3 0 ≠ 49 := by simpa using q
    unfold magicM; simp [q]
  refine W.needI (by omega) (W.retI ?_)
  have hrest := rest_eq l 4 (by omega)
  rw [show ((4 : Nat) : Int) = 4 from rfl] at hrest
  rw [show List.drop 4 l = List.drop (4 : Int).toNat l from rfl, hrest]
  refine h2 e ?_
  have q0 : ri l 0 0 = 83 := by simpa using q0
  have q1 : ri l 1 0 = 87 := by simpa using q1
  have q2 : ri l 2 0 = 77 := by simpa using q2
  have q3 : ri l 3 0 = 49 := by simpa using q3
  unfold magicM; simp [q0, q1, q2, q3]
def rdHdI (l : Rws) : Except Int ((Int × Int × Int × Int × Int × Int) × Rws) :=
  andE (rdVi l) fun h r => andE (rdVi r) fun w r => andE (rdVi r) fun c r => andE (rd32 r) fun lo r => andE (rd32 r) fun hi r => andE (rdUi 64 r) fun n r => .ok ((h, w, c, lo, hi, n), r)
theorem rdHdI_eq (l : Rws) : rdHdI l = andE (rdHd l) fun x r => .ok ((x.1, x.2.1, x.2.2.1, x.2.2.2.1, x.2.2.2.2.1, (x.2.2.2.2.2 : Int)), r) := by
  unfold rdHdI rdHd rdVi rdUi
  simp only [andE_assoc, andE_ok]
theorem rtail (m : Rws) (v1 v2 v3 v4 v5 : Int) (b : Bool) (r : Rws) (err bad m1 m2 : Int) (nl : Bool) (rows : Rws) {R : Int × Int × Int × Int × Int × Int × Int × Int × Int × Bool × Rws → Prop}
    (he : ∀ e (i : Nat), e ≠ 0 → bodyM m = .error (e, i) → R (0, 0, 0, 0, 0, 0, e, (i : Int), 0, true, []))
    (hb2 : ∀ x, bodyM m = .ok x → (look x).err ≠ 0 → R (0, 0, 0, 0, 0, 0, (look x).err, (look x).op, 0, true, []))
    (hk : ∀ x c, bodyM m = .ok x → (look x).err = 0 → R (x.h, x.w, x.c, x.lo, x.hi, x.out, 0, 0, 0, c, x.ops.map Opr.row))
    (h : Md (.ok ((), r)) (fun e i => R (0, 0, 0, 0, 0, 0, e, i, 0, true, [])) (fun _ r => ∃ ops : List Opr, rows = ops.map Opr.row ∧ (∀ o ∈ ops, OpOK o) ∧ ops.length ≤ 64 ∧
      bodyM m = (match rdV r with | .error e => .error (e, 0) | .ok (out, r) => if r.length = 0 then .ok ⟨v1, v2, v3, v4, v5, ops, out⟩ else .error (43, 0))) 0 r err bad m1 m2) :
    (W.bind (g___ref09_In__U_p b r err 0 bad m1 m2) fun v10 =>
     W.bind (g___ref04_Reader__End_p b (v10.snd.fst) (v10.snd.snd.fst) (0) (v10.snd.snd.snd.fst) (v10.snd.snd.snd.snd.fst) (v10.snd.snd.snd.snd.snd)) fun v11 =>
     W.bind (g___ref09_In__note_p (v11) b (v10.snd.fst) (v10.snd.snd.fst) (0) (v10.snd.snd.snd.fst) (v10.snd.snd.snd.snd.fst) (v10.snd.snd.snd.snd.snd)) fun v12 =>
     W.ite (v12.fst != 0) (W.ret ((0 : Int), (0 : Int), (0 : Int), (0 : Int), (0 : Int), (0 : Int), v12.fst, v12.snd.fst, v12.snd.snd, true, []))
     (W.bind (g_ref08_Check v1 v2 v3 v4 v5 nl rows (v10.fst)) fun v13 =>
     W.ite (v13.fst != 0) (W.ret (0, 0, 0, 0, 0, 0, v13.fst, v13.snd.fst, v13.snd.snd, true, []))
     (W.ret (v1, v2, v3, v4, v5, v10.fst, 0, 0, 0, nl, rows)))).run R := by
  have h2 : Md (andE (rdVi r) fun out r => .ok (out, r)) (fun e i => R (0, 0, 0, 0, 0, 0, e, i, 0, true, [])) (fun out r' => ∃ (ops : List Opr) (o : Nat), out = (o : Int) ∧ rows = ops.map Opr.row ∧ (∀ o ∈ ops, OpOK o) ∧ ops.length ≤ 64 ∧
      bodyM m = if r'.length = 0 then .ok ⟨v1, v2, v3, v4, v5, ops, o⟩ else .error (43, 0)) 0 r err bad m1 m2 := by
    by_cases hb : bad = 0
    · obtain ⟨y1, y2, y3, y4, ops, y5, y6, y7, y8⟩ := h.on hb
      refine .good ⟨y1, hb, y2, y3⟩ y4 ?_
      unfold RD rdVi
      cases hv : rdV r with
      | error e => rw [hv] at y8; exact fun hne => he e 0 hne y8
      | ok x => rw [hv] at y8; exact ⟨ops, x.1, rfl, y5, y6, y7, y8⟩
    · exact h.off hb
  clear h
  refine rU_step h2 fun out r' err bad m1 m2 h => W.bindI ?_
  unfold g___ref04_Reader__End_p
  by_cases hb : bad = 0
  · obtain ⟨rfl, rfl, rfl, y4, ops, o, rfl, rfl, y6, y7, hB⟩ := h.on hb
    subst hb
    refine W.iteC (0 < r'.length) (by simp) (fun e => W.retI ?_) (fun e => W.retI ?_)
    · refine W.bindI (note_new (show (43 : Int) ≠ 0 by decide) (W.iteT (by simp) (W.retI ?_)))
      exact he 43 0 (by decide) (by rw [hB, if_neg (by omega)])
    · rw [if_pos (by omega)] at hB
      refine W.bindI (note_zero (a3 := 0) (W.iteF (by simp) ?_))
      refine W.bindI (g_ref08_Check_v _ _ _ _ _ _ _ _ (by rw [List.length_map]; omega) (OpOK.of_rows rfl y6) ?_)
      rw [oprs_rows]
      refine W.iteC ((look8 ⟨v1, v2, v3⟩ v4 v5 ops o).err ≠ 0) (by simp; rfl) (fun q => W.retI (hb2 _ hB q)) fun q => W.retI (hk _ _ hB (Classical.not_not.1 q))
  · have hE : R (0, 0, 0, 0, 0, 0, bad, m1, m2, true, []) := by
      rcases h with ⟨q, _, _⟩ | ⟨_, rfl, _, q⟩
      · exact absurd q.2.1 hb
      · exact q
    have key : ∀ x : Int, (W.bind (g___ref09_In__note_p x b r' err 0 bad m1 m2) fun v12 =>
     W.ite (v12.fst != 0) (W.ret ((0 : Int), (0 : Int), (0 : Int), (0 : Int), (0 : Int), (0 : Int), v12.fst, v12.snd.fst, v12.snd.snd, true, []))
     (W.bind (g_ref08_Check v1 v2 v3 v4 v5 nl rows out) fun v13 =>
     W.ite (v13.fst != 0) (W.ret (0, 0, 0, 0, 0, 0, v13.fst, v13.snd.fst, v13.snd.snd, true, []))
     (W.ret (v1, v2, v3, v4, v5, out, 0, 0, 0, nl, rows)))).run R := fun x => W.bindI (note_bad (a3 := 0) hb (W.iteT (by simp [hb]) (W.retI hE)))
    exact W.iteB (fun _ => W.retI (key _)) (fun _ => W.retI (key _))
theorem g_ref09_Decode_ok (b : Bool) (l : Rws) (hl : byt l) (hn : l.length ≤ 140737488355328) {R : Int × Int × Int × Int × Int × Int × Int × Int × Int × Bool × Rws → Prop}
    (he : ∀ e (i : Nat), e ≠ 0 → decM l = .error (e, i) → R (0, 0, 0, 0, 0, 0, e, (i : Int), 0, true, []))
    (hb2 : ∀ m, decM l = .ok m → (look m).err ≠ 0 → R (0, 0, 0, 0, 0, 0, (look m).err, (look m).op, 0, true, []))
    (hk : ∀ m c, decM l = .ok m → (look m).err = 0 → R (m.h, m.w, m.c, m.lo, m.hi, m.out, 0, 0, 0, c, m.ops.map Opr.row)) : (g_ref09_Decode b l).run R := by
  unfold g_ref09_Decode
  refine W.bindI (front_ok b l hn (fun e => ?_) (fun e em => ?_) (fun e em => ?_))
  · exact W.iteT (by decide) (W.retI (he 40 0 (by decide) (by unfold decM; rw [if_pos e])))
  · exact W.iteT (by decide) (W.retI (he 41 0 (by decide) (by unfold decM; rw [if_neg e, em]; rfl)))
  have hd : decM l = bodyM (l.drop 4) := by unfold decM; rw [if_neg e, if_pos em]
  rw [hd] at he hb2 hk
  have hby := byt_drop hl 4
  have hln : (l.drop 4).length ≤ 140737488355328 := by simp; omega
  refine W.iteF (by simp) ?_
  dsimp only
  generalize l.drop 4 = m at he hb2 hk hby hln
  let Err : Int → Int → Prop := fun e i => R (0, 0, 0, 0, 0, 0, e, i, 0, true, [])
  have h : Md (rdHdI m) Err (fun x r => rdHdI m = .ok (x, r)) 0 m 0 0 0 0 := by
    refine .good ⟨rfl, rfl, rfl, rfl⟩ ⟨hby, hln⟩ ?_
    unfold RD
    cases hh : rdHdI m with
    | error e =>
      rw [rdHdI_eq] at hh
      cases hr : rdHd m with
      | error e' => rw [hr] at hh; cases hh; exact fun hne => he e 0 hne (by unfold bodyM; rw [hr])
      | ok x => rw [hr] at hh; cases hh
    | ok x => rfl
  have h0 : rdHdI m = _ := rfl
  conv at h => arg 1; unfold rdHdI
  refine rU_step h fun v1 _ _ _ _ _ h => ?_
  refine rU_step h fun v2 _ _ _ _ _ h => ?_
  refine rU_step h fun v3 _ _ _ _ _ h => ?_
  refine rS_step fits32 h fun v4 _ _ _ _ _ _ h => ?_
  refine rS_step fits32 h fun v5 _ _ _ _ _ _ h => ?_
  refine rN_step (max := 64) (by decide) h fun n r6 err bad m1 m2 hnn h => ?_
  clear h0
  have hgood : bad = 0 → ∃ k : Nat, n = (k : Int) ∧ k ≤ 64 ∧ rdHd m = .ok ((v1, v2, v3, v4, v5, k), r6) := fun hb => by
    obtain ⟨_, _, _, _, hx⟩ := h.on hb
    have hx : rdHdI m = .ok ((v1, v2, v3, v4, v5, n), r6) := hx
    rw [rdHdI_eq] at hx
    cases hr : rdHd m with
    | error e' => rw [hr] at hx; cases hx
    | ok x => rw [hr] at hx; cases hx; exact ⟨x.1.2.2.2.2.2, rfl, by have := hnn hb; omega, rfl⟩
  refine W.bindI (W.loop_for n.toNat (fun i s => ∃ (r : Rws) (err c bad m1 m2 : Int) (nl : Bool) (rows : Rws), s = ((i : Int), r, err, c, bad, m1, m2, nl, rows) ∧
      Md (.ok ((), r)) Err (fun _ r => ∃ (ops : List Opr) (k : Nat), rows = ops.map Opr.row ∧ n = (k : Int) ∧ k ≤ 64 ∧ rdHd m = .ok ((v1, v2, v3, v4, v5, k), r6) ∧ ops.length = i ∧ (∀ o ∈ ops, OpOK o) ∧
      rdMany rdOp k r6 = (match rdMany rdOp (k - i) r with | .error (e, j) => .error (e, j + i) | .ok (xs, r) => .ok (ops ++ xs, r))) 0 r err bad m1 m2) ?_ ?_ ⟨_, _, _, _, _, _, _, _, rfl, ?_⟩)
  · rintro i _ hlt ⟨r, err, c, bad, m1, m2, nl, rows, rfl, h⟩
    refine W.iteC ((i : Int) < n ∧ bad = 0) (by simp [Bool.decide_and]; rfl) (fun e => ?_) (fun e => ?_)
    · obtain ⟨z1, z2, z3, z4, ops, k, rfl, rfl, hk64, hH, hlen, hf, hm⟩ := h.on e.2
      obtain ⟨e1, rfl⟩ := e
      subst z1 z2 z3
      have e1 : i < k := by omega
      rw [show k - i = (k - (i + 1)) + 1 by omega, rdMany_succ] at hm
      have wi := wrap_succ (show i ≤ 140737488355328 by omega)
      simp only [wi]
      have hR : Md (rdOp r) Err (fun o r' => rdOp r = .ok (o, r')) ((i + 1 : Nat) : Int) r 0 0 0 0 := by
        refine .good ⟨rfl, rfl, rfl, rfl⟩ z4 ?_
        unfold RD
        cases hh : rdOp r with
        | error e =>
          rw [hh] at hm
          exact fun hne => he e (i + 1) hne (by unfold bodyM; rw [hH]; dsimp only; rw [hm]; simp)
        | ok x => rfl
      refine W.bindI (rop_ok hR fun o ra err bad m1 m2 h => W.needI (by rw [List.length_map, hlen]; omega) (W.retI ⟨ra, err, _, bad, m1, m2, nl && false, ops.map Opr.row ++ [o.row], rfl, ?_⟩))
      by_cases hb : bad = 0
      · obtain ⟨y1, y2, y3, y4, y5⟩ := h.on hb
        have y5 : rdOp r = .ok (o, ra) := y5
        refine .good ⟨y1, hb, y2, y3⟩ y4 ⟨ops ++ [o], k, by simp, rfl, hk64, hH, by simp [hlen], fun q hq => ?_, ?_⟩
        · rcases List.mem_append.1 hq with hq | hq
          · exact hf q hq
          · simp at hq; subst hq; exact (rdOp_fine y5).1
        · rw [hm, y5]
          dsimp only
          cases rdMany rdOp (k - (i + 1)) ra with
          | error x => obtain ⟨e, j⟩ := x; dsimp only; rw [show j + 1 + i = j + (i + 1) by omega]
          | ok x => obtain ⟨xs, r'⟩ := x; simp
      · exact h.off hb
    · have hb : bad ≠ 0 := fun hb => e ⟨by omega, hb⟩
      exact W.retI (rtail m v1 v2 v3 v4 v5 b r err bad m1 m2 nl rows he hb2 hk (h.off hb))
  · rintro _ ⟨r, err, c, bad, m1, m2, nl, rows, rfl, h⟩
    refine W.iteF (by simp; omega) (W.retI (rtail m v1 v2 v3 v4 v5 b r err bad m1 m2 nl rows he hb2 hk ?_))
    by_cases hb : bad = 0
    · obtain ⟨y1, y2, y3, y4, ops, k, y5, y6, y7, y8, y9, y10, y11⟩ := h.on hb
      refine .good ⟨y1, hb, y2, y3⟩ y4 ⟨ops, y5, y10, by omega, ?_⟩
      subst y6
      rw [Int.toNat_natCast, Nat.sub_self] at y11
      unfold bodyM; rw [y8]; dsimp only; rw [y11]
      simp only [rdMany, List.append_nil] <;> cases rdV r <;> rfl
    · exact h.off hb
  · by_cases hb : bad = 0
    · obtain ⟨y1, y2, y3, y4, _⟩ := h.on hb
      obtain ⟨k, rfl, g2, g3⟩ := hgood hb
      refine .good ⟨y1, hb, y2, y3⟩ y4 ⟨[], k, rfl, rfl, g2, g3, rfl, fun o ho => by simp at ho, ?_⟩
      rw [Nat.sub_zero]
      cases rdMany rdOp k r6 with
      | error x => rfl
      | ok x => rfl
    · exact h.off hb
end Go.Proofs.Ytpoakneeceaooaa.VX

set_option linter.unusedVariables false
set_option linter.unusedSimpArgs false
namespace Go.Proofs.Ytpoakneeceaooaa.VX
/-- All that the check of an op asks. -/
structure OneOK (o : Opr) (S : List Shp) : Prop where
  k : 1 ≤ o.kind ∧ o.kind ≤ 8
  a : 0 ≤ o.a ∧ o.a < S.length
  b : o.kind = 6 → 0 ≤ o.b ∧ o.b < S.length
  sp : o.spare
  m : o.kind ≤ 2 → 1 ≤ o.m ∧ o.m ≤ 1024
  t : (o.mk1 (S.getD o.a.toNat default)).2 = 0
  tok : (o.mk1 (S.getD o.a.toNat default)).1.ok
  len : reduces o.kind → o.len (S.getD o.a.toNat default) ≤ 512
  ws : (o.ws.length : Int) = (o.lists (S.getD o.a.toNat default)).1
  bs : (o.bs.length : Int) = (o.lists (S.getD o.a.toNat default)).2
  sa : scales o.kind → scaleOK o.sam o.sas
  sb : o.kind = 6 → scaleOK o.sbm o.sbs
  v : val o.lo ∧ val o.hi ∧ val o.zero ∧ val o.pad
  e : (o.one S).1 = (o.mk1 (S.getD o.a.toNat default)).1
theorem one_all {o : Opr} {S : List Shp} (h : (o.one S).2 = 0) : OneOK o S := by
  have h0 := h
  unfold Opr.one at h
  repeat' split at h
  all_goals try (exfalso; simp at h; done)
  · rename_i h5; exact absurd h h5
  · rename_i h1 h2 h3 h4 h5 h6 h7 h8 h9 h10
    have h5' : (o.mk1 (S.getD o.a.toNat default)).2 = 0 := by simpa using h5
    have e : o.one S = ((o.mk1 (S.getD o.a.toNat default)).1, 0) := by
      unfold Opr.one
      rw [if_neg h1, if_neg h2, if_neg h3, if_neg h4, if_neg h5, if_neg h6, if_neg h7, if_neg h8, if_neg h9, if_neg h10]
    have h3 := Classical.not_not.1 h3
    have h6 := Classical.not_not.1 fun q => h6 (.inr q)
    rw [not_or] at h9
    exact ⟨by omega, by omega, fun q => by omega, h3, fun q => by omega, h5', h6, fun q => Classical.not_not.1 fun q' => h7 ⟨q, by omega⟩, Classical.not_not.1 fun q => h8 (.inl q), Classical.not_not.1 fun q => h8 (.inr q),
      fun q => Classical.not_not.1 fun q' => h9.1 ⟨q, q'⟩, fun q => Classical.not_not.1 fun q' => h9.2 ⟨q, q'⟩,
      ⟨Classical.not_not.1 fun q => h10 (.inl q), Classical.not_not.1 fun q => h10 (.inr (.inl q)), Classical.not_not.1 fun q => h10 (.inr (.inr (.inr (.inl q)))), Classical.not_not.1 fun q => h10 (.inr (.inr (.inr (.inr q))))⟩, by rw [e]⟩
theorem mk1_win {o : Opr} {s : Shp} (h : (o.mk1 s).2 = 0) (hs : slides o.kind) : o.win.ok := by
  unfold Opr.mk1 at h
  rw [if_neg (by unfold slides at hs; omega), if_pos hs] at h
  split at h
  · rename_i h1; exact absurd h h1
  · rename_i h1
    unfold wout at h1
    split at h1
    · exact absurd (show ((0, 0, 50) : Int × Int × Int).2.2 ≠ 0 by decide) h1
    · split at h1
      · exact absurd (show ((0, 0, 60) : Int × Int × Int).2.2 ≠ 0 by decide) h1
      · rename_i q; exact Classical.not_not.1 q
theorem len_nn {o : Opr} {s : Shp} (hs : s.ok) (hw : slides o.kind → o.win.ok) (hk : reduces o.kind) : 0 ≤ o.len s := by
  obtain ⟨a1, a2, a3, _⟩ := hs
  unfold Opr.len
  split
  · exact Int.mul_nonneg (Int.mul_nonneg (by omega) (by omega)) (by omega)
  · have hw := hw (by unfold slides; unfold reduces at hk; omega)
    unfold Win.ok sideOK at hw
    split
    · exact Int.mul_nonneg (Int.mul_nonneg (by omega) (by omega)) (by omega)
    · exact Int.mul_nonneg (by omega) (by omega)
theorem lists_le {o : Opr} {s : Shp} (hs : s.ok) (ht : (o.mk1 s).1.ok) (h0 : (o.mk1 s).2 = 0) (hk : 1 ≤ o.kind ∧ o.kind ≤ 8) (hm : o.kind ≤ 2 → 1 ≤ o.m ∧ o.m ≤ 1024) (hl : o.labour s (o.mk1 s).1 ≤ 131072) :
    (o.lists s).1 ≤ 131072 ∧ (o.lists s).2 ≤ 1024 := by
  have hw := fun q => mk1_win h0 q
  have hs' := hs
  obtain ⟨a1, a2, a3, _⟩ := hs'
  obtain ⟨b1, b2, b3, _⟩ := ht
  unfold Opr.lists
  have key : ∀ c : Int, 1 ≤ c → (o.mk1 s).1.c = c → reduces o.kind → c * o.len s ≤ 131072 := fun c hc e hr => by
    unfold Opr.labour at hl
    rw [if_pos hr, e] at hl
    have hL := len_nn hs hw hr
    have hP : 1 ≤ (o.mk1 s).1.h * (o.mk1 s).1.w := by
      have := Int.mul_le_mul (a := 1) (b := 1) (c := (o.mk1 s).1.h) (d := (o.mk1 s).1.w) (by omega) (by omega) (by omega) (by omega)
      omega
    have hQ : 0 ≤ c * o.len s := Int.mul_nonneg (by omega) hL
    have := Int.mul_le_mul_of_nonneg_right hP hQ
    rw [Int.mul_assoc] at hl
    omega
  split
  · rename_i q
    refine ⟨key o.m (by omega) ?_ (by unfold reduces; omega), by dsimp only; omega⟩
    unfold Opr.mk1 at h0 ⊢
    split
    · rfl
    · rename_i q1
      rw [if_neg q1, if_pos (by unfold slides; omega)] at h0
      rw [if_pos (by unfold slides; omega)]
      split at h0
      · rename_i q2; exact absurd h0 q2
      · rename_i q2; rw [if_neg q2]; dsimp only; rw [if_pos (by omega)]
  · split
    · rename_i q1 q
      refine ⟨key s.c (by omega) ?_ (by unfold reduces; omega), by dsimp only; omega⟩
      unfold Opr.mk1 at h0 ⊢
      rw [if_neg (by omega), if_pos (by unfold slides; omega)] at h0 ⊢
      split at h0
      · rename_i q2; exact absurd h0 q2
      · rename_i q2; rw [if_neg q2]; dsimp only; rw [if_neg (by omega)]
    · exact ⟨by decide, by decide⟩
theorem one_fine {o : Opr} {S : List Shp} (h : OneOK o S) (hS : ∀ s ∈ S, s.ok) (hSl : S.length ≤ 65) (hl : o.labour (S.getD o.a.toNat default) (o.one S).1 ≤ 131072) (hw : ∀ r ∈ o.ws, I1 (-32768) 32767 r) (hb : ∀ r ∈ o.bs, I1 (-2147483648) 2147483647 r) : OpOK o := by
  rw [h.e] at hl
  have hs : (S.getD o.a.toNat default).ok := hS _ (getD_mem (by have := h.a; omega))
  have hL := lists_le hs h.tok h.t h.k h.m hl
  have := h.ws
  have := h.bs
  have hv := h.v
  unfold val at hv
  have hk := h.k
  have ha := h.a
  have hbb := h.b
  have hm := h.m
  have hsa := h.sa
  have hsb := h.sb
  unfold scaleOK at hsa hsb
  have hwin : (0 ≤ o.win.kh ∧ o.win.kh ≤ 32) ∧ (0 ≤ o.win.kw ∧ o.win.kw ≤ 32) ∧ (0 ≤ o.win.sh ∧ o.win.sh ≤ 32) ∧ (0 ≤ o.win.sw ∧ o.win.sw ≤ 32) ∧ (0 ≤ o.win.top ∧ o.win.top ≤ 32) ∧ (0 ≤ o.win.left ∧ o.win.left ≤ 32) ∧ (0 ≤ o.win.bottom ∧ o.win.bottom ≤ 32) ∧ (0 ≤ o.win.right ∧ o.win.right ≤ 32) := by
    by_cases q : slides o.kind
    · have := mk1_win h.t q
      unfold Win.ok sideOK at this
      omega
    · have := h.sp.2.2.2.2.1
      rcases this with this | this
      · exact absurd this q
      · rw [this]; dsimp only; omega
  obtain ⟨s1, s2, s3, s4, _, s6, _⟩ := h.sp
  obtain ⟨w1, w2, w3, w4, w5, w6, w7, w8⟩ := hwin
  have hA : (0 ≤ o.sam ∧ o.sam ≤ 2147483647) ∧ 0 ≤ o.sas ∧ o.sas ≤ 2147483647 := by
    rcases s4 with s4 | s4
    · have := hsa s4; omega
    · omega
  refine ⟨by omega, by omega, ?_, ?_, by omega, by omega, by omega, by omega, by omega, by omega, by omega, by omega, ⟨by omega, hw⟩, ⟨by omega, hb⟩, hA.1, hA.2, ?_, ?_, by omega, by omega, by omega, by omega⟩
  · rcases s1 with s1 | s1
    · have := hbb s1; omega
    · omega
  · rcases s2 with s2 | s2
    · have := hm s2; omega
    · omega
  · rcases s1 with s1 | s1
    · have := hsb s1; omega
    · omega
  · rcases s1 with s1 | s1
    · have := hsb s1; omega
    · omega
theorem walk_fine : ∀ (l : List Opr) (i w : Int) (S : List Shp), (∀ s ∈ S, s.ok) → S.length + l.length ≤ 65 → 0 ≤ w → (walk8 l i w S).err = 0 → (∀ o ∈ l, (∀ r ∈ o.ws, I1 (-32768) 32767 r) ∧ ∀ r ∈ o.bs, I1 (-2147483648) 2147483647 r) → ∀ o ∈ l, OpOK o
  | [], _, _, _, _, _, _, _, _, o, ho => by simp at ho
  | p :: r, i, w, S, hS, hl, h0, he, hf, o, ho => by
    unfold walk8 at he
    split at he
    · rename_i h1; exact absurd he h1
    · rename_i h1
      obtain ⟨q1, q2⟩ := step_ok hS h1
      have h1 := Classical.not_not.1 h1
      split at he
      · simp at he
      · rename_i h2
        rw [List.length_cons] at hl
        rcases List.mem_cons.1 ho with rfl | ho
        · exact one_fine (one_all h1) hS (by omega) (by omega) (hf _ (by simp)).1 (hf _ (by simp)).2
        · exact walk_fine r _ _ _ q2 (by rw [List.length_append, List.length_singleton]; omega) (by omega) he (fun o ho => hf o (by simp [ho])) o ho
/-- A checked model's numbers. -/
theorem look_fine {s : Shp} {lo hi : Int} {ops : List Opr} {out : Int} (h : (look8 s lo hi ops out).err = 0) (hf : ∀ o ∈ ops, (∀ r ∈ o.ws, I1 (-32768) 32767 r) ∧ ∀ r ∈ o.bs, I1 (-2147483648) 2147483647 r) :
    s.ok ∧ (val lo ∧ val hi) ∧ ops.length ≤ 64 ∧ (0 ≤ out ∧ out ≤ ops.length) ∧ ∀ o ∈ ops, OpOK o := by
  unfold look8 at h
  repeat' split at h
  all_goals try (exfalso; simp at h; done)
  rename_i h1 h2 h3 h4
  rw [not_or] at h4
  have h1 := Classical.not_not.1 h1
  refine ⟨h1, ⟨Classical.not_not.1 fun q => h2 (.inl q), Classical.not_not.1 fun q => h2 (.inr (.inl q))⟩, by omega, by omega, ?_⟩
  exact walk_fine ops 0 0 [s] (fun t ht => by simp at ht; subst ht; exact h1) (by simp; omega) (by omega) h hf
theorem look8_op0 {s : Shp} {lo hi : Int} {ops : List Opr} {out : Int} (h : (look8 s lo hi ops out).err = 0) : (look8 s lo hi ops out).op = 0 := by
  have key := (walk8_facts ops 0 0 [s]).1
  unfold look8 at h ⊢
  repeat' split at h
  all_goals try (exfalso; simp at h; done)
  rename_i h1 h2 h3 h4
  rw [if_neg h1, if_neg h2, if_neg h3, if_neg h4]
  exact (key h).1
end Go.Proofs.Ytpoakneeceaooaa.VX
