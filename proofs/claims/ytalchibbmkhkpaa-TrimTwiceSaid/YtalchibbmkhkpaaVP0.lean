/- Layer 8's functions in plain form: shapes and windows. -/
import Derived.Test.YtalchibbmkhkpaaVS
import Derived.IntWalk
import Derived.WalkKit
set_option linter.unusedVariables false
set_option linter.unusedSimpArgs false
set_option linter.unusedVariables false
namespace Go.Proofs.Ytalchibbmkhkpaa.VX
/-- A cell of a row. -/
def cI (r : List AV) (j : Nat) : Int := (r.getD j .dead).toInt
def cN (r : List AV) (j : Nat) : Bool := (r.getD j .dead).toNil
def cR (r : List AV) (j : Nat) : Rws := (r.getD j .dead).toRows
theorem ri_eq (l : Rws) (i j : Nat) : ri l i j = cI (l.getD i []) j := rfl
theorem rn_eq (l : Rws) (i j : Nat) : rn l i j = cN (l.getD i []) j := rfl
theorem rr_eq (l : Rws) (i j : Nat) : rr l i j = cR (l.getD i []) j := rfl

theorem wrap64_in {x : Int} (h : -9223372036854775808 ≤ x) (h' : x ≤ 9223372036854775807) : IntKind.i64.wrap x = x := by
  rw [IntKind.wrap_i64]; omega
theorem W.bindI {α β : Type} {x : W α} {f : α → W β} {R : β → Prop} (h : x.run fun a => (f a).run R) : (W.bind x f).run R := h
structure Shp where
  h : Int
  w : Int
  c : Int
  deriving DecidableEq, Inhabited
def Shp.ok (s : Shp) : Prop := (1 ≤ s.h ∧ s.h ≤ 1024) ∧ (1 ≤ s.w ∧ s.w ≤ 1024) ∧ (1 ≤ s.c ∧ s.c ≤ 1024) ∧ s.h * s.w * s.c ≤ 16384
instance (s : Shp) : Decidable s.ok := by unfold Shp.ok; infer_instance
theorem mul_bd {a b A B : Int} (ha : 0 ≤ a) (hA : a ≤ A) (hb : 0 ≤ b) (hB : b ≤ B) : 0 ≤ a * b ∧ a * b ≤ A * B :=
  ⟨Int.mul_nonneg ha hb, Int.mul_le_mul hA hB hb (Int.le_trans ha hA)⟩
theorem prod3 {a b c : Int} (ha : 1 ≤ a ∧ a ≤ 1024) (hb : 1 ≤ b ∧ b ≤ 1024) (hc : 1 ≤ c ∧ c ≤ 1024) : 0 ≤ a * b ∧ a * b ≤ 1048576 ∧ 0 ≤ a * b * c ∧ a * b * c ≤ 1073741824 := by
  have h1 := mul_bd (A := 1024) (B := 1024) (by omega : 0 ≤ a) (by omega) (by omega : 0 ≤ b) (by omega)
  have h2 := mul_bd (A := 1048576) (B := 1024) h1.1 (by omega) (by omega : 0 ≤ c) (by omega)
  exact ⟨h1.1, by omega, h2.1, by omega⟩

theorem g_ref05_dim_ok (a : Int) {R : Bool → Prop} (h : R (decide (1 ≤ a ∧ a ≤ 1024))) : (g_ref05_dim a).run R := by
  unfold g_ref05_dim
  simpa using h
theorem g_ref05_Valid_ok (a b c : Int) {R : Bool → Prop} (h : R (decide (Shp.ok ⟨a, b, c⟩))) : (g_ref05_Valid a b c).run R := by
  unfold g_ref05_Valid
  refine W.bindI ?_
  refine W.bindI (g_ref05_dim_ok _ ?_)
  simp only [W.run_ite, decide_eq_true_eq]
  split
  · rename_i h1
    refine W.bindI (g_ref05_dim_ok _ ?_)
    simp only [W.run_ite, decide_eq_true_eq]
    split
    · rename_i h2
      refine W.bindI (g_ref05_dim_ok _ ?_)
      simp only [W.run_ret]
      refine cast (congrArg R ?_) h
      by_cases h3 : 1 ≤ c ∧ c ≤ 1024
      · obtain ⟨q1, q2, q3, q4⟩ := prod3 h1 h2 h3
        rw [wrap64_in (x := a * b) (by omega) (by omega), wrap64_in (by omega) (by omega)]
        simp [Shp.ok, h1, h2, h3]
      · simp [Shp.ok, h3]
    · rename_i h2
      simpa [Shp.ok, h2] using h
  · rename_i h1
    simpa [Shp.ok, h1] using h
theorem g_shape_Elems_ok (a b c : Int) {R : Int × Int → Prop} (h : R (if Shp.ok ⟨a, b, c⟩ then (a * b * c, 0) else (0, 50))) : (g_shape_Elems a b c).run R := by
  unfold g_shape_Elems
  simp only [W.run_ite, W.run_ret, Bool.or_eq_true, decide_eq_true_eq]
  by_cases h1 : 1 ≤ a ∧ a ≤ 1024
  · by_cases h2 : 1 ≤ b ∧ b ≤ 1024
    · by_cases h3 : 1 ≤ c ∧ c ≤ 1024
      · obtain ⟨q1, q2, q3, q4⟩ := prod3 h1 h2 h3
        rw [if_neg (by omega), if_neg (by omega), if_neg (by omega), Int.one_mul, wrap64_in (x := a) (by omega) (by omega), wrap64_in (x := a * b) (by omega) (by omega), wrap64_in (x := a * b * c) (by omega) (by omega)]
        split
        · rwa [if_neg (by simp only [Shp.ok]; omega)] at h
        · rwa [if_pos (by simp only [Shp.ok]; omega)] at h
      · rw [if_neg (by omega), if_neg (by omega), if_pos (by omega)]
        rwa [if_neg (by simp [Shp.ok, h3])] at h
    · rw [if_neg (by omega), if_pos (by omega)]
      rwa [if_neg (by simp [Shp.ok, h2])] at h
  · rw [if_pos (by omega)]
    rwa [if_neg (by simp [Shp.ok, h1])] at h
end Go.Proofs.Ytalchibbmkhkpaa.VX

set_option linter.unusedVariables false
namespace Go.Proofs.Ytalchibbmkhkpaa.VX
theorem W.iteT {α : Type} {b : Bool} {x y : W α} {R : α → Prop} (hb : b = true) (h : x.run R) : (W.ite b x y).run R := ⟨fun _ => h, fun e => (by rw [hb] at e; cases e)⟩
theorem W.iteF {α : Type} {b : Bool} {x y : W α} {R : α → Prop} (hb : b = false) (h : y.run R) : (W.ite b x y).run R := ⟨fun e => (by rw [hb] at e; cases e), fun _ => h⟩
theorem W.needI {α : Type} {c : Prop} {x : W α} {R : α → Prop} (hc : c) (h : x.run R) : (W.need c x).run R := ⟨hc, h⟩
theorem W.retI {α : Type} {a : α} {R : α → Prop} (h : R a) : (W.ret a).run R := h
theorem W.retE {α : Type} {a b : α} {R : α → Prop} (h : R b) (e : a = b) : (W.ret a).run R := e ▸ h
/-- By cases of a condition. -/
theorem W.iteC {α : Type} {b : Bool} {x y : W α} {R : α → Prop} (c : Prop) [Decidable c] (hb : b = decide c) (hx : c → x.run R) (hy : ¬ c → y.run R) : (W.ite b x y).run R :=
  ⟨fun e => hx (by rw [hb] at e; simpa using e), fun e => hy (by rw [hb] at e; simpa using e)⟩

structure Win where
  kh : Int
  kw : Int
  sh : Int
  sw : Int
  top : Int
  left : Int
  bottom : Int
  right : Int
  deriving DecidableEq
def sideOK (k s t b : Int) : Prop := (1 ≤ k ∧ k ≤ 32) ∧ (1 ≤ s ∧ s ≤ 32) ∧ (0 ≤ t ∧ t ≤ k - 1) ∧ (0 ≤ b ∧ b ≤ k - 1)
instance (k s t b : Int) : Decidable (sideOK k s t b) := by unfold sideOK; infer_instance
def Win.ok (w : Win) : Prop := sideOK w.kh w.sh w.top w.bottom ∧ sideOK w.kw w.sw w.left w.right
instance (w : Win) : Decidable w.ok := by unfold Win.ok; infer_instance
/-- How many places a window of k has on n in steps of s. -/
def places (n k s : Int) : Int := if n - k < 0 then 0 else (n - k) / s + 1
def wout (s : Shp) (w : Win) : Int × Int × Int :=
  if ¬ s.ok then (0, 0, 50) else if ¬ w.ok then (0, 0, 60)
  else if places (s.h + w.top + w.bottom) w.kh w.sh = 0 ∨ places (s.w + w.left + w.right) w.kw w.sw = 0 then (0, 0, 60)
  else (places (s.h + w.top + w.bottom) w.kh w.sh, places (s.w + w.left + w.right) w.kw w.sw, 0)

theorem places_zero {n k s : Int} (hs : 1 ≤ s) : places n k s = 0 ↔ n - k < 0 := by
  unfold places
  split
  · simp [*]
  · rename_i h
    have := Int.ediv_nonneg (a := n - k) (b := s) (by omega) (by omega)
    omega
theorem places_bd {n k s : Int} (hs : 1 ≤ s) (hk : 1 ≤ k) : 0 ≤ places n k s ∧ (0 ≤ n → places n k s ≤ n) := by
  unfold places
  split
  · exact ⟨Int.le_refl _, fun h => h⟩
  · rename_i h
    have h1 := Int.ediv_nonneg (a := n - k) (b := s) (by omega) (by omega)
    have h2 := Int.ediv_le_self (a := n - k) s (by omega)
    omega

theorem g_window_within_ok (a b c : Int) {R : Bool → Prop} (h : R (decide (b ≤ a ∧ a ≤ c))) : (g_window_within a b c).run R := by
  unfold g_window_within
  simpa using h
theorem g_ref06_in_ok (a b c : Int) {R : Bool → Prop} (h : R (decide (b ≤ a ∧ a ≤ c))) : (g_ref06_in a b c).run R := by
  unfold g_ref06_in
  simpa using h
theorem g_window_side_ok (k s t b : Int) {R : Bool → Prop} (h : R (decide (sideOK k s t b))) : (g_window_side k s t b).run R := by
  unfold g_window_side
  refine W.bindI (W.bindI (g_window_within_ok _ _ _ (W.iteC _ rfl (fun h1 => ?_) fun h1 => ?_)))
  · refine W.bindI (g_window_within_ok _ _ _ (W.iteC _ rfl (fun h2 => ?_) fun h2 => ?_))
    · rw [wrap64_in (x := k - 1) (by omega) (by omega)]
      refine W.bindI (g_window_within_ok _ _ _ (W.iteC _ rfl (fun h3 => ?_) fun h3 => ?_))
      · refine W.bindI (g_window_within_ok _ _ _ ?_)
        simpa [sideOK, h1, h2, h3] using h
      · simpa [sideOK, h1, h2, h3] using h
    · simpa [sideOK, h1, h2] using h
  · simpa [sideOK, h1] using h
theorem g_window_Valid_ok (w : Win) {R : Bool → Prop} (h : R (decide w.ok)) : (g_window_Valid w.kh w.kw w.sh w.sw w.top w.left w.bottom w.right).run R := by
  unfold g_window_Valid
  refine W.bindI (W.bindI (g_window_side_ok _ _ _ _ (W.iteC _ rfl (fun h1 => ?_) fun h1 => ?_)))
  · refine W.bindI (g_window_side_ok _ _ _ _ ?_)
    simpa [Win.ok, h1] using h
  · simpa [Win.ok, h1] using h
theorem g_ref06_Valid_ok (w : Win) {R : Bool → Prop} (h : R (decide w.ok)) : (g_ref06_Valid w.kh w.kw w.sh w.sw w.top w.left w.bottom w.right).run R := by
  unfold g_ref06_Valid
  have no : ∀ {Q : Bool → Prop}, ¬ w.ok → (Q (decide w.ok)) → Q false := fun hn q => by simpa [hn] using q
  refine W.bindI (W.bindI (g_ref06_in_ok _ _ _ (W.iteC _ rfl (fun h1 => ?_) fun h1 => no (by unfold Win.ok sideOK; omega) h)))
  refine W.bindI (g_ref06_in_ok _ _ _ (W.iteC _ rfl (fun h2 => ?_) fun h2 => no (by unfold Win.ok sideOK; omega) h))
  refine W.bindI (g_ref06_in_ok _ _ _ (W.iteC _ rfl (fun h3 => ?_) fun h3 => no (by unfold Win.ok sideOK; omega) h))
  refine W.bindI (g_ref06_in_ok _ _ _ (W.iteC _ rfl (fun h4 => ?_) fun h4 => no (by unfold Win.ok sideOK; omega) h))
  rw [wrap64_in (x := w.kh - 1) (by omega) (by omega), wrap64_in (x := w.kw - 1) (by omega) (by omega)]
  refine W.bindI (g_ref06_in_ok _ _ _ (W.iteC _ rfl (fun h5 => ?_) fun h5 => no (by unfold Win.ok sideOK; omega) h))
  refine W.bindI (g_ref06_in_ok _ _ _ (W.iteC _ rfl (fun h6 => ?_) fun h6 => no (by unfold Win.ok sideOK; omega) h))
  refine W.bindI (g_ref06_in_ok _ _ _ (W.iteC _ rfl (fun h7 => ?_) fun h7 => no (by unfold Win.ok sideOK; omega) h))
  refine W.bindI (g_ref06_in_ok _ _ _ ?_)
  refine cast (congrArg R ?_) h
  rw [decide_eq_decide]
  unfold Win.ok sideOK
  omega
theorem g_ref06_count_ok (n k s : Int) (hk : 1 ≤ k ∧ k ≤ 32) (hs : 1 ≤ s ∧ s ≤ 32) (hn : -1000000 ≤ n ∧ n ≤ 1000000) {R : Int → Prop} (h : R (places n k s)) : (g_ref06_count n k s).run R := by
  unfold g_ref06_count
  refine W.bindI (W.loop_inv (fun v : Int × Int => v.2 = v.1 * s ∧ 0 ≤ v.1 ∧ 0 ≤ v.2 ∧ v.2 ≤ 1000100 ∧ (v.1 = 0 ∨ v.2 - s + k ≤ n)) (fun v => (1000200 - v.2).toNat) (fun v hv => ?_) ⟨by simp, by simp, by simp, by simp, .inl rfl⟩)
  obtain ⟨c, p⟩ := v
  obtain ⟨h1, h2, h3, h4, h5⟩ := hv
  dsimp only at h1 h2 h3 h4 h5 ⊢
  rw [wrap64_in (x := p + k) (by omega) (by omega)]
  have hcp : c ≤ p := by rw [h1]; have := Int.mul_le_mul_of_nonneg_left (a := 1) (b := s) (c := c) hs.1 h2; omega
  refine W.iteC (p + k ≤ n) rfl (fun hle => ?_) fun hgt => ?_
  · rw [wrap64_in (x := c + 1) (by omega) (by omega), wrap64_in (x := p + s) (by omega) (by omega)]
    refine ⟨⟨?_, by dsimp only; omega, by dsimp only; omega, by dsimp only; omega, .inr (by dsimp only; omega)⟩, by dsimp only; omega⟩
    dsimp only
    rw [h1, Int.add_mul, Int.one_mul]
  · refine W.retI (W.retE h ?_)
    unfold places
    split
    · rename_i hneg
      rcases h5 with h5 | h5
      · exact h5
      · by_cases hc : c = 0
        · exact hc
        · have := Int.mul_le_mul_of_nonneg_right (a := 1) (b := c) (c := s) (by omega) (by omega)
          rw [← h1] at this
          omega
    · rename_i hpos
      have hc : c ≠ 0 := fun e => by rw [e] at h1; omega
      have hp : p - s ≤ n - k := by omega
      have e1 : c - 1 ≤ (n - k) / s := by
        refine Int.le_ediv_of_mul_le (by omega) ?_
        rw [Int.sub_mul, Int.one_mul, ← h1]; exact hp
      have e2 : (n - k) / s < c := by
        refine Int.ediv_lt_of_lt_mul (by omega) ?_
        rw [← h1]; omega
      omega
theorem g_ref06_Out_ok (s : Shp) (w : Win) {R : Int × Int × Int → Prop} (h : R (wout s w)) : (g_ref06_Out s.h s.w s.c w.kh w.kw w.sh w.sw w.top w.left w.bottom w.right).run R := by
  unfold g_ref06_Out
  refine W.bindI (g_ref05_Valid_ok _ _ _ (W.iteC (¬ s.ok) (by simp) (fun h1 => ?_) fun h1 => ?_))
  · simpa [wout, h1] using h
  · refine W.bindI (g_ref06_Valid_ok _ (W.iteC (¬ w.ok) (by simp) (fun h2 => ?_) fun h2 => ?_))
    · have h1 : s.ok := by simpa using h1
      simpa [wout, h1, h2] using h
    · have h1 : s.ok := by simpa using h1
      have h2 : w.ok := by simpa using h2
      have g1 := h1
      have g2 := h2
      unfold Shp.ok at g1
      unfold Win.ok sideOK at g2
      rw [wrap64_in (x := s.h + w.top) (by omega) (by omega), wrap64_in (x := s.h + w.top + w.bottom) (by omega) (by omega), wrap64_in (x := s.w + w.left) (by omega) (by omega), wrap64_in (x := s.w + w.left + w.right) (by omega) (by omega)]
      refine W.bindI (g_ref06_count_ok _ _ _ (by omega) (by omega) (by omega) (W.bindI (g_ref06_count_ok _ _ _ (by omega) (by omega) (by omega) ?_)))
      refine W.iteC (places (s.h + w.top + w.bottom) w.kh w.sh = 0 ∨ places (s.w + w.left + w.right) w.kw w.sw = 0) (by rw [Bool.decide_or]; rfl) (fun h3 => ?_) fun h3 => ?_
      · simpa [wout, h1, h2, h3] using h
      · refine W.retE h ?_
        simp only [wout, h1, h2, not_true, if_false]
        rw [if_neg h3]
theorem g_window_Out_ok (s : Shp) (w : Win) {R : Int × Int × Int → Prop} (h : R (wout s w)) : (g_window_Out s.h s.w s.c w.kh w.kw w.sh w.sw w.top w.left w.bottom w.right).run R := by
  unfold g_window_Out
  refine W.bindI (g_shape_Elems_ok _ _ _ (W.iteC (¬ s.ok) (by split <;> simp_all) (fun h1 => ?_) fun h1 => ?_))
  · rw [if_neg h1]
    simpa [wout, h1] using h
  · refine W.bindI (g_window_Valid_ok _ (W.iteC (¬ w.ok) (by simp) (fun h2 => ?_) fun h2 => ?_))
    · have h1 : s.ok := by simpa using h1
      simpa [wout, h1, h2] using h
    · have h1 : s.ok := by simpa using h1
      have h2 : w.ok := by simpa using h2
      have g1 := h1
      have g2 := h2
      unfold Shp.ok at g1
      unfold Win.ok sideOK at g2
      rw [wrap64_in (x := s.h + w.top) (by omega) (by omega), wrap64_in (x := s.h + w.top + w.bottom) (by omega) (by omega), wrap64_in (x := s.w + w.left) (by omega) (by omega), wrap64_in (x := s.w + w.left + w.right) (by omega) (by omega),
        wrap64_in (x := s.h + w.top + w.bottom - w.kh) (by omega) (by omega), wrap64_in (x := s.w + w.left + w.right - w.kw) (by omega) (by omega)]
      have z1 := places_zero (n := s.h + w.top + w.bottom) (k := w.kh) (s := w.sh) (by omega)
      have z2 := places_zero (n := s.w + w.left + w.right) (k := w.kw) (s := w.sw) (by omega)
      refine W.iteC (places (s.h + w.top + w.bottom) w.kh w.sh = 0 ∨ places (s.w + w.left + w.right) w.kw w.sw = 0) (by rw [← Bool.decide_or, decide_eq_decide, z1, z2]) (fun h3 => ?_) fun h3 => ?_
      · simpa [wout, h1, h2, h3] using h
      · refine W.needI (by omega) (W.needI (by omega) (W.retE h ?_))
        simp only [wout, h1, h2, not_true, if_false]
        rw [if_neg h3]
        rw [not_or, z1, z2] at h3
        have b1 := Int.ediv_nonneg (a := s.h + w.top + w.bottom - w.kh) (b := w.sh) (by omega) (by omega)
        have b2 := Int.ediv_nonneg (a := s.w + w.left + w.right - w.kw) (b := w.sw) (by omega) (by omega)
        have b3 := Int.ediv_le_self (a := s.h + w.top + w.bottom - w.kh) w.sh (by omega)
        have b4 := Int.ediv_le_self (a := s.w + w.left + w.right - w.kw) w.sw (by omega)
        rw [Int.tdiv_eq_ediv_of_nonneg (by omega), Int.tdiv_eq_ediv_of_nonneg (by omega)]
        rw [wrap64_in (x := (s.h + w.top + w.bottom - w.kh) / w.sh) (by omega) (by omega), wrap64_in (x := (s.w + w.left + w.right - w.kw) / w.sw) (by omega) (by omega),
          wrap64_in (x := (s.h + w.top + w.bottom - w.kh) / w.sh + 1) (by omega) (by omega), wrap64_in (x := (s.w + w.left + w.right - w.kw) / w.sw + 1) (by omega) (by omega)]
        simp only [places]
        rw [if_neg h3.1, if_neg h3.2]
end Go.Proofs.Ytalchibbmkhkpaa.VX

set_option linter.unusedVariables false
namespace Go.Proofs.Ytalchibbmkhkpaa.VX
structure Opr where
  kind : Int
  a : Int
  b : Int
  m : Int
  win : Win
  wn : Bool
  ws : Rws
  bn : Bool
  bs : Rws
  sam : Int
  sas : Int
  sbm : Int
  sbs : Int
  zero : Int
  pad : Int
  lo : Int
  hi : Int
/-- An op out of a row. -/
def Opr.of (r : List AV) : Opr :=
  ⟨cI r 0, cI r 1, cI r 2, cI r 3, ⟨cI r 4, cI r 5, cI r 6, cI r 7, cI r 8, cI r 9, cI r 10, cI r 11⟩, cN r 12, cR r 12, cN r 13, cR r 13, cI r 14, cI r 15, cI r 16, cI r 17, cI r 18, cI r 19, cI r 20, cI r 21⟩
def Shp.enc (s : Shp) : List AV := [I s.h, I s.w, I s.c]
theorem ri_shp0 (S : List Shp) (i : Nat) : ri (S.map Shp.enc) i 0 = (S.getD i default).h := by
  simp only [ri, cellOf, List.getD, List.getElem?_map]
  cases S[i]? <;> rfl
theorem ri_shp1 (S : List Shp) (i : Nat) : ri (S.map Shp.enc) i 1 = (S.getD i default).w := by
  simp only [ri, cellOf, List.getD, List.getElem?_map]
  cases S[i]? <;> rfl
theorem ri_shp2 (S : List Shp) (i : Nat) : ri (S.map Shp.enc) i 2 = (S.getD i default).c := by
  simp only [ri, cellOf, List.getD, List.getElem?_map]
  cases S[i]? <;> rfl

def slides (k : Int) : Prop := 2 ≤ k ∧ k ≤ 5
def weighs (k : Int) : Prop := 1 ≤ k ∧ k ≤ 3
def scales (k : Int) : Prop := (1 ≤ k ∧ k ≤ 3) ∨ k = 6 ∨ k = 7
def reduces (k : Int) : Prop := 1 ≤ k ∧ k ≤ 4
def scaleOK (m s : Int) : Prop := 1 ≤ m ∧ m ≤ 2147483647 ∧ 0 ≤ s ∧ s ≤ 62
def val (n : Int) : Prop := -128 ≤ n ∧ n ≤ 127
instance (k : Int) : Decidable (slides k) := by unfold slides; infer_instance
instance (k : Int) : Decidable (weighs k) := by unfold weighs; infer_instance
instance (k : Int) : Decidable (scales k) := by unfold scales; infer_instance
instance (k : Int) : Decidable (reduces k) := by unfold reduces; infer_instance
instance (m s : Int) : Decidable (scaleOK m s) := by unfold scaleOK; infer_instance
instance (n : Int) : Decidable (val n) := by unfold val; infer_instance
namespace Opr
def spare (o : Opr) : Prop :=
  (o.kind = 6 ∨ (o.b = 0 ∧ o.sbm = 0 ∧ o.sbs = 0)) ∧ (o.kind ≤ 2 ∨ o.m = 0) ∧ (weighs o.kind ∨ (o.ws.length = 0 ∧ o.bs.length = 0)) ∧ (scales o.kind ∨ (o.sam = 0 ∧ o.sas = 0 ∧ o.zero = 0)) ∧
  (slides o.kind ∨ o.win = ⟨0, 0, 0, 0, 0, 0, 0, 0⟩) ∧ (o.kind = 2 ∨ o.kind = 3 ∨ o.pad = 0) ∧ ((o.kind ≠ 4 ∧ o.kind ≠ 5) ∨ (o.win.top = 0 ∧ o.win.left = 0 ∧ o.win.bottom = 0 ∧ o.win.right = 0))
instance (o : Opr) : Decidable o.spare := by unfold spare; infer_instance
def len (o : Opr) (s : Shp) : Int := if o.kind = 1 then s.h * s.w * s.c else if o.kind = 2 then o.win.kh * o.win.kw * s.c else o.win.kh * o.win.kw
def mk1 (o : Opr) (s : Shp) : Shp × Int :=
  if o.kind = 1 then (⟨1, 1, o.m⟩, 0)
  else if slides o.kind then (if (wout s o.win).2.2 ≠ 0 then (⟨0, 0, 0⟩, (wout s o.win).2.2) else (⟨(wout s o.win).1, (wout s o.win).2.1, if o.kind = 2 then o.m else s.c⟩, 0))
  else (s, 0)
def lists (o : Opr) (s : Shp) : Int × Int := if o.kind = 1 ∨ o.kind = 2 then (o.m * o.len s, o.m) else if o.kind = 3 then (s.c * o.len s, s.c) else (0, 0)
def labour (o : Opr) (s t : Shp) : Int := if reduces o.kind then t.h * t.w * t.c * o.len s else if o.kind = 5 then t.h * t.w * t.c * o.win.kh * o.win.kw else t.h * t.w * t.c
/-- What is wrong with an op over shapes, and the shape that it makes. -/
def one (o : Opr) (S : List Shp) : Shp × Int :=
  if o.kind < 1 ∨ 8 < o.kind then (⟨0, 0, 0⟩, 81)
  else if (o.a < 0 ∨ S.length ≤ o.a) ∨ o.kind = 6 ∧ (o.b < 0 ∨ S.length ≤ o.b) then (⟨0, 0, 0⟩, 82)
  else if ¬ o.spare then (⟨0, 0, 0⟩, 83)
  else if o.kind ≤ 2 ∧ (o.m < 1 ∨ 1024 < o.m) then (⟨0, 0, 0⟩, 2)
  else if (o.mk1 (S.getD o.a.toNat default)).2 ≠ 0 then (⟨0, 0, 0⟩, (o.mk1 (S.getD o.a.toNat default)).2)
  else if (o.kind = 6 ∧ S.getD o.b.toNat default ≠ S.getD o.a.toNat default) ∨ ¬ (o.mk1 (S.getD o.a.toNat default)).1.ok then (⟨0, 0, 0⟩, 50)
  else if reduces o.kind ∧ 512 < o.len (S.getD o.a.toNat default) then (⟨0, 0, 0⟩, 84)
  else if (o.ws.length : Int) ≠ (o.lists (S.getD o.a.toNat default)).1 ∨ (o.bs.length : Int) ≠ (o.lists (S.getD o.a.toNat default)).2 then (⟨0, 0, 0⟩, 70)
  else if scales o.kind ∧ ¬ scaleOK o.sam o.sas ∨ o.kind = 6 ∧ ¬ scaleOK o.sbm o.sbs then (⟨0, 0, 0⟩, 20)
  else if ¬ val o.lo ∨ ¬ val o.hi ∨ o.hi < o.lo ∨ ¬ val o.zero ∨ ¬ val o.pad then (⟨0, 0, 0⟩, 85)
  else ((o.mk1 (S.getD o.a.toNat default)).1, 0)
end Opr

theorem g_ref08_values_ok (a : Int) {R : Bool → Prop} (h : R (decide (val a))) : (g_ref08_values a).run R := by
  unfold g_ref08_values; exact W.retE h (by rw [Bool.eq_iff_iff, decide_eq_true_eq]; simp [val])
theorem g_ref08_Weighs_ok (a : Int) {R : Bool → Prop} (h : R (decide (weighs a))) : (g_ref08_Weighs a).run R := by
  unfold g_ref08_Weighs; exact W.retE h (by rw [Bool.eq_iff_iff, decide_eq_true_eq]; simp [weighs])
theorem g_ref08_Slides_ok (a : Int) {R : Bool → Prop} (h : R (decide (slides a))) : (g_ref08_Slides a).run R := by
  unfold g_ref08_Slides; exact W.retE h (by rw [Bool.eq_iff_iff, decide_eq_true_eq]; simp [slides])
theorem g_ref08_Reduces_ok (a : Int) {R : Bool → Prop} (h : R (decide (reduces a))) : (g_ref08_Reduces a).run R := by
  unfold g_ref08_Reduces; exact W.retE h (by rw [Bool.eq_iff_iff, decide_eq_true_eq]; simp [reduces])
theorem g_ref08_Scales_ok (a : Int) {R : Bool → Prop} (h : R (decide (scales a))) : (g_ref08_Scales a).run R := by
  unfold g_ref08_Scales
  exact W.retE h (by rw [Bool.eq_iff_iff, decide_eq_true_eq]; simp [scales, or_assoc])
theorem g_ref02_Valid_ok (a b : Int) {R : Bool → Prop} (h : R (decide (scaleOK a b))) : (g_ref02_Valid a b).run R := by
  unfold g_ref02_Valid
  exact W.retE h (by rw [Bool.eq_iff_iff, decide_eq_true_eq]; simp [scaleOK, and_assoc])

theorem g_ref08_spare_ok (o : Opr) (hw : o.ws.length ≤ 70368744175616) (hb : o.bs.length ≤ 35184372087808) {R : Bool → Prop} (h : R (decide o.spare)) :
    (g_ref08_spare o.kind o.a o.b o.m o.win.kh o.win.kw o.win.sh o.win.sw o.win.top o.win.left o.win.bottom o.win.right o.wn o.ws o.bn o.bs o.sam o.sas o.sbm o.sbs o.zero o.pad o.lo o.hi).run R := by
  have no : ∀ {Q : Bool → Prop}, ¬ o.spare → (Q (decide o.spare)) → Q false := fun hn q => by simpa [hn] using q
  obtain ⟨k, a, b, m, ⟨kh, kw, sh, sw, tp, lf, bt, rt⟩, wn, ws, bn, bs, sam, sas, sbm, sbs, zero, pad, lo, hi⟩ := o
  dsimp only at hw hb ⊢
  unfold g_ref08_spare
  refine W.iteC (k ≠ 6 ∧ (b ≠ 0 ∨ ¬ (sbm = 0 ∧ sbs = 0))) (by simp; rfl) (fun h1 => no (by unfold Opr.spare; dsimp only; omega) h) fun h1 => ?_
  have fin : ∀ (q : (k ≤ 2 ∨ m = 0) ∧ (weighs k ∨ (ws.length = 0 ∧ bs.length = 0)) ∧ (scales k ∨ (sam = 0 ∧ sas = 0 ∧ zero = 0))), ((W.bind (g_ref08_Slides k) fun v3 =>
      W.ite (!v3 && !(kh == 0 && (kw == 0 && (sh == 0 && (sw == 0 && (tp == 0 && (lf == 0 && (bt == 0 && rt == 0))))))) || k != 2 && k != 3 && pad != 0) (W.ret false)
        (W.ret (k != 4 && k != 5 || tp == 0 && lf == 0 && bt == 0 && rt == 0)))).run R := fun q => by
    refine W.bindI (g_ref08_Slides_ok _ ?_)
    refine W.iteC ((¬ slides k ∧ ¬ (kh = 0 ∧ kw = 0 ∧ sh = 0 ∧ sw = 0 ∧ tp = 0 ∧ lf = 0 ∧ bt = 0 ∧ rt = 0)) ∨ (k ≠ 2 ∧ k ≠ 3 ∧ pad ≠ 0)) (by simp [Bool.and_assoc]; rfl) (fun h2 => no ?_ h) fun h2 => W.retE h ?_
    · rintro ⟨_, _, _, _, q5, q6, _⟩
      rcases h2 with ⟨h2, h3⟩ | h2
      · rcases q5 with q5 | q5
        · exact h2 q5
        · injection q5; dsimp only at *; omega
      · dsimp only at q6; omega
    · have e : (decide (Opr.spare ⟨k, a, b, m, ⟨kh, kw, sh, sw, tp, lf, bt, rt⟩, wn, ws, bn, bs, sam, sas, sbm, sbs, zero, pad, lo, hi⟩)) = decide ((k ≠ 4 ∧ k ≠ 5) ∨ (tp = 0 ∧ lf = 0 ∧ bt = 0 ∧ rt = 0)) := by
        rw [decide_eq_decide]
        unfold Opr.spare
        dsimp only
        simp only [Win.mk.injEq]
        rw [not_or, Classical.not_and_iff_not_or_not, Classical.not_not, Classical.not_not] at h2
        constructor
        · exact fun h => h.2.2.2.2.2.2
        · exact fun h => ⟨by omega, q.1, q.2.1, q.2.2, h2.1, by omega, h⟩
      rw [e]
      simp [Bool.and_assoc]; rfl
  refine W.bindI (W.iteC (2 < k ∧ m ≠ 0) (by simp; rfl) (fun h2 => W.retI (W.iteT rfl (no (by unfold Opr.spare; dsimp only; omega) h))) fun h2 => ?_)
  refine W.bindI (g_ref08_Weighs_ok _ (W.iteC (¬ weighs k ∧ (ws.length ≠ 0 ∨ bs.length ≠ 0)) ?_ (fun h3 => W.retI (W.iteT rfl (no ?_ h))) fun h3 => ?_))
  · rw [wrap64_in (by omega) (by omega)]
    rw [Bool.decide_and, decide_not]
    congr 1
    rw [decide_eq_decide]; omega
  · rintro ⟨_, _, q3, _⟩
    rcases q3 with q3 | q3
    · exact h3.1 q3
    · dsimp only at q3; omega
  · refine W.bindI (g_ref08_Scales_ok _ (W.retI ?_))
    by_cases h4 : ¬ scales k ∧ (¬ (sam = 0 ∧ sas = 0) ∨ zero ≠ 0)
    · refine W.iteT ?_ (no ?_ h)
      · simp only [h4.1, decide_false, Bool.not_false, Bool.true_and, Bool.or_eq_true, Bool.not_eq_true', bne_iff_ne, ne_eq, Bool.and_eq_false_imp, beq_iff_eq]
        rcases h4.2 with h5 | h5
        · left; intro e; simp [e] at h5 ⊢; exact h5
        · right; exact h5
      · rintro ⟨_, _, _, q4, _⟩
        rcases q4 with q4 | q4
        · exact h4.1 q4
        · dsimp only at q4; omega
    · refine W.iteF ?_ (fin ⟨by omega, ?_, ?_⟩)
      · rw [Bool.eq_false_iff]
        intro e
        apply h4
        simp only [Bool.and_eq_true, Bool.not_eq_true', decide_eq_false_iff_not, Bool.or_eq_true, bne_iff_ne] at e
        refine ⟨e.1, ?_⟩
        rcases e.2 with e | e
        · left; intro q; simp [q.1, q.2] at e
        · right; exact e
      · by_cases hw : weighs k
        · exact .inl hw
        · have h6 : ¬ (ws.length ≠ 0 ∨ bs.length ≠ 0) := fun q => h3 ⟨hw, q⟩
          right; omega
      · by_cases hs : scales k
        · exact .inl hs
        · have h6 : ¬ (¬ (sam = 0 ∧ sas = 0) ∨ zero ≠ 0) := fun q => h4 ⟨hs, q⟩
          right; omega
end Go.Proofs.Ytalchibbmkhkpaa.VX

set_option linter.unusedVariables false
namespace Go.Proofs.Ytalchibbmkhkpaa.VX
theorem wout_win {s : Shp} {w : Win} (h : (wout s w).2.2 = 0) : s.ok ∧ w.ok := by
  unfold wout at h
  split at h
  · simp at h
  · split at h
    · simp at h
    · rename_i h1 h2; exact ⟨by simpa using h1, by simpa using h2⟩
def Win.dims (w : Win) : Prop := (0 ≤ w.kh ∧ w.kh ≤ 32) ∧ (0 ≤ w.kw ∧ w.kw ≤ 32)
theorem Win.ok.dims {w : Win} (h : w.ok) : w.dims := by unfold Win.ok sideOK at h; unfold Win.dims; omega
theorem g_ref08_Makes_ok (o : Opr) (s : Shp) {R : Int × Int × Int × Int → Prop} (h : R ((o.mk1 s).1.h, (o.mk1 s).1.w, (o.mk1 s).1.c, (o.mk1 s).2)) :
    (g_ref08_Makes o.kind o.a o.b o.m o.win.kh o.win.kw o.win.sh o.win.sw o.win.top o.win.left o.win.bottom o.win.right o.wn o.ws o.bn o.bs o.sam o.sas o.sbm o.sbs o.zero o.pad o.lo o.hi s.h s.w s.c).run R := by
  unfold g_ref08_Makes
  have h1 : ∀ v0 : Int × Int × Int, (v0 = if o.kind = 1 then (1, 1, o.m) else (s.h, s.w, s.c)) → _ := fun v0 e => e
  refine W.bindI (W.iteC (o.kind = 1) rfl (fun hk => W.retI ?_) fun hk => W.retI ?_)
  · refine W.bindI (W.bindI (g_ref08_Slides_ok _ (W.iteF (by rw [decide_eq_false_iff_not]; unfold slides; omega) (W.retI (W.retE h ?_)))))
    simp [Opr.mk1, hk]
  · refine W.bindI (W.bindI (g_ref08_Slides_ok _ (W.iteC (slides o.kind) rfl (fun hs => ?_) fun hs => W.retI (W.retE h ?_))))
    · refine W.bindI (g_ref06_Out_ok s o.win (W.iteC ((wout s o.win).2.2 ≠ 0) (by first | (simp; done) | (simp; rfl)) (fun he => W.retI (W.retE h ?_)) fun he => ?_))
      · simp [Opr.mk1, hk, hs, he]
      · have he : (wout s o.win).2.2 = 0 := by simpa using he
        refine W.iteC (o.kind = 2) rfl (fun h2 => W.retI (W.retE h ?_)) fun h2 => W.retI (W.retE h ?_)
        · simp only [Opr.mk1]; rw [if_neg hk, if_pos hs, if_neg (by simp [he]), if_pos h2]
        · simp only [Opr.mk1]; rw [if_neg hk, if_pos hs, if_neg (by simp [he]), if_neg h2]
    · simp [Opr.mk1, hk, hs]
theorem len_bd (o : Opr) (s : Shp) (hs : s.ok) (hw : o.kind ≠ 1 → o.win.dims) : 0 ≤ o.len s ∧ o.len s ≤ 1048576 := by
  unfold Shp.ok at hs
  unfold Opr.len
  obtain ⟨p1, p2, p3, p4⟩ := prod3 hs.1 hs.2.1 hs.2.2.1
  by_cases h1 : o.kind = 1
  · rw [if_pos h1]; omega
  · rw [if_neg h1]
    have hw := hw h1
    unfold Win.dims at hw
    have q := mul_bd (A := 32) (B := 32) hw.1.1 hw.1.2 hw.2.1 hw.2.2
    have q2 := mul_bd (A := 1024) (B := 1024) q.1 (by omega) (by omega : 0 ≤ s.c) (by omega)
    split <;> omega
theorem g_ref08_Length_ok (o : Opr) (s : Shp) (hs : s.ok) (hw : o.kind ≠ 1 → o.win.dims) {R : Int → Prop} (h : R (o.len s)) :
    (g_ref08_Length o.kind o.a o.b o.m o.win.kh o.win.kw o.win.sh o.win.sw o.win.top o.win.left o.win.bottom o.win.right o.wn o.ws o.bn o.bs o.sam o.sas o.sbm o.sbs o.zero o.pad o.lo o.hi s.h s.w s.c).run R := by
  have hs' := hs
  unfold Shp.ok at hs'
  obtain ⟨p1, p2, p3, p4⟩ := prod3 hs'.1 hs'.2.1 hs'.2.2.1
  unfold g_ref08_Length
  refine W.iteC (o.kind = 1) rfl (fun h1 => W.retE h ?_) fun h1 => ?_
  · rw [wrap64_in (x := s.h * s.w) (by omega) (by omega), wrap64_in (by omega) (by omega)]
    simp [Opr.len, h1]
  · have hw := hw h1
    unfold Win.dims at hw
    have q := mul_bd (A := 32) (B := 32) hw.1.1 hw.1.2 hw.2.1 hw.2.2
    have q2 := mul_bd (A := 1024) (B := 1024) q.1 (by omega) (by omega : 0 ≤ s.c) (by omega)
    rw [wrap64_in (x := o.win.kh * o.win.kw) (by omega) (by omega), wrap64_in (by omega) (by omega)]
    refine W.iteC (o.kind = 2) rfl (fun h2 => W.retE h ?_) fun h2 => W.retE h ?_
    · unfold Opr.len; rw [if_neg h1, if_pos h2]
    · unfold Opr.len; rw [if_neg h1, if_neg h2]
theorem g_ref08_Lists_ok (o : Opr) (s : Shp) (hs : s.ok) (hw : o.kind = 2 ∨ o.kind = 3 → o.win.dims) (hm : o.kind = 1 ∨ o.kind = 2 → 0 ≤ o.m ∧ o.m ≤ 1024) {R : Int × Int → Prop} (h : R (o.lists s)) :
    (g_ref08_Lists o.kind o.a o.b o.m o.win.kh o.win.kw o.win.sh o.win.sw o.win.top o.win.left o.win.bottom o.win.right o.wn o.ws o.bn o.bs o.sam o.sas o.sbm o.sbs o.zero o.pad o.lo o.hi s.h s.w s.c).run R := by
  have hs' := hs
  unfold Shp.ok at hs'
  unfold g_ref08_Lists
  have key : ∀ b : Bool, b = decide (o.kind = 1 ∨ o.kind = 2) → (W.ite b (W.bind (g_ref08_Length o.kind o.a o.b o.m o.win.kh o.win.kw o.win.sh o.win.sw o.win.top o.win.left o.win.bottom o.win.right o.wn o.ws o.bn o.bs o.sam o.sas o.sbm o.sbs o.zero o.pad o.lo o.hi s.h s.w s.c) fun v1 =>
      W.ret (IntKind.i64.wrap (o.m * v1), o.m))
      (W.ite (o.kind == 3) (W.bind (g_ref08_Length o.kind o.a o.b o.m o.win.kh o.win.kw o.win.sh o.win.sw o.win.top o.win.left o.win.bottom o.win.right o.wn o.ws o.bn o.bs o.sam o.sas o.sbm o.sbs o.zero o.pad o.lo o.hi s.h s.w s.c) fun v2 =>
        W.ret (IntKind.i64.wrap (s.c * v2), s.c))
        (W.ret (0, 0)))).run R := fun b hb => by
    refine W.iteC _ hb (fun h1 => ?_) fun h1 => ?_
    · have hd : o.kind ≠ 1 → o.win.dims := fun h2 => hw (by omega)
      refine W.bindI (g_ref08_Length_ok o s hs hd (W.retE h ?_))
      have q := len_bd o s hs hd
      have q2 := mul_bd (A := 1024) (B := 1048576) (hm h1).1 (hm h1).2 q.1 q.2
      rw [wrap64_in (by omega) (by omega)]
      simp [Opr.lists, h1]
    · refine W.iteC (o.kind = 3) rfl (fun h2 => ?_) fun h2 => W.retE h ?_
      · have hd : o.kind ≠ 1 → o.win.dims := fun h3 => hw (by omega)
        refine W.bindI (g_ref08_Length_ok o s hs hd (W.retE h ?_))
        have q := len_bd o s hs hd
        have q2 := mul_bd (a := s.c) (A := 1024) (B := 1048576) (by omega) (by omega) q.1 q.2
        rw [wrap64_in (by omega) (by omega)]
        simp [Opr.lists, h2]
      · simp [Opr.lists, h1, h2]
  refine W.bindI (W.iteC (o.kind = 1) rfl (fun h1 => W.retI (key _ ?_)) fun h1 => W.retI (key _ ?_))
  · simp [h1]
  · rw [Bool.eq_iff_iff]; simp [h1]
theorem labour_bd (o : Opr) (s t : Shp) (hs : s.ok) (ht : t.ok) (hw : slides o.kind → o.win.dims) : 0 ≤ o.labour s t ∧ o.labour s t ≤ 17179869184 := by
  have ht' := ht
  unfold Shp.ok at ht'
  obtain ⟨p1, p2, p3, p4⟩ := prod3 ht'.1 ht'.2.1 ht'.2.2.1
  unfold Opr.labour
  split
  · rename_i h1
    have q := len_bd o s hs (fun h2 => hw (by unfold reduces at h1; unfold slides; omega))
    have := mul_bd (A := 16384) (B := 1048576) p3 ht'.2.2.2 q.1 q.2
    omega
  · split
    · rename_i h2
      have hw := hw (by unfold slides; omega)
      unfold Win.dims at hw
      have q := mul_bd (A := 16384) (B := 32) p3 ht'.2.2.2 hw.1.1 hw.1.2
      have q2 := mul_bd (A := 524288) (B := 32) q.1 (by omega) hw.2.1 hw.2.2
      omega
    · omega
theorem g_ref08_Labour_ok (o : Opr) (s t : Shp) (hs : s.ok) (ht : t.ok) (hw : slides o.kind → o.win.dims) {R : Int → Prop} (h : R (o.labour s t)) :
    (g_ref08_Labour o.kind o.a o.b o.m o.win.kh o.win.kw o.win.sh o.win.sw o.win.top o.win.left o.win.bottom o.win.right o.wn o.ws o.bn o.bs o.sam o.sas o.sbm o.sbs o.zero o.pad o.lo o.hi s.h s.w s.c t.h t.w t.c).run R := by
  have ht' := ht
  unfold Shp.ok at ht'
  obtain ⟨p1, p2, p3, p4⟩ := prod3 ht'.1 ht'.2.1 ht'.2.2.1
  have bd := labour_bd o s t hs ht hw
  unfold Opr.labour at bd
  unfold g_ref08_Labour
  rw [wrap64_in (x := t.h * t.w) (by omega) (by omega), wrap64_in (x := t.h * t.w * t.c) (by omega) (by omega)]
  refine W.bindI (g_ref08_Reduces_ok _ (W.iteC (reduces o.kind) rfl (fun h1 => ?_) fun h1 => ?_))
  · rw [if_pos h1] at bd
    have hd : o.kind ≠ 1 → o.win.dims := fun h2 => hw (by unfold reduces at h1; unfold slides; omega)
    refine W.bindI (g_ref08_Length_ok o s hs hd (W.retE h ?_))
    rw [wrap64_in (by omega) (by omega)]
    simp [Opr.labour, h1]
  · rw [if_neg h1] at bd
    refine W.iteC (o.kind = 5) rfl (fun h2 => W.retE h ?_) fun h2 => W.retE h ?_
    · rw [if_pos h2] at bd
      have hw := hw (by unfold slides; omega)
      unfold Win.dims at hw
      have q := mul_bd (A := 16384) (B := 32) p3 ht'.2.2.2 hw.1.1 hw.1.2
      rw [wrap64_in (x := t.h * t.w * t.c * o.win.kh) (by omega) (by omega), wrap64_in (by omega) (by omega)]
      unfold Opr.labour; rw [if_neg h1, if_pos h2]
    · unfold Opr.labour; rw [if_neg h1, if_neg h2]

theorem mk1_dims {o : Opr} {s : Shp} (h : (o.mk1 s).2 = 0) : slides o.kind → o.win.dims := fun hs => by
  unfold Opr.mk1 at h
  rw [if_neg (by unfold slides at hs; omega), if_pos hs] at h
  split at h
  · rename_i h1; exact absurd h h1
  · rename_i h1
    exact (wout_win (by simpa using h1)).2.dims

theorem g_ref08_one_ok (o : Opr) (S : List Shp) (nl : Bool) (hS : ∀ s ∈ S, s.ok) (hw : o.ws.length ≤ 70368744175616) (hb : o.bs.length ≤ 35184372087808) {R : Int × Int × Int × Int → Prop} (h : R ((o.one S).1.h, (o.one S).1.w, (o.one S).1.c, (o.one S).2)) :
    (g_ref08_one o.kind o.a o.b o.m o.win.kh o.win.kw o.win.sh o.win.sw o.win.top o.win.left o.win.bottom o.win.right o.wn o.ws o.bn o.bs o.sam o.sas o.sbm o.sbs o.zero o.pad o.lo o.hi S.length nl (S.map Shp.enc)).run R := by
  unfold g_ref08_one
  refine W.iteC (o.kind < 1 ∨ 8 < o.kind) (by rw [Bool.decide_or]) (fun h1 => W.retE h (by simp [Opr.one, h1])) fun h1 => ?_
  refine W.iteC ((o.a < 0 ∨ S.length ≤ o.a) ∨ o.kind = 6 ∧ (o.b < 0 ∨ S.length ≤ o.b)) (by first | (simp; done) | (simp; rfl)) (fun h2 => W.retE h (by simp only [Opr.one]; rw [if_neg h1, if_pos h2])) fun h2 => ?_
  refine W.bindI (g_ref08_spare_ok o hw hb (W.iteC (¬ o.spare) (by simp) (fun h3 => W.retE h (by simp only [Opr.one]; rw [if_neg h1, if_neg h2, if_pos h3])) fun h3 => ?_))
  refine W.iteC (o.kind ≤ 2 ∧ (o.m < 1 ∨ 1024 < o.m)) (by first | (simp; done) | (simp; rfl)) (fun h4 => W.retE h (by simp only [Opr.one]; rw [if_neg h1, if_neg h2, if_neg h3, if_pos h4])) fun h4 => ?_
  rw [List.length_map]
  refine W.needI (by omega) ?_
  have hsa : (S.getD o.a.toNat default).ok := by
    have hlt : o.a.toNat < S.length := by omega
    rw [List.getD_eq_getElem?_getD, List.getElem?_eq_getElem hlt]
    exact hS _ (List.getElem_mem hlt)
  rw [ri_shp0, ri_shp1, ri_shp2]
  refine W.bindI (g_ref08_Makes_ok o _ ?_)
  refine W.iteC ((o.mk1 (S.getD o.a.toNat default)).2 ≠ 0) (by first | (simp; done) | (simp; rfl)) (fun h5 => W.retE h (by simp only [Opr.one]; rw [if_neg h1, if_neg h2, if_neg h3, if_neg h4, if_pos h5])) fun h5 => ?_
  have h5' : (o.mk1 (S.getD o.a.toNat default)).2 = 0 := by simpa using h5
  have hd := mk1_dims h5'
  -- the shapes
  have key6 : ∀ {Q : Bool → Prop}, Q (decide ((o.kind = 6 ∧ S.getD o.b.toNat default ≠ S.getD o.a.toNat default) ∨ ¬ (o.mk1 (S.getD o.a.toNat default)).1.ok)) →
      (W.need ((o.kind == 6) = true ∧ True → 0 ≤ o.b ∧ o.b < (S.length : Int)) <|
        W.ite (o.kind == 6 && !(ri (S.map Shp.enc) o.b.toNat 0 == (S.getD o.a.toNat default).h && (ri (S.map Shp.enc) o.b.toNat 1 == (S.getD o.a.toNat default).w && ri (S.map Shp.enc) o.b.toNat 2 == (S.getD o.a.toNat default).c))) (W.ret true)
        (W.bind (g_ref05_Valid (o.mk1 (S.getD o.a.toNat default)).1.h (o.mk1 (S.getD o.a.toNat default)).1.w (o.mk1 (S.getD o.a.toNat default)).1.c) fun v2 => W.ret !v2)).run Q := fun {Q} hq => by
    refine W.needI (fun e => by have : o.kind = 6 := by simpa using e
                                omega) ?_
    rw [ri_shp0, ri_shp1, ri_shp2]
    refine W.iteC (o.kind = 6 ∧ S.getD o.b.toNat default ≠ S.getD o.a.toNat default) ?_ (fun h6 => W.retE hq (decide_eq_true (Or.inl h6)).symm) fun h6 => W.bindI (g_ref05_Valid_ok _ _ _ (W.retE hq ?_))
    · rw [Bool.eq_iff_iff, decide_eq_true_eq]
      generalize S.getD o.b.toNat default = x
      generalize S.getD o.a.toNat default = y
      obtain ⟨x1, x2, x3⟩ := x
      obtain ⟨y1, y2, y3⟩ := y
      simp
      omega
    · rw [Bool.eq_iff_iff, decide_eq_true_eq, Bool.not_eq_true', decide_eq_false_iff_not]
      exact ⟨.inr, fun q => q.resolve_left h6⟩
  refine W.bindI (key6 ?_)
  refine W.iteC _ rfl (fun h6 => W.retE h (by simp only [Opr.one]; rw [if_neg h1, if_neg h2, if_neg h3, if_neg h4, if_neg h5, if_pos h6])) fun h6 => ?_
  have hdl : reduces o.kind → o.kind ≠ 1 → o.win.dims := fun hr hk => hd (by unfold reduces at hr; unfold slides; omega)
  have key7 : ∀ {Q : Bool → Prop}, Q (decide (reduces o.kind ∧ 512 < o.len (S.getD o.a.toNat default))) →
      (W.bind (g_ref08_Reduces o.kind) fun v4 => W.ite v4 (W.bind (g_ref08_Length o.kind o.a o.b o.m o.win.kh o.win.kw o.win.sh o.win.sw o.win.top o.win.left o.win.bottom o.win.right o.wn o.ws o.bn o.bs o.sam o.sas o.sbm o.sbs o.zero o.pad o.lo o.hi (S.getD o.a.toNat default).h (S.getD o.a.toNat default).w (S.getD o.a.toNat default).c) fun v5 => W.ret (decide (512 < v5))) (W.ret false)).run Q := fun {Q} hq => by
    refine W.bindI (g_ref08_Reduces_ok _ (W.iteC (reduces o.kind) rfl (fun h7 => W.bindI (g_ref08_Length_ok o _ hsa (hdl h7) (W.retE hq (by simp [h7])))) fun h7 => W.retE hq (by simp [h7])))
  refine W.bindI (key7 ?_)
  refine W.iteC _ rfl (fun h7 => W.retE h (by simp only [Opr.one]; rw [if_neg h1, if_neg h2, if_neg h3, if_neg h4, if_neg h5, if_neg h6, if_pos h7])) fun h7 => ?_
  refine W.bindI (g_ref08_Lists_ok o _ hsa (fun hk => hd (by unfold slides; omega)) (fun hk => by omega) ?_)
  refine W.iteC ((o.ws.length : Int) ≠ (o.lists (S.getD o.a.toNat default)).1 ∨ (o.bs.length : Int) ≠ (o.lists (S.getD o.a.toNat default)).2) (by first | (simp; done) | (simp; rfl))
    (fun h8 => W.retE h (by simp only [Opr.one]; rw [if_neg h1, if_neg h2, if_neg h3, if_neg h4, if_neg h5, if_neg h6, if_neg h7, if_pos h8])) fun h8 => ?_
  have key9 : ∀ {Q : Bool → Prop}, Q (decide (scales o.kind ∧ ¬ scaleOK o.sam o.sas ∨ o.kind = 6 ∧ ¬ scaleOK o.sbm o.sbs)) →
      (W.bind (g_ref08_Scales o.kind) fun v8 => W.ite v8 (W.bind (g_ref02_Valid o.sam o.sas) fun v9 => W.ite (!v9) (W.ret true) (W.ite (o.kind == 6) (W.bind (g_ref02_Valid o.sbm o.sbs) fun v10 => W.ret !v10) (W.ret false)))
        (W.ite (o.kind == 6) (W.bind (g_ref02_Valid o.sbm o.sbs) fun v11 => W.ret !v11) (W.ret false))).run Q := fun {Q} hq => by
    have tail : ∀ {Q : Bool → Prop}, Q (decide (o.kind = 6 ∧ ¬ scaleOK o.sbm o.sbs)) → (W.ite (o.kind == 6) (W.bind (g_ref02_Valid o.sbm o.sbs) fun v11 => W.ret !v11) (W.ret false)).run Q := fun {Q} hq =>
      W.iteC (o.kind = 6) rfl (fun q => W.bindI (g_ref02_Valid_ok _ _ (W.retE hq (by simp [q])))) fun q => W.retE hq (by simp [q])
    refine W.bindI (g_ref08_Scales_ok _ (W.iteC (scales o.kind) rfl (fun q1 => W.bindI (g_ref02_Valid_ok _ _ (W.iteC (¬ scaleOK o.sam o.sas) (by simp) (fun q2 => W.retE hq (by simp [q1, q2])) fun q2 => tail ?_))) fun q1 => tail ?_))
    · simpa [q1, q2] using hq
    · simpa [q1] using hq
  refine W.bindI (key9 ?_)
  refine W.iteC _ rfl (fun h9 => W.retE h (by simp only [Opr.one]; rw [if_neg h1, if_neg h2, if_neg h3, if_neg h4, if_neg h5, if_neg h6, if_neg h7, if_neg h8, if_pos h9])) fun h9 => ?_
  have key10 : ∀ {Q : Bool → Prop}, Q (decide (¬ val o.lo ∨ ¬ val o.hi ∨ o.hi < o.lo ∨ ¬ val o.zero ∨ ¬ val o.pad)) →
      (W.bind (g_ref08_values o.lo) fun v13 => W.ite (!v13) (W.ret true) (W.bind (g_ref08_values o.hi) fun v14 => W.ite (!v14 || decide (o.hi < o.lo)) (W.ret true)
        (W.bind (g_ref08_values o.zero) fun v15 => W.ite (!v15) (W.ret true) (W.bind (g_ref08_values o.pad) fun v16 => W.ret !v16)))).run Q := fun {Q} hq => by
    refine W.bindI (g_ref08_values_ok _ (W.iteC (¬ val o.lo) (by simp) (fun q1 => W.retE hq (by simp [q1])) fun q1 => ?_))
    refine W.bindI (g_ref08_values_ok _ (W.iteC (¬ val o.hi ∨ o.hi < o.lo) (by simp) (fun q2 => W.retE hq (by rcases q2 with q2 | q2 <;> simp [q2])) fun q2 => ?_))
    rw [not_or] at q2
    refine W.bindI (g_ref08_values_ok _ (W.iteC (¬ val o.zero) (by simp) (fun q3 => W.retE hq (by simp [q3])) fun q3 => W.bindI (g_ref08_values_ok _ (W.retE hq ?_))))
    have q1 : val o.lo := by simpa using q1
    have q3 : val o.zero := by simpa using q3
    have q2a : val o.hi := by simpa using q2.1
    rw [Bool.eq_iff_iff]
    simp [q1, q2a, q3]
    omega
  refine W.bindI (key10 ?_)
  refine W.iteC _ rfl (fun h10 => W.retE h (by simp only [Opr.one]; rw [if_neg h1, if_neg h2, if_neg h3, if_neg h4, if_neg h5, if_neg h6, if_neg h7, if_neg h8, if_neg h9, if_pos h10])) fun h10 => W.retE h ?_
  simp only [Opr.one]; rw [if_neg h1, if_neg h2, if_neg h3, if_neg h4, if_neg h5, if_neg h6, if_neg h7, if_neg h8, if_neg h9, if_neg h10]
end Go.Proofs.Ytalchibbmkhkpaa.VX

set_option linter.unusedVariables false
namespace Go.Proofs.Ytalchibbmkhkpaa.VX
/-- Work, error, op, shapes. -/
structure Ans8 where
  work : Int
  err : Int
  op : Int
  S : List Shp
def walk8 : List Opr → Int → Int → List Shp → Ans8
  | [], _, w, S => ⟨w, 0, 0, S⟩
  | o :: r, i, w, S =>
    if (o.one S).2 ≠ 0 then ⟨0, (o.one S).2, i + 1, []⟩
    else if 131072 < w + o.labour (S.getD o.a.toNat default) (o.one S).1 then ⟨0, 86, i + 1, []⟩
    else walk8 r (i + 1) (w + o.labour (S.getD o.a.toNat default) (o.one S).1) (S ++ [(o.one S).1])
def look8 (s : Shp) (lo hi : Int) (ops : List Opr) (out : Int) : Ans8 :=
  if ¬ s.ok then ⟨0, 50, 0, []⟩
  else if ¬ val lo ∨ ¬ val hi ∨ hi < lo then ⟨0, 85, 0, []⟩
  else if 64 < ops.length then ⟨0, 80, 0, []⟩
  else if out < 0 ∨ ops.length < out then ⟨0, 3, 0, []⟩
  else walk8 ops 0 0 [s]
/-- As the functions answer it. -/
def Ans8.tup (a : Ans8) : Int × Int × Int × Int × Bool × Rws := (a.work, a.err, a.op, 0, decide (a.err ≠ 0), a.S.map Shp.enc)
def oprs (l : Rws) : List Opr := l.map Opr.of
/-- No list of an op is longer than this. -/
def short (l : Rws) : Prop := ∀ r ∈ l, (Opr.of r).ws.length ≤ 70368744175616 ∧ (Opr.of r).bs.length ≤ 35184372087808

theorem one_ok {o : Opr} {S : List Shp} (h : (o.one S).2 = 0) : (0 ≤ o.a ∧ o.a < S.length) ∧ (o.one S).1.ok ∧ (slides o.kind → o.win.dims) ∧ (o.mk1 (S.getD o.a.toNat default)).2 = 0 := by
  unfold Opr.one at h ⊢
  repeat' split at h
  all_goals try (exfalso; simp at h; done)
  · rename_i h5; exact absurd h h5
  · rename_i h1 h2 h3 h4 h5 h6 h7 h8 h9 h10
    rw [if_neg h1, if_neg h2, if_neg h3, if_neg h4, if_neg h5, if_neg h6, if_neg h7, if_neg h8, if_neg h9, if_neg h10]
    rw [not_or] at h6
    have h5' : (o.mk1 (S.getD o.a.toNat default)).2 = 0 := by simpa using h5
    exact ⟨by omega, Classical.not_not.1 h6.2, mk1_dims h5', h5'⟩
theorem getD_mem {S : List Shp} {i : Nat} (h : i < S.length) : S.getD i default ∈ S := by
  rw [List.getD_eq_getElem?_getD, List.getElem?_eq_getElem h]; exact List.getElem_mem h

theorem row_opr (l : Rws) (k : Nat) (h : k < l.length) : (oprs l)[k]? = some (Opr.of (l.getD k [])) := by
  unfold oprs
  rw [List.getElem?_map, List.getD_eq_getElem?_getD, List.getElem?_eq_getElem h]; rfl
theorem drop_opr (l : Rws) (k : Nat) (h : k < l.length) : (oprs l).drop k = Opr.of (l.getD k []) :: (oprs l).drop (k + 1) := by
  have h' : k < (oprs l).length := by simpa [oprs] using h
  rw [List.drop_eq_getElem_cons h']
  congr 1
  have := row_opr l k h
  rw [List.getElem?_eq_getElem h'] at this
  exact Option.some.inj this

theorem g_ref08_one_row (l : Rws) (k : Nat) (S : List Shp) (nl : Bool) (hS : ∀ s ∈ S, s.ok) (hw : (Opr.of (l.getD k [])).ws.length ≤ 70368744175616) (hb : (Opr.of (l.getD k [])).bs.length ≤ 35184372087808) {R : Int × Int × Int × Int → Prop} (h : R (((Opr.of (l.getD k [])).one S).1.h, ((Opr.of (l.getD k [])).one S).1.w, ((Opr.of (l.getD k [])).one S).1.c, ((Opr.of (l.getD k [])).one S).2)) :
    (g_ref08_one (ri l k 0) (ri l k 1) (ri l k 2) (ri l k 3) (ri l k 4) (ri l k 5) (ri l k 6) (ri l k 7) (ri l k 8) (ri l k 9) (ri l k 10) (ri l k 11) (rn l k 12) (rr l k 12) (rn l k 13) (rr l k 13) (ri l k 14) (ri l k 15) (ri l k 16) (ri l k 17) (ri l k 18) (ri l k 19) (ri l k 20) (ri l k 21) S.length nl (S.map Shp.enc)).run R :=
  g_ref08_one_ok (Opr.of (l.getD k [])) S nl hS hw hb h
theorem g_ref08_Labour_row (l : Rws) (k : Nat) (s t : Shp) (hs : s.ok) (ht : t.ok) (hw : slides (Opr.of (l.getD k [])).kind → (Opr.of (l.getD k [])).win.dims) {R : Int → Prop} (h : R ((Opr.of (l.getD k [])).labour s t)) :
    (g_ref08_Labour (ri l k 0) (ri l k 1) (ri l k 2) (ri l k 3) (ri l k 4) (ri l k 5) (ri l k 6) (ri l k 7) (ri l k 8) (ri l k 9) (ri l k 10) (ri l k 11) (rn l k 12) (rr l k 12) (rn l k 13) (rr l k 13) (ri l k 14) (ri l k 15) (ri l k 16) (ri l k 17) (ri l k 18) (ri l k 19) (ri l k 20) (ri l k 21) s.h s.w s.c t.h t.w t.c).run R :=
  g_ref08_Labour_ok (Opr.of (l.getD k [])) s t hs ht hw h
theorem g_ref08_Look_ok (s : Shp) (lo hi : Int) (nl : Bool) (l : Rws) (out : Int) (hl : l.length ≤ 676622540150) (hsh : short l) {R : Int × Int × Int × Int × Bool × Rws → Prop} (h : R (look8 s lo hi (oprs l) out).tup) :
    (g_ref08_Look s.h s.w s.c lo hi nl l out).run R := by
  have hlen : (oprs l).length = l.length := by simp [oprs]
  unfold g_ref08_Look
  have key : ∀ {Q : Int → Prop}, Q (if ¬ s.ok then 50 else if ¬ val lo ∨ ¬ val hi ∨ hi < lo then 85 else if 64 < l.length then 80 else if out < 0 ∨ l.length < out then 3 else 0) →
      (W.bind (g_ref05_Valid s.h s.w s.c) fun v0 => W.ite (!v0) (W.ret 50) (W.bind (α := Bool) (W.bind (g_ref08_values lo) fun v1 => W.ite (!v1) (W.ret true) (W.bind (g_ref08_values hi) fun v2 => W.ret (!v2 || decide (hi < lo)))) fun v3 =>
        W.ite v3 (W.ret 85) (W.ite (decide (64 < (↑(List.length l) : Int))) (W.ret 80) (W.ite (decide (out < 0) || decide ((↑(List.length l) : Int) < out)) (W.ret 3) (W.ret 0))))).run Q := fun {Q} hq => by
    refine W.bindI (g_ref05_Valid_ok _ _ _ (W.iteC (¬ s.ok) (by simp) (fun h1 => W.retE hq (by rw [if_pos h1])) fun h1 => ?_))
    rw [if_neg h1] at hq
    have tail : ∀ b : Bool, b = decide (¬ val lo ∨ ¬ val hi ∨ hi < lo) → (W.ite b (W.ret 85) (W.ite (decide (64 < (↑(List.length l) : Int))) (W.ret 80) (W.ite (decide (out < 0) || decide ((↑(List.length l) : Int) < out)) (W.ret 3) (W.ret 0)))).run Q := fun b hb => by
      refine W.iteC _ hb (fun h2 => W.retE hq (by rw [if_pos h2])) fun h2 => ?_
      refine W.iteC (64 < l.length) (by rw [decide_eq_decide]; omega) (fun h3 => W.retE hq (by rw [if_neg h2, if_pos h3])) fun h3 => ?_
      exact W.iteC (out < 0 ∨ l.length < out) (by rw [Bool.decide_or]) (fun h4 => W.retE hq (by rw [if_neg h2, if_neg h3, if_pos h4])) fun h4 => W.retE hq (by rw [if_neg h2, if_neg h3, if_neg h4])
    refine W.bindI (W.bindI (g_ref08_values_ok _ (W.iteC (¬ val lo) (by simp) (fun h2 => W.retI (tail _ (by simp [h2]))) fun h2 => W.bindI (g_ref08_values_ok _ (W.retI (tail _ ?_))))))
    have h2 : val lo := by simpa using h2
    simp [h2]
  refine W.bindI (key ?_)
  unfold look8 at h
  rw [hlen] at h
  by_cases h1 : s.ok
  case neg => rw [if_pos h1] at h ⊢; exact W.iteT rfl (W.retE h rfl)
  rw [if_neg (by simpa using h1)] at h ⊢
  by_cases h2 : ¬ val lo ∨ ¬ val hi ∨ hi < lo
  · rw [if_pos h2] at h ⊢; exact W.iteT rfl (W.retE h rfl)
  rw [if_neg h2] at h ⊢
  by_cases h3 : 64 < l.length
  · rw [if_pos h3] at h ⊢; exact W.iteT rfl (W.retE h rfl)
  rw [if_neg h3] at h ⊢
  by_cases h4 : out < 0 ∨ (l.length : Int) < out
  · rw [if_pos h4] at h ⊢; exact W.iteT rfl (W.retE h rfl)
  rw [if_neg h4] at h ⊢
  refine W.iteF rfl (W.bindI (W.loop_inv (fun v : Int × Int × Rws => ∃ (k : Nat) (S : List Shp), v.2.1 = k ∧ k ≤ l.length ∧ v.2.2 = S.map Shp.enc ∧ S.length = k + 1 ∧ (∀ s ∈ S, s.ok) ∧ 0 ≤ v.1 ∧ v.1 ≤ 131072 ∧ R (walk8 ((oprs l).drop k) k v.1 S).tup)
    (fun v => l.length - v.2.1.toNat) ?_ ⟨0, [s], rfl, Nat.zero_le _, rfl, rfl, by simpa using h1, by dsimp only; omega, by dsimp only; omega, h⟩))
  rintro ⟨w, i, rows⟩ ⟨k, S, rfl, hk, rfl, hSl, hS, hw0, hw1, hR⟩
  dsimp only at hw0 hw1 hR ⊢
  refine W.iteC (k < l.length) (by rw [decide_eq_decide]; omega) (fun hlt => W.needI (by omega) ?_) fun hge => ?_
  · rw [Int.toNat_natCast, wrap64_in (x := (k : Int) + 1) (by omega) (by omega)]
    have hmem : l.getD k [] ∈ l := by rw [List.getD_eq_getElem?_getD, List.getElem?_eq_getElem hlt]; exact List.getElem_mem hlt
    obtain ⟨s1, s2⟩ := hsh _ hmem
    rw [drop_opr l k hlt] at hR
    have e1 : ((k : Int) + 1) = (S.length : Int) := by omega
    rw [e1]
    refine W.bindI (g_ref08_one_row l k S false hS s1 s2 ?_)
    dsimp only
    unfold walk8 at hR
    refine W.iteC (((Opr.of (l.getD k [])).one S).2 ≠ 0) (by first | (simp; done) | (simp; rfl)) (fun h5 => ?_) fun h5 => ?_
    · rw [if_pos h5] at hR
      refine W.retI (W.retE hR ?_)
      simp only [Ans8.tup, e1]
      simp [h5, -List.getD_eq_getElem?_getD]
    · rw [if_neg h5] at hR
      have h5' : ((Opr.of (l.getD k [])).one S).2 = 0 := by simpa using h5
      obtain ⟨q1, q2, q3, q4⟩ := one_ok h5'
      have hsa := hS _ (getD_mem (S := S) (i := (Opr.of (l.getD k [])).a.toNat) (by omega))
      rw [List.length_map]
      refine W.needI q1 ?_
      have e2 : (ri l k 1) = (Opr.of (l.getD k [])).a := rfl
      rw [ri_shp0, ri_shp1, ri_shp2]
      refine W.bindI (g_ref08_Labour_row l k (S.getD (Opr.of (l.getD k [])).a.toNat default) _ hsa q2 q3 ?_)
      have bd := labour_bd (Opr.of (l.getD k [])) _ _ hsa q2 q3
      rw [wrap64_in (by omega) (by omega)]
      refine W.iteC _ rfl (fun h6 => ?_) fun h6 => ?_
      · rw [if_pos h6] at hR
        refine W.retI (W.retE hR ?_)
        simp only [Ans8.tup, e1]
        simp
      · rw [if_neg h6] at hR
        refine W.needI (by omega) (W.retI ⟨⟨k + 1, S ++ [((Opr.of (l.getD k [])).one S).1], by simpa using e1.symm, hlt, by simp [Shp.enc], by simp [hSl], ?_, by dsimp only; omega, by dsimp only; omega, ?_⟩, ?_⟩)
        · intro x hx
          rcases List.mem_append.1 hx with hx | hx
          · exact hS x hx
          · simp at hx; subst hx; exact q2
        · simpa using hR
        · dsimp only; omega
  · have e : k = l.length := by omega
    subst e
    rw [List.drop_eq_nil_of_le (by omega)] at hR
    exact W.retI (W.retE hR (by simp [walk8, Ans8.tup]))
end Go.Proofs.Ytalchibbmkhkpaa.VX

set_option linter.unusedVariables false
namespace Go.Proofs.Ytalchibbmkhkpaa.VX
theorem W.iteR {α : Type} {b : Bool} {x y : α} {R : α → Prop} (h : R (bif b then x else y)) : (W.ite b (W.ret x) (W.ret y)).run R := by
  cases b
  · exact W.iteF rfl h
  · exact W.iteT rfl h
structure Uses where
  b : Bool
  m : Bool
  win : Bool
  pads : Bool
  weights : Bool
  sa : Bool
  sb : Bool
  pad : Bool
def usesOf (k : Int) : Uses := ⟨decide (k = 6), decide (k ≤ 2), decide (slides k), decide (k = 2 ∨ k = 3), decide (weighs k), decide (scales k), decide (k = 6), decide (k = 2 ∨ k = 3)⟩
theorem kind_cases {k : Int} (h : ¬ (k < 1 ∨ 8 < k)) : k = 1 ∨ k = 2 ∨ k = 3 ∨ k = 4 ∨ k = 5 ∨ k = 6 ∨ k = 7 ∨ k = 8 := by omega
theorem g_model_of_ok (k : Int) (h : ¬ (k < 1 ∨ 8 < k)) {R : Bool × Bool × Bool × Bool × Bool × Bool × Bool × Bool × Bool → Prop}
    (hR : R ((usesOf k).b, (usesOf k).m, (usesOf k).win, (usesOf k).pads, (usesOf k).weights, (usesOf k).sa, (usesOf k).sb, (usesOf k).pad, true)) : (g_model_of k).run R := by
  unfold g_model_of
  rcases kind_cases h with rfl | rfl | rfl | rfl | rfl | rfl | rfl | rfl
  · exact W.iteT rfl (W.retE hR rfl)
  · exact W.iteF rfl (W.iteT rfl (W.retE hR rfl))
  · exact W.iteF rfl (W.iteF rfl (W.iteT rfl (W.retE hR rfl)))
  · exact W.iteF rfl (W.iteF rfl (W.iteF rfl (W.bindI (W.iteT rfl (W.retI (W.iteT rfl (W.retE hR rfl)))))))
  · exact W.iteF rfl (W.iteF rfl (W.iteF rfl (W.bindI (W.iteF rfl (W.retI (W.iteT rfl (W.retE hR rfl)))))))
  · exact W.iteF rfl (W.iteF rfl (W.iteF rfl (W.bindI (W.iteF rfl (W.retI (W.iteF rfl (W.iteT rfl (W.retE hR rfl))))))))
  · exact W.iteF rfl (W.iteF rfl (W.iteF rfl (W.bindI (W.iteF rfl (W.retI (W.iteF rfl (W.iteF rfl (W.iteT rfl (W.retE hR rfl)))))))))
  · exact W.iteF rfl (W.iteF rfl (W.iteF rfl (W.bindI (W.iteF rfl (W.retI (W.iteF rfl (W.iteF rfl (W.iteF rfl (W.iteT rfl (W.retE hR rfl))))))))))
theorem g_model_of_bad (k : Int) (h : k < 1 ∨ 8 < k) {R : Bool × Bool × Bool × Bool × Bool × Bool × Bool × Bool × Bool → Prop} (hR : R (false, false, false, false, false, false, false, false, false)) : (g_model_of k).run R := by
  have ne : ∀ n : Int, 1 ≤ n → n ≤ 8 → (k == n) = false := fun n h1 h2 => by simp; omega
  unfold g_model_of
  exact W.iteF (ne 1 (by omega) (by omega)) (W.iteF (ne 2 (by omega) (by omega)) (W.iteF (ne 3 (by omega) (by omega)) (W.bindI (W.iteF (ne 4 (by omega) (by omega)) (W.retI (W.iteF (ne 5 (by omega) (by omega)) (W.iteF (ne 6 (by omega) (by omega)) (W.iteF (ne 7 (by omega) (by omega)) (W.iteF (ne 8 (by omega) (by omega)) (W.retI hR))))))))))

/-- Is all zero that isn't used? -/
def restB (o : Opr) (u : Uses) : Bool :=
  (bif u.b then 0 else o.b) == 0 && (bif u.m then 0 else o.m) == 0 &&
  (bif u.pads then true else (bif u.win then true else o.win.kh == 0 && o.win.kw == 0 && o.win.sh == 0 && o.win.sw == 0) && (o.win.top == 0 && o.win.left == 0 && o.win.bottom == 0 && o.win.right == 0)) &&
  (bif u.weights then true else o.ws.isEmpty && o.bs.isEmpty) && (bif u.sa then true else o.sam == 0 && o.sas == 0 && o.zero == 0) && (bif u.sb then true else o.sbm == 0 && o.sbs == 0) && (bif u.pad then true else o.pad == 0)
theorem nil_len (l : Rws) : ((l.length : Int) == 0) = l.isEmpty := by cases l <;> simp <;> omega
theorem bare_empty_ok (o : Opr) (u : Uses) {R : Bool → Prop} (h : R (restB o u)) :
    (W.bind (g_model_bare o.kind o.a o.b o.m o.win.kh o.win.kw o.win.sh o.win.sw o.win.top o.win.left o.win.bottom o.win.right o.wn o.ws o.bn o.bs o.sam o.sas o.sbm o.sbs o.zero o.pad o.lo o.hi u.b u.m u.win u.pads u.weights u.sa u.sb u.pad) fun v1 =>
      g_model_empty (v1.fst) (v1.snd.fst) (v1.snd.snd.fst) (v1.snd.snd.snd.fst) (v1.snd.snd.snd.snd.fst) (v1.snd.snd.snd.snd.snd.fst) (v1.snd.snd.snd.snd.snd.snd.fst) (v1.snd.snd.snd.snd.snd.snd.snd.fst) (v1.snd.snd.snd.snd.snd.snd.snd.snd.fst) (v1.snd.snd.snd.snd.snd.snd.snd.snd.snd.fst) (v1.snd.snd.snd.snd.snd.snd.snd.snd.snd.snd.fst) (v1.snd.snd.snd.snd.snd.snd.snd.snd.snd.snd.snd.fst) (v1.snd.snd.snd.snd.snd.snd.snd.snd.snd.snd.snd.snd.fst) (v1.snd.snd.snd.snd.snd.snd.snd.snd.snd.snd.snd.snd.snd.fst) (v1.snd.snd.snd.snd.snd.snd.snd.snd.snd.snd.snd.snd.snd.snd.fst) (v1.snd.snd.snd.snd.snd.snd.snd.snd.snd.snd.snd.snd.snd.snd.snd.fst) (v1.snd.snd.snd.snd.snd.snd.snd.snd.snd.snd.snd.snd.snd.snd.snd.snd.fst) (v1.snd.snd.snd.snd.snd.snd.snd.snd.snd.snd.snd.snd.snd.snd.snd.snd.snd.fst) (v1.snd.snd.snd.snd.snd.snd.snd.snd.snd.snd.snd.snd.snd.snd.snd.snd.snd.snd.fst) (v1.snd.snd.snd.snd.snd.snd.snd.snd.snd.snd.snd.snd.snd.snd.snd.snd.snd.snd.snd.fst) (v1.snd.snd.snd.snd.snd.snd.snd.snd.snd.snd.snd.snd.snd.snd.snd.snd.snd.snd.snd.snd.fst) (v1.snd.snd.snd.snd.snd.snd.snd.snd.snd.snd.snd.snd.snd.snd.snd.snd.snd.snd.snd.snd.snd.fst) (v1.snd.snd.snd.snd.snd.snd.snd.snd.snd.snd.snd.snd.snd.snd.snd.snd.snd.snd.snd.snd.snd.snd.fst) (v1.snd.snd.snd.snd.snd.snd.snd.snd.snd.snd.snd.snd.snd.snd.snd.snd.snd.snd.snd.snd.snd.snd.snd)).run R := by
  unfold g_model_bare g_model_empty
  refine W.bindI (W.bindI ?_)
  iterate 7 (refine W.iteR ?_; refine W.bindI ?_)
  refine W.iteR ?_
  refine W.retI ?_
  refine W.retE h ?_
  obtain ⟨ub, um, uwin, upads, uw, usa, usb, upad⟩ := u
  dsimp only
  simp only [restB, nil_len]
  cases ub <;> cases um <;> cases uwin <;> cases upads <;> cases uw <;> cases usa <;> cases usb <;> cases upad <;> simp only [cond_true, cond_false] <;> simp <;> ac_rfl
end Go.Proofs.Ytalchibbmkhkpaa.VX

set_option linter.unusedVariables false
namespace Go.Proofs.Ytalchibbmkhkpaa.VX
theorem restB_eq (o : Opr) (h : ¬ (o.kind < 1 ∨ 8 < o.kind)) : restB o (usesOf o.kind) = decide o.spare := by
  obtain ⟨k, a, b, m, ⟨kh, kw, sh, sw, tp, lf, bt, rt⟩, wn, ws, bn, bs, sam, sas, sbm, sbs, zero, pad, lo, hi⟩ := o
  dsimp only at h ⊢
  rw [Bool.eq_iff_iff, decide_eq_true_eq]
  rcases kind_cases h with rfl | rfl | rfl | rfl | rfl | rfl | rfl | rfl <;> simp [restB, usesOf, Opr.spare, slides, weighs, scales, List.isEmpty_iff, List.length_eq_zero_iff, Win.mk.injEq] <;> (constructor <;> intro q <;> simp_all)

theorem g_model_makes_ok (o : Opr) (s : Shp) (hk : ¬ (o.kind < 1 ∨ 8 < o.kind)) (hs : s.ok) (hm : o.kind ≤ 2 → 1 ≤ o.m ∧ o.m ≤ 1024) {R : Int × Int × Int × Int × Int × Int → Prop}
    (h : R (if (o.mk1 s).2 ≠ 0 then (0, 0, 0, 0, 0, (o.mk1 s).2) else ((o.mk1 s).1.h, (o.mk1 s).1.w, (o.mk1 s).1.c, if reduces o.kind then o.len s else 0, o.labour s (o.mk1 s).1, 0))) :
    (g_model_makes o.kind o.a o.b o.m o.win.kh o.win.kw o.win.sh o.win.sw o.win.top o.win.left o.win.bottom o.win.right o.wn o.ws o.bn o.bs o.sam o.sas o.sbm o.sbs o.zero o.pad o.lo o.hi s.h s.w s.c).run R := by
  have hs' := hs
  unfold Shp.ok at hs'
  obtain ⟨p1, p2, p3, p4⟩ := prod3 hs'.1 hs'.2.1 hs'.2.2.1
  unfold g_model_makes
  refine W.bindI (g_model_of_ok _ hk (W.bindI (W.iteC (slides o.kind) rfl (fun h1 => ?_) fun h1 => ?_)))
  · -- a window
    have hk1 : o.kind ≠ 1 := by unfold slides at h1; omega
    refine W.bindI (g_window_Out_ok s o.win (W.iteC ((wout s o.win).2.2 ≠ 0) (by first | (simp; done) | (simp; rfl)) (fun he => W.retI (W.retE h ?_)) fun he => W.retI ?_))
    · have e : (o.mk1 s).2 ≠ 0 := by unfold Opr.mk1; rw [if_neg hk1, if_pos h1, if_pos he]; exact he
      rw [if_pos e]
      unfold Opr.mk1; rw [if_neg hk1, if_pos h1, if_pos he]
    · have he' : (wout s o.win).2.2 = 0 := by simpa using he
      have hd := (wout_win he').2
      have hd2 := hd.dims
      unfold Win.dims at hd2
      have q := mul_bd (A := 32) (B := 32) hd2.1.1 hd2.1.2 hd2.2.1 hd2.2.2
      have q2 := mul_bd (A := 1024) (B := 1024) q.1 (by omega) (by omega : 0 ≤ s.c) (by omega)
      have hmk : o.mk1 s = (⟨(wout s o.win).1, (wout s o.win).2.1, if o.kind = 2 then o.m else s.c⟩, 0) := by unfold Opr.mk1; rw [if_neg hk1, if_pos h1, if_neg he]
      rw [hmk] at h
      dsimp only at h
      rw [if_neg (by simp)] at h
      -- its dims
      have hwo : (0 ≤ (wout s o.win).1 ∧ (wout s o.win).1 ≤ 2000) ∧ (0 ≤ (wout s o.win).2.1 ∧ (wout s o.win).2.1 ≤ 2000) := by
        have hd3 := hd
        unfold Win.ok sideOK at hd3
        unfold wout
        rw [if_neg (by simpa using hs), if_neg (by simpa using hd)]
        have b1 := places_bd (n := s.h + o.win.top + o.win.bottom) (k := o.win.kh) (s := o.win.sh) (by omega) (by omega)
        have b2 := places_bd (n := s.w + o.win.left + o.win.right) (k := o.win.kw) (s := o.win.sw) (by omega) (by omega)
        split
        · simp
        · dsimp only; omega
      have w1 := mul_bd (A := 2000) (B := 2000) hwo.1.1 hwo.1.2 hwo.2.1 hwo.2.2
      have w2 : ∀ c : Int, 0 ≤ c → c ≤ 1024 → 0 ≤ (wout s o.win).1 * (wout s o.win).2.1 * c ∧ (wout s o.win).1 * (wout s o.win).2.1 * c ≤ 4096000000 := fun c h0 h1 => by
        have := mul_bd (A := 4000000) (B := 1024) w1.1 (by omega) h0 h1; omega
      have w3 : ∀ c t : Int, 0 ≤ c → c ≤ 1024 → 0 ≤ t → t ≤ 1048576 → 0 ≤ (wout s o.win).1 * (wout s o.win).2.1 * c * t ∧ (wout s o.win).1 * (wout s o.win).2.1 * c * t ≤ 4294967296000000 := fun c t h0 h1 h2 h3 => by
        have := mul_bd (A := 4096000000) (B := 1048576) (w2 c h0 h1).1 (w2 c h0 h1).2 h2 h3; omega
      rw [wrap64_in (x := o.win.kh * o.win.kw) (by omega) (by omega)]
      refine W.bindI (W.iteF (by simp [hk1]) (W.iteC (o.kind = 2) rfl (fun h2 => W.retI (W.retE h ?_)) fun h2 => W.bindI ?_))
      · have e1 := w2 o.m (by omega) (by omega)
        have e2 := w3 o.m (o.win.kh * o.win.kw * s.c) (by omega) (by omega) q2.1 (by omega)
        dsimp only
        rw [wrap64_in (x := o.win.kh * o.win.kw * s.c) (by omega) (by omega), wrap64_in (x := (wout s o.win).1 * (wout s o.win).2.1) (by omega) (by omega), wrap64_in (x := (wout s o.win).1 * (wout s o.win).2.1 * o.m) (by omega) (by omega), wrap64_in (by omega) (by omega)]
        have hr : reduces o.kind := by unfold reduces; omega
        rw [if_pos h2, if_pos hr]
        simp only [Opr.labour, Opr.len]
        rw [if_pos hr, if_neg hk1, if_pos h2]
      · have e1 := w2 s.c (by omega) (by omega)
        have e2 := w3 s.c (o.win.kh * o.win.kw) (by omega) (by omega) q.1 (by omega)
        rw [if_neg h2] at h
        have key : ∀ b : Bool, b = decide (o.kind = 3 ∨ o.kind = 4) → (W.ite b (W.ret (o.win.kh * o.win.kw, o.win.kh * o.win.kw, (wout s o.win).1, (wout s o.win).2.1, s.c)) (W.ret (o.win.kh * o.win.kw, 0, (wout s o.win).1, (wout s o.win).2.1, s.c))).run fun v4 =>
            (W.ret (v4.snd.snd.fst, v4.snd.snd.snd.fst, v4.snd.snd.snd.snd, v4.snd.fst, IntKind.i64.wrap (IntKind.i64.wrap (IntKind.i64.wrap (v4.snd.snd.fst * v4.snd.snd.snd.fst) * v4.snd.snd.snd.snd) * v4.fst), (0 : Int))).run R := fun b hb => by
          have hlab : o.labour s ⟨(wout s o.win).1, (wout s o.win).2.1, s.c⟩ = (wout s o.win).1 * (wout s o.win).2.1 * s.c * (o.win.kh * o.win.kw) := by
            unfold Opr.labour Opr.len
            dsimp only
            by_cases hr : reduces o.kind
            · rw [if_pos hr, if_neg hk1, if_neg h2]
            · rw [if_neg hr, if_pos (by unfold reduces at hr; unfold slides at h1; omega)]
              rw [Int.mul_assoc ((wout s o.win).1 * (wout s o.win).2.1 * s.c)]
          have hlen : o.len s = o.win.kh * o.win.kw := by unfold Opr.len; rw [if_neg hk1, if_neg h2]
          rw [hlab, hlen] at h
          refine W.iteC _ hb (fun h3 => W.retI (W.retE h ?_)) fun h3 => W.retI (W.retE h ?_)
          · rw [if_pos (by unfold reduces; omega)]
            dsimp only
            rw [wrap64_in (x := (wout s o.win).1 * (wout s o.win).2.1) (by omega) (by omega), wrap64_in (x := (wout s o.win).1 * (wout s o.win).2.1 * s.c) (by omega) (by omega), wrap64_in (by omega) (by omega)]
          · rw [if_neg (by unfold reduces; unfold slides at h1; omega)]
            dsimp only
            rw [wrap64_in (x := (wout s o.win).1 * (wout s o.win).2.1) (by omega) (by omega), wrap64_in (x := (wout s o.win).1 * (wout s o.win).2.1 * s.c) (by omega) (by omega), wrap64_in (by omega) (by omega)]
        refine (W.iteC (o.kind = 3) rfl (fun h3 => W.retI (key (o.kind == 3) (by simp [h3]))) fun h3 => W.retI (key (o.kind == 4) (by rw [Bool.eq_iff_iff]; simp [h3])))
  · refine W.retI (W.bindI (W.iteC (o.kind = 1) rfl (fun h2 => W.retI ?_) fun h2 => W.iteF (by simp; unfold slides at h1; omega) (W.bindI (W.iteF (by simp; unfold slides at h1; omega) (W.retI (W.iteF (by simp; unfold slides at h1; omega) (W.retI ?_)))))))
    · have hmk : o.mk1 s = (⟨1, 1, o.m⟩, 0) := by unfold Opr.mk1; rw [if_pos h2]
      have hr : reduces o.kind := by unfold reduces; omega
      have hm := hm (by omega)
      have q := mul_bd (A := 1024) (B := 16384) (by omega : 0 ≤ o.m) hm.2 p3 hs'.2.2.2
      have hlen : o.len s = s.h * s.w * s.c := by unfold Opr.len; rw [if_pos h2]
      have hlab : o.labour s ⟨1, 1, o.m⟩ = o.m * (s.h * s.w * s.c) := by
        unfold Opr.labour; rw [if_pos hr, hlen]; simp only [Int.one_mul]
      rw [hmk] at h
      dsimp only at h
      rw [if_neg (by simp : ¬ ((0 : Int) ≠ 0)), if_pos hr, hlen, hlab] at h
      refine W.retE h ?_
      dsimp only
      rw [wrap64_in (x := s.h * s.w) (by omega) (by omega), wrap64_in (x := s.h * s.w * s.c) (by omega) (by omega), wrap64_in (x := (1 : Int) * 1) (by omega) (by omega)]
      simp only [Int.one_mul]
      rw [wrap64_in (x := o.m) (by omega) (by omega), wrap64_in (by omega) (by omega)]
    · have hmk : o.mk1 s = (s, 0) := by unfold Opr.mk1; rw [if_neg h2, if_neg h1]
      have hr : ¬ reduces o.kind := by unfold reduces; unfold slides at h1; omega
      have hlab : o.labour s s = s.h * s.w * s.c := by
        unfold Opr.labour; rw [if_neg hr, if_neg (by unfold slides at h1; omega)]
      rw [hmk] at h
      dsimp only at h
      rw [if_neg (by simp : ¬ ((0 : Int) ≠ 0)), if_neg hr, hlab] at h
      refine W.retE h ?_
      dsimp only
      rw [wrap64_in (x := s.h * s.w) (by omega) (by omega), wrap64_in (x := s.h * s.w * s.c) (by omega) (by omega), Int.mul_one, wrap64_in (by omega) (by omega)]
theorem g_fixq_Valid_ok (a b : Int) {R : Bool → Prop} (h : R (decide (scaleOK a b))) : (g_fixq_Valid a b).run R := by
  unfold g_fixq_Valid
  exact W.retE h (by rw [Bool.eq_iff_iff, decide_eq_true_eq]; simp [scaleOK, and_assoc]; omega)
end Go.Proofs.Ytalchibbmkhkpaa.VX

set_option linter.unusedVariables false
namespace Go.Proofs.Ytalchibbmkhkpaa.VX
theorem W.assoc {α β γ : Type} {x : W α} {f : α → W β} {g : β → W γ} {R : γ → Prop} (h : (W.bind (W.bind x f) g).run R) : (W.bind x fun a => W.bind (f a) g).run R := h
def intRows (l : List Int) : Rws := l.map fun n => [I n]
theorem ri_ints (l : List Int) (i : Nat) : ri (intRows l) i 0 = l.getD i 0 := by
  simp only [ri, cellOf, intRows, List.getD_eq_getElem?_getD, List.getElem?_map]
  cases l[i]? <;> rfl
theorem g_model_byte8_ok (nl : Bool) (l : List Int) (hl : l.length ≤ 70368744175616) {R : Bool → Prop} (h : R (decide (∀ n ∈ l, val n))) : (g_model_byte8 nl (intRows l)).run R := by
  have hlen : (intRows l).length = l.length := by simp [intRows]
  unfold g_model_byte8
  refine W.bindI (W.loop_inv (fun v : Int => ∃ k : Nat, v = k ∧ k ≤ l.length ∧ ∀ n ∈ l.take k, val n) (fun v => l.length - v.toNat) ?_ ⟨0, rfl, Nat.zero_le _, by simp⟩)
  rintro _ ⟨k, rfl, hk, hv⟩
  rw [hlen]
  refine W.iteC (k < l.length) (by rw [decide_eq_decide]; omega) (fun hlt => W.needI (by omega) ?_) fun hge => ?_
  · rw [Int.toNat_natCast, ri_ints]
    have hg : l.getD k 0 = l[k] := by rw [List.getD_eq_getElem?_getD, List.getElem?_eq_getElem hlt]; rfl
    rw [hg]
    refine W.iteC (¬ val l[k]) (by rw [Bool.eq_iff_iff, decide_eq_true_eq]; simp [val]; omega) (fun h1 => W.retI (W.retE h ?_)) fun h1 => W.retI ?_
    · have : ¬ ∀ n ∈ l, val n := fun q => h1 (q _ (List.getElem_mem hlt))
      simp [this]
    · rw [wrap64_in (by omega) (by omega)]
      refine ⟨⟨k + 1, by omega, hlt, fun n hn => ?_⟩, by omega⟩
      rw [List.take_succ_eq_append_getElem hlt] at hn
      rcases List.mem_append.1 hn with hn | hn
      · exact hv n hn
      · simp at hn; subst hn; exact Classical.not_not.1 h1
  · refine W.retI (W.retE h ?_)
    have e : k = l.length := by omega
    subst e
    rw [List.take_length] at hv
    exact (decide_eq_true hv).symm

theorem g_model_op_ok (o : Opr) (S : List Shp) (nl : Bool) (hS : ∀ s ∈ S, s.ok) (hw : o.ws.length ≤ 70368744175616) (hb : o.bs.length ≤ 35184372087808) {R : Int × Int × Int × Int × Int → Prop}
    (h : R (if (o.one S).2 ≠ 0 then (0, 0, 0, 0, (o.one S).2) else ((o.one S).1.h, (o.one S).1.w, (o.one S).1.c, o.labour (S.getD o.a.toNat default) (o.one S).1, 0))) :
    (g_model_op o.kind o.a o.b o.m o.win.kh o.win.kw o.win.sh o.win.sw o.win.top o.win.left o.win.bottom o.win.right o.wn o.ws o.bn o.bs o.sam o.sas o.sbm o.sbs o.zero o.pad o.lo o.hi nl (S.map Shp.enc)).run R := by
  have fail : ∀ e : Int, o.one S = (⟨0, 0, 0⟩, e) → e ≠ 0 → R (0, 0, 0, 0, e) := fun e h1 h2 => by rw [h1] at h; dsimp only at h; rwa [if_pos h2] at h
  unfold g_model_op
  refine W.bindI ?_
  by_cases h1 : o.kind < 1 ∨ 8 < o.kind
  · exact g_model_of_bad _ h1 (W.iteT rfl (W.retI (fail 81 (by simp only [Opr.one]; rw [if_pos h1]) (by decide))))
  refine g_model_of_ok _ h1 (W.iteF rfl ?_)
  rw [List.length_map]
  refine W.iteC ((o.a < 0 ∨ S.length ≤ o.a) ∨ o.kind = 6 ∧ (o.b < 0 ∨ S.length ≤ o.b)) (by simp [usesOf]) (fun h2 => W.retI (fail 82 (by simp only [Opr.one]; rw [if_neg h1, if_pos h2]) (by decide))) fun h2 => ?_
  refine W.assoc (W.bindI (bare_empty_ok o (usesOf o.kind) ?_))
  rw [restB_eq o h1]
  refine W.iteC (¬ o.spare) (by simp) (fun h3 => W.retI (fail 83 (by simp only [Opr.one]; rw [if_neg h1, if_neg h2, if_pos h3]) (by decide))) fun h3 => ?_
  refine W.iteC (o.kind ≤ 2 ∧ (o.m < 1 ∨ 1024 < o.m)) (by simp [usesOf]) (fun h4 => W.retI (fail 2 (by simp only [Opr.one]; rw [if_neg h1, if_neg h2, if_neg h3, if_pos h4]) (by decide))) fun h4 => ?_
  refine W.needI (by omega) ?_
  have hsa : (S.getD o.a.toNat default).ok := hS _ (getD_mem (by omega))
  rw [ri_shp0, ri_shp1, ri_shp2]
  refine W.bindI (g_model_makes_ok o _ h1 hsa (by omega) ?_)
  by_cases h5 : (o.mk1 (S.getD o.a.toNat default)).2 ≠ 0
  · rw [if_pos h5]
    exact W.iteT (by simpa using h5) (W.retI (fail _ (by simp only [Opr.one]; rw [if_neg h1, if_neg h2, if_neg h3, if_neg h4, if_pos h5]) h5))
  rw [if_neg h5]
  have h5' : (o.mk1 (S.getD o.a.toNat default)).2 = 0 := Classical.not_not.1 h5
  have hd := mk1_dims h5'
  refine W.iteF rfl ?_
  dsimp only
  refine W.bindI (g_shape_Elems_ok _ _ _ ?_)
  have hel : ∀ b : Int × Int, b = (if Shp.ok ⟨(o.mk1 (S.getD o.a.toNat default)).1.h, (o.mk1 (S.getD o.a.toNat default)).1.w, (o.mk1 (S.getD o.a.toNat default)).1.c⟩ then ((o.mk1 (S.getD o.a.toNat default)).1.h * (o.mk1 (S.getD o.a.toNat default)).1.w * (o.mk1 (S.getD o.a.toNat default)).1.c, 0) else (0, 50)) →
      (b.2 != 0) = decide (¬ (o.mk1 (S.getD o.a.toNat default)).1.ok) := fun b hb => by
    subst hb
    generalize o.mk1 (S.getD o.a.toNat default) = t
    obtain ⟨⟨x, y, z⟩, e⟩ := t
    dsimp only
    split <;> simp_all
  generalize hq : (if Shp.ok ⟨(o.mk1 (S.getD o.a.toNat default)).1.h, (o.mk1 (S.getD o.a.toNat default)).1.w, (o.mk1 (S.getD o.a.toNat default)).1.c⟩ then ((o.mk1 (S.getD o.a.toNat default)).1.h * (o.mk1 (S.getD o.a.toNat default)).1.w * (o.mk1 (S.getD o.a.toNat default)).1.c, (0 : Int)) else (0, 50)) = q
  rw [hel q hq.symm]
  refine W.needI (fun e => by have : o.kind = 6 := by simpa [usesOf] using e.1
                              omega) ?_
  rw [ri_shp0, ri_shp1, ri_shp2]
  refine W.iteC ((o.kind = 6 ∧ S.getD o.b.toNat default ≠ S.getD o.a.toNat default) ∨ ¬ (o.mk1 (S.getD o.a.toNat default)).1.ok) ?_
    (fun h6 => W.retI (fail 50 (by simp only [Opr.one]; rw [if_neg h1, if_neg h2, if_neg h3, if_neg h4, if_neg h5, if_pos h6]) (by decide))) fun h6 => ?_
  · rw [Bool.eq_iff_iff, decide_eq_true_eq]
    generalize S.getD o.b.toNat default = x
    generalize o.mk1 (S.getD o.a.toNat default) = t
    generalize S.getD o.a.toNat default = y
    obtain ⟨x1, x2, x3⟩ := x
    obtain ⟨y1, y2, y3⟩ := y
    by_cases hk6 : o.kind = 6 <;> simp [usesOf, hk6]
    by_cases ht : t.1.ok <;> simp [ht]
    omega
  have hout : (o.mk1 (S.getD o.a.toNat default)).1.ok := by
    rw [not_or] at h6; exact Classical.not_not.1 h6.2
  have hdl : reduces o.kind → o.kind ≠ 1 → o.win.dims := fun hr hk => hd (by unfold reduces at hr; unfold slides; omega)
  have hlists : o.lists (S.getD o.a.toNat default) = ((if weighs o.kind then (o.mk1 (S.getD o.a.toNat default)).1.c else 0) * (if reduces o.kind then o.len (S.getD o.a.toNat default) else 0), (if weighs o.kind then (o.mk1 (S.getD o.a.toNat default)).1.c else 0)) := by
    unfold Opr.lists
    by_cases k12 : o.kind = 1 ∨ o.kind = 2
    · have hc : (o.mk1 (S.getD o.a.toNat default)).1.c = o.m := by
        unfold Opr.mk1
        rcases k12 with k | k
        · rw [if_pos k]
        · rw [if_neg (by omega), if_pos (by unfold slides; omega)]
          unfold Opr.mk1 at h5'
          rw [if_neg (by omega), if_pos (by unfold slides; omega)] at h5'
          split at h5'
          · rename_i q; exact absurd h5' q
          · rename_i q; rw [if_neg q, if_pos k]
      rw [if_pos k12, if_pos (by unfold weighs; omega), if_pos (by unfold reduces; omega), hc]
    · rw [if_neg k12]
      by_cases k3 : o.kind = 3
      · have hc : (o.mk1 (S.getD o.a.toNat default)).1.c = (S.getD o.a.toNat default).c := by
          unfold Opr.mk1
          rw [if_neg (by omega), if_pos (by unfold slides; omega)]
          unfold Opr.mk1 at h5'
          rw [if_neg (by omega), if_pos (by unfold slides; omega)] at h5'
          split at h5'
          · rename_i q; exact absurd h5' q
          · rename_i q; rw [if_neg q, if_neg (by omega)]
        rw [if_pos k3, if_pos (by unfold weighs; omega), if_pos (by unfold reduces; omega), hc]
      · rw [if_neg k3, if_neg (by unfold weighs; omega), Int.zero_mul]
  refine W.bindI (W.iteR ?_)
  have hrows : (bif (usesOf o.kind).weights then (o.mk1 (S.getD o.a.toNat default)).1.c else 0) = (if weighs o.kind then (o.mk1 (S.getD o.a.toNat default)).1.c else 0) := by
    unfold usesOf; dsimp only; by_cases hh : weighs o.kind <;> simp [hh]
  rw [hrows]
  refine W.iteC (reduces o.kind ∧ 512 < o.len (S.getD o.a.toNat default)) ?_
    (fun h7 => W.retI (fail 84 (by simp only [Opr.one]; rw [if_neg h1, if_neg h2, if_neg h3, if_neg h4, if_neg h5, if_neg h6, if_pos h7]) (by decide))) fun h7 => ?_
  · rw [decide_eq_decide]
    by_cases hr : reduces o.kind <;> simp [hr]
  have hlb : 0 ≤ (if reduces o.kind then o.len (S.getD o.a.toNat default) else 0) ∧ (if reduces o.kind then o.len (S.getD o.a.toNat default) else 0) ≤ 512 := by
    by_cases hr : reduces o.kind
    · rw [if_pos hr]
      have := len_bd o _ hsa (hdl hr)
      have h7' : ¬ 512 < o.len (S.getD o.a.toNat default) := fun q => h7 ⟨hr, q⟩
      omega
    · rw [if_neg hr]; omega
  have hrb : 0 ≤ (if weighs o.kind then (o.mk1 (S.getD o.a.toNat default)).1.c else 0) ∧ (if weighs o.kind then (o.mk1 (S.getD o.a.toNat default)).1.c else 0) ≤ 1024 := by
    unfold Shp.ok at hout
    split <;> omega
  have hm := mul_bd (A := 1024) (B := 512) hrb.1 hrb.2 hlb.1 hlb.2
  rw [wrap64_in (by omega) (by omega)]
  refine W.iteC ((o.ws.length : Int) ≠ (o.lists (S.getD o.a.toNat default)).1 ∨ (o.bs.length : Int) ≠ (o.lists (S.getD o.a.toNat default)).2) (by rw [hlists]; first | (simp; done) | (simp; rfl))
    (fun h8 => W.retI (fail 70 (by simp only [Opr.one]; rw [if_neg h1, if_neg h2, if_neg h3, if_neg h4, if_neg h5, if_neg h6, if_neg h7, if_pos h8]) (by decide))) fun h8 => ?_
  have key9 : ∀ {Q : Bool → Prop}, Q (decide (scales o.kind ∧ ¬ scaleOK o.sam o.sas ∨ o.kind = 6 ∧ ¬ scaleOK o.sbm o.sbs)) →
      (W.ite (usesOf o.kind).sa (W.bind (g_fixq_Valid o.sam o.sas) fun v6 => W.ite (!v6) (W.ret true) (W.ite (usesOf o.kind).sb (W.bind (g_fixq_Valid o.sbm o.sbs) fun v7 => W.ret !v7) (W.ret false)))
        (W.ite (usesOf o.kind).sb (W.bind (g_fixq_Valid o.sbm o.sbs) fun v8 => W.ret !v8) (W.ret false))).run Q := fun {Q} hq => by
    have tail : ∀ {Q : Bool → Prop}, Q (decide (o.kind = 6 ∧ ¬ scaleOK o.sbm o.sbs)) → (W.ite (usesOf o.kind).sb (W.bind (g_fixq_Valid o.sbm o.sbs) fun v11 => W.ret !v11) (W.ret false)).run Q := fun {Q} hq =>
      W.iteC (o.kind = 6) rfl (fun q => W.bindI (g_fixq_Valid_ok _ _ (W.retE hq (by simp [q])))) fun q => W.retE hq (by simp [q])
    refine W.iteC (scales o.kind) rfl (fun q1 => W.bindI (g_fixq_Valid_ok _ _ (W.iteC (¬ scaleOK o.sam o.sas) (by simp) (fun q2 => W.retE hq (by simp [q1, q2])) fun q2 => tail ?_))) fun q1 => tail ?_
    · simpa [q1, q2] using hq
    · simpa [q1] using hq
  refine W.bindI (key9 ?_)
  refine W.iteC _ rfl (fun h9 => W.retI (fail 20 (by simp only [Opr.one]; rw [if_neg h1, if_neg h2, if_neg h3, if_neg h4, if_neg h5, if_neg h6, if_neg h7, if_neg h8, if_pos h9]) (by decide))) fun h9 => ?_
  refine W.bindI (g_model_byte8_ok false [o.lo, o.hi, o.zero, o.pad] (by simp) ?_)
  refine W.iteC (¬ val o.lo ∨ ¬ val o.hi ∨ o.hi < o.lo ∨ ¬ val o.zero ∨ ¬ val o.pad) (by rw [Bool.eq_iff_iff, decide_eq_true_eq]; by_cases a : val o.lo <;> by_cases b : val o.hi <;> by_cases c : val o.zero <;> by_cases d : val o.pad <;> simp [a, b, c, d])
    (fun h10 => W.retI (fail 85 (by simp only [Opr.one]; rw [if_neg h1, if_neg h2, if_neg h3, if_neg h4, if_neg h5, if_neg h6, if_neg h7, if_neg h8, if_neg h9, if_pos h10]) (by decide))) fun h10 => ?_
  have hone : o.one S = ((o.mk1 (S.getD o.a.toNat default)).1, 0) := by
    simp only [Opr.one]; rw [if_neg h1, if_neg h2, if_neg h3, if_neg h4, if_neg h5, if_neg h6, if_neg h7, if_neg h8, if_neg h9, if_neg h10]
  rw [hone] at h
  dsimp only at h
  rw [if_neg (by simp : ¬ ((0 : Int) ≠ 0))] at h
  exact W.retI h
end Go.Proofs.Ytalchibbmkhkpaa.VX

set_option linter.unusedVariables false
namespace Go.Proofs.Ytalchibbmkhkpaa.VX
theorem g_model_op_row (l : Rws) (k : Nat) (S : List Shp) (nl : Bool) (hS : ∀ s ∈ S, s.ok) (hw : (Opr.of (l.getD k [])).ws.length ≤ 70368744175616) (hb : (Opr.of (l.getD k [])).bs.length ≤ 35184372087808) {R : Int × Int × Int × Int × Int → Prop}
    (h : R (if ((Opr.of (l.getD k [])).one S).2 ≠ 0 then (0, 0, 0, 0, ((Opr.of (l.getD k [])).one S).2) else (((Opr.of (l.getD k [])).one S).1.h, ((Opr.of (l.getD k [])).one S).1.w, ((Opr.of (l.getD k [])).one S).1.c, (Opr.of (l.getD k [])).labour (S.getD (Opr.of (l.getD k [])).a.toNat default) ((Opr.of (l.getD k [])).one S).1, 0))) :
    (g_model_op (ri l k 0) (ri l k 1) (ri l k 2) (ri l k 3) (ri l k 4) (ri l k 5) (ri l k 6) (ri l k 7) (ri l k 8) (ri l k 9) (ri l k 10) (ri l k 11) (rn l k 12) (rr l k 12) (rn l k 13) (rr l k 13) (ri l k 14) (ri l k 15) (ri l k 16) (ri l k 17) (ri l k 18) (ri l k 19) (ri l k 20) (ri l k 21) nl (S.map Shp.enc)).run R :=
  by have q := g_model_op_ok (R := R) (Opr.of (l.getD k [])) S nl hS hw hb h
     refine (congrArg (fun x : W _ => x.run R) ?_).mp q
     congr 1
theorem g_model_whole_ok (s : Shp) (lo hi : Int) (nl : Bool) (l : Rws) (out : Int) (hl : l.length ≤ 676622540150) (hsh : short l) {R : Int × Int × Int × Int × Bool × Rws → Prop} (h : R (look8 s lo hi (oprs l) out).tup) :
    (g_model_whole s.h s.w s.c lo hi nl l out).run R := by
  have hlen : (oprs l).length = l.length := by simp [oprs]
  unfold g_model_whole
  unfold look8 at h
  rw [hlen] at h
  refine W.bindI (g_shape_Elems_ok _ _ _ (W.iteC (¬ s.ok) (by split <;> simp_all) (fun h1 => ?_) fun h1 => ?_))
  · rw [if_neg h1]
    rw [if_pos h1] at h
    exact W.retE h rfl
  rw [if_neg h1] at h
  refine W.bindI (g_model_byte8_ok false [lo, hi] (by simp) (W.iteC (¬ val lo ∨ ¬ val hi ∨ hi < lo) ?_ (fun h2 => ?_) fun h2 => ?_))
  · rw [Bool.eq_iff_iff, decide_eq_true_eq]; by_cases a : val lo <;> by_cases b : val hi <;> simp [a, b]
  · rw [if_pos h2] at h; exact W.retE h rfl
  rw [if_neg h2] at h
  refine W.iteC (64 < l.length) (by rw [decide_eq_decide]; omega) (fun h3 => ?_) fun h3 => ?_
  · rw [if_pos h3] at h; exact W.retE h rfl
  rw [if_neg h3] at h
  refine W.iteC (out < 0 ∨ l.length < out) (by rw [Bool.decide_or]) (fun h4 => ?_) fun h4 => ?_
  · rw [if_pos h4] at h; exact W.retE h rfl
  rw [if_neg h4] at h
  refine W.bindI (W.loop_inv (fun v : Int × Int × Rws => ∃ (k : Nat) (S : List Shp), v.2.1 = k ∧ k ≤ l.length ∧ v.2.2 = S.map Shp.enc ∧ S.length = k + 1 ∧ (∀ s ∈ S, s.ok) ∧ 0 ≤ v.1 ∧ v.1 ≤ 131072 ∧ R (walk8 ((oprs l).drop k) k v.1 S).tup)
    (fun v => l.length - v.2.1.toNat) ?_ ⟨0, [s], rfl, Nat.zero_le _, rfl, rfl, by simpa using h1, by dsimp only; omega, by dsimp only; omega, h⟩)
  rintro ⟨w, i, rows⟩ ⟨k, S, rfl, hk, rfl, hSl, hS, hw0, hw1, hR⟩
  dsimp only at hw0 hw1 hR ⊢
  refine W.iteC (k < l.length) (by rw [decide_eq_decide]; omega) (fun hlt => W.needI (by omega) ?_) fun hge => ?_
  · rw [Int.toNat_natCast, wrap64_in (x := (k : Int) + 1) (by omega) (by omega)]
    have hmem : l.getD k [] ∈ l := by rw [List.getD_eq_getElem?_getD, List.getElem?_eq_getElem hlt]; exact List.getElem_mem hlt
    obtain ⟨s1, s2⟩ := hsh _ hmem
    rw [drop_opr l k hlt] at hR
    refine W.bindI (g_model_op_row l k S false hS s1 s2 ?_)
    unfold walk8 at hR
    by_cases h5 : ((Opr.of (l.getD k [])).one S).2 ≠ 0
    · rw [if_pos h5] at hR ⊢
      dsimp only
      rw [Int.add_zero, wrap64_in (by omega) (by omega)]
      refine W.bindI (W.iteF (by simp [h5, -List.getD_eq_getElem?_getD]) (W.retI (W.iteT (by simp [h5, -List.getD_eq_getElem?_getD]) (W.retI (W.retE hR ?_)))))
      simp only [Ans8.tup]
      simp [h5, -List.getD_eq_getElem?_getD]
    · rw [if_neg h5] at hR ⊢
      have h5' : ((Opr.of (l.getD k [])).one S).2 = 0 := Classical.not_not.1 h5
      obtain ⟨q1, q2, q3, q4⟩ := one_ok h5'
      have hsa := hS _ (getD_mem (S := S) (i := (Opr.of (l.getD k [])).a.toNat) (by omega))
      have bd := labour_bd (Opr.of (l.getD k [])) _ _ hsa q2 q3
      dsimp only
      rw [wrap64_in (by omega) (by omega)]
      refine W.bindI (W.iteC (131072 < w + (Opr.of (l.getD k [])).labour (S.getD (Opr.of (l.getD k [])).a.toNat default) ((Opr.of (l.getD k [])).one S).1) (by simp) (fun h6 => W.retI (W.iteT rfl (W.retI ?_))) fun h6 => W.retI (W.iteF rfl ?_))
      · rw [if_pos h6] at hR
        exact W.retE hR rfl
      · rw [if_neg h6] at hR
        rw [List.length_map]
        refine W.needI (by omega) (W.retI ⟨⟨k + 1, S ++ [((Opr.of (l.getD k [])).one S).1], rfl, hlt, by simp [Shp.enc], by simp [hSl], ?_, by dsimp only; omega, by dsimp only; omega, ?_⟩, ?_⟩)
        · intro x hx
          rcases List.mem_append.1 hx with hx | hx
          · exact hS x hx
          · simp at hx; subst hx; exact q2
        · simpa using hR
        · dsimp only; omega
  · have e : k = l.length := by omega
    subst e
    rw [List.drop_eq_nil_of_le (by omega)] at hR
    exact W.retI (W.retE hR (by simp [walk8, Ans8.tup]))
theorem g_model_Work_ok (s : Shp) (lo hi : Int) (nl : Bool) (l : Rws) (out : Int) (hl : l.length ≤ 676622540150) (hsh : short l) {R : Int × Int × Int × Int → Prop} (h : R ((look8 s lo hi (oprs l) out).work, (look8 s lo hi (oprs l) out).err, (look8 s lo hi (oprs l) out).op, 0)) : (g_model_Work s.h s.w s.c lo hi nl l out).run R := by
  unfold g_model_Work
  exact W.bindI (g_model_whole_ok s lo hi nl l out hl hsh (W.retI h))
theorem g_model_Check_ok (s : Shp) (lo hi : Int) (nl : Bool) (l : Rws) (out : Int) (hl : l.length ≤ 676622540150) (hsh : short l) {R : Int × Int × Int → Prop} (h : R ((look8 s lo hi (oprs l) out).err, (look8 s lo hi (oprs l) out).op, 0)) : (g_model_Check s.h s.w s.c lo hi nl l out).run R := by
  unfold g_model_Check
  exact W.bindI (g_model_whole_ok s lo hi nl l out hl hsh (W.retI h))
theorem g_model_Work_v (a b c : Int) (lo hi : Int) (nl : Bool) (l : Rws) (out : Int) (hl : l.length ≤ 676622540150) (hsh : short l) {R : Int × Int × Int × Int → Prop} (h : R ((look8 ⟨a, b, c⟩ lo hi (oprs l) out).work, (look8 ⟨a, b, c⟩ lo hi (oprs l) out).err, (look8 ⟨a, b, c⟩ lo hi (oprs l) out).op, 0)) : (g_model_Work a b c lo hi nl l out).run R := g_model_Work_ok ⟨a, b, c⟩ lo hi nl l out hl hsh h
theorem g_model_Check_v (a b c : Int) (lo hi : Int) (nl : Bool) (l : Rws) (out : Int) (hl : l.length ≤ 676622540150) (hsh : short l) {R : Int × Int × Int → Prop} (h : R ((look8 ⟨a, b, c⟩ lo hi (oprs l) out).err, (look8 ⟨a, b, c⟩ lo hi (oprs l) out).op, 0)) : (g_model_Check a b c lo hi nl l out).run R := g_model_Check_ok ⟨a, b, c⟩ lo hi nl l out hl hsh h
theorem g_ref08_Look_v (a b c : Int) (lo hi : Int) (nl : Bool) (l : Rws) (out : Int) (hl : l.length ≤ 676622540150) (hsh : short l) {R : Int × Int × Int × Int × Bool × Rws → Prop} (h : R (look8 ⟨a, b, c⟩ lo hi (oprs l) out).tup) : (g_ref08_Look a b c lo hi nl l out).run R := g_ref08_Look_ok ⟨a, b, c⟩ lo hi nl l out hl hsh h
/-! ### Comparing -/
end Go.Proofs.Ytalchibbmkhkpaa.VX

set_option linter.unusedVariables false
namespace Go.Proofs.Ytalchibbmkhkpaa.VX
def Opr.flags (o : Opr) (a b : Bool) : Opr := { o with wn := a, bn := b }
theorem one_flags (o : Opr) (a b : Bool) (S : List Shp) : (o.flags a b).one S = o.one S := rfl
theorem labour_flags (o : Opr) (a b : Bool) (s t : Shp) : (o.flags a b).labour s t = o.labour s t := rfl
/-- The same ops but for what is nil. -/
def sameOps : List Opr → List Opr → Prop
  | [], [] => True
  | o :: r, p :: q => (∃ a b, p = o.flags a b) ∧ sameOps r q
  | _, _ => False
theorem sameOps_len : ∀ {l m : List Opr}, sameOps l m → l.length = m.length
  | [], [], _ => rfl
  | _ :: _, _ :: _, h => by simp [sameOps_len h.2]
  | [], _ :: _, h => h.elim
  | _ :: _, [], h => h.elim
theorem sameOps_get : ∀ {l m : List Opr}, sameOps l m → ∀ {k : Nat} {o p : Opr}, l[k]? = some o → m[k]? = some p → ∃ a b, p = o.flags a b
  | _ :: _, _ :: _, h, 0, o, p, h1, h2 => by simp at h1 h2; subst h1 h2; exact h.1
  | _ :: _, _ :: _, h, k + 1, o, p, h1, h2 => sameOps_get h.2 (by simpa using h1) (by simpa using h2)
  | [], _, _, _, _, _, h1, _ => by simp at h1
  | _ :: _, [], h, _, _, _, _, _ => h.elim
theorem walk8_same : ∀ {l m : List Opr}, sameOps l m → ∀ i w S, walk8 m i w S = walk8 l i w S
  | [], [], _, i, w, S => rfl
  | o :: r, p :: q, h, i, w, S => by
    obtain ⟨⟨a, b, rfl⟩, h2⟩ := h
    simp only [walk8, one_flags, labour_flags]
    rw [walk8_same h2]; rfl
  | [], _ :: _, h, _, _, _ => h.elim
  | _ :: _, [], h, _, _, _ => h.elim
theorem look8_same {l m : List Opr} (h : sameOps l m) (s : Shp) (lo hi out : Int) : look8 s lo hi m out = look8 s lo hi l out := by
  unfold look8
  rw [sameOps_len h, walk8_same h]

/-- A row of a copy. -/
def cpRow (r : List AV) : List AV :=
  [I (cI r 0), I (cI r 1), I (cI r 2), I (cI r 3), I (cI r 4), I (cI r 5), I (cI r 6), I (cI r 7), I (cI r 8), I (cI r 9), I (cI r 10), I (cI r 11), .sl false 0 (cR r 12), .sl false 0 (cR r 13), I (cI r 14), I (cI r 15), I (cI r 16), I (cI r 17), I (cI r 18), I (cI r 19), I (cI r 20), I (cI r 21)]
theorem of_cpRow (r : List AV) : Opr.of (cpRow r) = (Opr.of r).flags false false := rfl
theorem sameOps_cp : ∀ l : Rws, sameOps (oprs l) (oprs (l.map cpRow))
  | [] => trivial
  | r :: l => ⟨⟨false, false, of_cpRow r⟩, sameOps_cp l⟩
theorem short_cp {l : Rws} (h : short l) : short (l.map cpRow) := by
  intro r hr
  obtain ⟨r', h1, rfl⟩ := List.mem_map.1 hr
  exact h r' h1
theorem g_ref08_Copy_ok (h w c lo hi : Int) (nl : Bool) (l : Rws) (out : Int) (hl : l.length ≤ 676622540150) (hsh : short l) {R : Int × Int × Int × Int × Int × Int × Bool × Rws → Prop} (hR : R (h, w, c, lo, hi, out, l.isEmpty, l.map cpRow)) : (g_ref08_Copy h w c lo hi nl l out).run R := by
  unfold g_ref08_Copy
  refine W.bindI (W.loop_inv (fun v : Int × Bool × Rws => ∃ k : Nat, v.1 = k ∧ k ≤ l.length ∧ v.2.1 = (l.take k).isEmpty ∧ v.2.2 = (l.take k).map cpRow) (fun v => l.length - v.1.toNat) ?_ ⟨0, rfl, Nat.zero_le _, by simp, by simp⟩)
  rintro ⟨i, b, rows⟩ ⟨k, rfl, hk, rfl, rfl⟩
  dsimp only
  refine W.iteC (k < l.length) (by rw [decide_eq_decide]; omega) (fun hlt => W.needI (by omega) ?_) fun hge => ?_
  · rw [Int.toNat_natCast]
    have hmem : l.getD k [] ∈ l := by rw [List.getD_eq_getElem?_getD, List.getElem?_eq_getElem hlt]; exact List.getElem_mem hlt
    obtain ⟨s1, s2⟩ := hsh _ hmem
    have s1 : (rr l k 12).length ≤ 70368744175616 := s1
    have s2 : (rr l k 13).length ≤ 35184372087808 := s2
    have s3 : ((l.take k).map cpRow).length ≤ 676622540150 := by simp; omega
    refine W.needI (by omega) (W.needI (by omega) (W.needI (by omega) (W.retI ⟨⟨k + 1, wrap64_in (x := (k : Int) + 1) (by omega) (by omega), hlt, ?_, ?_⟩, ?_⟩)))
    · dsimp only
      rw [List.take_succ_eq_append_getElem hlt]
      simp
      intro e; subst e; simp at hlt
    · dsimp only
      rw [List.take_succ_eq_append_getElem hlt, List.map_append]
      have e : l[k] = l.getD k [] := by rw [List.getD_eq_getElem?_getD, List.getElem?_eq_getElem hlt]; rfl
      rw [e]; rfl
    · dsimp only
      rw [wrap64_in (by omega) (by omega)]; omega
  · have e : k = l.length := by omega
    subst e
    rw [List.take_length]
    exact W.retI hR

theorem listsLoop (a b : Rws) (hab : a = b) (hl : a.length ≤ 140737488351232) {R : Unit ⊕ Unit → Prop} (h : R (.inr ())) :
    (W.loop (σ := Int) (ε := Unit ⊕ Unit) (fun v0 => W.ite (decide (v0 < (↑(List.length a) : Int))) (W.need (0 ≤ v0 ∧ v0 < (↑(List.length a) : Int)) <| W.need (0 ≤ v0 ∧ v0 < (↑(List.length b) : Int)) <|
      W.ite (ri a v0.toNat 0 != ri b v0.toNat 0) (W.ret (Sum.inr (Sum.inl ()))) (W.ret (Sum.inl (IntKind.i64.wrap (v0 + 1))))) (W.ret (Sum.inr (Sum.inr ())))) 0).run R := by
  subst hab
  refine W.loop_inv (fun v : Int => ∃ k : Nat, v = k ∧ k ≤ a.length) (fun v => a.length - v.toNat) ?_ ⟨0, rfl, Nat.zero_le _⟩
  rintro _ ⟨k, rfl, hk⟩
  refine W.iteC (k < a.length) (by rw [decide_eq_decide]; omega) (fun hlt => W.needI (by omega) (W.needI (by omega) (W.iteF (by simp) (W.retI ?_)))) fun hge => W.retI h
  rw [wrap64_in (by omega) (by omega)]
  exact ⟨⟨k + 1, by omega, hlt⟩, by omega⟩
theorem g_ref08_SameOp_ok (o : Opr) (wn bn : Bool) (hw : o.ws.length ≤ 70368744175616) (hb : o.bs.length ≤ 35184372087808) {R : Bool → Prop} (h : R true) :
    (g_ref08_SameOp o.kind o.a o.b o.m o.win.kh o.win.kw o.win.sh o.win.sw o.win.top o.win.left o.win.bottom o.win.right o.wn o.ws o.bn o.bs o.sam o.sas o.sbm o.sbs o.zero o.pad o.lo o.hi
      o.kind o.a o.b o.m o.win.kh o.win.kw o.win.sh o.win.sw o.win.top o.win.left o.win.bottom o.win.right wn o.ws bn o.bs o.sam o.sas o.sbm o.sbs o.zero o.pad o.lo o.hi).run R := by
  unfold g_ref08_SameOp
  refine W.iteF (by simp) (W.iteF (by simp) (W.bindI (listsLoop _ _ rfl (by omega) (W.bindI (listsLoop _ _ rfl (by omega) (W.retI h))))))
theorem g_ref08_SameOp_row (l m : Rws) (k : Nat) (a b : Bool) (e : Opr.of (m.getD k []) = (Opr.of (l.getD k [])).flags a b) (hw : (Opr.of (l.getD k [])).ws.length ≤ 70368744175616) (hb : (Opr.of (l.getD k [])).bs.length ≤ 35184372087808) {R : Bool → Prop} (h : R true) :
    (g_ref08_SameOp (ri l k 0) (ri l k 1) (ri l k 2) (ri l k 3) (ri l k 4) (ri l k 5) (ri l k 6) (ri l k 7) (ri l k 8) (ri l k 9) (ri l k 10) (ri l k 11) (rn l k 12) (rr l k 12) (rn l k 13) (rr l k 13) (ri l k 14) (ri l k 15) (ri l k 16) (ri l k 17) (ri l k 18) (ri l k 19) (ri l k 20) (ri l k 21)
      (ri m k 0) (ri m k 1) (ri m k 2) (ri m k 3) (ri m k 4) (ri m k 5) (ri m k 6) (ri m k 7) (ri m k 8) (ri m k 9) (ri m k 10) (ri m k 11) (rn m k 12) (rr m k 12) (rn m k 13) (rr m k 13) (ri m k 14) (ri m k 15) (ri m k 16) (ri m k 17) (ri m k 18) (ri m k 19) (ri m k 20) (ri m k 21)).run R := by
  have q := g_ref08_SameOp_ok (R := R) (Opr.of (l.getD k [])) (Opr.of (m.getD k [])).wn (Opr.of (m.getD k [])).bn hw hb h
  have q2 : (g_ref08_SameOp (Opr.of (l.getD k [])).kind (Opr.of (l.getD k [])).a (Opr.of (l.getD k [])).b (Opr.of (l.getD k [])).m (Opr.of (l.getD k [])).win.kh (Opr.of (l.getD k [])).win.kw (Opr.of (l.getD k [])).win.sh (Opr.of (l.getD k [])).win.sw (Opr.of (l.getD k [])).win.top (Opr.of (l.getD k [])).win.left (Opr.of (l.getD k [])).win.bottom (Opr.of (l.getD k [])).win.right (Opr.of (l.getD k [])).wn (Opr.of (l.getD k [])).ws (Opr.of (l.getD k [])).bn (Opr.of (l.getD k [])).bs (Opr.of (l.getD k [])).sam (Opr.of (l.getD k [])).sas (Opr.of (l.getD k [])).sbm (Opr.of (l.getD k [])).sbs (Opr.of (l.getD k [])).zero (Opr.of (l.getD k [])).pad (Opr.of (l.getD k [])).lo (Opr.of (l.getD k [])).hi
      (Opr.of (m.getD k [])).kind (Opr.of (m.getD k [])).a (Opr.of (m.getD k [])).b (Opr.of (m.getD k [])).m (Opr.of (m.getD k [])).win.kh (Opr.of (m.getD k [])).win.kw (Opr.of (m.getD k [])).win.sh (Opr.of (m.getD k [])).win.sw (Opr.of (m.getD k [])).win.top (Opr.of (m.getD k [])).win.left (Opr.of (m.getD k [])).win.bottom (Opr.of (m.getD k [])).win.right (Opr.of (m.getD k [])).wn (Opr.of (m.getD k [])).ws (Opr.of (m.getD k [])).bn (Opr.of (m.getD k [])).bs (Opr.of (m.getD k [])).sam (Opr.of (m.getD k [])).sas (Opr.of (m.getD k [])).sbm (Opr.of (m.getD k [])).sbs (Opr.of (m.getD k [])).zero (Opr.of (m.getD k [])).pad (Opr.of (m.getD k [])).lo (Opr.of (m.getD k [])).hi).run R := by
    rw [e] at q ⊢; exact q
  refine (congrArg (fun x : W _ => x.run R) ?_).mp q2
  congr 1
theorem g_ref08_Same_ok (h w c lo hi out : Int) (n1 n2 : Bool) (l m : Rws) (hl : l.length ≤ 676622540150) (hsh : short l) (hm : sameOps (oprs l) (oprs m)) {R : Bool → Prop} (hR : R true) : (g_ref08_Same h w c lo hi n1 l out h w c lo hi n2 m out).run R := by
  have hlen : l.length = m.length := by have := sameOps_len hm; simpa [oprs] using this
  unfold g_ref08_Same
  refine W.iteF (by simp [hlen]) (W.bindI (W.loop_inv (fun v : Int => ∃ k : Nat, v = k ∧ k ≤ l.length) (fun v => l.length - v.toNat) ?_ ⟨0, rfl, Nat.zero_le _⟩))
  rintro _ ⟨k, rfl, hk⟩
  refine W.iteC (k < l.length) (by rw [decide_eq_decide]; omega) (fun hlt => W.needI (by omega) (W.needI (by omega) ?_)) fun hge => W.retI (W.retI hR)
  rw [Int.toNat_natCast, wrap64_in (by omega) (by omega)]
  have hmem : l.getD k [] ∈ l := by rw [List.getD_eq_getElem?_getD, List.getElem?_eq_getElem hlt]; exact List.getElem_mem hlt
  obtain ⟨s1, s2⟩ := hsh _ hmem
  obtain ⟨a, b, e⟩ := sameOps_get hm (row_opr l k hlt) (row_opr m k (by omega))
  exact W.bindI (g_ref08_SameOp_row l m k a b e s1 s2 (W.iteF rfl (W.retI ⟨⟨k + 1, by omega, hlt⟩, by omega⟩)))

deriving instance DecidableEq for Ans8
def plainRow (a : Int) : List AV := [I 1, I a, I 0, I 1, I 0, I 0, I 0, I 0, I 0, I 0, I 0, I 0, AV.sl false 0 [[I 3], [I (-2)]], AV.sl false 0 [[I 1]], I 1, I 0, I 0, I 0, I 0, I 0, I (-128), I 127]
theorem plain_look : look8 ⟨1, 1, 2⟩ (-128) 127 (oprs [plainRow 0]) 1 = ⟨2, 0, 0, [⟨1, 1, 2⟩, ⟨1, 1, 1⟩]⟩ := by decide +kernel
theorem plain_look1 : look8 ⟨1, 1, 2⟩ (-128) 127 (oprs [plainRow 1]) 1 = ⟨0, 82, 1, []⟩ := by decide +kernel
theorem short_plain (a : Int) : short [plainRow a] := by
  intro r hr
  simp at hr
  subst hr
  exact ⟨Nat.le_of_ble_eq_true rfl, Nat.le_of_ble_eq_true rfl⟩
theorem plain_set : List.set [plainRow 0] 0 [I (ri [plainRow 0] 0 0), I 1, I (ri [plainRow 0] 0 2), I (ri [plainRow 0] 0 3), I (ri [plainRow 0] 0 4), I (ri [plainRow 0] 0 5), I (ri [plainRow 0] 0 6), I (ri [plainRow 0] 0 7), I (ri [plainRow 0] 0 8), I (ri [plainRow 0] 0 9), I (ri [plainRow 0] 0 10), I (ri [plainRow 0] 0 11), .sl (rn [plainRow 0] 0 12) 0 (rr [plainRow 0] 0 12), .sl (rn [plainRow 0] 0 13) 0 (rr [plainRow 0] 0 13), I (ri [plainRow 0] 0 14), I (ri [plainRow 0] 0 15), I (ri [plainRow 0] 0 16), I (ri [plainRow 0] 0 17), I (ri [plainRow 0] 0 18), I (ri [plainRow 0] 0 19), I (ri [plainRow 0] 0 20), I (ri [plainRow 0] 0 21)] = [plainRow 1] := rfl
theorem walk8_len : ∀ (l : List Opr) (i w : Int) (S : List Shp), (walk8 l i w S).S.length ≤ S.length + l.length
  | [], i, w, S => by simp [walk8]
  | o :: r, i, w, S => by
    unfold walk8
    split
    · simp
    · split
      · simp
      · have := walk8_len r (i + 1) (w + o.labour (S.getD o.a.toNat default) (o.one S).1) (S ++ [(o.one S).1])
        simp at this ⊢; omega
theorem look8_len (s : Shp) (lo hi : Int) (l : List Opr) (out : Int) : (look8 s lo hi l out).S.length ≤ 65 := by
  unfold look8
  repeat' split
  all_goals try (simp; done)
  have := walk8_len l 0 0 [s]
  simp at this
  omega
end Go.Proofs.Ytalchibbmkhkpaa.VX

namespace Go.Proofs.Ytalchibbmkhkpaa.VX
set_option linter.unusedVariables false
theorem walk8_facts : ∀ (l : List Opr) (i w : Int) (S : List Shp), ((walk8 l i w S).err = 0 → (walk8 l i w S).op = 0 ∧ (walk8 l i w S).S.length = S.length + l.length) ∧
    ((walk8 l i w S).err ≠ 0 → (walk8 l i w S).S = [] ∧ (walk8 l i w S).work = 0 ∧ i < (walk8 l i w S).op ∧ (walk8 l i w S).op ≤ i + l.length)
  | [], i, w, S => by simp [walk8]
  | o :: r, i, w, S => by
    unfold walk8
    split
    · rename_i h
      exact ⟨fun e => absurd e h, fun _ => ⟨rfl, rfl, by simp; omega, by simp; omega⟩⟩
    · split
      · exact ⟨fun e => by simp at e, fun _ => ⟨rfl, rfl, by simp; omega, by simp; omega⟩⟩
      · have := walk8_facts r (i + 1) (w + o.labour (S.getD o.a.toNat default) (o.one S).1) (S ++ [(o.one S).1])
        refine ⟨fun e => ?_, fun e => ?_⟩
        · have q := this.1 e
          refine ⟨q.1, ?_⟩
          rw [q.2]; simp; omega
        · have q := this.2 e
          refine ⟨q.1, q.2.1, by omega, ?_⟩
          have := q.2.2.2
          simp at this ⊢; omega
theorem step_ok {o : Opr} {S : List Shp} (hS : ∀ s ∈ S, s.ok) (h : ¬ (o.one S).2 ≠ 0) : 0 ≤ o.labour (S.getD o.a.toNat default) (o.one S).1 ∧ ∀ s ∈ S ++ [(o.one S).1], s.ok := by
  obtain ⟨h1, h2, h3, _⟩ := one_ok (Classical.not_not.1 h)
  refine ⟨(labour_bd o _ _ (hS _ (getD_mem (by omega))) h2 h3).1, fun s hs => ?_⟩
  rcases List.mem_append.1 hs with hs | hs
  · exact hS s hs
  · simp at hs; subst hs; exact h2
theorem walk8_mono : ∀ (l : List Opr) (i w : Int) (S : List Shp), (∀ s ∈ S, s.ok) → (walk8 l i w S).err = 0 → w ≤ (walk8 l i w S).work ∧ (walk8 l i w S).S.take S.length = S
  | [], i, w, S, _, _ => by simp [walk8]
  | o :: r, i, w, S, hS, he => by
    unfold walk8 at he ⊢
    split at he
    · rename_i h; exact absurd he h
    · rename_i h
      rw [if_neg h]
      split at he
      · simp at he
      · rename_i h2
        rw [if_neg h2]
        obtain ⟨q1, q2⟩ := step_ok hS h
        have := walk8_mono r _ _ _ q2 he
        refine ⟨by omega, ?_⟩
        have t := congrArg (List.take S.length) this.2
        rw [List.take_take, List.length_append] at t
        simpa using t
theorem walk8_take : ∀ (l : List Opr) (k : Nat) (i w : Int) (S : List Shp), (∀ s ∈ S, s.ok) → k ≤ l.length → ((walk8 l i w S).err = 0 ∨ i + k < (walk8 l i w S).op) →
    (walk8 (l.take k) i w S).err = 0 ∧ w ≤ (walk8 (l.take k) i w S).work ∧ ((walk8 l i w S).err = 0 → (walk8 (l.take k) i w S).work ≤ (walk8 l i w S).work ∧ (walk8 (l.take k) i w S).S = (walk8 l i w S).S.take (S.length + k))
  | l, 0, i, w, S, hS, _, h => by
    rw [List.take_zero]
    refine ⟨rfl, Int.le_refl _, fun e => ?_⟩
    have := walk8_mono l i w S hS e
    exact ⟨this.1, this.2.symm⟩
  | [], k + 1, i, w, S, _, hk, _ => by simp at hk
  | o :: r, k + 1, i, w, S, hS, hk, h => by
    rw [List.take_succ_cons]
    unfold walk8 at h ⊢
    by_cases h1 : (o.one S).2 ≠ 0
    · rw [if_pos h1] at h
      rcases h with h | h
      · exact absurd h h1
      · simp at h; omega
    · rw [if_neg h1] at h
      rw [if_neg h1, if_neg h1]
      by_cases h2 : 131072 < w + o.labour (S.getD o.a.toNat default) (o.one S).1
      · rw [if_pos h2] at h
        rcases h with h | h
        · simp at h
        · simp at h; omega
      · rw [if_neg h2] at h
        rw [if_neg h2, if_neg h2]
        obtain ⟨q1, q2⟩ := step_ok hS h1
        have := walk8_take r k (i + 1) _ _ q2 (by simpa using hk) (by
          rcases h with h | h
          · exact .inl h
          · exact .inr (by omega))
        refine ⟨this.1, by omega, fun e => ?_⟩
        have q := this.2.2 e
        refine ⟨q.1, ?_⟩
        rw [q.2]
        congr 1
        simp; omega
theorem look8_facts (s : Shp) (lo hi : Int) (l : List Opr) (out : Int) : ((look8 s lo hi l out).err = 0 → (look8 s lo hi l out).op = 0 ∧ (look8 s lo hi l out).S.length = l.length + 1) ∧
    ((look8 s lo hi l out).err ≠ 0 → (look8 s lo hi l out).S = [] ∧ (look8 s lo hi l out).work = 0 ∧ 0 ≤ (look8 s lo hi l out).op ∧ (look8 s lo hi l out).op ≤ l.length) := by
  unfold look8
  repeat' split
  all_goals try (exact ⟨fun e => by simp at e, fun _ => ⟨rfl, rfl, by simp, by simp⟩⟩)
  have := walk8_facts l 0 0 [s]
  refine ⟨fun e => ?_, fun e => ?_⟩
  · have q := this.1 e
    exact ⟨q.1, by rw [q.2]; simp; omega⟩
  · have q := this.2 e
    exact ⟨q.1, q.2.1, by omega, by have := q.2.2.2; omega⟩
theorem look8_take (s : Shp) (lo hi : Int) (l : List Opr) (out : Int) (k : Nat) (hk : k ≤ l.length) (h : (look8 s lo hi l out).err = 0 ∨ (k : Int) < (look8 s lo hi l out).op) :
    (look8 s lo hi (l.take k) k).err = 0 ∧ (look8 s lo hi (l.take k) k).op = 0 ∧ 0 ≤ (look8 s lo hi (l.take k) k).work ∧
    ((look8 s lo hi l out).err = 0 → (look8 s lo hi (l.take k) k).work ≤ (look8 s lo hi l out).work ∧ (look8 s lo hi (l.take k) k).S = (look8 s lo hi l out).S.take (k + 1)) := by
  have hf := look8_facts s lo hi (l.take k) k
  suffices q : (look8 s lo hi (l.take k) k).err = 0 ∧ 0 ≤ (look8 s lo hi (l.take k) k).work ∧
    ((look8 s lo hi l out).err = 0 → (look8 s lo hi (l.take k) k).work ≤ (look8 s lo hi l out).work ∧ (look8 s lo hi (l.take k) k).S = (look8 s lo hi l out).S.take (k + 1)) from ⟨q.1, (hf.1 q.1).1, q.2⟩
  clear hf
  by_cases h1 : ¬ s.ok
  · unfold look8 at h; rw [if_pos h1] at h; rcases h with h | h <;> simp at h; omega
  by_cases h2 : ¬ val lo ∨ ¬ val hi ∨ hi < lo
  · unfold look8 at h; rw [if_neg h1, if_pos h2] at h; rcases h with h | h <;> simp at h; omega
  by_cases h3 : 64 < l.length
  · unfold look8 at h; rw [if_neg h1, if_neg h2, if_pos h3] at h; rcases h with h | h <;> simp at h; omega
  by_cases h4 : out < 0 ∨ l.length < out
  · unfold look8 at h; rw [if_neg h1, if_neg h2, if_neg h3, if_pos h4] at h; rcases h with h | h <;> simp at h; omega
  have e1 : look8 s lo hi l out = walk8 l 0 0 [s] := by unfold look8; rw [if_neg h1, if_neg h2, if_neg h3, if_neg h4]
  have e2 : look8 s lo hi (l.take k) k = walk8 (l.take k) 0 0 [s] := by
    have hl : (l.take k).length = k := by simp; omega
    unfold look8; rw [if_neg h1, if_neg h2, if_neg (by omega), if_neg (by omega)]
  rw [e1] at h ⊢
  rw [e2]
  have q := walk8_take l k 0 0 [s] (by intro t ht; simp at ht; subst ht; exact Classical.not_not.1 h1) hk (by simpa using h)
  refine ⟨q.1, q.2.1, fun e => ?_⟩
  have := q.2.2 e
  exact ⟨this.1, by rw [this.2]; congr 1; simp; omega⟩
theorem wrapU64_eq (x : Int) : IntKind.u64.wrap x = x % 18446744073709551616 := by
  simp [IntKind.wrap, IntKind.signed, IntKind.bits]
theorem wrapU64_in {x : Int} (h : 0 ≤ x) (h' : x < 18446744073709551616) : IntKind.u64.wrap x = x := by rw [wrapU64_eq]; omega
theorem wrapU64_rng (x : Int) : 0 ≤ IntKind.u64.wrap x ∧ IntKind.u64.wrap x < 18446744073709551616 := by rw [wrapU64_eq]; omega
theorem short_take {l : Rws} (h : short l) (k : Nat) : short (l.take k) := fun r hr => h r (List.mem_of_mem_take hr)
theorem oprs_take (l : Rws) (k : Nat) : oprs (l.take k) = (oprs l).take k := by unfold oprs; rw [List.map_take]
end Go.Proofs.Ytalchibbmkhkpaa.VX

set_option linter.unusedVariables false
set_option linter.unusedSimpArgs false
namespace Go.Proofs.Ytalchibbmkhkpaa.VX
/-- Op k (from 0 on) reads tensor n. -/
def rdT (ops : List Opr) (k n : Nat) : Prop := ∃ o : Opr, ops[k]? = some o ∧ (o.a = (n : Int) ∨ (o.kind = 6 ∧ o.b = (n : Int)))
def closedT (ops : List Opr) (S : Nat → Prop) : Prop := ∀ k, S (k + 1) → ∀ n, rdT ops k n → S n
/-- Needed for a tensor: in each closed set that has it. -/
def need (ops : List Opr) (out n : Nat) : Prop := ∀ S, closedT ops S → S out → S n
theorem need_out (ops : List Opr) (out : Nat) : need ops out out := fun _ _ h => h
theorem need_rd {ops : List Opr} {out k n : Nat} (h : need ops out (k + 1)) (hr : rdT ops k n) : need ops out n := fun S hS ho => hS k (h S hS ho) n hr
/-- All ops read tensors that are there. -/
def wfT (ops : List Opr) : Prop := ∀ (k : Nat) (o : Opr), ops[k]? = some o → (0 ≤ o.a ∧ o.a ≤ k) ∧ (o.kind = 6 → 0 ≤ o.b ∧ o.b ≤ k)
theorem wf_rd {ops : List Opr} (h : wfT ops) {k n : Nat} (hr : rdT ops k n) : n ≤ k ∧ k < ops.length := by
  obtain ⟨o, ho, hr⟩ := hr
  obtain ⟨h1, h2⟩ := h k o ho
  refine ⟨?_, (List.getElem?_eq_some_iff.1 ho).1⟩
  rcases hr with hr | ⟨hk, hr⟩
  · omega
  · have := h2 hk; omega
theorem need_le {ops : List Opr} (h : wfT ops) {out n : Nat} (ho : out ≤ ops.length) (hn : need ops out n) : n ≤ ops.length :=
  hn (fun m => m ≤ ops.length) (fun k hk m hr => by have := wf_rd h hr; dsimp only at hk ⊢; omega) ho
/-- Marks as rows. -/
def rowsL (l : List Bool) : Rws := l.map fun b => [B b]
def rowsI (l : List Int) : Rws := l.map fun n => [I n]
theorem rowsL_len (l : List Bool) : (rowsL l).length = l.length := by simp [rowsL]
theorem rowsI_len (l : List Int) : (rowsI l).length = l.length := by simp [rowsI]
theorem rowsL_rep (n : Nat) (b : Bool) : List.replicate n [B b] = rowsL (List.replicate n b) := by simp [rowsL]
theorem rowsI_rep (n : Nat) (b : Int) : List.replicate n [I b] = rowsI (List.replicate n b) := by simp [rowsI]
theorem rowsL_set (l : List Bool) (i : Nat) (b : Bool) : List.set (rowsL l) i [B b] = rowsL (l.set i b) := by simp [rowsL, List.map_set]
theorem rowsI_set (l : List Int) (i : Nat) (b : Int) : List.set (rowsI l) i [I b] = rowsI (l.set i b) := by simp [rowsI, List.map_set]
theorem rb_rows (l : List Bool) (i : Nat) : rb (rowsL l) i 0 = l.getD i false := by
  simp only [rb, cellOf, rowsL, List.getD, List.getElem?_map]
  cases l[i]? <;> rfl
theorem ri_rows (l : List Int) (i : Nat) : ri (rowsI l) i 0 = l.getD i 0 := by
  simp only [ri, cellOf, rowsI, List.getD, List.getElem?_map]
  cases l[i]? <;> rfl
theorem rowsL_app (l m : List Bool) : rowsL l ++ rowsL m = rowsL (l ++ m) := by simp [rowsL]
theorem rowsI_app (l m : List Int) : rowsI l ++ rowsI m = rowsI (l ++ m) := by simp [rowsI]
theorem rowsI_take (l : List Int) (n : Nat) : (rowsI l).take n = rowsI (l.take n) := by simp [rowsI]
/-- The marks of what is needed. -/
def isNeed (ops : List Opr) (out : Nat) (bl : List Bool) : Prop := bl.length = ops.length + 1 ∧ ∀ n, bl.getD n false = true ↔ need ops out n
theorem isNeed_uniq {ops : List Opr} {out : Nat} {bl bl' : List Bool} (h : isNeed ops out bl) (h' : isNeed ops out bl') : bl = bl' := by
  apply List.ext_getElem?
  intro n
  have e : bl.getD n false = bl'.getD n false := Bool.eq_iff_iff.2 ((h.2 n).trans (h'.2 n).symm)
  by_cases hn : n < bl.length
  · have hn' : n < bl'.length := by rw [h'.1, ← h.1]; exact hn
    rw [List.getD_eq_getElem?_getD, List.getD_eq_getElem?_getD, List.getElem?_eq_getElem hn, List.getElem?_eq_getElem hn'] at e
    rw [List.getElem?_eq_getElem hn, List.getElem?_eq_getElem hn']
    exact congrArg some e
  · have hn' : ¬ n < bl'.length := by rw [h'.1, ← h.1]; exact hn
    rw [List.getElem?_eq_none (by omega), List.getElem?_eq_none (by omega)]
theorem getD_setB (l : List Bool) (i n : Nat) (b : Bool) (h : i < l.length) : (l.set i b).getD n false = if n = i then b else l.getD n false := by
  simp only [List.getD_eq_getElem?_getD, List.getElem?_set]
  by_cases e : i = n
  · subst e; simp [h]
  · rw [if_neg e, if_neg (Ne.symm e)]
/-- How many marks are not set. -/
def cnt : List Bool → Nat
  | [] => 0
  | b :: r => (if b then 0 else 1) + cnt r
theorem cnt_le : ∀ l : List Bool, cnt l ≤ l.length
  | [] => Nat.le_refl _
  | b :: r => by have := cnt_le r; unfold cnt; simp only [List.length_cons]; split <;> omega
theorem cnt_set : ∀ (l : List Bool) (i : Nat), l.getD i false = false → i < l.length → cnt (l.set i true) + 1 = cnt l
  | [], i, _, h => by simp at h
  | b :: r, 0, h, _ => by simp at h; subst h; simp [cnt]; omega
  | b :: r, i + 1, h, hl => by
    have := cnt_set r i (show r.getD i false = false from h) (by simpa using hl)
    simp only [List.set_cons_succ, cnt]; omega

theorem ops_at (l : Rws) {k : Nat} (h : k < l.length) : (oprs l)[k]? = some (Opr.of (l.getD k [])) := row_opr l k h
theorem rdT_at (l : Rws) {k : Nat} (h : k < l.length) (n : Nat) : rdT (oprs l) k n ↔ ri l k 1 = (n : Int) ∨ (ri l k 0 = 6 ∧ ri l k 2 = (n : Int)) := by
  constructor
  · rintro ⟨o, ho, hr⟩
    rw [ops_at l h] at ho
    injection ho with ho
    subst ho
    exact hr
  · intro hr
    exact ⟨_, ops_at l h, hr⟩
theorem wfT_at {l : Rws} (hw : wfT (oprs l)) {k : Nat} (h : k < l.length) : (0 ≤ ri l k 1 ∧ ri l k 1 ≤ k) ∧ (ri l k 0 = 6 → 0 ≤ ri l k 2 ∧ ri l k 2 ≤ k) := hw k _ (ops_at l h)

theorem g_ref24_needs_ok (a b c lo hi : Int) (nl : Bool) (l : Rws) (out : Int) (n o : Int) (hl : l.length ≤ 64) (hw : wfT (oprs l)) (ho : 0 ≤ o ∧ o ≤ l.length) (hn : 0 ≤ n ∧ n ≤ l.length) {R : Bool → Prop}
    (h : ∀ bl, isNeed (oprs l) o.toNat bl → R (bl.getD n.toNat false)) : (g_ref24_needs a b c lo hi nl l out n o).run R := by
  unfold g_ref24_needs
  have e : IntKind.i64.wrap ((l.length : Int) + 1) = ((l.length + 1 : Nat) : Int) := by rw [wrap64_in (by omega) (by omega)]; rfl
  have hlen : (oprs l).length = l.length := by simp [oprs]
  rw [e, Int.toNat_natCast]
  refine W.needI (by omega) ?_
  rw [rowsL_rep, rowsL_len, List.length_replicate]
  refine W.needI (by omega) ?_
  rw [rowsL_set]
  refine W.bindI (W.loop_inv (fun v : Int × Rws => ∃ (k : Nat) (bl : List Bool), v.1 = k ∧ v.2 = rowsL bl ∧ bl.length = l.length + 1 ∧ k ≤ l.length ∧ (∀ m, bl.getD m false = true → need (oprs l) o.toNat m) ∧ bl.getD o.toNat false = true ∧
    ∀ j, k ≤ j → bl.getD (j + 1) false = true → ∀ m, rdT (oprs l) j m → bl.getD m false = true) (fun v => v.1.toNat) ?_ ⟨l.length, _, rfl, rfl, by simp, Nat.le_refl _, ?_, ?_, ?_⟩)
  · rintro ⟨_, _⟩ ⟨k, bl, rfl, rfl, hbl, hk, h1, h2, h3⟩
    dsimp only
    refine W.iteC (0 < k) (by rw [decide_eq_decide]; omega) (fun hlt => ?_) fun hge => ?_
    · refine W.bindI ?_
      rw [rowsL_len, Int.toNat_natCast, rb_rows]
      refine W.needI (by omega) ?_
      have e1 : IntKind.i64.wrap ((k : Int) - 1) = ((k - 1 : Nat) : Int) := by rw [wrap64_in (by omega) (by omega)]; omega
      rw [e1, Int.toNat_natCast]
      have hk1 : k - 1 < l.length := by omega
      obtain ⟨w1, w2⟩ := wfT_at hw hk1
      have fin : ∀ bl' : List Bool, bl'.length = l.length + 1 → (∀ m, bl.getD m false = true → bl'.getD m false = true) → (∀ m, bl'.getD m false = true → need (oprs l) o.toNat m) → (∀ j, k ≤ j → bl'.getD (j + 1) false = bl.getD (j + 1) false) →
          (bl'.getD k false = true → ∀ m, rdT (oprs l) (k - 1) m → bl'.getD m false = true) →
          W.on (fun s' : Int × Rws => (∃ (k' : Nat) (bl : List Bool), s'.1 = k' ∧ s'.2 = rowsL bl ∧ bl.length = l.length + 1 ∧ k' ≤ l.length ∧ (∀ m, bl.getD m false = true → need (oprs l) o.toNat m) ∧ bl.getD o.toNat false = true ∧
            ∀ j, k' ≤ j → bl.getD (j + 1) false = true → ∀ m, rdT (oprs l) j m → bl.getD m false = true) ∧ s'.1.toNat < k) (fun v : Rws => ((fun v2 => W.need (0 ≤ n ∧ n < (↑(List.length v2) : Int)) <| W.ret (rb v2 n.toNat 0)) v).run R) (Sum.inl ((((k - 1 : Nat) : Int)), rowsL bl')) := fun bl' q1 q2 q3 q4 q5 => by
        refine ⟨⟨k - 1, bl', rfl, rfl, q1, by omega, q3, q2 _ h2, fun j hj hb m hr => ?_⟩, by show (((k - 1 : Nat) : Int)).toNat < k; omega⟩
        by_cases hjk : j = k - 1
        · subst hjk
          exact q5 (by rwa [show k - 1 + 1 = k from by omega] at hb) m hr
        · rw [q4 j (by omega)] at hb
          exact q2 m (h3 j (by omega) hb m hr)
      refine W.iteC (bl.getD k false = true) (by simp [-List.getD_eq_getElem?_getD]) (fun hb => ?_) fun hb => ?_
      · refine W.needI (by omega) (W.needI (by omega) ?_)
        have hA : (ri l (k - 1) 1).toNat < bl.length := by omega
        have nA : need (oprs l) o.toNat (ri l (k - 1) 1).toNat := need_rd (k := k - 1) (by rw [show k - 1 + 1 = k from by omega]; exact h1 k hb) ((rdT_at l hk1 _).2 (.inl (by omega)))
        rw [rowsL_set]
        refine W.iteC (ri l (k - 1) 0 = 6) (by rw [Bool.eq_iff_iff, decide_eq_true_eq, beq_iff_eq]) (fun h6 => ?_) fun h6 => ?_
        · have w2 := w2 h6
          rw [rowsL_len, List.length_set]
          refine W.needI (by omega) (W.retI ?_)
          have hB : (ri l (k - 1) 2).toNat < (bl.set (ri l (k - 1) 1).toNat true).length := by rw [List.length_set]; omega
          have nB : need (oprs l) o.toNat (ri l (k - 1) 2).toNat := need_rd (k := k - 1) (by rw [show k - 1 + 1 = k from by omega]; exact h1 k hb) ((rdT_at l hk1 _).2 (.inr ⟨h6, by omega⟩))
          rw [rowsL_set]
          refine fin _ (by simp [hbl]) (fun m hm => ?_) (fun m hm => ?_) (fun j hj => ?_) (fun _ m hr => ?_)
          · rw [getD_setB _ _ _ _ hB, getD_setB _ _ _ _ hA, hm]; simp
          · rw [getD_setB _ _ _ _ hB, getD_setB _ _ _ _ hA] at hm
            split at hm
            · rename_i e; rw [e]; exact nB
            · split at hm
              · rename_i e; rw [e]; exact nA
              · exact h1 m hm
          · rw [getD_setB _ _ _ _ hB, getD_setB _ _ _ _ hA, if_neg (by omega), if_neg (by omega)]
          · rw [getD_setB _ _ _ _ hB, getD_setB _ _ _ _ hA]
            rcases (rdT_at l hk1 m).1 hr with hr | ⟨_, hr⟩
            · rw [hr]; simp
            · rw [hr]; simp
        · refine W.retI (fin _ (by simp [hbl]) (fun m hm => ?_) (fun m hm => ?_) (fun j hj => ?_) (fun _ m hr => ?_))
          · rw [getD_setB _ _ _ _ hA, hm]; simp
          · rw [getD_setB _ _ _ _ hA] at hm
            split at hm
            · rename_i e; rw [e]; exact nA
            · exact h1 m hm
          · rw [getD_setB _ _ _ _ hA, if_neg (by omega)]
          · rw [getD_setB _ _ _ _ hA]
            rcases (rdT_at l hk1 m).1 hr with hr | ⟨h6', _⟩
            · rw [hr]; simp
            · exact absurd h6' h6
      · exact W.retI (fin bl hbl (fun m hm => hm) h1 (fun _ _ => rfl) (fun h' => absurd h' hb))
    · have hk0 : k = 0 := by omega
      subst hk0
      refine W.retI (W.needI (by rw [rowsL_len]; omega) (W.retI ?_))
      rw [rb_rows]
      refine h bl ⟨by rw [hlen]; exact hbl, fun m => ⟨h1 m, fun hm => ?_⟩⟩
      exact hm (fun m => bl.getD m false = true) (fun j hj m hr => h3 j (Nat.zero_le _) hj m hr) h2
  · intro m hm
    rw [getD_setB _ _ _ _ (by simp; omega)] at hm
    split at hm
    · rename_i e; rw [e]; exact need_out _ _
    · simp [List.getD_eq_getElem?_getD, List.getElem?_replicate] at hm
      split at hm <;> simp at hm
  · rw [getD_setB _ _ _ _ (by simp; omega)]; simp
  · intro j hj hb m hr
    have := wf_rd hw hr
    omega
end Go.Proofs.Ytalchibbmkhkpaa.VX

set_option linter.unusedVariables false
set_option linter.unusedSimpArgs false
namespace Go.Proofs.Ytalchibbmkhkpaa.VX
theorem one_b {o : Opr} {S : List Shp} (h : (o.one S).2 = 0) (h6 : o.kind = 6) : 0 ≤ o.b ∧ o.b < S.length := by
  unfold Opr.one at h
  split at h
  · exact absurd h (by decide)
  · split at h
    · exact absurd h (by decide)
    · rename_i h2
      omega
theorem walk8_wf : ∀ (l : List Opr) (i w : Int) (S : List Shp), (walk8 l i w S).err = 0 → ∀ (k : Nat) (o : Opr), l[k]? = some o → (0 ≤ o.a ∧ o.a < S.length + k) ∧ (o.kind = 6 → 0 ≤ o.b ∧ o.b < S.length + k)
  | [], _, _, _, _, k, o, h => by simp at h
  | p :: r, i, w, S, he, k, o, h => by
    unfold walk8 at he
    split at he
    · rename_i h1; exact absurd he h1
    · rename_i h1
      split at he
      · simp at he
      · have h1 : (p.one S).2 = 0 := Classical.not_not.1 h1
        cases k with
        | zero =>
          simp at h
          subst h
          obtain ⟨q1, _⟩ := one_ok h1
          exact ⟨by omega, fun h6 => by have := one_b h1 h6; omega⟩
        | succ k =>
          have := walk8_wf r _ _ _ he k o (by simpa using h)
          rw [List.length_append, List.length_singleton] at this
          exact ⟨by omega, fun h6 => by have := this.2 h6; omega⟩
theorem look8_wf {s : Shp} {lo hi : Int} {ops : List Opr} {out : Int} (h : (look8 s lo hi ops out).err = 0) : ops.length ≤ 64 ∧ (0 ≤ out ∧ out ≤ ops.length) ∧ wfT ops := by
  unfold look8 at h
  repeat' split at h
  all_goals try (exfalso; simp at h; done)
  rename_i h1 h2 h3 h4
  rw [not_or] at h4
  refine ⟨by omega, by omega, fun k o ho => ?_⟩
  have := walk8_wf ops 0 0 [s] h k o ho
  simp only [List.length_singleton] at this
  exact ⟨by omega, fun h6 => by have := this.2 h6; omega⟩
theorem look8_op0 {s : Shp} {lo hi : Int} {ops : List Opr} {out : Int} (h : (look8 s lo hi ops out).err = 0) : (look8 s lo hi ops out).op = 0 := by
  have key := (walk8_facts ops 0 0 [s]).1
  unfold look8 at h ⊢
  repeat' split at h
  all_goals try (exfalso; simp at h; done)
  rename_i h1 h2 h3 h4
  rw [if_neg h1, if_neg h2, if_neg h3, if_neg h4]
  exact (key h).1
theorem g_ref08_Check_v (a b c : Int) (lo hi : Int) (nl : Bool) (l : Rws) (out : Int) (hl : l.length ≤ 676622540150) (hsh : short l) {R : Int × Int × Int → Prop} (h : R ((look8 ⟨a, b, c⟩ lo hi (oprs l) out).err, (look8 ⟨a, b, c⟩ lo hi (oprs l) out).op, 0)) : (g_ref08_Check a b c lo hi nl l out).run R := by
  unfold g_ref08_Check
  exact W.bindI (g_ref08_Look_v a b c lo hi nl l out hl hsh (W.retI h))
theorem oprs_len (l : Rws) : (oprs l).length = l.length := by simp [oprs]

theorem g_trim_reads_q_ok (l : Rws) (k : Nat) {R : Unit ⊕ Unit → Prop} (h : R (if ri l k 0 = 6 then .inl () else .inr ())) : (g_trim_reads_q l k).run R := by
  unfold g_trim_reads_q
  exact W.iteC (ri l k 0 = 6) (by rw [Bool.eq_iff_iff, decide_eq_true_eq, beq_iff_eq]) (fun e => W.retI (by rwa [if_pos e] at h)) (fun e => W.retI (by rwa [if_neg e] at h))
theorem take_pop (t : List Int) (n : Nat) (h : 0 < n) (hn : n ≤ t.length) : t.take n = t.take (n - 1) ++ [t.getD (n - 1) 0] := by
  have h1 : n - 1 < t.length := by omega
  rw [List.getD_eq_getElem?_getD, List.getElem?_eq_getElem h1]
  have := List.take_append_getElem h1
  rw [show n - 1 + 1 = n from by omega] at this
  simpa using this.symm

theorem g_trim_Live_ok (a b c lo hi : Int) (nl : Bool) (l : Rws) (out : Int) (hl : l.length ≤ 676622540150) (hsh : short l) {R : Int × Int × Int × Bool × Rws → Prop}
    (h0 : (look8 ⟨a, b, c⟩ lo hi (oprs l) out).err ≠ 0 → R ((look8 ⟨a, b, c⟩ lo hi (oprs l) out).err, (look8 ⟨a, b, c⟩ lo hi (oprs l) out).op, 0, true, []))
    (h1 : (look8 ⟨a, b, c⟩ lo hi (oprs l) out).err = 0 → ∀ bl, isNeed (oprs l) out.toNat bl → R (0, 0, 0, false, rowsL bl)) : (g_trim_Live a b c lo hi nl l out).run R := by
  unfold g_trim_Live
  refine W.bindI (g_model_Check_v a b c lo hi nl l out hl hsh (W.iteC ((look8 ⟨a, b, c⟩ lo hi (oprs l) out).err ≠ 0) (by simp; rfl) (fun e => W.retI (h0 e)) fun e => ?_))
  have e := Classical.not_not.1 e
  obtain ⟨hN, ho, hw⟩ := look8_wf e
  replace h1 := h1 e
  clear h0 e
  rw [oprs_len] at hN ho
  have e : IntKind.i64.wrap ((l.length : Int) + 1) = ((l.length + 1 : Nat) : Int) := by rw [wrap64_in (by omega) (by omega)]; rfl
  rw [e, Int.toNat_natCast]
  refine W.needI (by omega) ?_
  rw [rowsL_rep]
  refine W.bindI (W.loop_inv (fun v : Nat × Rws × Rws => ∃ (n : Nat) (bl : List Bool) (t : List Int), v = (n, rowsL bl, rowsI t) ∧ bl.length = l.length + 1 ∧ n ≤ t.length ∧ 3 * cnt bl + n ≤ 3 * (l.length + 1) + 1 ∧
      (∀ x ∈ t.take n, 0 ≤ x ∧ x ≤ l.length ∧ need (oprs l) out.toNat x.toNat) ∧ (∀ m, bl.getD m false = true → need (oprs l) out.toNat m) ∧ (bl.getD out.toNat false = true ∨ out ∈ t.take n) ∧
      ∀ j, bl.getD (j + 1) false = true → ∀ m : Nat, rdT (oprs l) j m → bl.getD m false = true ∨ (m : Int) ∈ t.take n) (fun v => 3 * cnt (v.2.1.map fun r => (r.getD 0 .dead).toBool) + v.1) ?_ ⟨1, List.replicate (l.length + 1) false, [out], rfl, by simp, by simp, ?_, ?_, ?_, ?_, ?_⟩)
  · rintro _ ⟨n, bl, t, rfl, hbl, hn, hm, ht, hb, hout, hcl⟩
    have back : ∀ bl : List Bool, ((rowsL bl).map fun r => (r.getD 0 .dead).toBool) = bl := fun bl => by
      simp only [rowsL, List.map_map]
      conv => rhs; rw [← List.map_id bl]
      rfl
    dsimp only
    rw [back bl]
    refine W.iteC (0 < n) (by rw [decide_eq_decide]; omega) (fun hlt => ?_) fun hge => ?_
    · have e1 : IntKind.i64.wrap ((n : Int) - 1) = ((n - 1 : Nat) : Int) := by
        have := cnt_le bl
        rw [wrap64_in (by omega) (by omega)]; omega
      rw [e1]
      refine W.needI (by omega) (W.needI (by omega) ?_)
      rw [Int.toNat_natCast, Nat.zero_add, ri_rows, rowsL_len]
      have hpop := take_pop t n hlt hn
      generalize hx : t.getD (n - 1) 0 = x at hpop
      obtain ⟨x0, x1, xn⟩ := ht x (by rw [hpop]; simp)
      refine W.needI (by omega) ?_
      rw [rb_rows, show (((n - 1 : Nat) : Int) - 0).toNat = n - 1 from by omega]
      have hsub : ∀ y ∈ t.take (n - 1), 0 ≤ y ∧ y ≤ l.length ∧ need (oprs l) out.toNat y.toNat := fun y hy => ht y (by rw [hpop]; simp [hy])
      refine W.iteC (bl.getD x.toNat false = true) (by simp [-List.getD_eq_getElem?_getD]) (fun hxb => ?_) fun hxb => ?_
      · refine W.retI ⟨⟨n - 1, bl, t, rfl, hbl, by omega, by omega, hsub, hb, ?_, fun j hj m hr => ?_⟩, ?_⟩
        · rcases hout with h | h
          · exact .inl h
          · rw [hpop, List.mem_append, List.mem_singleton] at h
            rcases h with h | h
            · exact .inr h
            · left; rw [h]; exact hxb
        · rcases hcl j hj m hr with h | h
          · exact .inl h
          · rw [hpop, List.mem_append, List.mem_singleton] at h
            rcases h with h | h
            · exact .inr h
            · left; rw [← h, Int.toNat_natCast] at hxb; exact hxb
        · show 3 * cnt ((rowsL bl).map _) + (n - 1) < _
          rw [back]; omega
      · have hxb : bl.getD x.toNat false = false := by simpa [-List.getD_eq_getElem?_getD] using hxb
        have hxl : x.toNat < bl.length := by omega
        have hcnt := cnt_set bl x.toNat hxb hxl
        refine W.needI (by omega) ?_
        rw [rowsL_set]
        have hb' : ∀ m, (bl.set x.toNat true).getD m false = true → need (oprs l) out.toNat m := fun m hm' => by
          rw [getD_setB _ _ _ _ hxl] at hm'
          split at hm'
          · rename_i e; rw [e]; exact xn
          · exact hb m hm'
        have fin : ∀ (n' : Nat) (t' : List Int), n' ≤ t'.length → n' ≤ n + 1 → (∀ y ∈ t'.take n', y ∈ t.take (n - 1) ∨ (0 ≤ y ∧ y ≤ l.length ∧ need (oprs l) out.toNat y.toNat)) → (∀ y ∈ t.take (n - 1), y ∈ t'.take n') →
            (∀ m : Nat, 0 < x → rdT (oprs l) (x.toNat - 1) m → (m : Int) ∈ t'.take n') →
            W.on (fun s' : Nat × Rws × Rws => (∃ (n : Nat) (bl : List Bool) (t : List Int), s' = (n, rowsL bl, rowsI t) ∧ bl.length = l.length + 1 ∧ n ≤ t.length ∧ 3 * cnt bl + n ≤ 3 * (l.length + 1) + 1 ∧
              (∀ x ∈ t.take n, 0 ≤ x ∧ x ≤ l.length ∧ need (oprs l) out.toNat x.toNat) ∧ (∀ m, bl.getD m false = true → need (oprs l) out.toNat m) ∧ (bl.getD out.toNat false = true ∨ out ∈ t.take n) ∧
              ∀ j, bl.getD (j + 1) false = true → ∀ m : Nat, rdT (oprs l) j m → bl.getD m false = true ∨ (m : Int) ∈ t.take n) ∧ 3 * cnt (s'.2.1.map fun r => (r.getD 0 .dead).toBool) + s'.1 < 3 * cnt bl + n) (fun v : Rws => ((fun v4 => W.ret (0, 0, 0, false, v4)) v).run R) (Sum.inl (n', rowsL (bl.set x.toNat true), rowsI t')) := fun n' t' q1 q2 q3 q4 q5 => by
          refine ⟨⟨n', bl.set x.toNat true, t', rfl, by simp [hbl], q1, by omega, fun y hy => ?_, hb', ?_, fun j hj m hr => ?_⟩, ?_⟩
          · rcases q3 y hy with h | h
            · exact hsub y h
            · exact h
          · rw [getD_setB _ _ _ _ hxl]
            by_cases ex : out.toNat = x.toNat
            · left; rw [if_pos ex]
            · rw [if_neg ex]
              rcases hout with h | h
              · exact .inl h
              · rw [hpop, List.mem_append, List.mem_singleton] at h
                rcases h with h | h
                · exact .inr (q4 _ h)
                · exact absurd (by rw [h]) ex
          · rw [getD_setB _ _ _ _ hxl] at hj ⊢
            split at hj
            · rename_i e
              right
              refine q5 m (by omega) ?_
              rwa [← e, Nat.add_sub_cancel]
            · by_cases em : m = x.toNat
              · left; rw [if_pos em]
              · rw [if_neg em]
                rcases hcl j hj m hr with h | h
                · exact .inl h
                · rw [hpop, List.mem_append, List.mem_singleton] at h
                  rcases h with h | h
                  · exact .inr (q4 _ h)
                  · exact absurd (by omega) em
          · show 3 * cnt ((rowsL (bl.set x.toNat true)).map _) + n' < _
            rw [back]; omega
        refine W.iteC (0 < x) rfl (fun hx0 => ?_) fun hx0 => ?_
        · have e2 : IntKind.i64.wrap (x - 1) = ((x.toNat - 1 : Nat) : Int) := by rw [wrap64_in (by omega) (by omega)]; omega
          rw [e2, Int.toNat_natCast]
          refine W.needI (by omega) ?_
          have hk1 : x.toNat - 1 < l.length := by omega
          obtain ⟨w1, w2⟩ := wfT_at hw hk1
          have hxk : x.toNat - 1 + 1 = x.toNat := by omega
          have nA : need (oprs l) out.toNat (ri l (x.toNat - 1) 1).toNat := need_rd (k := x.toNat - 1) (by rw [hxk]; exact xn) ((rdT_at l hk1 _).2 (.inl (by omega)))
          refine W.bindI (g_trim_reads_q_ok l _ ?_)
          have lt1 : (t.take (n - 1)).length = n - 1 := by simp; omega
          have hc := cnt_le bl
          rw [rowsI_take, show [[I (ri l (x.toNat - 1) 1)]] = rowsI [ri l (x.toNat - 1) 1] from rfl, show [[I (ri l (x.toNat - 1) 2)]] = rowsI [ri l (x.toNat - 1) 2] from rfl, rowsI_app, rowsI_app, rowsI_len, rowsI_len]
          split
          · rename_i h6
            have w2 := w2 h6
            have nB : need (oprs l) out.toNat (ri l (x.toNat - 1) 2).toNat := need_rd (k := x.toNat - 1) (by rw [hxk]; exact xn) ((rdT_at l hk1 _).2 (.inr ⟨h6, by omega⟩))
            have el : (t.take (n - 1) ++ [ri l (x.toNat - 1) 1] ++ [ri l (x.toNat - 1) 2]).length = n + 1 := by simp [lt1]; omega
            refine W.needI (by omega) (W.needI (by simp [lt1]; omega) (W.retI ?_))
            rw [el]
            refine fin (n + 1) _ (by omega) (Nat.le_refl _) (fun y hy => ?_) (fun y hy => ?_) (fun m _ hr => ?_)
            · rw [List.take_of_length_le (by omega)] at hy
              simp only [List.mem_append, List.mem_singleton] at hy
              rcases hy with (hy | hy) | hy
              · exact .inl hy
              · right; rw [hy]; exact ⟨by omega, by omega, nA⟩
              · right; rw [hy]; exact ⟨by omega, by omega, nB⟩
            · rw [List.take_of_length_le (by omega)]; simp [hy]
            · rw [List.take_of_length_le (by omega)]
              simp only [List.mem_append, List.mem_singleton]
              rcases (rdT_at l hk1 m).1 hr with hr | ⟨_, hr⟩
              · left; right; exact hr.symm
              · right; exact hr.symm
          · rename_i h6
            have el : (t.take (n - 1) ++ [ri l (x.toNat - 1) 1]).length = n := by simp [lt1]; omega
            refine W.needI (by omega) (W.retI ?_)
            rw [el]
            refine fin n _ (by omega) (by omega) (fun y hy => ?_) (fun y hy => ?_) (fun m _ hr => ?_)
            · rw [List.take_of_length_le (by omega)] at hy
              simp only [List.mem_append, List.mem_singleton] at hy
              rcases hy with hy | hy
              · exact .inl hy
              · right; rw [hy]; exact ⟨by omega, by omega, nA⟩
            · rw [List.take_of_length_le (by omega)]; simp [hy]
            · rw [List.take_of_length_le (by omega)]
              simp only [List.mem_append, List.mem_singleton]
              rcases (rdT_at l hk1 m).1 hr with hr | ⟨h6', _⟩
              · right; exact hr.symm
              · exact absurd h6' h6
        · exact W.retI (fin (n - 1) t (by omega) (by omega) (fun y hy => .inl hy) (fun y hy => hy) (fun m hx' _ => absurd hx' hx0))
    · have hn0 : n = 0 := by omega
      subst hn0
      refine W.retI (W.retI (h1 bl ⟨by rw [oprs_len]; exact hbl, fun m => ⟨hb m, fun hm' => ?_⟩⟩))
      refine hm' (fun m => bl.getD m false = true) (fun j hj m hr => ?_) ?_
      · rcases hcl j hj m hr with h | h
        · exact h
        · simp at h
      · rcases hout with h | h
        · exact h
        · simp at h
  · have := cnt_le (List.replicate (l.length + 1) false)
    simp at this
    omega
  · intro x hx
    simp at hx
    subst hx
    exact ⟨ho.1, ho.2, need_out _ _⟩
  · intro m hm'
    simp [List.getD_eq_getElem?_getD, List.getElem?_replicate] at hm'
    split at hm' <;> simp at hm'
  · right; simp
  · intro j hj
    simp [List.getD_eq_getElem?_getD, List.getElem?_replicate] at hj
    split at hj <;> simp at hj

theorem g_ref24_Live_ok (a b c lo hi : Int) (nl : Bool) (l : Rws) (out : Int) (hl : l.length ≤ 676622540150) (hsh : short l) {R : Int × Int × Int × Bool × Rws → Prop}
    (h0 : (look8 ⟨a, b, c⟩ lo hi (oprs l) out).err ≠ 0 → R ((look8 ⟨a, b, c⟩ lo hi (oprs l) out).err, (look8 ⟨a, b, c⟩ lo hi (oprs l) out).op, 0, true, []))
    (h1 : (look8 ⟨a, b, c⟩ lo hi (oprs l) out).err = 0 → ∀ bl, isNeed (oprs l) out.toNat bl → ∀ fl, R (0, 0, 0, fl, rowsL bl)) : (g_ref24_Live a b c lo hi nl l out).run R := by
  unfold g_ref24_Live
  refine W.bindI (g_ref08_Check_v a b c lo hi nl l out hl hsh (W.iteC ((look8 ⟨a, b, c⟩ lo hi (oprs l) out).err ≠ 0) (by simp; rfl) (fun e => W.retI (h0 e)) fun e => ?_))
  have e := Classical.not_not.1 e
  obtain ⟨hN, ho, hw⟩ := look8_wf e
  replace h1 := h1 e
  clear h0 e
  rw [oprs_len] at hN ho
  refine W.bindI (W.loop_inv (fun v : Int × Bool × Rws => ∃ (k : Nat) (bl : List Bool), v.1 = k ∧ k ≤ l.length + 1 ∧ v.2.2 = rowsL bl ∧ bl.length = k ∧ ∀ bl', isNeed (oprs l) out.toNat bl' → bl = bl'.take k) (fun v => l.length + 1 - v.1.toNat) ?_ ⟨0, [], rfl, Nat.zero_le _, rfl, rfl, fun _ _ => by simp⟩)
  rintro ⟨_, fl, _⟩ ⟨k, bl, rfl, hk, rfl, hbl, hpre⟩
  dsimp only
  refine W.iteC (k ≤ l.length) (by rw [decide_eq_decide]; omega) (fun hle => ?_) fun hgt => ?_
  · refine W.bindI (g_ref24_needs_ok a b c lo hi nl l out k out hN hw ho (by omega) fun bl' hbl' => ?_)
    rw [wrap64_in (by omega) (by omega), Int.toNat_natCast]
    refine W.needI (by rw [rowsL_len]; omega) (W.retI ⟨⟨k + 1, bl ++ [bl'.getD k false], rfl, by omega, (rowsL_app bl [bl'.getD k false]), by simp [hbl], fun bl2 hbl2 => ?_⟩, ?_⟩)
    · rw [isNeed_uniq hbl2 hbl', hpre bl' hbl']
      have hkl : k < bl'.length := by rw [hbl'.1, oprs_len]; omega
      rw [List.getD_eq_getElem?_getD, List.getElem?_eq_getElem hkl]
      exact List.take_append_getElem hkl
    · show l.length + 1 - ((k : Int) + 1).toNat < l.length + 1 - (k : Int).toNat
      omega
  · have hk' : k = l.length + 1 := by omega
    subst hk'
    refine W.retI (W.retI ?_)
    have hex : ∃ bl', isNeed (oprs l) out.toNat bl' := by
      classical
      refine ⟨(List.range (l.length + 1)).map fun n => decide (need (oprs l) out.toNat n), by simp [oprs_len], fun n => ?_⟩
      rw [List.getD_eq_getElem?_getD, List.getElem?_map]
      by_cases hn : n < l.length + 1
      · rw [List.getElem?_eq_getElem (by simpa using hn)]; simp
      · rw [List.getElem?_eq_none (by simpa using hn)]
        simp
        intro hm'
        have := need_le hw (by rw [oprs_len]; omega) hm'
        rw [oprs_len] at this
        omega
    obtain ⟨bl', hb'⟩ := hex
    rw [hpre bl' hb', List.take_of_length_le (by rw [hb'.1, oprs_len]; omega)]
    exact h1 bl' hb' fl
end Go.Proofs.Ytalchibbmkhkpaa.VX

set_option linter.unusedVariables false
set_option linter.unusedSimpArgs false
namespace Go.Proofs.Ytalchibbmkhkpaa.VX
/-- An op whose tensors have new numbers. -/
def Opr.to (o : Opr) (now : List Int) : Opr := { o with a := now.getD o.a.toNat 0, b := if o.kind = 6 then now.getD o.b.toNat 0 else o.b }
/-- The ops that are needed, with new numbers. -/
def trimT (bl : List Bool) : List Opr → Nat → List Int → List Opr → List Int × List Opr
  | [], _, now, acc => (now, acc)
  | o :: r, i, now, acc => if bl.getD (i + 1) false then trimT bl r (i + 1) (now.set (i + 1) ((acc.length : Int) + 1)) (acc ++ [o.to now]) else trimT bl r (i + 1) now acc
theorem trimT_nil (bl : List Bool) (i : Nat) (now : List Int) (acc : List Opr) : trimT bl [] i now acc = (now, acc) := rfl
theorem trimT_cons (bl : List Bool) (o : Opr) (r : List Opr) (i : Nat) (now : List Int) (acc : List Opr) : trimT bl (o :: r) i now acc =
    if bl.getD (i + 1) false then trimT bl r (i + 1) (now.set (i + 1) ((acc.length : Int) + 1)) (acc ++ [o.to now]) else trimT bl r (i + 1) now acc := rfl
/-- Lists that are nil are empty. -/
def nilOK (l : Rws) : Prop := ∀ r ∈ l, ((Opr.of r).wn = true → (Opr.of r).ws = []) ∧ ((Opr.of r).bn = true → (Opr.of r).bs = [])
theorem sameOps_app : ∀ {l m l' m' : List Opr}, sameOps l m → sameOps l' m' → sameOps (l ++ l') (m ++ m')
  | [], [], _, _, _, h => h
  | _ :: _, _ :: _, _, _, h, h' => ⟨h.1, sameOps_app h.2 h'⟩
  | [], _ :: _, _, _, h, _ => h.elim
  | _ :: _, [], _, _, h, _ => h.elim
theorem sameOps_refl : ∀ l : List Opr, sameOps l l
  | [] => trivial
  | o :: r => ⟨⟨o.wn, o.bn, rfl⟩, sameOps_refl r⟩
theorem sameOps_symm : ∀ {l m : List Opr}, sameOps l m → sameOps m l
  | [], [], _ => trivial
  | o :: _, _ :: _, ⟨⟨a, b, e⟩, h⟩ => ⟨⟨o.wn, o.bn, by rw [e]; rfl⟩, sameOps_symm h⟩
  | [], _ :: _, h => h.elim
  | _ :: _, [], h => h.elim
theorem sameOps_trans : ∀ {l m n : List Opr}, sameOps l m → sameOps m n → sameOps l n
  | [], [], [], _, _ => trivial
  | _ :: _, _ :: _, _ :: _, ⟨⟨a, b, e⟩, h⟩, ⟨⟨a', b', e'⟩, h'⟩ => ⟨⟨a', b', by rw [e', e]; rfl⟩, sameOps_trans h h'⟩
  | [], [], _ :: _, _, h => h.elim
  | [], _ :: _, _, h, _ => h.elim
  | _ :: _, [], _, h, _ => h.elim
  | _ :: _, _ :: _, [], _, h => h.elim
theorem oprs_app (l m : Rws) : oprs (l ++ m) = oprs l ++ oprs m := by simp [oprs]
theorem to_flags (o : Opr) (a b : Bool) (now : List Int) : (o.flags a b).to now = (o.to now).flags a b := rfl
theorem trimT_same (bl : List Bool) : ∀ {l m : List Opr}, sameOps l m → ∀ (i : Nat) (now : List Int) (acc acc' : List Opr), sameOps acc acc' →
    (trimT bl l i now acc).1 = (trimT bl m i now acc').1 ∧ sameOps (trimT bl l i now acc).2 (trimT bl m i now acc').2
  | [], [], _, i, now, acc, acc', h => ⟨rfl, h⟩
  | o :: r, p :: q, ⟨⟨a, b, e⟩, h2⟩, i, now, acc, acc', h => by
    unfold trimT
    split
    · rw [sameOps_len h]
      exact trimT_same bl h2 _ _ _ _ (sameOps_app h ⟨⟨a, b, by rw [e]; rfl⟩, trivial⟩)
    · exact trimT_same bl h2 _ _ _ _ h
  | [], _ :: _, h, _, _, _, _, _ => h.elim
  | _ :: _, [], h, _, _, _, _, _ => h.elim

theorem g_trim_reads_p_ok (a0 a1 a2 a3 a4 a5 a6 a7 a8 a9 a10 a11 : Int) (a12 : Bool) (a13 : Rws) (a14 : Bool) (a15 : Rws) (a16 a17 a18 a19 a20 a21 a22 a23 : Int) {R : Unit ⊕ Unit → Prop} (h : R (if a0 = 6 then .inl () else .inr ())) :
    (g_trim_reads_p a0 a1 a2 a3 a4 a5 a6 a7 a8 a9 a10 a11 a12 a13 a14 a15 a16 a17 a18 a19 a20 a21 a22 a23).run R := by
  unfold g_trim_reads_p
  exact W.iteC (a0 = 6) (by rw [Bool.eq_iff_iff, decide_eq_true_eq, beq_iff_eq]) (fun e => W.retI (by rwa [if_pos e] at h)) (fun e => W.retI (by rwa [if_neg e] at h))
theorem g_clone16_ok (b : Bool) (l : Rws) (hb : b = true → l = []) (hl : l.length ≤ 70368744175616) {R : Bool × Rws → Prop} (h : ∀ b, (b = true → l = []) → R (b, l)) : (g_slices_Clone___int16_int16_ b l).run R := by
  unfold g_slices_Clone___int16_int16_
  refine W.iteC (b = true) (by simp) (fun e => W.retI (by rw [hb e] at h; exact h true (fun _ => rfl))) fun _ => W.needI (by omega) (W.retI (h false (fun e => by cases e)))
theorem g_clone32_ok (b : Bool) (l : Rws) (hb : b = true → l = []) (hl : l.length ≤ 35184372087808) {R : Bool × Rws → Prop} (h : ∀ b, (b = true → l = []) → R (b, l)) : (g_slices_Clone___int32_int32_ b l).run R := by
  unfold g_slices_Clone___int32_int32_
  refine W.iteC (b = true) (by simp) (fun e => W.retI (by rw [hb e] at h; exact h true (fun _ => rfl))) fun _ => W.needI (by omega) (W.retI (h false (fun e => by cases e)))

/-- A row of an op with new numbers, and other flags. -/
def toRow (r : List AV) (a b : Int) (x y : Bool) (ws bs : Rws) : List AV :=
  [I (cI r 0), I a, I b, I (cI r 3), I (cI r 4), I (cI r 5), I (cI r 6), I (cI r 7), I (cI r 8), I (cI r 9), I (cI r 10), I (cI r 11), .sl x 0 ws, .sl y 0 bs, I (cI r 14), I (cI r 15), I (cI r 16), I (cI r 17), I (cI r 18), I (cI r 19), I (cI r 20), I (cI r 21)]
theorem of_toRow (r : List AV) (now : List Int) (x y : Bool) : Opr.of (toRow r (now.getD (cI r 1).toNat 0) (if cI r 0 = 6 then now.getD (cI r 2).toNat 0 else cI r 2) x y (cR r 12) (cR r 13)) = ((Opr.of r).to now).flags x y := rfl
/-- What a trimmed model is said to be. -/
def Trimmed (ops : List Opr) (bl : List Bool) (rows : Rws) : Prop := sameOps (trimT bl ops 0 (List.replicate bl.length 0) []).2 (oprs rows) ∧ short rows ∧ nilOK rows ∧ rows.length ≤ 64
theorem getD_mem' {l : Rws} {k : Nat} (h : k < l.length) : l.getD k [] ∈ l := by rw [List.getD_eq_getElem?_getD, List.getElem?_eq_getElem h]; exact List.getElem_mem h

theorem g_trim_Trim_ok (a b c lo hi : Int) (nl : Bool) (l : Rws) (out : Int) (hl : l.length ≤ 676622540150) (hsh : short l) (hni : nilOK l) {R : Int × Int × Int × Int × Int × Int × Int × Int × Int × Bool × Rws → Prop}
    (h0 : (look8 ⟨a, b, c⟩ lo hi (oprs l) out).err ≠ 0 → R (0, 0, 0, 0, 0, 0, (look8 ⟨a, b, c⟩ lo hi (oprs l) out).err, (look8 ⟨a, b, c⟩ lo hi (oprs l) out).op, 0, true, []))
    (h1 : (look8 ⟨a, b, c⟩ lo hi (oprs l) out).err = 0 → ∀ bl fl rows, isNeed (oprs l) out.toNat bl → Trimmed (oprs l) bl rows → R (a, b, c, lo, hi, (trimT bl (oprs l) 0 (List.replicate bl.length 0) []).1.getD out.toNat 0, 0, 0, 0, fl, rows)) :
    (g_trim_Trim a b c lo hi nl l out).run R := by
  unfold g_trim_Trim
  refine W.bindI (g_trim_Live_ok a b c lo hi nl l out hl hsh (fun e => W.iteT (by simpa using e) (W.retI (h0 e))) fun e bl hbl => W.iteF rfl ?_)
  obtain ⟨hN, ho, hw⟩ := look8_wf e
  replace h1 := fun fl rows => h1 e bl fl rows hbl
  clear h0 e
  rw [oprs_len] at hN ho
  have hbll : bl.length = l.length + 1 := by have := hbl.1; rwa [oprs_len] at this
  dsimp only
  rw [rowsL_len]
  refine W.needI (by omega) ?_
  rw [Int.toNat_natCast, rowsI_rep]
  refine W.bindI (W.loop_inv (fun v : Int × Rws × Bool × Rws => ∃ (k : Nat) (now : List Int) (acc : List Opr), v.1 = k ∧ k ≤ l.length ∧ v.2.1 = rowsI now ∧ now.length = l.length + 1 ∧ sameOps acc (oprs v.2.2.2) ∧ acc.length ≤ k ∧ short v.2.2.2 ∧ nilOK v.2.2.2 ∧
      trimT bl ((oprs l).drop k) k now acc = trimT bl (oprs l) 0 (List.replicate bl.length 0) []) (fun v => l.length - v.1.toNat) ?_ ⟨0, List.replicate bl.length 0, [], rfl, Nat.zero_le _, rfl, by simp [hbll], trivial, by simp, (fun r hr => by simp at hr), (fun r hr => by simp at hr), rfl⟩)
  rintro ⟨_, _, fl, rows⟩ ⟨k, now, acc, rfl, hk, rfl, hnow, hacc, hal, hsr, hnr, hT⟩
  dsimp only at hacc hsr hnr ⊢
  have hrl : rows.length = acc.length := by have := sameOps_len hacc; rw [oprs_len] at this; exact this.symm
  refine W.iteC (k < l.length) (by rw [decide_eq_decide]; omega) (fun hlt => ?_) fun hge => ?_
  · rw [drop_opr l k hlt, trimT_cons] at hT
    have hrw := getD_mem' hlt
    obtain ⟨s1, s2⟩ := hsh _ hrw
    obtain ⟨n1, n2⟩ := hni _ hrw
    obtain ⟨w1, w2⟩ := wfT_at hw hlt
    have e1 : IntKind.i64.wrap ((k : Int) + 1) = ((k + 1 : Nat) : Int) := by rw [wrap64_in (by omega) (by omega)]; rfl
    rw [e1, Int.toNat_natCast, Int.toNat_natCast, rb_rows, rowsI_len]
    refine W.bindI (W.needI (by omega) (W.needI (by omega) (W.iteC (bl.getD (k + 1) false ≠ true) (by simp [-List.getD_eq_getElem?_getD]) (fun hb => W.retI (W.retI ?_)) fun hb => ?_)))
    · rw [if_neg hb] at hT
      exact ⟨⟨k + 1, now, acc, rfl, hlt, rfl, hnow, hacc, by omega, hsr, hnr, hT⟩, by show l.length - (((k + 1 : Nat) : Int)).toNat < l.length - (k : Int).toNat; omega⟩
    · have hb := Classical.not_not.1 hb
      rw [if_pos hb] at hT
      have fin : ∀ v4 : Int × Int × Int × Nat × Int × Int × Int, v4.2.2.2.2.2.2 = (if ri l k 0 = 6 then now.getD (ri l k 2).toNat 0 else ri l k 2) →
          ((fun v4 : Int × Int × Int × Nat × Int × Int × Int => W.bind (g_slices_Clone___int16_int16_ (rn l k 12) (rr l k 12)) fun v5 =>
            W.bind (g_slices_Clone___int32_int32_ (rn l k 13) (rr l k 13)) fun v6 =>
            W.need ((List.length rows + 1) * 208 ≤ 140737488355328) <|
            W.need (0 ≤ ((k + 1 : Nat) : Int) ∧ ((k + 1 : Nat) : Int) < (now.length : Int)) <|
            W.ret (List.set (rowsI now) (k + 1) [I (((rows ++ [toRow (l.getD k []) (ri (rowsI now) (ri l k 1).toNat 0) v4.2.2.2.2.2.2 v5.1 v6.1 v5.2 v6.2]).length : Int))], ri (rowsI now) (ri l k 1).toNat 0, v4.2.2.2.2.2.2, v5.1, v5.2, v6.1, v6.2, fl && false, rows ++ [toRow (l.getD k []) (ri (rowsI now) (ri l k 1).toNat 0) v4.2.2.2.2.2.2 v5.1 v6.1 v5.2 v6.2])) v4).run
          (fun v7 : Rws × Int × Int × Bool × Rws × Bool × Rws × Bool × Rws => (W.ret (α := (Int × Rws × Bool × Rws) ⊕ (Rws × Bool × Rws)) (Sum.inl (((k + 1 : Nat) : Int), v7.1, v7.2.2.2.2.2.2.2.1, v7.2.2.2.2.2.2.2.2))).run
            (W.on (fun s' : Int × Rws × Bool × Rws => (∃ (k : Nat) (now : List Int) (acc : List Opr), s'.1 = k ∧ k ≤ l.length ∧ s'.2.1 = rowsI now ∧ now.length = l.length + 1 ∧ sameOps acc (oprs s'.2.2.2) ∧ acc.length ≤ k ∧ short s'.2.2.2 ∧ nilOK s'.2.2.2 ∧
              trimT bl ((oprs l).drop k) k now acc = trimT bl (oprs l) 0 (List.replicate bl.length 0) []) ∧ l.length - s'.1.toNat < l.length - (k : Int).toNat)
              (fun v8 : Rws × Bool × Rws => ((fun v8 => W.need (0 ≤ out ∧ out < (↑(List.length v8.1) : Int)) <| W.ret (a, b, c, lo, hi, ri v8.1 out.toNat 0, 0, 0, 0, v8.2.1, v8.2.2)) v8).run R))) := fun v4 hv4 => by
        refine W.bindI (g_clone16_ok _ _ n1 s1 fun x hx => W.bindI (g_clone32_ok _ _ n2 s2 fun y hy => ?_))
        refine W.needI (by omega) (W.needI (by omega) (W.retI (W.retI ⟨⟨k + 1, now.set (k + 1) ((acc.length : Int) + 1), acc ++ [(Opr.of (l.getD k [])).to now], rfl, hlt, ?_, by simp [hnow], ?_, by simp; omega, ?_, ?_, hT⟩, ?_⟩)))
        · show List.set (rowsI now) (k + 1) _ = _
          rw [rowsI_set, List.length_append, List.length_singleton, hrl]; rfl
        · show sameOps _ (oprs (rows ++ [toRow (l.getD k []) (ri (rowsI now) (ri l k 1).toNat 0) v4.2.2.2.2.2.2 x y (rr l k 12) (rr l k 13)]))
          rw [oprs_app, hv4, ri_rows]
          exact sameOps_app hacc ⟨⟨x, y, of_toRow (l.getD k []) now x y⟩, trivial⟩
        · intro r hr
          rcases List.mem_append.1 hr with hr | hr
          · exact hsr r hr
          · simp only [List.mem_singleton] at hr; subst hr; exact ⟨s1, s2⟩
        · intro r hr
          rcases List.mem_append.1 hr with hr | hr
          · exact hnr r hr
          · simp only [List.mem_singleton] at hr; subst hr
            exact ⟨hx, hy⟩
        · show l.length - (((k + 1 : Nat) : Int)).toNat < l.length - (k : Int).toNat; omega
      refine W.bindI (W.bindI (g_trim_reads_p_ok _ _ _ _ _ _ _ _ _ _ _ _ _ _ _ _ _ _ _ _ _ _ _ _ ?_))
      split
      · rename_i h6
        have w2 := w2 h6
        refine W.needI (by omega) (W.needI (by omega) (W.retI (fin _ ?_)))
        show ri (rowsI now) (ri l k 2).toNat 0 = _
        rw [if_pos h6, ri_rows]
      · rename_i h6
        refine W.needI (by omega) (W.retI (fin _ ?_))
        show ri l k 2 = _
        rw [if_neg h6]
  · have hk' : k = l.length := by omega
    subst hk'
    rw [List.drop_eq_nil_of_le (by rw [oprs_len]; exact Nat.le_refl _), trimT_nil] at hT
    refine W.retI ?_
    show (W.need (0 ≤ out ∧ out < (↑(List.length (rowsI now)) : Int)) <| W.ret (a, b, c, lo, hi, ri (rowsI now) out.toNat 0, 0, 0, 0, fl, rows)).run R
    rw [rowsI_len, ri_rows]
    refine W.needI (by omega) (W.retI ?_)
    have e2 : now = (trimT bl (oprs l) 0 (List.replicate bl.length 0) []).1 := by rw [← hT]
    rw [e2]
    exact h1 fl rows ⟨by rw [← hT]; exact hacc, hsr, hnr, by omega⟩
end Go.Proofs.Ytalchibbmkhkpaa.VX

set_option linter.unusedVariables false
set_option maxRecDepth 100000
set_option maxHeartbeats 0
namespace Go.Proofs.Ytalchibbmkhkpaa.VX
theorem XSplit.tt' {b : Bool} {x y : Prop} (h : b = true) (h' : x) : XSplit b x y := ⟨fun _ => h', fun e => by rw [h] at e; cases e⟩
theorem XSplit.ff' {b : Bool} {x y : Prop} (h : b = false) (h' : y) : XSplit b x y := ⟨fun e => (by rw [h] at e; cases e), fun _ => h'⟩
theorem loop_go {σ ε : Type} {f : σ → W (σ ⊕ ε)} {s : σ} {R : ε → Prop} (h : (f s).run (W.on (fun s' => (W.loop f s').run R) R)) : (W.loop f s).pr R := W.loop_unroll h
attribute [local irreducible] W.loop
theorem fixed24 : g_law24_fixed.run (fun b => b = true) := by
  iterate 3000 (all_goals ((conv => whnf); first | with_reducible exact rfl | with_reducible refine XNeed.mk (of_decide_eq_true (by decide +kernel)) ?_ | with_reducible refine XSplit.tt' (by decide +kernel) ?_ | with_reducible refine XSplit.ff' (by decide +kernel) ?_ | refine loop_go ?_ | decide +kernel))
theorem g_law24_fixed_ok {R : Bool → Prop} (h : R true) : g_law24_fixed.run R := g_law24_fixed.mono (fun b e => by rw [e]; exact h) fixed24
end Go.Proofs.Ytalchibbmkhkpaa.VX

set_option linter.unusedVariables false
set_option linter.unusedSimpArgs false
namespace Go.Proofs.Ytalchibbmkhkpaa.VX
theorem ri_cp0 (l : Rws) (k j : Nat) (h : k < l.length) (hj : j < 12 ∨ 13 < j ∧ j < 22) : ri (l.map cpRow) k j = ri l k j := by
  have e : (l.map cpRow).getD k [] = cpRow (l.getD k []) := by
    rw [List.getD_eq_getElem?_getD, List.getD_eq_getElem?_getD, List.getElem?_map, List.getElem?_eq_getElem h]; rfl
  rw [ri_eq, ri_eq, e]
  have : j = 0 ∨ j = 1 ∨ j = 2 ∨ j = 3 ∨ j = 4 ∨ j = 5 ∨ j = 6 ∨ j = 7 ∨ j = 8 ∨ j = 9 ∨ j = 10 ∨ j = 11 ∨ j = 14 ∨ j = 15 ∨ j = 16 ∨ j = 17 ∨ j = 18 ∨ j = 19 ∨ j = 20 ∨ j = 21 := by omega
  rcases this with rfl | rfl | rfl | rfl | rfl | rfl | rfl | rfl | rfl | rfl | rfl | rfl | rfl | rfl | rfl | rfl | rfl | rfl | rfl | rfl <;> rfl
theorem nilOK_cp {l : Rws} : nilOK (l.map cpRow) := by
  intro r hr
  obtain ⟨r', _, rfl⟩ := List.mem_map.1 hr
  exact ⟨fun h => absurd (show false = true from h) (by decide), fun h => absurd (show false = true from h) (by decide)⟩
theorem g_ref24_Same_ok (n1 n2 : Bool) (l : List Bool) (hl : l.length ≤ 1000000) {R : Bool → Prop} (h : R true) : (g_ref24_Same n1 (rowsL l) n2 (rowsL l)).run R := by
  unfold g_ref24_Same
  refine W.iteF (by simp) (W.bindI (W.loop_inv (fun v : Int => ∃ k : Nat, v = k ∧ k ≤ l.length) (fun v => l.length - v.toNat) ?_ ⟨0, rfl, Nat.zero_le _⟩))
  rintro _ ⟨k, rfl, hk⟩
  rw [rowsL_len]
  refine W.iteC (k < l.length) (by rw [decide_eq_decide]; omega) (fun hlt => W.needI (by omega) (W.needI (by omega) (W.iteF (by simp) ?_))) fun hge => W.retI (W.retI h)
  rw [wrap64_in (by omega) (by omega)]
  exact W.retI ⟨⟨k + 1, rfl, hlt⟩, by show l.length - ((k : Int) + 1).toNat < l.length - (k : Int).toNat; omega⟩

theorem g_ref24_Trim_ok (a b c lo hi : Int) (nl : Bool) (l : Rws) (out : Int) (hl : l.length ≤ 676622540150) (hsh : short l) {R : Int × Int × Int × Int × Int × Int × Int × Int × Int × Bool × Rws → Prop}
    (h0 : (look8 ⟨a, b, c⟩ lo hi (oprs l) out).err ≠ 0 → R (0, 0, 0, 0, 0, 0, (look8 ⟨a, b, c⟩ lo hi (oprs l) out).err, (look8 ⟨a, b, c⟩ lo hi (oprs l) out).op, 0, true, []))
    (h1 : (look8 ⟨a, b, c⟩ lo hi (oprs l) out).err = 0 → ∀ bl fl rows, isNeed (oprs l) out.toNat bl → Trimmed (oprs l) bl rows → R (a, b, c, lo, hi, (trimT bl (oprs l) 0 (List.replicate bl.length 0) []).1.getD out.toNat 0, 0, 0, 0, fl, rows)) :
    (g_ref24_Trim a b c lo hi nl l out).run R := by
  unfold g_ref24_Trim
  refine W.bindI (g_ref24_Live_ok a b c lo hi nl l out hl hsh (fun e => W.iteT (by simpa using e) (W.retI (h0 e))) fun e bl hbl _ => W.iteF rfl ?_)
  obtain ⟨hN, ho, hw⟩ := look8_wf e
  replace h1 := fun fl rows => h1 e bl fl rows hbl
  clear h0 e
  rw [oprs_len] at hN ho
  have hbll : bl.length = l.length + 1 := by have := hbl.1; rwa [oprs_len] at this
  refine W.bindI (g_ref08_Copy_ok a b c lo hi nl l out hl hsh ?_)
  dsimp only
  rw [rowsL_len, List.length_map]
  refine W.needI (by omega) ?_
  rw [Int.toNat_natCast, rowsI_rep]
  refine W.bindI (W.loop_inv (fun v : Int × Rws × Bool × Rws => ∃ (k : Nat) (now : List Int) (acc : List Opr), v.1 = k ∧ k ≤ l.length ∧ v.2.1 = rowsI now ∧ now.length = l.length + 1 ∧ sameOps acc (oprs v.2.2.2) ∧ acc.length ≤ k ∧ short v.2.2.2 ∧ nilOK v.2.2.2 ∧
      trimT bl ((oprs l).drop k) k now acc = trimT bl (oprs l) 0 (List.replicate bl.length 0) []) (fun v => l.length - v.1.toNat) ?_ ⟨0, List.replicate bl.length 0, [], rfl, Nat.zero_le _, rfl, by simp [hbll], trivial, by simp, (fun r hr => by simp at hr), (fun r hr => by simp at hr), rfl⟩)
  rintro ⟨_, _, fl, rows⟩ ⟨k, now, acc, rfl, hk, rfl, hnow, hacc, hal, hsr, hnr, hT⟩
  dsimp only at hacc hsr hnr ⊢
  have hrl : rows.length = acc.length := by have := sameOps_len hacc; rw [oprs_len] at this; exact this.symm
  refine W.iteC (k < l.length) (by rw [decide_eq_decide]; omega) (fun hlt => ?_) fun hge => ?_
  · rw [drop_opr l k hlt, trimT_cons] at hT
    have hrw := getD_mem' hlt
    obtain ⟨s1, s2⟩ := hsh _ hrw
    obtain ⟨w1, w2⟩ := wfT_at hw hlt
    have e1 : IntKind.i64.wrap ((k : Int) + 1) = ((k + 1 : Nat) : Int) := by rw [wrap64_in (by omega) (by omega)]; rfl
    have r0 := ri_cp0 l k 0 hlt (.inl (by omega))
    have r1 := ri_cp0 l k 1 hlt (.inl (by omega))
    have r2 := ri_cp0 l k 2 hlt (.inl (by omega))
    rw [e1, Int.toNat_natCast, Int.toNat_natCast, rb_rows, rowsI_len]
    refine W.bindI (W.needI (by omega) (W.needI (by omega) (W.iteC (bl.getD (k + 1) false ≠ true) (by simp [-List.getD_eq_getElem?_getD]) (fun hb => W.retI (W.retI ?_)) fun hb => ?_)))
    · rw [if_neg hb] at hT
      exact ⟨⟨k + 1, now, acc, rfl, hlt, rfl, hnow, hacc, by omega, hsr, hnr, hT⟩, by show l.length - (((k + 1 : Nat) : Int)).toNat < l.length - (k : Int).toNat; omega⟩
    · have hb := Classical.not_not.1 hb
      rw [if_pos hb] at hT
      have ec : (l.map cpRow).getD k [] = cpRow (l.getD k []) := by
        rw [List.getD_eq_getElem?_getD, List.getD_eq_getElem?_getD, List.getElem?_map, List.getElem?_eq_getElem hlt]; rfl
      have fin : ∀ v3 : Int, v3 = (if ri l k 0 = 6 then now.getD (ri l k 2).toNat 0 else ri l k 2) →
          ((fun v3 : Int => W.need ((List.length rows + 1) * 208 ≤ 140737488355328) <|
            W.need (0 ≤ ((k + 1 : Nat) : Int) ∧ ((k + 1 : Nat) : Int) < (now.length : Int)) <|
            W.ret (List.set (rowsI now) (k + 1) [I (((rows ++ [toRow ((l.map cpRow).getD k []) (ri (rowsI now) (ri (l.map cpRow) k 1).toNat 0) v3 (rn (l.map cpRow) k 12) (rn (l.map cpRow) k 13) (rr (l.map cpRow) k 12) (rr (l.map cpRow) k 13)]).length : Int))], fl && false, rows ++ [toRow ((l.map cpRow).getD k []) (ri (rowsI now) (ri (l.map cpRow) k 1).toNat 0) v3 (rn (l.map cpRow) k 12) (rn (l.map cpRow) k 13) (rr (l.map cpRow) k 12) (rr (l.map cpRow) k 13)], ri (rowsI now) (ri (l.map cpRow) k 1).toNat 0, v3)) v3).run
          (fun v7 : Rws × Bool × Rws × Int × Int => (W.ret (α := (Int × Rws × Bool × Rws) ⊕ (Rws × Bool × Rws)) (Sum.inl (((k + 1 : Nat) : Int), v7.1, v7.2.1, v7.2.2.1))).run
            (W.on (fun s' : Int × Rws × Bool × Rws => (∃ (k : Nat) (now : List Int) (acc : List Opr), s'.1 = k ∧ k ≤ l.length ∧ s'.2.1 = rowsI now ∧ now.length = l.length + 1 ∧ sameOps acc (oprs s'.2.2.2) ∧ acc.length ≤ k ∧ short s'.2.2.2 ∧ nilOK s'.2.2.2 ∧
              trimT bl ((oprs l).drop k) k now acc = trimT bl (oprs l) 0 (List.replicate bl.length 0) []) ∧ l.length - s'.1.toNat < l.length - (k : Int).toNat)
              (fun v8 : Rws × Bool × Rws => ((fun v8 => W.need (0 ≤ out ∧ out < (↑(List.length v8.1) : Int)) <| W.ret (a, b, c, lo, hi, ri v8.1 out.toNat 0, 0, 0, 0, v8.2.1, v8.2.2)) v8).run R))) := fun v3 hv3 => by
        refine (W.needI (by omega) (W.needI (by omega) (W.retI (W.retI ⟨⟨k + 1, now.set (k + 1) ((acc.length : Int) + 1), acc ++ [(Opr.of (l.getD k [])).to now], rfl, hlt, ?_, by simp [hnow], ?_, by simp; omega, ?_, ?_, hT⟩, ?_⟩))))
        · show List.set (rowsI now) (k + 1) _ = _
          rw [rowsI_set, List.length_append, List.length_singleton, hrl]; rfl
        · show sameOps _ (oprs (rows ++ [toRow ((l.map cpRow).getD k []) (ri (rowsI now) (ri (l.map cpRow) k 1).toNat 0) v3 (rn (l.map cpRow) k 12) (rn (l.map cpRow) k 13) (rr (l.map cpRow) k 12) (rr (l.map cpRow) k 13)]))
          rw [oprs_app, hv3, ri_rows, r1]
          refine sameOps_app hacc ⟨⟨false, false, ?_⟩, trivial⟩
          rw [rn_eq, rn_eq, rr_eq, rr_eq, ec]
          exact of_toRow (cpRow (l.getD k [])) now false false
        · intro r hr
          rcases List.mem_append.1 hr with hr | hr
          · exact hsr r hr
          · simp only [List.mem_singleton] at hr; subst hr
            rw [rr_eq, rr_eq, ec]
            exact ⟨s1, s2⟩
        · intro r hr
          rcases List.mem_append.1 hr with hr | hr
          · exact hnr r hr
          · simp only [List.mem_singleton] at hr; subst hr
            rw [rn_eq, rn_eq, ec]
            exact ⟨fun h => absurd (show false = true from h) (by decide), fun h => absurd (show false = true from h) (by decide)⟩
        · show l.length - (((k + 1 : Nat) : Int)).toNat < l.length - (k : Int).toNat; omega
      refine W.needI (by rw [r1]; omega) (W.bindI (W.iteC (ri l k 0 = 6) (by rw [r0, Bool.eq_iff_iff, decide_eq_true_eq, beq_iff_eq]) (fun h6 => ?_) fun h6 => ?_))
      · have w2 := w2 h6
        exact W.needI (by rw [r2]; omega) (W.retI (fin (ri (rowsI now) (ri (l.map cpRow) k 2).toNat 0) (by rw [if_pos h6, ri_rows, r2])))
      · exact W.retI (fin (ri (l.map cpRow) k 2) (by rw [if_neg h6, r2]))
  · have hk' : k = l.length := by omega
    subst hk'
    rw [List.drop_eq_nil_of_le (by rw [oprs_len]; exact Nat.le_refl _), trimT_nil] at hT
    refine W.retI ?_
    show (W.need (0 ≤ out ∧ out < (↑(List.length (rowsI now)) : Int)) <| W.ret (a, b, c, lo, hi, ri (rowsI now) out.toNat 0, 0, 0, 0, fl, rows)).run R
    rw [rowsI_len, ri_rows]
    refine W.needI (by omega) (W.retI ?_)
    have e2 : now = (trimT bl (oprs l) 0 (List.replicate bl.length 0) []).1 := by rw [← hT]
    rw [e2]
    exact h1 fl rows ⟨by rw [← hT]; exact hacc, hsr, hnr, by omega⟩

theorem rdT_same {l m : List Opr} (h : sameOps l m) (k n : Nat) : rdT m k n → rdT l k n := by
  rintro ⟨p, hp, hr⟩
  have hk : k < m.length := (List.getElem?_eq_some_iff.1 hp).1
  have hk' : k < l.length := by rw [sameOps_len h]; exact hk
  obtain ⟨a, b, e⟩ := sameOps_get h (List.getElem?_eq_getElem hk') hp
  refine ⟨_, List.getElem?_eq_getElem hk', ?_⟩
  rw [e] at hr
  exact hr
theorem need_same {l m : List Opr} (h : sameOps l m) (out n : Nat) : need m out n ↔ need l out n :=
  ⟨fun hn S hS ho => hn S (fun k hk j hj => hS k hk j (rdT_same h k j hj)) ho, fun hn S hS ho => hn S (fun k hk j hj => hS k hk j (rdT_same (sameOps_symm h) k j hj)) ho⟩
theorem isNeed_same {l m : List Opr} (h : sameOps l m) {out : Nat} {bl : List Bool} (hb : isNeed m out bl) : isNeed l out bl :=
  ⟨by rw [sameOps_len h]; exact hb.1, fun n => (hb.2 n).trans (need_same h out n)⟩

theorem g_law24_TrimTrims_ok (a b c lo hi : Int) (nl : Bool) (l : Rws) (out : Int) (hl : l.length ≤ 676622540150) (hsh : short l) (hni : nilOK l) {R : Bool → Prop} (hR : R true) : (g_law24_TrimTrims a b c lo hi nl l out).run R := by
  unfold g_law24_TrimTrims
  have hsame := sameOps_cp l
  refine W.bindI (g_ref08_Copy_ok a b c lo hi nl l out hl hsh ?_)
  dsimp only
  have hl' : (l.map cpRow).length ≤ 676622540150 := by simpa using hl
  have hs' := short_cp hsh
  by_cases he : (look8 ⟨a, b, c⟩ lo hi (oprs l) out).err = 0
  · have he' : (look8 ⟨a, b, c⟩ lo hi (oprs (l.map cpRow)) out).err = 0 := by rw [look8_same hsame]; exact he
    have hN := (look8_wf he).1
    refine W.bindI (g_trim_Live_ok a b c lo hi nl l out hl hsh (fun q => absurd he q) fun _ bl hbl => ?_)
    refine W.bindI (g_trim_Trim_ok a b c lo hi nl l out hl hsh hni (fun q => absurd he q) fun _ bl1 f1 r1 hb1 ht1 => ?_)
    refine W.bindI (g_ref24_Live_ok a b c lo hi l.isEmpty (l.map cpRow) out hl' hs' (fun q => absurd he' q) fun _ bl2 hb2 f2 => ?_)
    refine W.bindI (g_ref24_Trim_ok a b c lo hi l.isEmpty (l.map cpRow) out hl' hs' (fun q => absurd he' q) fun _ bl3 f3 r3 hb3 ht3 => ?_)
    have q1 := isNeed_uniq hb1 hbl
    have q2 := isNeed_uniq (isNeed_same hsame hb2) hbl
    have q3 := isNeed_uniq (isNeed_same hsame hb3) hbl
    subst q1 q2 q3
    obtain ⟨t1, t2⟩ := trimT_same bl3 hsame 0 (List.replicate bl3.length 0) [] [] trivial
    refine W.bindI (W.bindI (g_law24_fixed_ok (W.iteT ?_ (W.bindI (g_ref24_Same_ok _ _ bl3 ?_ (W.iteT rfl (W.bindI ?_)))))))
    · simp
    · rw [hbl.1]; omega
    · dsimp only
      rw [t1]
      exact g_ref08_Same_ok _ _ _ _ _ _ _ _ _ _ (by have := ht1.2.2.2; omega) ht1.2.1 (sameOps_trans (sameOps_symm ht1.1) (sameOps_trans t2 ht3.1)) (W.iteT rfl (W.bindI (g_ref08_Same_ok _ _ _ _ _ _ _ _ _ _ hl hsh hsame (W.retI (W.retI hR)))))
  · have he' : (look8 ⟨a, b, c⟩ lo hi (oprs (l.map cpRow)) out).err ≠ 0 := by rw [look8_same hsame]; exact he
    refine W.bindI (g_trim_Live_ok a b c lo hi nl l out hl hsh (fun _ => ?_) fun q => absurd q he)
    refine W.bindI (g_trim_Trim_ok a b c lo hi nl l out hl hsh hni (fun _ => ?_) fun q => absurd q he)
    refine W.bindI (g_ref24_Live_ok a b c lo hi l.isEmpty (l.map cpRow) out hl' hs' (fun _ => ?_) fun q => absurd q he')
    refine W.bindI (g_ref24_Trim_ok a b c lo hi l.isEmpty (l.map cpRow) out hl' hs' (fun _ => ?_) fun q => absurd q he')
    rw [look8_same hsame]
    refine W.bindI (W.bindI (g_law24_fixed_ok (W.iteT (by simp) (W.bindI (g_ref24_Same_ok true true [] (by simp) (W.iteT rfl (W.bindI ?_)))))))
    dsimp only
    exact g_ref08_Same_ok _ _ _ _ _ _ _ _ [] [] (by simp) (fun r hr => by simp at hr) trivial (W.iteT rfl (W.bindI (g_ref08_Same_ok _ _ _ _ _ _ _ _ _ _ hl hsh hsame (W.retI (W.retI hR)))))
end Go.Proofs.Ytalchibbmkhkpaa.VX

set_option linter.unusedVariables false
set_option linter.unusedSimpArgs false
namespace Go.Proofs.Ytalchibbmkhkpaa.VX
/-- How many of the tensors from 1 to n are needed. -/
def rk (bl : List Bool) : Nat → Nat
  | 0 => 0
  | n + 1 => rk bl n + (if bl.getD (n + 1) false then 1 else 0)
theorem rk_succ (bl : List Bool) (n : Nat) : rk bl (n + 1) = rk bl n + (if bl.getD (n + 1) false then 1 else 0) := rfl
theorem rk_live {bl : List Bool} {n : Nat} (h : bl.getD (n + 1) false = true) : rk bl (n + 1) = rk bl n + 1 := by rw [rk_succ, if_pos h]
theorem rk_dead {bl : List Bool} {n : Nat} (h : ¬ bl.getD (n + 1) false = true) : rk bl (n + 1) = rk bl n := by rw [rk_succ, if_neg h]; rfl
theorem rk_le (bl : List Bool) : ∀ n, rk bl n ≤ n
  | 0 => Nat.le_refl _
  | n + 1 => by have := rk_le bl n; rw [rk_succ]; split <;> omega
theorem rk_mono (bl : List Bool) {m n : Nat} (h : m ≤ n) : rk bl m ≤ rk bl n := by
  induction h with
  | refl => exact Nat.le_refl _
  | step _ ih => rw [Nat.succ_eq_add_one, rk_succ]; omega
theorem rk_surj (bl : List Bool) : ∀ (N j : Nat), 1 ≤ j → j ≤ rk bl N → ∃ n, 1 ≤ n ∧ n ≤ N ∧ bl.getD n false = true ∧ rk bl n = j
  | 0, j, h1, h2 => by simp [rk] at h2; omega
  | N + 1, j, h1, h2 => by
    by_cases hb : bl.getD (N + 1) false = true
    · rw [rk_live hb] at h2
      by_cases hj : j ≤ rk bl N
      · obtain ⟨n, q1, q2, q3, q4⟩ := rk_surj bl N j h1 hj
        exact ⟨n, q1, by omega, q3, q4⟩
      · exact ⟨N + 1, by omega, Nat.le_refl _, hb, by rw [rk_live hb]; omega⟩
    · rw [rk_dead hb] at h2
      obtain ⟨n, q1, q2, q3, q4⟩ := rk_surj bl N j h1 h2
      exact ⟨n, q1, by omega, q3, q4⟩
def Opr.rn (o : Opr) (bl : List Bool) : Opr := { o with a := rk bl o.a.toNat, b := if o.kind = 6 then (rk bl o.b.toNat : Int) else o.b }
/-- The needed ops, by the numbers that their tensors get. -/
def trs (bl : List Bool) : List Opr → Nat → List Opr
  | [], _ => []
  | o :: r, i => if bl.getD (i + 1) false then o.rn bl :: trs bl r (i + 1) else trs bl r (i + 1)
theorem trs_cons (bl : List Bool) (o : Opr) (r : List Opr) (i : Nat) : trs bl (o :: r) i = if bl.getD (i + 1) false then o.rn bl :: trs bl r (i + 1) else trs bl r (i + 1) := rfl
theorem trs_len (bl : List Bool) : ∀ (ops : List Opr) (i : Nat), rk bl i + (trs bl ops i).length = rk bl (i + ops.length)
  | [], i => by simp [trs]
  | o :: r, i => by
    have := trs_len bl r (i + 1)
    rw [trs_cons, show i + (o :: r).length = i + 1 + r.length from by simp; omega, ← this]
    split
    · rename_i h; rw [rk_live h]; simp; omega
    · rename_i h; rw [rk_dead h]
theorem trs_get (bl : List Bool) : ∀ (ops : List Opr) (i k : Nat) (o : Opr), ops[k]? = some o → bl.getD (i + k + 1) false = true → (trs bl ops i)[rk bl (i + k) - rk bl i]? = some (o.rn bl)
  | [], _, _, _, h, _ => by simp at h
  | p :: r, i, 0, o, h, hb => by
    simp at h
    subst h
    rw [trs_cons, if_pos hb]; simp
  | p :: r, i, k + 1, o, h, hb => by
    have e : i + (k + 1) = i + 1 + k := by omega
    rw [e] at hb ⊢
    have := trs_get bl r (i + 1) k o (by simpa using h) hb
    have hm := rk_mono bl (m := i + 1) (n := i + 1 + k) (by omega)
    rw [trs_cons]
    split
    · rename_i h'
      rw [rk_live h'] at this hm
      rw [show rk bl (i + 1 + k) - rk bl i = rk bl (i + 1 + k) - (rk bl i + 1) + 1 from by omega, List.getElem?_cons_succ]
      exact this
    · rename_i h'
      rw [rk_dead h'] at this
      exact this
theorem trs_of (bl : List Bool) : ∀ (ops : List Opr) (i j : Nat) (p : Opr), (trs bl ops i)[j]? = some p → ∃ k o, ops[k]? = some o ∧ bl.getD (i + k + 1) false = true ∧ p = o.rn bl
  | [], _, _, _, h => by simp [trs] at h
  | q :: r, i, j, p, h => by
    rw [trs_cons] at h
    split at h
    · rename_i hb
      cases j with
      | zero => simp at h; subst h; exact ⟨0, q, rfl, hb, rfl⟩
      | succ j =>
        obtain ⟨k, o, h1, h2, h3⟩ := trs_of bl r (i + 1) j p (by simpa using h)
        exact ⟨k + 1, o, by simpa using h1, by rwa [show i + (k + 1) + 1 = i + 1 + k + 1 from by omega], h3⟩
    · obtain ⟨k, o, h1, h2, h3⟩ := trs_of bl r (i + 1) j p h
      exact ⟨k + 1, o, by simpa using h1, by rwa [show i + (k + 1) + 1 = i + 1 + k + 1 from by omega], h3⟩
/-- The reads of needed ops are needed. -/
def clB (bl : List Bool) (ops : List Opr) (i : Nat) : Prop := ∀ (k : Nat) (o : Opr), ops[k]? = some o → bl.getD (i + k + 1) false = true →
  ((0 ≤ o.a ∧ o.a.toNat ≤ i + k) ∧ (o.a.toNat = 0 ∨ bl.getD o.a.toNat false = true)) ∧ (o.kind = 6 → (0 ≤ o.b ∧ o.b.toNat ≤ i + k) ∧ (o.b.toNat = 0 ∨ bl.getD o.b.toNat false = true))
theorem clB_tail {bl : List Bool} {o : Opr} {r : List Opr} {i : Nat} (h : clB bl (o :: r) i) : clB bl r (i + 1) := fun k p hp hb => by
  have := h (k + 1) p (by simpa using hp) (by rwa [show i + (k + 1) + 1 = i + 1 + k + 1 from by omega])
  rwa [show i + (k + 1) = i + 1 + k from by omega] at this
theorem clB_need {ops : List Opr} {out : Nat} {bl : List Bool} (hw : wfT ops) (h : isNeed ops out bl) : clB bl ops 0 := fun k o ho hb => by
  obtain ⟨w1, w2⟩ := hw k o ho
  rw [Nat.zero_add] at hb ⊢
  have hn := (h.2 _).1 hb
  refine ⟨⟨by omega, .inr ((h.2 _).2 (need_rd hn ⟨o, ho, .inl (by omega)⟩))⟩, fun h6 => ?_⟩
  have := w2 h6
  exact ⟨by omega, .inr ((h.2 _).2 (need_rd hn ⟨o, ho, .inr ⟨h6, by omega⟩⟩))⟩
theorem getD_setI (l : List Int) (i n : Nat) (b : Int) (h : i < l.length) : (l.set i b).getD n 0 = if n = i then b else l.getD n 0 := by
  simp only [List.getD_eq_getElem?_getD, List.getElem?_set]
  by_cases e : i = n
  · subst e; simp [h]
  · rw [if_neg e, if_neg (Ne.symm e)]
theorem trimT_trs (bl : List Bool) : ∀ (ops : List Opr) (i : Nat) (now : List Int) (acc : List Opr), clB bl ops i → acc.length = rk bl i → i + ops.length < now.length → (∀ n, n ≤ i → (n = 0 ∨ bl.getD n false = true) → now.getD n 0 = (rk bl n : Int)) →
    (trimT bl ops i now acc).2 = acc ++ trs bl ops i ∧ ∀ n, n ≤ i + ops.length → (n = 0 ∨ bl.getD n false = true) → (trimT bl ops i now acc).1.getD n 0 = (rk bl n : Int)
  | [], i, now, acc, _, _, _, h => by simp only [trimT_nil, trs, List.append_nil, true_and]; simpa using h
  | o :: r, i, now, acc, hc, ha, hl, h => by
    rw [trimT_cons, trs_cons]
    simp only [List.length_cons] at hl ⊢
    split
    · rename_i hb
      obtain ⟨⟨c1, c2⟩, c3⟩ := hc 0 o rfl hb
      have e : o.to now = o.rn bl := by
        have h1 := h o.a.toNat c1.2 c2
        unfold Opr.to Opr.rn
        rw [h1]
        by_cases h6 : o.kind = 6
        · have c4 := c3 h6
          rw [if_pos h6, if_pos h6, h o.b.toNat c4.1.2 c4.2]
        · rw [if_neg h6, if_neg h6]
      have ih := trimT_trs bl r (i + 1) (now.set (i + 1) ((acc.length : Int) + 1)) (acc ++ [o.to now]) (clB_tail hc) (by rw [List.length_append, ha, rk_live hb]; rfl) (by simp; omega) (fun n hn hq => by
        rw [getD_setI _ _ _ _ (by omega)]
        split
        · rename_i en; rw [en, rk_live hb, ha]; rfl
        · exact h n (by omega) hq)
      rw [show i + (r.length + 1) = i + 1 + r.length from by omega]
      refine ⟨?_, ih.2⟩
      rw [ih.1, e, List.append_assoc]; rfl
    · rename_i hb
      have ih := trimT_trs bl r (i + 1) now acc (clB_tail hc) (by rw [ha, rk_dead hb]) (by omega) (fun n hn hq => by
        by_cases en : n = i + 1
        · subst en
          rcases hq with hq | hq
          · omega
          · exact absurd hq hb
        · exact h n (by omega) hq)
      rw [show i + (r.length + 1) = i + 1 + r.length from by omega]
      exact ih

theorem one_rn {o : Opr} {bl : List Bool} {S S' : List Shp} (h : (o.one S).2 = 0) (ha : S'.getD (rk bl o.a.toNat) default = S.getD o.a.toNat default) (hal : rk bl o.a.toNat < S'.length)
    (hb : o.kind = 6 → S'.getD (rk bl o.b.toNat) default = S.getD o.b.toNat default ∧ rk bl o.b.toNat < S'.length) : (o.rn bl).one S' = o.one S := by
  have ea : (o.rn bl).a.toNat = rk bl o.a.toNat := by show ((rk bl o.a.toNat : Nat) : Int).toNat = _; omega
  have hs : (o.rn bl).spare ↔ o.spare := by
    unfold Opr.spare Opr.rn
    dsimp only
    by_cases h6 : o.kind = 6
    · simp [h6]
    · simp [h6]
  obtain ⟨q1, _⟩ := one_ok h
  have q2 := one_b h
  have c1 : ¬ (((o.rn bl).a < 0 ∨ (S'.length : Int) ≤ (o.rn bl).a) ∨ (o.rn bl).kind = 6 ∧ ((o.rn bl).b < 0 ∨ (S'.length : Int) ≤ (o.rn bl).b)) := by
    show ¬ (((rk bl o.a.toNat : Int) < 0 ∨ (S'.length : Int) ≤ (rk bl o.a.toNat : Int)) ∨ o.kind = 6 ∧ ((if o.kind = 6 then (rk bl o.b.toNat : Int) else o.b) < 0 ∨ (S'.length : Int) ≤ (if o.kind = 6 then (rk bl o.b.toNat : Int) else o.b)))
    by_cases h6 : o.kind = 6
    · have := (hb h6).2
      rw [if_pos h6]; omega
    · omega
  have c2 : ¬ ((o.a < 0 ∨ (S.length : Int) ≤ o.a) ∨ o.kind = 6 ∧ (o.b < 0 ∨ (S.length : Int) ≤ o.b)) := by
    by_cases h6 : o.kind = 6
    · have := q2 h6; omega
    · omega
  unfold Opr.one
  rw [if_neg c1, if_neg c2, ea, ha]
  have eb : ((o.rn bl).kind = 6 ∧ S'.getD (o.rn bl).b.toNat default ≠ S.getD o.a.toNat default) ↔ (o.kind = 6 ∧ S.getD o.b.toNat default ≠ S.getD o.a.toNat default) := by
    show (o.kind = 6 ∧ S'.getD (if o.kind = 6 then (rk bl o.b.toNat : Int) else o.b).toNat default ≠ S.getD o.a.toNat default) ↔ _
    by_cases h6 : o.kind = 6
    · rw [if_pos h6, Int.toNat_natCast, (hb h6).1]
    · simp [h6]
  simp only [hs, eb]
  rfl
theorem walk8_trs (bl : List Bool) : ∀ (ops : List Opr) (i : Nat) (j j' w w' : Int) (S S' : List Shp), (walk8 ops j w S).err = 0 → clB bl ops i → S.length = i + 1 → S'.length = rk bl i + 1 → (∀ s ∈ S, s.ok) → w' ≤ w →
    (∀ n, n ≤ i → (n = 0 ∨ bl.getD n false = true) → S'.getD (rk bl n) default = S.getD n default) →
    (walk8 (trs bl ops i) j' w' S').err = 0 ∧ (walk8 (trs bl ops i) j' w' S').work ≤ (walk8 ops j w S).work
  | [], i, j, j', w, w', S, S', h, _, _, _, _, hw, _ => by simpa [walk8, trs] using hw
  | o :: r, i, j, j', w, w', S, S', h, hc, hl, hl', hok, hw, hS => by
    unfold walk8 at h
    split at h
    · rename_i h1; exact absurd h h1
    · rename_i h1
      split at h
      · simp at h
      · rename_i h2
        have h1' : (o.one S).2 = 0 := Classical.not_not.1 h1
        obtain ⟨p1, p2⟩ := step_ok hok h1
        rw [show walk8 (o :: r) j w S = walk8 r (j + 1) (w + o.labour (S.getD o.a.toNat default) (o.one S).1) (S ++ [(o.one S).1]) from by conv => lhs; unfold walk8; rw [if_neg h1, if_neg h2]]
        rw [trs_cons]
        split
        · rename_i hb
          obtain ⟨⟨c1, c2⟩, c3⟩ := hc 0 o rfl hb
          have ra := rk_mono bl c1.2
          have e := one_rn (bl := bl) (S' := S') h1' (hS _ c1.2 c2) (by rw [hl']; simp at ra; omega) (fun h6 => by
            have c4 := c3 h6
            have rb := rk_mono bl c4.1.2
            exact ⟨hS _ c4.1.2 c4.2, by rw [hl']; simp at rb; omega⟩)
          have ea : (o.rn bl).a.toNat = rk bl o.a.toNat := by show ((rk bl o.a.toNat : Nat) : Int).toNat = _; omega
          have elb : (o.rn bl).labour (S'.getD (o.rn bl).a.toNat default) ((o.rn bl).one S').1 = o.labour (S.getD o.a.toNat default) (o.one S).1 := by
            rw [e, ea, hS _ c1.2 c2]; rfl
          have ih := walk8_trs bl r (i + 1) (j + 1) (j' + 1) (w + o.labour (S.getD o.a.toNat default) (o.one S).1) (w' + o.labour (S.getD o.a.toNat default) (o.one S).1) (S ++ [(o.one S).1]) (S' ++ [(o.one S).1]) h (clB_tail hc)
            (by rw [List.length_append, hl]; rfl) (by rw [List.length_append, hl', rk_live hb]; rfl) p2 (by omega) (fun n hn hq => by
              by_cases en : n = i + 1
              · subst en
                rw [rk_live hb, ← hl', ← hl]
                simp [List.getD_eq_getElem?_getD]
              · have hn' : n ≤ i := by omega
                have rn := rk_mono bl hn'
                have := hS n hn' hq
                rw [List.getD_eq_getElem?_getD, List.getD_eq_getElem?_getD, List.getElem?_append_left (by omega), List.getElem?_append_left (by omega)]
                rwa [List.getD_eq_getElem?_getD, List.getD_eq_getElem?_getD] at this)
          have eW : walk8 (o.rn bl :: trs bl r (i + 1)) j' w' S' = walk8 (trs bl r (i + 1)) (j' + 1) (w' + o.labour (S.getD o.a.toNat default) (o.one S).1) (S' ++ [(o.one S).1]) := by
            conv => lhs; unfold walk8
            rw [elb, e, if_neg h1, if_neg (by omega)]
          rw [eW]
          exact ih
        · rename_i hb
          exact walk8_trs bl r (i + 1) (j + 1) j' _ w' (S ++ [(o.one S).1]) S' h (clB_tail hc) (by rw [List.length_append, hl]; rfl) (by rw [hl', rk_dead hb]) p2 (by omega) (fun n hn hq => by
            by_cases en : n = i + 1
            · subst en
              rcases hq with hq | hq
              · omega
              · exact absurd hq hb
            · have hn' : n ≤ i := by omega
              rw [hS n hn' hq, List.getD_eq_getElem?_getD, List.getD_eq_getElem?_getD, List.getElem?_append_left (by omega)])
theorem look8_trs {s : Shp} {lo hi : Int} {ops : List Opr} {out : Int} {bl : List Bool} (h : (look8 s lo hi ops out).err = 0) (hb : isNeed ops out.toNat bl) :
    (look8 s lo hi (trs bl ops 0) (rk bl out.toNat)).err = 0 ∧ (look8 s lo hi (trs bl ops 0) (rk bl out.toNat)).work ≤ (look8 s lo hi ops out).work := by
  obtain ⟨hN, ho, hw⟩ := look8_wf h
  have hc := clB_need hw hb
  have hl := trs_len bl ops 0
  simp only [rk, Nat.zero_add] at hl
  have hr := rk_le bl ops.length
  have ho' := rk_mono bl (m := out.toNat) (n := ops.length) (by omega)
  unfold look8 at h ⊢
  split at h
  · simp at h
  · rename_i h1
    split at h
    · simp at h
    · rename_i h2
      split at h
      · simp at h
      · rename_i h3
        split at h
        · simp at h
        · rename_i h4
          rw [if_neg h1, if_neg h2, if_neg (by omega), if_neg (by omega), if_neg h1, if_neg h2, if_neg h3, if_neg h4]
          refine walk8_trs bl ops 0 0 0 0 0 [s] [s] h hc rfl rfl (fun x hx => ?_) (Int.le_refl _) (fun n hn _ => ?_)
          · simp at hx; subst hx; exact Classical.not_not.1 h1
          · have : n = 0 := by omega
            subst this; rfl
/-- All of the trimmed model's tensors are needed. -/
theorem need_trs {ops : List Opr} {out : Nat} {bl : List Bool} (hw : wfT ops) (ho : out ≤ ops.length) (hb : isNeed ops out bl) {n : Nat} (hn : need ops out n) : need (trs bl ops 0) (rk bl out) (rk bl n) := by
  refine (hn (fun n => need ops out n ∧ need (trs bl ops 0) (rk bl out) (rk bl n)) (fun k hk m hr => ?_) ⟨need_out _ _, need_out _ _⟩).2
  obtain ⟨k1, k2⟩ := hk
  have hlive := (hb.2 _).2 k1
  refine ⟨need_rd k1 hr, ?_⟩
  rw [rk_live hlive] at k2
  refine need_rd k2 ?_
  obtain ⟨o, h1, h2⟩ := hr
  have := trs_get bl ops 0 k o h1 (by rwa [Nat.zero_add])
  rw [Nat.zero_add] at this
  refine ⟨o.rn bl, by simpa [rk] using this, ?_⟩
  rcases h2 with h2 | ⟨h6, h2⟩
  · left; show ((rk bl o.a.toNat : Nat) : Int) = _; rw [h2, Int.toNat_natCast]
  · right; refine ⟨h6, ?_⟩; show (if o.kind = 6 then (rk bl o.b.toNat : Int) else o.b) = _; rw [if_pos h6, h2, Int.toNat_natCast]
theorem live_trs {ops : List Opr} {out : Nat} {bl bl2 : List Bool} (hw : wfT ops) (ho : out ≤ ops.length) (hb : isNeed ops out bl) (hb2 : isNeed (trs bl ops 0) (rk bl out) bl2) {n : Nat} (h1 : 1 ≤ n) (h2 : n ≤ (trs bl ops 0).length) : bl2.getD n false = true := by
  have hl := trs_len bl ops 0
  simp only [rk, Nat.zero_add] at hl
  obtain ⟨k, q1, q2, q3, q4⟩ := rk_surj bl ops.length n h1 (by omega)
  rw [hb2.2, ← q4]
  exact need_trs hw ho hb ((hb.2 _).1 q3)
theorem rk_all {bl : List Bool} {M : Nat} (h : ∀ n, 1 ≤ n → n ≤ M → bl.getD n false = true) : ∀ n, n ≤ M → rk bl n = n
  | 0, _ => rfl
  | n + 1, hn => by rw [rk_live (h (n + 1) (by omega) hn), rk_all h n (by omega)]
theorem trs_all {bl : List Bool} {M : Nat} (h : ∀ n, 1 ≤ n → n ≤ M → bl.getD n false = true) : ∀ (ops : List Opr) (i : Nat), i + ops.length ≤ M → (∀ (k : Nat) (o : Opr), ops[k]? = some o → (0 ≤ o.a ∧ o.a ≤ i + k) ∧ (o.kind = 6 → 0 ≤ o.b ∧ o.b ≤ i + k)) → trs bl ops i = ops
  | [], _, _, _ => rfl
  | o :: r, i, hl, hw => by
    simp only [List.length_cons] at hl
    rw [trs_cons, if_pos (h (i + 1) (by omega) (by omega)), trs_all h r (i + 1) (by omega) (fun k p hp => by
      have := hw (k + 1) p (by simpa using hp)
      exact ⟨by omega, fun h6 => by have := this.2 h6; omega⟩)]
    congr 1
    obtain ⟨w1, w2⟩ := hw 0 o rfl
    unfold Opr.rn
    rw [rk_all h _ (by omega)]
    by_cases h6 : o.kind = 6
    · have := w2 h6
      rw [if_pos h6, rk_all h _ (by omega), Int.toNat_of_nonneg (by omega), Int.toNat_of_nonneg (by omega)]
    · rw [if_neg h6, Int.toNat_of_nonneg (by omega)]

theorem g_law24_TrimTwice_ok (a b c lo hi : Int) (nl : Bool) (l : Rws) (out : Int) (hl : l.length ≤ 676622540150) (hsh : short l) (hni : nilOK l) {R : Bool → Prop} (hR : R true) : (g_law24_TrimTwice a b c lo hi nl l out).run R := by
  unfold g_law24_TrimTwice
  refine W.bindI (g_law24_fixed_ok (W.iteF rfl ?_))
  by_cases he : (look8 ⟨a, b, c⟩ lo hi (oprs l) out).err = 0
  · obtain ⟨hN, ho, hw⟩ := look8_wf he
    rw [oprs_len] at hN ho
    refine W.bindI (g_trim_Live_ok a b c lo hi nl l out hl hsh (fun q => absurd he q) fun _ bl hbl => ?_)
    refine W.bindI (g_trim_Trim_ok a b c lo hi nl l out hl hsh hni (fun q => absurd he q) fun _ bl1 f1 rows hb1 ht => W.iteF rfl ?_)
    have q1 := isNeed_uniq hb1 hbl
    subst q1
    have hbll : bl1.length = l.length + 1 := by have := hbl.1; rwa [oprs_len] at this
    obtain ⟨t1, t2⟩ := trimT_trs bl1 (oprs l) 0 (List.replicate bl1.length 0) [] (clB_need hw hbl) rfl (by rw [oprs_len, List.length_replicate]; omega) (fun n hn _ => by
      have : n = 0 := by omega
      subst this
      rw [List.getD_eq_getElem?_getD, List.getElem?_replicate]; simp [rk]; split <;> rfl)
    simp only [List.nil_append] at t1
    rw [oprs_len, Nat.zero_add] at t2
    have eo := t2 out.toNat (by omega) (.inr ((hbl.2 _).2 (need_out _ _)))
    obtain ⟨hts, htr, htn, htl⟩ := ht
    rw [t1] at hts
    rw [eo]
    obtain ⟨hte, htw⟩ := look8_trs he hbl
    have hte' : (look8 ⟨a, b, c⟩ lo hi (oprs rows) (rk bl1 out.toNat)).err = 0 := by rw [look8_same hts]; exact hte
    have hrl : rows.length = (trs bl1 (oprs l) 0).length := by have := sameOps_len hts; rw [oprs_len] at this; exact this.symm
    have htl2 := trs_len bl1 (oprs l) 0
    simp only [rk, Nat.zero_add, oprs_len] at htl2
    have hrk := rk_le bl1 l.length
    dsimp only
    refine W.bindI (g_model_Work_v a b c lo hi nl l out hl hsh ?_)
    refine W.bindI (g_model_Work_v a b c lo hi f1 rows (rk bl1 out.toNat) (by omega) htr ?_)
    refine W.bindI (g_trim_Live_ok a b c lo hi f1 rows (rk bl1 out.toNat) (by omega) htr (fun q => absurd hte' q) fun _ bl2 hbl2 => ?_)
    refine W.bindI (g_trim_Trim_ok a b c lo hi f1 rows (rk bl1 out.toNat) (by omega) htr htn (fun q => absurd hte' q) fun _ bl3 f3 rows3 hb3 ht3 => ?_)
    have q3 := isNeed_uniq hb3 hbl2
    subst q3
    rw [Int.toNat_natCast] at hbl2
    have hbl2' := isNeed_same hts hbl2
    have hall : ∀ n, 1 ≤ n → n ≤ rows.length → bl3.getD n false = true := fun n h1 h2 => live_trs hw (by rw [oprs_len]; omega) hbl hbl2' h1 (by omega)
    have hb3l : bl3.length = rows.length + 1 := by have := hbl2.1; rwa [oprs_len] at this
    obtain ⟨hN3, ho3, hw3⟩ := look8_wf hte'
    obtain ⟨s1, s2⟩ := trimT_trs bl3 (oprs rows) 0 (List.replicate bl3.length 0) [] (clB_need hw3 hbl2) rfl (by rw [oprs_len, List.length_replicate]; omega) (fun n hn _ => by
      have : n = 0 := by omega
      subst this
      rw [List.getD_eq_getElem?_getD, List.getElem?_replicate]; simp [rk]; split <;> rfl)
    simp only [List.nil_append] at s1
    rw [oprs_len, Nat.zero_add] at s2
    have ho4 := rk_mono bl1 (m := out.toNat) (n := l.length) (by omega)
    have eo3 := s2 (rk bl1 out.toNat) (by omega) (.inr ((hbl2.2 _).2 (need_out _ _)))
    rw [trs_all hall (oprs rows) 0 (by rw [oprs_len]; omega) (fun k o h => by have := hw3 k o h; simpa using this)] at s1
    obtain ⟨hts3, htr3, htn3, htl3⟩ := ht3
    rw [s1] at hts3
    rw [Int.toNat_natCast, eo3, rk_all hall _ (by omega)]
    have ework : (look8 ⟨a, b, c⟩ lo hi (oprs rows) (rk bl1 out.toNat)).work ≤ (look8 ⟨a, b, c⟩ lo hi (oprs l) out).work := by rw [look8_same hts]; exact htw
    refine W.bindI (W.iteF ?_ (W.bindI (g_ref08_Same_ok a b c lo hi _ f1 f3 rows rows3 (by omega) htr hts3 (W.retI (W.iteF ?_ ?_)))))
    · simp only [hte']
      simp
      omega
    · rw [rowsL_len, rowsL_len, hb3l, hbll, wrap64_in (by omega) (by omega), wrap64_in (by omega) (by omega)]
      simp
    · rw [rowsL_len, hbll]
      refine W.needI (by omega) (W.bindI (W.loop_inv (fun v : Int × Int => ∃ k : Nat, v = ((rk bl1 k : Int), (k : Int)) ∧ k ≤ l.length) (fun v => l.length - v.2.toNat) ?_ ⟨0, rfl, Nat.zero_le _⟩))
      rintro _ ⟨k, rfl, hk⟩
      dsimp only
      have hk2 := rk_le bl1 k
      refine W.iteC (k < l.length) (by rw [decide_eq_decide]; omega) (fun hlt => W.bindI (W.needI (by omega) ?_)) fun hge => ?_
      · rw [Int.toNat_natCast, rb_rows, show 1 + k = k + 1 from by omega, wrap64_in (x := (rk bl1 k : Int) + 1) (by omega) (by omega), wrap64_in (x := (k : Int) + 1) (by omega) (by omega)]
        refine W.iteC (bl1.getD (k + 1) false = true) (by simp [-List.getD_eq_getElem?_getD]) (fun hb => W.retI (W.retI ⟨⟨k + 1, by rw [rk_live hb]; rfl, hlt⟩, ?_⟩)) fun hb => W.retI (W.retI ⟨⟨k + 1, by rw [rk_dead hb]; rfl, hlt⟩, ?_⟩)
        · show l.length - ((k : Int) + 1).toNat < l.length - (k : Int).toNat; omega
        · show l.length - ((k : Int) + 1).toNat < l.length - (k : Int).toNat; omega
      · have hk' : k = l.length := by omega
        subst hk'
        refine W.retI ?_
        rw [rowsL_len, hb3l]
        refine W.needI (by omega) (W.bindI (W.loop_inv (fun v : Int => ∃ k : Nat, v = k ∧ k ≤ rows.length) (fun v => rows.length - v.toNat) ?_ ⟨0, rfl, Nat.zero_le _⟩))
        rintro _ ⟨k, rfl, hk⟩
        refine W.iteC (k < rows.length) (by rw [decide_eq_decide]; omega) (fun hlt => W.needI (by omega) ?_) fun hge => ?_
        · rw [Int.toNat_natCast, rb_rows, show 1 + k = k + 1 from by omega, hall (k + 1) (by omega) hlt, wrap64_in (x := (k : Int) + 1) (by omega) (by omega)]
          exact W.iteF rfl (W.retI ⟨⟨k + 1, rfl, hlt⟩, by show rows.length - ((k : Int) + 1).toNat < rows.length - (k : Int).toNat; omega⟩)
        · refine W.retI (W.retI (W.needI (fun _ => by omega) (W.retI ?_)))
          rw [rb_rows, (hbl.2 _).2 (need_out _ _), hrl, show (rk bl1 l.length : Int) = ((trs bl1 (oprs l) 0).length : Int) from by omega]
          simpa using hR
  · refine W.bindI (g_trim_Live_ok a b c lo hi nl l out hl hsh (fun _ => ?_) fun q => absurd q he)
    refine W.bindI (g_trim_Trim_ok a b c lo hi nl l out hl hsh hni (fun _ => ?_) fun q => absurd q he)
    refine W.iteT (by simp [he]) (W.bindI (W.iteT (by simp) (W.bindI (g_model_Check_v a b c lo hi nl l out hl hsh (W.retI (W.retI ?_))))))
    simpa using hR
end Go.Proofs.Ytalchibbmkhkpaa.VX
