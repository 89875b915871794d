/- Layer 8's functions in plain form: shapes and windows. -/
import Derived.Test.YtgeedlfnjneeiaaGreatVS
import Derived.IntWalk
import Derived.Test.YtgeedlfnjneeiaaGreatVX1
set_option linter.unusedVariables false
set_option linter.unusedSimpArgs false
namespace Go.Proofs.YtgeedlfnjneeiaaGreat.VX
def cI (r : List AV) (j : Nat) : Int := (r.getD j .dead).toInt
def cN (r : List AV) (j : Nat) : Bool := (r.getD j .dead).toNil
def cR (r : List AV) (j : Nat) : Rws := (r.getD j .dead).toRows
theorem ri_eq (l : Rws) (i j : Nat) : ri l i j = cI (l.getD i []) j := rfl
theorem rr_eq (l : Rws) (i j : Nat) : rr l i j = cR (l.getD i []) j := rfl
theorem wrap64_in {x : Int} (h : -9223372036854775808 ≤ x) (h' : x ≤ 9223372036854775807) : IntKind.i64.wrap x = x := by
  rw [IntKind.wrap_i64]; omega
theorem W.bindI {α β : Type} {x : W α} {f : α → W β} {R : β → Prop} (h : x.run fun a => (f a).run R) : (W.bind x f).run R := h
structure Shp where
  h : Int
  w : Int
  c : Int
  deriving DecidableEq, Inhabited
def Shp.ok (s : Shp) : Prop := (1 ≤ s.h ∧ s.h ≤ 1024) ∧ (1 ≤ s.w ∧ s.w ≤ 1024) ∧ (1 ≤ s.c ∧ s.c ≤ 1024) ∧ s.h * s.w * s.c ≤ 16384
instance (s : Shp) : Decidable s.ok := by unfold Shp.ok; infer_instance
theorem mul_bd {a b A B : Int} (ha : 0 ≤ a) (hA : a ≤ A) (hb : 0 ≤ b) (hB : b ≤ B) : 0 ≤ a * b ∧ a * b ≤ A * B :=
  ⟨Int.mul_nonneg ha hb, Int.mul_le_mul hA hB hb (Int.le_trans ha hA)⟩
theorem prod3 {a b c : Int} (ha : 1 ≤ a ∧ a ≤ 1024) (hb : 1 ≤ b ∧ b ≤ 1024) (hc : 1 ≤ c ∧ c ≤ 1024) : 0 ≤ a * b ∧ a * b ≤ 1048576 ∧ 0 ≤ a * b * c ∧ a * b * c ≤ 1073741824 := by
  have h1 := mul_bd (A := 1024) (B := 1024) (by omega : 0 ≤ a) (by omega) (by omega : 0 ≤ b) (by omega)
  have h2 := mul_bd (A := 1048576) (B := 1024) h1.1 (by omega) (by omega : 0 ≤ c) (by omega)
  exact ⟨h1.1, by omega, h2.1, by omega⟩
theorem g_ref05_dim_ok (a : Int) {R : Bool → Prop} (h : R (decide (1 ≤ a ∧ a ≤ 1024))) : (g_ref05_dim a).run R := by
  unfold g_ref05_dim
  simpa using h
theorem g_ref05_Valid_ok (a b c : Int) {R : Bool → Prop} (h : R (decide (Shp.ok ⟨a, b, c⟩))) : (g_ref05_Valid a b c).run R := by
  unfold g_ref05_Valid
  refine W.bindI ?_
  refine W.bindI (g_ref05_dim_ok _ ?_)
  simp only [W.run_ite, decide_eq_true_eq]
  split
  · rename_i h1
    refine W.bindI (g_ref05_dim_ok _ ?_)
    simp only [W.run_ite, decide_eq_true_eq]
    split
    · rename_i h2
      refine W.bindI (g_ref05_dim_ok _ ?_)
      simp only [W.run_ret]
      refine cast (congrArg R ?_) h
      by_cases h3 : 1 ≤ c ∧ c ≤ 1024
      · obtain ⟨q1, q2, q3, q4⟩ := prod3 h1 h2 h3
        rw [wrap64_in (x := a * b) (by omega) (by omega), wrap64_in (by omega) (by omega)]
        simp [Shp.ok, h1, h2, h3]
      · simp [Shp.ok, h3]
    · rename_i h2
      simpa [Shp.ok, h2] using h
  · rename_i h1
    simpa [Shp.ok, h1] using h
theorem g_shape_Elems_ok (a b c : Int) {R : Int × Int → Prop} (h : R (if Shp.ok ⟨a, b, c⟩ then (a * b * c, 0) else (0, 50))) : (g_shape_Elems a b c).run R := by
  unfold g_shape_Elems
  simp only [W.run_ite, W.run_ret, Bool.or_eq_true, decide_eq_true_eq]
  by_cases h1 : 1 ≤ a ∧ a ≤ 1024
  · by_cases h2 : 1 ≤ b ∧ b ≤ 1024
    · by_cases h3 : 1 ≤ c ∧ c ≤ 1024
      · obtain ⟨q1, q2, q3, q4⟩ := prod3 h1 h2 h3
        rw [if_neg (by omega), if_neg (by omega), if_neg (by omega), Int.one_mul, wrap64_in (x := a) (by omega) (by omega), wrap64_in (x := a * b) (by omega) (by omega), wrap64_in (x := a * b * c) (by omega) (by omega)]
        split
        · rwa [if_neg (by simp only [Shp.ok]; omega)] at h
        · rwa [if_pos (by simp only [Shp.ok]; omega)] at h
      · rw [if_neg (by omega), if_neg (by omega), if_pos (by omega)]
        rwa [if_neg (by simp [Shp.ok, h3])] at h
    · rw [if_neg (by omega), if_pos (by omega)]
      rwa [if_neg (by simp [Shp.ok, h2])] at h
  · rw [if_pos (by omega)]
    rwa [if_neg (by simp [Shp.ok, h1])] at h
theorem W.iteT {α : Type} {b : Bool} {x y : W α} {R : α → Prop} (hb : b = true) (h : x.run R) : (W.ite b x y).run R := ⟨fun _ => h, fun e => (by rw [hb] at e; cases e)⟩
theorem W.iteF {α : Type} {b : Bool} {x y : W α} {R : α → Prop} (hb : b = false) (h : y.run R) : (W.ite b x y).run R := ⟨fun e => (by rw [hb] at e; cases e), fun _ => h⟩
theorem W.needI {α : Type} {c : Prop} {x : W α} {R : α → Prop} (hc : c) (h : x.run R) : (W.need c x).run R := ⟨hc, h⟩
theorem W.retI {α : Type} {a : α} {R : α → Prop} (h : R a) : (W.ret a).run R := h
theorem W.retE {α : Type} {a b : α} {R : α → Prop} (h : R b) (e : a = b) : (W.ret a).run R := e ▸ h
theorem W.iteC {α : Type} {b : Bool} {x y : W α} {R : α → Prop} (c : Prop) [Decidable c] (hb : b = decide c) (hx : c → x.run R) (hy : ¬ c → y.run R) : (W.ite b x y).run R :=
  ⟨fun e => hx (by rw [hb] at e; simpa using e), fun e => hy (by rw [hb] at e; simpa using e)⟩
structure Win where
  kh : Int
  kw : Int
  sh : Int
  sw : Int
  top : Int
  left : Int
  bottom : Int
  right : Int
  deriving DecidableEq
def sideOK (k s t b : Int) : Prop := (1 ≤ k ∧ k ≤ 32) ∧ (1 ≤ s ∧ s ≤ 32) ∧ (0 ≤ t ∧ t ≤ k - 1) ∧ (0 ≤ b ∧ b ≤ k - 1)
instance (k s t b : Int) : Decidable (sideOK k s t b) := by unfold sideOK; infer_instance
def Win.ok (w : Win) : Prop := sideOK w.kh w.sh w.top w.bottom ∧ sideOK w.kw w.sw w.left w.right
instance (w : Win) : Decidable w.ok := by unfold Win.ok; infer_instance
def places (n k s : Int) : Int := if n - k < 0 then 0 else (n - k) / s + 1
def wout (s : Shp) (w : Win) : Int × Int × Int :=
  if ¬ s.ok then (0, 0, 50) else if ¬ w.ok then (0, 0, 60)
  else if places (s.h + w.top + w.bottom) w.kh w.sh = 0 ∨ places (s.w + w.left + w.right) w.kw w.sw = 0 then (0, 0, 60)
  else (places (s.h + w.top + w.bottom) w.kh w.sh, places (s.w + w.left + w.right) w.kw w.sw, 0)
theorem places_zero {n k s : Int} (hs : 1 ≤ s) : places n k s = 0 ↔ n - k < 0 := by
  unfold places
  split
  · simp [*]
  · rename_i h
    have := Int.ediv_nonneg (a := n - k) (b := s) (by omega) (by omega)
    omega
theorem places_bd {n k s : Int} (hs : 1 ≤ s) (hk : 1 ≤ k) : 0 ≤ places n k s ∧ (0 ≤ n → places n k s ≤ n) := by
  unfold places
  split
  · exact ⟨Int.le_refl _, fun h => h⟩
  · rename_i h
    have h1 := Int.ediv_nonneg (a := n - k) (b := s) (by omega) (by omega)
    have h2 := Int.ediv_le_self (a := n - k) s (by omega)
    omega
theorem g_window_within_ok (a b c : Int) {R : Bool → Prop} (h : R (decide (b ≤ a ∧ a ≤ c))) : (g_window_within a b c).run R := by
  unfold g_window_within
  simpa using h
theorem g_ref06_in_ok (a b c : Int) {R : Bool → Prop} (h : R (decide (b ≤ a ∧ a ≤ c))) : (g_ref06_in a b c).run R := by
  unfold g_ref06_in
  simpa using h
theorem g_window_side_ok (k s t b : Int) {R : Bool → Prop} (h : R (decide (sideOK k s t b))) : (g_window_side k s t b).run R := by
  unfold g_window_side
  refine W.bindI (W.bindI (g_window_within_ok _ _ _ (W.iteC _ rfl (fun h1 => ?_) fun h1 => ?_)))
  · refine W.bindI (g_window_within_ok _ _ _ (W.iteC _ rfl (fun h2 => ?_) fun h2 => ?_))
    · rw [wrap64_in (x := k - 1) (by omega) (by omega)]
      refine W.bindI (g_window_within_ok _ _ _ (W.iteC _ rfl (fun h3 => ?_) fun h3 => ?_))
      · refine W.bindI (g_window_within_ok _ _ _ ?_)
        simpa [sideOK, h1, h2, h3] using h
      · simpa [sideOK, h1, h2, h3] using h
    · simpa [sideOK, h1, h2] using h
  · simpa [sideOK, h1] using h
theorem g_window_Valid_ok (w : Win) {R : Bool → Prop} (h : R (decide w.ok)) : (g_window_Valid w.kh w.kw w.sh w.sw w.top w.left w.bottom w.right).run R := by
  unfold g_window_Valid
  refine W.bindI (W.bindI (g_window_side_ok _ _ _ _ (W.iteC _ rfl (fun h1 => ?_) fun h1 => ?_)))
  · refine W.bindI (g_window_side_ok _ _ _ _ ?_)
    simpa [Win.ok, h1] using h
  · simpa [Win.ok, h1] using h
theorem g_ref06_Valid_ok (w : Win) {R : Bool → Prop} (h : R (decide w.ok)) : (g_ref06_Valid w.kh w.kw w.sh w.sw w.top w.left w.bottom w.right).run R := by
  unfold g_ref06_Valid
  have no : ∀ {Q : Bool → Prop}, ¬ w.ok → (Q (decide w.ok)) → Q false := fun hn q => by simpa [hn] using q
  refine W.bindI (W.bindI (g_ref06_in_ok _ _ _ (W.iteC _ rfl (fun h1 => ?_) fun h1 => no (by unfold Win.ok sideOK; omega) h)))
  refine W.bindI (g_ref06_in_ok _ _ _ (W.iteC _ rfl (fun h2 => ?_) fun h2 => no (by unfold Win.ok sideOK; omega) h))
  refine W.bindI (g_ref06_in_ok _ _ _ (W.iteC _ rfl (fun h3 => ?_) fun h3 => no (by unfold Win.ok sideOK; omega) h))
  refine W.bindI (g_ref06_in_ok _ _ _ (W.iteC _ rfl (fun h4 => ?_) fun h4 => no (by unfold Win.ok sideOK; omega) h))
  rw [wrap64_in (x := w.kh - 1) (by omega) (by omega), wrap64_in (x := w.kw - 1) (by omega) (by omega)]
  refine W.bindI (g_ref06_in_ok _ _ _ (W.iteC _ rfl (fun h5 => ?_) fun h5 => no (by unfold Win.ok sideOK; omega) h))
  refine W.bindI (g_ref06_in_ok _ _ _ (W.iteC _ rfl (fun h6 => ?_) fun h6 => no (by unfold Win.ok sideOK; omega) h))
  refine W.bindI (g_ref06_in_ok _ _ _ (W.iteC _ rfl (fun h7 => ?_) fun h7 => no (by unfold Win.ok sideOK; omega) h))
  refine W.bindI (g_ref06_in_ok _ _ _ ?_)
  refine cast (congrArg R ?_) h
  rw [decide_eq_decide]
  unfold Win.ok sideOK
  omega
theorem g_ref06_count_ok (n k s : Int) (hk : 1 ≤ k ∧ k ≤ 32) (hs : 1 ≤ s ∧ s ≤ 32) (hn : -1000000 ≤ n ∧ n ≤ 1000000) {R : Int → Prop} (h : R (places n k s)) : (g_ref06_count n k s).run R := by
  unfold g_ref06_count
  refine W.bindI (W.loop_inv (fun v : Int × Int => v.2 = v.1 * s ∧ 0 ≤ v.1 ∧ 0 ≤ v.2 ∧ v.2 ≤ 1000100 ∧ (v.1 = 0 ∨ v.2 - s + k ≤ n)) (fun v => (1000200 - v.2).toNat) (fun v hv => ?_) ⟨by simp, by simp, by simp, by simp, .inl rfl⟩)
  obtain ⟨c, p⟩ := v
  obtain ⟨h1, h2, h3, h4, h5⟩ := hv
  dsimp only at h1 h2 h3 h4 h5 ⊢
  rw [wrap64_in (x := p + k) (by omega) (by omega)]
  have hcp : c ≤ p := by rw [h1]; have := Int.mul_le_mul_of_nonneg_left (a := 1) (b := s) (c := c) hs.1 h2; omega
  refine W.iteC (p + k ≤ n) rfl (fun hle => ?_) fun hgt => ?_
  · rw [wrap64_in (x := c + 1) (by omega) (by omega), wrap64_in (x := p + s) (by omega) (by omega)]
    refine ⟨⟨?_, by dsimp only; omega, by dsimp only; omega, by dsimp only; omega, .inr (by dsimp only; omega)⟩, by dsimp only; omega⟩
    dsimp only
    rw [h1, Int.add_mul, Int.one_mul]
  · refine W.retI (W.retE h ?_)
    unfold places
    split
    · rename_i hneg
      rcases h5 with h5 | h5
      · exact h5
      · by_cases hc : c = 0
        · exact hc
        · have := Int.mul_le_mul_of_nonneg_right (a := 1) (b := c) (c := s) (by omega) (by omega)
          rw [← h1] at this
          omega
    · rename_i hpos
      have hc : c ≠ 0 := fun e => by rw [e] at h1; omega
      have hp : p - s ≤ n - k := by omega
      have e1 : c - 1 ≤ (n - k) / s := by
        refine Int.le_ediv_of_mul_le (by omega) ?_
        rw [Int.sub_mul, Int.one_mul, ← h1]; exact hp
      have e2 : (n - k) / s < c := by
        refine Int.ediv_lt_of_lt_mul (by omega) ?_
        rw [← h1]; omega
      omega
theorem g_ref06_Out_ok (s : Shp) (w : Win) {R : Int × Int × Int → Prop} (h : R (wout s w)) : (g_ref06_Out s.h s.w s.c w.kh w.kw w.sh w.sw w.top w.left w.bottom w.right).run R := by
  unfold g_ref06_Out
  refine W.bindI (g_ref05_Valid_ok _ _ _ (W.iteC (¬ s.ok) (by simp) (fun h1 => ?_) fun h1 => ?_))
  · simpa [wout, h1] using h
  · refine W.bindI (g_ref06_Valid_ok _ (W.iteC (¬ w.ok) (by simp) (fun h2 => ?_) fun h2 => ?_))
    · have h1 : s.ok := by simpa using h1
      simpa [wout, h1, h2] using h
    · have h1 : s.ok := by simpa using h1
      have h2 : w.ok := by simpa using h2
      have g1 := h1
      have g2 := h2
      unfold Shp.ok at g1
      unfold Win.ok sideOK at g2
      rw [wrap64_in (x := s.h + w.top) (by omega) (by omega), wrap64_in (x := s.h + w.top + w.bottom) (by omega) (by omega), wrap64_in (x := s.w + w.left) (by omega) (by omega), wrap64_in (x := s.w + w.left + w.right) (by omega) (by omega)]
      refine W.bindI (g_ref06_count_ok _ _ _ (by omega) (by omega) (by omega) (W.bindI (g_ref06_count_ok _ _ _ (by omega) (by omega) (by omega) ?_)))
      refine W.iteC (places (s.h + w.top + w.bottom) w.kh w.sh = 0 ∨ places (s.w + w.left + w.right) w.kw w.sw = 0) (by rw [Bool.decide_or]; rfl) (fun h3 => ?_) fun h3 => ?_
      · simpa [wout, h1, h2, h3] using h
      · refine W.retE h ?_
        simp only [wout, h1, h2, not_true, if_false]
        rw [if_neg h3]
theorem g_window_Out_ok (s : Shp) (w : Win) {R : Int × Int × Int → Prop} (h : R (wout s w)) : (g_window_Out s.h s.w s.c w.kh w.kw w.sh w.sw w.top w.left w.bottom w.right).run R := by
  unfold g_window_Out
  refine W.bindI (g_shape_Elems_ok _ _ _ (W.iteC (¬ s.ok) (by split <;> simp_all) (fun h1 => ?_) fun h1 => ?_))
  · rw [if_neg h1]
    simpa [wout, h1] using h
  · refine W.bindI (g_window_Valid_ok _ (W.iteC (¬ w.ok) (by simp) (fun h2 => ?_) fun h2 => ?_))
    · have h1 : s.ok := by simpa using h1
      simpa [wout, h1, h2] using h
    · have h1 : s.ok := by simpa using h1
      have h2 : w.ok := by simpa using h2
      have g1 := h1
      have g2 := h2
      unfold Shp.ok at g1
      unfold Win.ok sideOK at g2
      rw [wrap64_in (x := s.h + w.top) (by omega) (by omega), wrap64_in (x := s.h + w.top + w.bottom) (by omega) (by omega), wrap64_in (x := s.w + w.left) (by omega) (by omega), wrap64_in (x := s.w + w.left + w.right) (by omega) (by omega),
        wrap64_in (x := s.h + w.top + w.bottom - w.kh) (by omega) (by omega), wrap64_in (x := s.w + w.left + w.right - w.kw) (by omega) (by omega)]
      have z1 := places_zero (n := s.h + w.top + w.bottom) (k := w.kh) (s := w.sh) (by omega)
      have z2 := places_zero (n := s.w + w.left + w.right) (k := w.kw) (s := w.sw) (by omega)
      refine W.iteC (places (s.h + w.top + w.bottom) w.kh w.sh = 0 ∨ places (s.w + w.left + w.right) w.kw w.sw = 0) (by rw [← Bool.decide_or, decide_eq_decide, z1, z2]) (fun h3 => ?_) fun h3 => ?_
      · simpa [wout, h1, h2, h3] using h
      · refine W.needI (by omega) (W.needI (by omega) (W.retE h ?_))
        simp only [wout, h1, h2, not_true, if_false]
        rw [if_neg h3]
        rw [not_or, z1, z2] at h3
        have b1 := Int.ediv_nonneg (a := s.h + w.top + w.bottom - w.kh) (b := w.sh) (by omega) (by omega)
        have b2 := Int.ediv_nonneg (a := s.w + w.left + w.right - w.kw) (b := w.sw) (by omega) (by omega)
        have b3 := Int.ediv_le_self (a := s.h + w.top + w.bottom - w.kh) w.sh (by omega)
        have b4 := Int.ediv_le_self (a := s.w + w.left + w.right - w.kw) w.sw (by omega)
        rw [Int.tdiv_eq_ediv_of_nonneg (by omega), Int.tdiv_eq_ediv_of_nonneg (by omega)]
        rw [wrap64_in (x := (s.h + w.top + w.bottom - w.kh) / w.sh) (by omega) (by omega), wrap64_in (x := (s.w + w.left + w.right - w.kw) / w.sw) (by omega) (by omega),
          wrap64_in (x := (s.h + w.top + w.bottom - w.kh) / w.sh + 1) (by omega) (by omega), wrap64_in (x := (s.w + w.left + w.right - w.kw) / w.sw + 1) (by omega) (by omega)]
        simp only [places]
        rw [if_neg h3.1, if_neg h3.2]
structure Opr where
  kind : Int
  a : Int
  b : Int
  m : Int
  win : Win
  wn : Bool
  ws : Rws
  bn : Bool
  bs : Rws
  sam : Int
  sas : Int
  sbm : Int
  sbs : Int
  zero : Int
  pad : Int
  lo : Int
  hi : Int
def Opr.of (r : List AV) : Opr :=
  ⟨cI r 0, cI r 1, cI r 2, cI r 3, ⟨cI r 4, cI r 5, cI r 6, cI r 7, cI r 8, cI r 9, cI r 10, cI r 11⟩, cN r 12, cR r 12, cN r 13, cR r 13, cI r 14, cI r 15, cI r 16, cI r 17, cI r 18, cI r 19, cI r 20, cI r 21⟩
def Shp.enc (s : Shp) : List AV := [I s.h, I s.w, I s.c]
theorem ri_shp0 (S : List Shp) (i : Nat) : ri (S.map Shp.enc) i 0 = (S.getD i default).h := by
  simp only [ri, cellOf, List.getD, List.getElem?_map]
  cases S[i]? <;> rfl
theorem ri_shp1 (S : List Shp) (i : Nat) : ri (S.map Shp.enc) i 1 = (S.getD i default).w := by
  simp only [ri, cellOf, List.getD, List.getElem?_map]
  cases S[i]? <;> rfl
theorem ri_shp2 (S : List Shp) (i : Nat) : ri (S.map Shp.enc) i 2 = (S.getD i default).c := by
  simp only [ri, cellOf, List.getD, List.getElem?_map]
  cases S[i]? <;> rfl
def slides (k : Int) : Prop := 2 ≤ k ∧ k ≤ 5
def weighs (k : Int) : Prop := 1 ≤ k ∧ k ≤ 3
def scales (k : Int) : Prop := (1 ≤ k ∧ k ≤ 3) ∨ k = 6 ∨ k = 7
def reduces (k : Int) : Prop := 1 ≤ k ∧ k ≤ 4
def scaleOK (m s : Int) : Prop := 1 ≤ m ∧ m ≤ 2147483647 ∧ 0 ≤ s ∧ s ≤ 62
def val (n : Int) : Prop := -128 ≤ n ∧ n ≤ 127
instance (k : Int) : Decidable (slides k) := by unfold slides; infer_instance
instance (k : Int) : Decidable (weighs k) := by unfold weighs; infer_instance
instance (k : Int) : Decidable (scales k) := by unfold scales; infer_instance
instance (k : Int) : Decidable (reduces k) := by unfold reduces; infer_instance
instance (m s : Int) : Decidable (scaleOK m s) := by unfold scaleOK; infer_instance
instance (n : Int) : Decidable (val n) := by unfold val; infer_instance
namespace Opr
def spare (o : Opr) : Prop :=
  (o.kind = 6 ∨ (o.b = 0 ∧ o.sbm = 0 ∧ o.sbs = 0)) ∧ (o.kind ≤ 2 ∨ o.m = 0) ∧ (weighs o.kind ∨ (o.ws.length = 0 ∧ o.bs.length = 0)) ∧ (scales o.kind ∨ (o.sam = 0 ∧ o.sas = 0 ∧ o.zero = 0)) ∧
  (slides o.kind ∨ o.win = ⟨0, 0, 0, 0, 0, 0, 0, 0⟩) ∧ (o.kind = 2 ∨ o.kind = 3 ∨ o.pad = 0) ∧ ((o.kind ≠ 4 ∧ o.kind ≠ 5) ∨ (o.win.top = 0 ∧ o.win.left = 0 ∧ o.win.bottom = 0 ∧ o.win.right = 0))
instance (o : Opr) : Decidable o.spare := by unfold spare; infer_instance
def len (o : Opr) (s : Shp) : Int := if o.kind = 1 then s.h * s.w * s.c else if o.kind = 2 then o.win.kh * o.win.kw * s.c else o.win.kh * o.win.kw
def mk1 (o : Opr) (s : Shp) : Shp × Int :=
  if o.kind = 1 then (⟨1, 1, o.m⟩, 0)
  else if slides o.kind then (if (wout s o.win).2.2 ≠ 0 then (⟨0, 0, 0⟩, (wout s o.win).2.2) else (⟨(wout s o.win).1, (wout s o.win).2.1, if o.kind = 2 then o.m else s.c⟩, 0))
  else (s, 0)
def lists (o : Opr) (s : Shp) : Int × Int := if o.kind = 1 ∨ o.kind = 2 then (o.m * o.len s, o.m) else if o.kind = 3 then (s.c * o.len s, s.c) else (0, 0)
def labour (o : Opr) (s t : Shp) : Int := if reduces o.kind then t.h * t.w * t.c * o.len s else if o.kind = 5 then t.h * t.w * t.c * o.win.kh * o.win.kw else t.h * t.w * t.c
def one (o : Opr) (S : List Shp) : Shp × Int :=
  if o.kind < 1 ∨ 8 < o.kind then (⟨0, 0, 0⟩, 81)
  else if (o.a < 0 ∨ S.length ≤ o.a) ∨ o.kind = 6 ∧ (o.b < 0 ∨ S.length ≤ o.b) then (⟨0, 0, 0⟩, 82)
  else if ¬ o.spare then (⟨0, 0, 0⟩, 83)
  else if o.kind ≤ 2 ∧ (o.m < 1 ∨ 1024 < o.m) then (⟨0, 0, 0⟩, 2)
  else if (o.mk1 (S.getD o.a.toNat default)).2 ≠ 0 then (⟨0, 0, 0⟩, (o.mk1 (S.getD o.a.toNat default)).2)
  else if (o.kind = 6 ∧ S.getD o.b.toNat default ≠ S.getD o.a.toNat default) ∨ ¬ (o.mk1 (S.getD o.a.toNat default)).1.ok then (⟨0, 0, 0⟩, 50)
  else if reduces o.kind ∧ 512 < o.len (S.getD o.a.toNat default) then (⟨0, 0, 0⟩, 84)
  else if (o.ws.length : Int) ≠ (o.lists (S.getD o.a.toNat default)).1 ∨ (o.bs.length : Int) ≠ (o.lists (S.getD o.a.toNat default)).2 then (⟨0, 0, 0⟩, 70)
  else if scales o.kind ∧ ¬ scaleOK o.sam o.sas ∨ o.kind = 6 ∧ ¬ scaleOK o.sbm o.sbs then (⟨0, 0, 0⟩, 20)
  else if ¬ val o.lo ∨ ¬ val o.hi ∨ o.hi < o.lo ∨ ¬ val o.zero ∨ ¬ val o.pad then (⟨0, 0, 0⟩, 85)
  else ((o.mk1 (S.getD o.a.toNat default)).1, 0)
end Opr
theorem g_ref08_values_ok (a : Int) {R : Bool → Prop} (h : R (decide (val a))) : (g_ref08_values a).run R := by
  unfold g_ref08_values; exact W.retE h (by rw [Bool.eq_iff_iff, decide_eq_true_eq]; simp [val])
theorem g_ref08_Weighs_ok (a : Int) {R : Bool → Prop} (h : R (decide (weighs a))) : (g_ref08_Weighs a).run R := by
  unfold g_ref08_Weighs; exact W.retE h (by rw [Bool.eq_iff_iff, decide_eq_true_eq]; simp [weighs])
theorem g_ref08_Slides_ok (a : Int) {R : Bool → Prop} (h : R (decide (slides a))) : (g_ref08_Slides a).run R := by
  unfold g_ref08_Slides; exact W.retE h (by rw [Bool.eq_iff_iff, decide_eq_true_eq]; simp [slides])
theorem g_ref08_Reduces_ok (a : Int) {R : Bool → Prop} (h : R (decide (reduces a))) : (g_ref08_Reduces a).run R := by
  unfold g_ref08_Reduces; exact W.retE h (by rw [Bool.eq_iff_iff, decide_eq_true_eq]; simp [reduces])
theorem g_ref08_Scales_ok (a : Int) {R : Bool → Prop} (h : R (decide (scales a))) : (g_ref08_Scales a).run R := by
  unfold g_ref08_Scales
  exact W.retE h (by rw [Bool.eq_iff_iff, decide_eq_true_eq]; simp [scales, or_assoc])
theorem g_ref02_Valid_ok (a b : Int) {R : Bool → Prop} (h : R (decide (scaleOK a b))) : (g_ref02_Valid a b).run R := by
  unfold g_ref02_Valid
  exact W.retE h (by rw [Bool.eq_iff_iff, decide_eq_true_eq]; simp [scaleOK, and_assoc])
theorem g_ref08_spare_ok (o : Opr) (hw : o.ws.length ≤ 70368744175616) (hb : o.bs.length ≤ 35184372087808) {R : Bool → Prop} (h : R (decide o.spare)) :
    (g_ref08_spare o.kind o.a o.b o.m o.win.kh o.win.kw o.win.sh o.win.sw o.win.top o.win.left o.win.bottom o.win.right o.wn o.ws o.bn o.bs o.sam o.sas o.sbm o.sbs o.zero o.pad o.lo o.hi).run R := by
  have no : ∀ {Q : Bool → Prop}, ¬ o.spare → (Q (decide o.spare)) → Q false := fun hn q => by simpa [hn] using q
  obtain ⟨k, a, b, m, ⟨kh, kw, sh, sw, tp, lf, bt, rt⟩, wn, ws, bn, bs, sam, sas, sbm, sbs, zero, pad, lo, hi⟩ := o
  dsimp only at hw hb ⊢
  unfold g_ref08_spare
  refine W.iteC (k ≠ 6 ∧ (b ≠ 0 ∨ ¬ (sbm = 0 ∧ sbs = 0))) (by simp; rfl) (fun h1 => no (by unfold Opr.spare; dsimp only; omega) h) fun h1 => ?_
  have fin : ∀ (q : (k ≤ 2 ∨ m = 0) ∧ (weighs k ∨ (ws.length = 0 ∧ bs.length = 0)) ∧ (scales k ∨ (sam = 0 ∧ sas = 0 ∧ zero = 0))), ((W.bind (g_ref08_Slides k) fun v3 =>
      W.ite (!v3 && !(kh == 0 && (kw == 0 && (sh == 0 && (sw == 0 && (tp == 0 && (lf == 0 && (bt == 0 && rt == 0))))))) || k != 2 && k != 3 && pad != 0) (W.ret false)
        (W.ret (k != 4 && k != 5 || tp == 0 && lf == 0 && bt == 0 && rt == 0)))).run R := fun q => by
    refine W.bindI (g_ref08_Slides_ok _ ?_)
    refine W.iteC ((¬ slides k ∧ ¬ (kh = 0 ∧ kw = 0 ∧ sh = 0 ∧ sw = 0 ∧ tp = 0 ∧ lf = 0 ∧ bt = 0 ∧ rt = 0)) ∨ (k ≠ 2 ∧ k ≠ 3 ∧ pad ≠ 0)) (by simp [Bool.and_assoc]; rfl) (fun h2 => no ?_ h) fun h2 => W.retE h ?_
    · rintro ⟨_, _, _, _, q5, q6, _⟩
      rcases h2 with ⟨h2, h3⟩ | h2
      · rcases q5 with q5 | q5
        · exact h2 q5
        · injection q5; dsimp only at *; omega
      · dsimp only at q6; omega
    · have e : (decide (Opr.spare ⟨k, a, b, m, ⟨kh, kw, sh, sw, tp, lf, bt, rt⟩, wn, ws, bn, bs, sam, sas, sbm, sbs, zero, pad, lo, hi⟩)) = decide ((k ≠ 4 ∧ k ≠ 5) ∨ (tp = 0 ∧ lf = 0 ∧ bt = 0 ∧ rt = 0)) := by
        rw [decide_eq_decide]
        unfold Opr.spare
        dsimp only
        simp only [Win.mk.injEq]
        rw [not_or, Classical.not_and_iff_not_or_not, Classical.not_not, Classical.not_not] at h2
        constructor
        · exact fun h => h.2.2.2.2.2.2
        · exact fun h => ⟨by omega, q.1, q.2.1, q.2.2, h2.1, by omega, h⟩
      rw [e]
      simp [Bool.and_assoc]; rfl
  refine W.bindI (W.iteC (2 < k ∧ m ≠ 0) (by simp; rfl) (fun h2 => W.retI (W.iteT rfl (no (by unfold Opr.spare; dsimp only; omega) h))) fun h2 => ?_)
  refine W.bindI (g_ref08_Weighs_ok _ (W.iteC (¬ weighs k ∧ (ws.length ≠ 0 ∨ bs.length ≠ 0)) ?_ (fun h3 => W.retI (W.iteT rfl (no ?_ h))) fun h3 => ?_))
  · rw [wrap64_in (by omega) (by omega)]
    rw [Bool.decide_and, decide_not]
    congr 1
    rw [decide_eq_decide]; omega
  · rintro ⟨_, _, q3, _⟩
    rcases q3 with q3 | q3
    · exact h3.1 q3
    · dsimp only at q3; omega
  · refine W.bindI (g_ref08_Scales_ok _ (W.retI ?_))
    by_cases h4 : ¬ scales k ∧ (¬ (sam = 0 ∧ sas = 0) ∨ zero ≠ 0)
    · refine W.iteT ?_ (no ?_ h)
      · simp only [h4.1, decide_false, Bool.not_false, Bool.true_and, Bool.or_eq_true, Bool.not_eq_true', bne_iff_ne, ne_eq, Bool.and_eq_false_imp, beq_iff_eq]
        rcases h4.2 with h5 | h5
        · left; intro e; simp [e] at h5 ⊢; exact h5
        · right; exact h5
      · rintro ⟨_, _, _, q4, _⟩
        rcases q4 with q4 | q4
        · exact h4.1 q4
        · dsimp only at q4; omega
    · refine W.iteF ?_ (fin ⟨by omega, ?_, ?_⟩)
      · rw [Bool.eq_false_iff]
        intro e
        apply h4
        simp only [Bool.and_eq_true, Bool.not_eq_true', decide_eq_false_iff_not, Bool.or_eq_true, bne_iff_ne] at e
        refine ⟨e.1, ?_⟩
        rcases e.2 with e | e
        · left; intro q; simp [q.1, q.2] at e
        · right; exact e
      · by_cases hw : weighs k
        · exact .inl hw
        · have h6 : ¬ (ws.length ≠ 0 ∨ bs.length ≠ 0) := fun q => h3 ⟨hw, q⟩
          right; omega
      · by_cases hs : scales k
        · exact .inl hs
        · have h6 : ¬ (¬ (sam = 0 ∧ sas = 0) ∨ zero ≠ 0) := fun q => h4 ⟨hs, q⟩
          right; omega
set_option linter.unusedVariables false
theorem wout_win {s : Shp} {w : Win} (h : (wout s w).2.2 = 0) : s.ok ∧ w.ok := by
  unfold wout at h
  split at h
  · simp at h
  · split at h
    · simp at h
    · rename_i h1 h2; exact ⟨by simpa using h1, by simpa using h2⟩
def Win.dims (w : Win) : Prop := (0 ≤ w.kh ∧ w.kh ≤ 32) ∧ (0 ≤ w.kw ∧ w.kw ≤ 32)
theorem Win.ok.dims {w : Win} (h : w.ok) : w.dims := by unfold Win.ok sideOK at h; unfold Win.dims; omega
theorem g_ref08_Makes_ok (o : Opr) (s : Shp) {R : Int × Int × Int × Int → Prop} (h : R ((o.mk1 s).1.h, (o.mk1 s).1.w, (o.mk1 s).1.c, (o.mk1 s).2)) :
    (g_ref08_Makes o.kind o.a o.b o.m o.win.kh o.win.kw o.win.sh o.win.sw o.win.top o.win.left o.win.bottom o.win.right o.wn o.ws o.bn o.bs o.sam o.sas o.sbm o.sbs o.zero o.pad o.lo o.hi s.h s.w s.c).run R := by
  unfold g_ref08_Makes
  have h1 : ∀ v0 : Int × Int × Int, (v0 = if o.kind = 1 then (1, 1, o.m) else (s.h, s.w, s.c)) → _ := fun v0 e => e
  refine W.bindI (W.iteC (o.kind = 1) rfl (fun hk => W.retI ?_) fun hk => W.retI ?_)
  · refine W.bindI (W.bindI (g_ref08_Slides_ok _ (W.iteF (by rw [decide_eq_false_iff_not]; unfold slides; omega) (W.retI (W.retE h ?_)))))
    simp [Opr.mk1, hk]
  · refine W.bindI (W.bindI (g_ref08_Slides_ok _ (W.iteC (slides o.kind) rfl (fun hs => ?_) fun hs => W.retI (W.retE h ?_))))
    · refine W.bindI (g_ref06_Out_ok s o.win (W.iteC ((wout s o.win).2.2 ≠ 0) (by first | (simp; done) | (simp; rfl)) (fun he => W.retI (W.retE h ?_)) fun he => ?_))
      · simp [Opr.mk1, hk, hs, he]
      · have he : (wout s o.win).2.2 = 0 := by simpa using he
        refine W.iteC (o.kind = 2) rfl (fun h2 => W.retI (W.retE h ?_)) fun h2 => W.retI (W.retE h ?_)
        · simp only [Opr.mk1]; rw [if_neg hk, if_pos hs, if_neg (by simp [he]), if_pos h2]
        · simp only [Opr.mk1]; rw [if_neg hk, if_pos hs, if_neg (by simp [he]), if_neg h2]
    · simp [Opr.mk1, hk, hs]
theorem len_bd (o : Opr) (s : Shp) (hs : s.ok) (hw : o.kind ≠ 1 → o.win.dims) : 0 ≤ o.len s ∧ o.len s ≤ 1048576 := by
  unfold Shp.ok at hs
  unfold Opr.len
  obtain ⟨p1, p2, p3, p4⟩ := prod3 hs.1 hs.2.1 hs.2.2.1
  by_cases h1 : o.kind = 1
  · rw [if_pos h1]; omega
  · rw [if_neg h1]
    have hw := hw h1
    unfold Win.dims at hw
    have q := mul_bd (A := 32) (B := 32) hw.1.1 hw.1.2 hw.2.1 hw.2.2
    have q2 := mul_bd (A := 1024) (B := 1024) q.1 (by omega) (by omega : 0 ≤ s.c) (by omega)
    split <;> omega
theorem g_ref08_Length_ok (o : Opr) (s : Shp) (hs : s.ok) (hw : o.kind ≠ 1 → o.win.dims) {R : Int → Prop} (h : R (o.len s)) :
    (g_ref08_Length o.kind o.a o.b o.m o.win.kh o.win.kw o.win.sh o.win.sw o.win.top o.win.left o.win.bottom o.win.right o.wn o.ws o.bn o.bs o.sam o.sas o.sbm o.sbs o.zero o.pad o.lo o.hi s.h s.w s.c).run R := by
  have hs' := hs
  unfold Shp.ok at hs'
  obtain ⟨p1, p2, p3, p4⟩ := prod3 hs'.1 hs'.2.1 hs'.2.2.1
  unfold g_ref08_Length
  refine W.iteC (o.kind = 1) rfl (fun h1 => W.retE h ?_) fun h1 => ?_
  · rw [wrap64_in (x := s.h * s.w) (by omega) (by omega), wrap64_in (by omega) (by omega)]
    simp [Opr.len, h1]
  · have hw := hw h1
    unfold Win.dims at hw
    have q := mul_bd (A := 32) (B := 32) hw.1.1 hw.1.2 hw.2.1 hw.2.2
    have q2 := mul_bd (A := 1024) (B := 1024) q.1 (by omega) (by omega : 0 ≤ s.c) (by omega)
    rw [wrap64_in (x := o.win.kh * o.win.kw) (by omega) (by omega), wrap64_in (by omega) (by omega)]
    refine W.iteC (o.kind = 2) rfl (fun h2 => W.retE h ?_) fun h2 => W.retE h ?_
    · unfold Opr.len; rw [if_neg h1, if_pos h2]
    · unfold Opr.len; rw [if_neg h1, if_neg h2]
theorem g_ref08_Lists_ok (o : Opr) (s : Shp) (hs : s.ok) (hw : o.kind = 2 ∨ o.kind = 3 → o.win.dims) (hm : o.kind = 1 ∨ o.kind = 2 → 0 ≤ o.m ∧ o.m ≤ 1024) {R : Int × Int → Prop} (h : R (o.lists s)) :
    (g_ref08_Lists o.kind o.a o.b o.m o.win.kh o.win.kw o.win.sh o.win.sw o.win.top o.win.left o.win.bottom o.win.right o.wn o.ws o.bn o.bs o.sam o.sas o.sbm o.sbs o.zero o.pad o.lo o.hi s.h s.w s.c).run R := by
  have hs' := hs
  unfold Shp.ok at hs'
  unfold g_ref08_Lists
  have key : ∀ b : Bool, b = decide (o.kind = 1 ∨ o.kind = 2) → (W.ite b (W.bind (g_ref08_Length o.kind o.a o.b o.m o.win.kh o.win.kw o.win.sh o.win.sw o.win.top o.win.left o.win.bottom o.win.right o.wn o.ws o.bn o.bs o.sam o.sas o.sbm o.sbs o.zero o.pad o.lo o.hi s.h s.w s.c) fun v1 =>
      W.ret (IntKind.i64.wrap (o.m * v1), o.m))
      (W.ite (o.kind == 3) (W.bind (g_ref08_Length o.kind o.a o.b o.m o.win.kh o.win.kw o.win.sh o.win.sw o.win.top o.win.left o.win.bottom o.win.right o.wn o.ws o.bn o.bs o.sam o.sas o.sbm o.sbs o.zero o.pad o.lo o.hi s.h s.w s.c) fun v2 =>
        W.ret (IntKind.i64.wrap (s.c * v2), s.c))
        (W.ret (0, 0)))).run R := fun b hb => by
    refine W.iteC _ hb (fun h1 => ?_) fun h1 => ?_
    · have hd : o.kind ≠ 1 → o.win.dims := fun h2 => hw (by omega)
      refine W.bindI (g_ref08_Length_ok o s hs hd (W.retE h ?_))
      have q := len_bd o s hs hd
      have q2 := mul_bd (A := 1024) (B := 1048576) (hm h1).1 (hm h1).2 q.1 q.2
      rw [wrap64_in (by omega) (by omega)]
      simp [Opr.lists, h1]
    · refine W.iteC (o.kind = 3) rfl (fun h2 => ?_) fun h2 => W.retE h ?_
      · have hd : o.kind ≠ 1 → o.win.dims := fun h3 => hw (by omega)
        refine W.bindI (g_ref08_Length_ok o s hs hd (W.retE h ?_))
        have q := len_bd o s hs hd
        have q2 := mul_bd (a := s.c) (A := 1024) (B := 1048576) (by omega) (by omega) q.1 q.2
        rw [wrap64_in (by omega) (by omega)]
        simp [Opr.lists, h2]
      · simp [Opr.lists, h1, h2]
  refine W.bindI (W.iteC (o.kind = 1) rfl (fun h1 => W.retI (key _ ?_)) fun h1 => W.retI (key _ ?_))
  · simp [h1]
  · rw [Bool.eq_iff_iff]; simp [h1]
theorem labour_bd (o : Opr) (s t : Shp) (hs : s.ok) (ht : t.ok) (hw : slides o.kind → o.win.dims) : 0 ≤ o.labour s t ∧ o.labour s t ≤ 17179869184 := by
  have ht' := ht
  unfold Shp.ok at ht'
  obtain ⟨p1, p2, p3, p4⟩ := prod3 ht'.1 ht'.2.1 ht'.2.2.1
  unfold Opr.labour
  split
  · rename_i h1
    have q := len_bd o s hs (fun h2 => hw (by unfold reduces at h1; unfold slides; omega))
    have := mul_bd (A := 16384) (B := 1048576) p3 ht'.2.2.2 q.1 q.2
    omega
  · split
    · rename_i h2
      have hw := hw (by unfold slides; omega)
      unfold Win.dims at hw
      have q := mul_bd (A := 16384) (B := 32) p3 ht'.2.2.2 hw.1.1 hw.1.2
      have q2 := mul_bd (A := 524288) (B := 32) q.1 (by omega) hw.2.1 hw.2.2
      omega
    · omega
theorem g_ref08_Labour_ok (o : Opr) (s t : Shp) (hs : s.ok) (ht : t.ok) (hw : slides o.kind → o.win.dims) {R : Int → Prop} (h : R (o.labour s t)) :
    (g_ref08_Labour o.kind o.a o.b o.m o.win.kh o.win.kw o.win.sh o.win.sw o.win.top o.win.left o.win.bottom o.win.right o.wn o.ws o.bn o.bs o.sam o.sas o.sbm o.sbs o.zero o.pad o.lo o.hi s.h s.w s.c t.h t.w t.c).run R := by
  have ht' := ht
  unfold Shp.ok at ht'
  obtain ⟨p1, p2, p3, p4⟩ := prod3 ht'.1 ht'.2.1 ht'.2.2.1
  have bd := labour_bd o s t hs ht hw
  unfold Opr.labour at bd
  unfold g_ref08_Labour
  rw [wrap64_in (x := t.h * t.w) (by omega) (by omega), wrap64_in (x := t.h * t.w * t.c) (by omega) (by omega)]
  refine W.bindI (g_ref08_Reduces_ok _ (W.iteC (reduces o.kind) rfl (fun h1 => ?_) fun h1 => ?_))
  · rw [if_pos h1] at bd
    have hd : o.kind ≠ 1 → o.win.dims := fun h2 => hw (by unfold reduces at h1; unfold slides; omega)
    refine W.bindI (g_ref08_Length_ok o s hs hd (W.retE h ?_))
    rw [wrap64_in (by omega) (by omega)]
    simp [Opr.labour, h1]
  · rw [if_neg h1] at bd
    refine W.iteC (o.kind = 5) rfl (fun h2 => W.retE h ?_) fun h2 => W.retE h ?_
    · rw [if_pos h2] at bd
      have hw := hw (by unfold slides; omega)
      unfold Win.dims at hw
      have q := mul_bd (A := 16384) (B := 32) p3 ht'.2.2.2 hw.1.1 hw.1.2
      rw [wrap64_in (x := t.h * t.w * t.c * o.win.kh) (by omega) (by omega), wrap64_in (by omega) (by omega)]
      unfold Opr.labour; rw [if_neg h1, if_pos h2]
    · unfold Opr.labour; rw [if_neg h1, if_neg h2]
theorem mk1_dims {o : Opr} {s : Shp} (h : (o.mk1 s).2 = 0) : slides o.kind → o.win.dims := fun hs => by
  unfold Opr.mk1 at h
  rw [if_neg (by unfold slides at hs; omega), if_pos hs] at h
  split at h
  · rename_i h1; exact absurd h h1
  · rename_i h1
    exact (wout_win (by simpa using h1)).2.dims
theorem g_ref08_one_ok (o : Opr) (S : List Shp) (nl : Bool) (hS : ∀ s ∈ S, s.ok) (hw : o.ws.length ≤ 70368744175616) (hb : o.bs.length ≤ 35184372087808) {R : Int × Int × Int × Int → Prop} (h : R ((o.one S).1.h, (o.one S).1.w, (o.one S).1.c, (o.one S).2)) :
    (g_ref08_one o.kind o.a o.b o.m o.win.kh o.win.kw o.win.sh o.win.sw o.win.top o.win.left o.win.bottom o.win.right o.wn o.ws o.bn o.bs o.sam o.sas o.sbm o.sbs o.zero o.pad o.lo o.hi S.length nl (S.map Shp.enc)).run R := by
  unfold g_ref08_one
  refine W.iteC (o.kind < 1 ∨ 8 < o.kind) (by rw [Bool.decide_or]) (fun h1 => W.retE h (by simp [Opr.one, h1])) fun h1 => ?_
  refine W.iteC ((o.a < 0 ∨ S.length ≤ o.a) ∨ o.kind = 6 ∧ (o.b < 0 ∨ S.length ≤ o.b)) (by first | (simp; done) | (simp; rfl)) (fun h2 => W.retE h (by simp only [Opr.one]; rw [if_neg h1, if_pos h2])) fun h2 => ?_
  refine W.bindI (g_ref08_spare_ok o hw hb (W.iteC (¬ o.spare) (by simp) (fun h3 => W.retE h (by simp only [Opr.one]; rw [if_neg h1, if_neg h2, if_pos h3])) fun h3 => ?_))
  refine W.iteC (o.kind ≤ 2 ∧ (o.m < 1 ∨ 1024 < o.m)) (by first | (simp; done) | (simp; rfl)) (fun h4 => W.retE h (by simp only [Opr.one]; rw [if_neg h1, if_neg h2, if_neg h3, if_pos h4])) fun h4 => ?_
  rw [List.length_map]
  refine W.needI (by omega) ?_
  have hsa : (S.getD o.a.toNat default).ok := by
    have hlt : o.a.toNat < S.length := by omega
    rw [List.getD_eq_getElem?_getD, List.getElem?_eq_getElem hlt]
    exact hS _ (List.getElem_mem hlt)
  rw [ri_shp0, ri_shp1, ri_shp2]
  refine W.bindI (g_ref08_Makes_ok o _ ?_)
  refine W.iteC ((o.mk1 (S.getD o.a.toNat default)).2 ≠ 0) (by first | (simp; done) | (simp; rfl)) (fun h5 => W.retE h (by simp only [Opr.one]; rw [if_neg h1, if_neg h2, if_neg h3, if_neg h4, if_pos h5])) fun h5 => ?_
  have h5' : (o.mk1 (S.getD o.a.toNat default)).2 = 0 := by simpa using h5
  have hd := mk1_dims h5'
  have key6 : ∀ {Q : Bool → Prop}, Q (decide ((o.kind = 6 ∧ S.getD o.b.toNat default ≠ S.getD o.a.toNat default) ∨ ¬ (o.mk1 (S.getD o.a.toNat default)).1.ok)) →
      (W.need ((o.kind == 6) = true ∧ True → 0 ≤ o.b ∧ o.b < (S.length : Int)) <|
        W.ite (o.kind == 6 && !(ri (S.map Shp.enc) o.b.toNat 0 == (S.getD o.a.toNat default).h && (ri (S.map Shp.enc) o.b.toNat 1 == (S.getD o.a.toNat default).w && ri (S.map Shp.enc) o.b.toNat 2 == (S.getD o.a.toNat default).c))) (W.ret true)
        (W.bind (g_ref05_Valid (o.mk1 (S.getD o.a.toNat default)).1.h (o.mk1 (S.getD o.a.toNat default)).1.w (o.mk1 (S.getD o.a.toNat default)).1.c) fun v2 => W.ret !v2)).run Q := fun {Q} hq => by
    refine W.needI (fun e => by have : o.kind = 6 := by simpa using e
                                omega) ?_
    rw [ri_shp0, ri_shp1, ri_shp2]
    refine W.iteC (o.kind = 6 ∧ S.getD o.b.toNat default ≠ S.getD o.a.toNat default) ?_ (fun h6 => W.retE hq (decide_eq_true (Or.inl h6)).symm) fun h6 => W.bindI (g_ref05_Valid_ok _ _ _ (W.retE hq ?_))
    · rw [Bool.eq_iff_iff, decide_eq_true_eq]
      generalize S.getD o.b.toNat default = x
      generalize S.getD o.a.toNat default = y
      obtain ⟨x1, x2, x3⟩ := x
      obtain ⟨y1, y2, y3⟩ := y
      simp
      omega
    · rw [Bool.eq_iff_iff, decide_eq_true_eq, Bool.not_eq_true', decide_eq_false_iff_not]
      exact ⟨.inr, fun q => q.resolve_left h6⟩
  refine W.bindI (key6 ?_)
  refine W.iteC _ rfl (fun h6 => W.retE h (by simp only [Opr.one]; rw [if_neg h1, if_neg h2, if_neg h3, if_neg h4, if_neg h5, if_pos h6])) fun h6 => ?_
  have hdl : reduces o.kind → o.kind ≠ 1 → o.win.dims := fun hr hk => hd (by unfold reduces at hr; unfold slides; omega)
  have key7 : ∀ {Q : Bool → Prop}, Q (decide (reduces o.kind ∧ 512 < o.len (S.getD o.a.toNat default))) →
      (W.bind (g_ref08_Reduces o.kind) fun v4 => W.ite v4 (W.bind (g_ref08_Length o.kind o.a o.b o.m o.win.kh o.win.kw o.win.sh o.win.sw o.win.top o.win.left o.win.bottom o.win.right o.wn o.ws o.bn o.bs o.sam o.sas o.sbm o.sbs o.zero o.pad o.lo o.hi (S.getD o.a.toNat default).h (S.getD o.a.toNat default).w (S.getD o.a.toNat default).c) fun v5 => W.ret (decide (512 < v5))) (W.ret false)).run Q := fun {Q} hq => by
    refine W.bindI (g_ref08_Reduces_ok _ (W.iteC (reduces o.kind) rfl (fun h7 => W.bindI (g_ref08_Length_ok o _ hsa (hdl h7) (W.retE hq (by simp [h7])))) fun h7 => W.retE hq (by simp [h7])))
  refine W.bindI (key7 ?_)
  refine W.iteC _ rfl (fun h7 => W.retE h (by simp only [Opr.one]; rw [if_neg h1, if_neg h2, if_neg h3, if_neg h4, if_neg h5, if_neg h6, if_pos h7])) fun h7 => ?_
  refine W.bindI (g_ref08_Lists_ok o _ hsa (fun hk => hd (by unfold slides; omega)) (fun hk => by omega) ?_)
  refine W.iteC ((o.ws.length : Int) ≠ (o.lists (S.getD o.a.toNat default)).1 ∨ (o.bs.length : Int) ≠ (o.lists (S.getD o.a.toNat default)).2) (by first | (simp; done) | (simp; rfl))
    (fun h8 => W.retE h (by simp only [Opr.one]; rw [if_neg h1, if_neg h2, if_neg h3, if_neg h4, if_neg h5, if_neg h6, if_neg h7, if_pos h8])) fun h8 => ?_
  have key9 : ∀ {Q : Bool → Prop}, Q (decide (scales o.kind ∧ ¬ scaleOK o.sam o.sas ∨ o.kind = 6 ∧ ¬ scaleOK o.sbm o.sbs)) →
      (W.bind (g_ref08_Scales o.kind) fun v8 => W.ite v8 (W.bind (g_ref02_Valid o.sam o.sas) fun v9 => W.ite (!v9) (W.ret true) (W.ite (o.kind == 6) (W.bind (g_ref02_Valid o.sbm o.sbs) fun v10 => W.ret !v10) (W.ret false)))
        (W.ite (o.kind == 6) (W.bind (g_ref02_Valid o.sbm o.sbs) fun v11 => W.ret !v11) (W.ret false))).run Q := fun {Q} hq => by
    have tail : ∀ {Q : Bool → Prop}, Q (decide (o.kind = 6 ∧ ¬ scaleOK o.sbm o.sbs)) → (W.ite (o.kind == 6) (W.bind (g_ref02_Valid o.sbm o.sbs) fun v11 => W.ret !v11) (W.ret false)).run Q := fun {Q} hq =>
      W.iteC (o.kind = 6) rfl (fun q => W.bindI (g_ref02_Valid_ok _ _ (W.retE hq (by simp [q])))) fun q => W.retE hq (by simp [q])
    refine W.bindI (g_ref08_Scales_ok _ (W.iteC (scales o.kind) rfl (fun q1 => W.bindI (g_ref02_Valid_ok _ _ (W.iteC (¬ scaleOK o.sam o.sas) (by simp) (fun q2 => W.retE hq (by simp [q1, q2])) fun q2 => tail ?_))) fun q1 => tail ?_))
    · simpa [q1, q2] using hq
    · simpa [q1] using hq
  refine W.bindI (key9 ?_)
  refine W.iteC _ rfl (fun h9 => W.retE h (by simp only [Opr.one]; rw [if_neg h1, if_neg h2, if_neg h3, if_neg h4, if_neg h5, if_neg h6, if_neg h7, if_neg h8, if_pos h9])) fun h9 => ?_
  have key10 : ∀ {Q : Bool → Prop}, Q (decide (¬ val o.lo ∨ ¬ val o.hi ∨ o.hi < o.lo ∨ ¬ val o.zero ∨ ¬ val o.pad)) →
      (W.bind (g_ref08_values o.lo) fun v13 => W.ite (!v13) (W.ret true) (W.bind (g_ref08_values o.hi) fun v14 => W.ite (!v14 || decide (o.hi < o.lo)) (W.ret true)
        (W.bind (g_ref08_values o.zero) fun v15 => W.ite (!v15) (W.ret true) (W.bind (g_ref08_values o.pad) fun v16 => W.ret !v16)))).run Q := fun {Q} hq => by
    refine W.bindI (g_ref08_values_ok _ (W.iteC (¬ val o.lo) (by simp) (fun q1 => W.retE hq (by simp [q1])) fun q1 => ?_))
    refine W.bindI (g_ref08_values_ok _ (W.iteC (¬ val o.hi ∨ o.hi < o.lo) (by simp) (fun q2 => W.retE hq (by rcases q2 with q2 | q2 <;> simp [q2])) fun q2 => ?_))
    rw [not_or] at q2
    refine W.bindI (g_ref08_values_ok _ (W.iteC (¬ val o.zero) (by simp) (fun q3 => W.retE hq (by simp [q3])) fun q3 => W.bindI (g_ref08_values_ok _ (W.retE hq ?_))))
    have q1 : val o.lo := by simpa using q1
    have q3 : val o.zero := by simpa using q3
    have q2a : val o.hi := by simpa using q2.1
    rw [Bool.eq_iff_iff]
    simp [q1, q2a, q3]
    omega
  refine W.bindI (key10 ?_)
  refine W.iteC _ rfl (fun h10 => W.retE h (by simp only [Opr.one]; rw [if_neg h1, if_neg h2, if_neg h3, if_neg h4, if_neg h5, if_neg h6, if_neg h7, if_neg h8, if_neg h9, if_pos h10])) fun h10 => W.retE h ?_
  simp only [Opr.one]; rw [if_neg h1, if_neg h2, if_neg h3, if_neg h4, if_neg h5, if_neg h6, if_neg h7, if_neg h8, if_neg h9, if_neg h10]
structure Ans8 where
  work : Int
  err : Int
  op : Int
  S : List Shp
def walk8 : List Opr → Int → Int → List Shp → Ans8
  | [], _, w, S => ⟨w, 0, 0, S⟩
  | o :: r, i, w, S =>
    if (o.one S).2 ≠ 0 then ⟨0, (o.one S).2, i + 1, []⟩
    else if 131072 < w + o.labour (S.getD o.a.toNat default) (o.one S).1 then ⟨0, 86, i + 1, []⟩
    else walk8 r (i + 1) (w + o.labour (S.getD o.a.toNat default) (o.one S).1) (S ++ [(o.one S).1])
def look8 (s : Shp) (lo hi : Int) (ops : List Opr) (out : Int) : Ans8 :=
  if ¬ s.ok then ⟨0, 50, 0, []⟩
  else if ¬ val lo ∨ ¬ val hi ∨ hi < lo then ⟨0, 85, 0, []⟩
  else if 64 < ops.length then ⟨0, 80, 0, []⟩
  else if out < 0 ∨ ops.length < out then ⟨0, 3, 0, []⟩
  else walk8 ops 0 0 [s]
def Ans8.tup (a : Ans8) : Int × Int × Int × Int × Bool × Rws := (a.work, a.err, a.op, 0, decide (a.err ≠ 0), a.S.map Shp.enc)
def oprs (l : Rws) : List Opr := l.map Opr.of
def short (l : Rws) : Prop := ∀ r ∈ l, (Opr.of r).ws.length ≤ 70368744175616 ∧ (Opr.of r).bs.length ≤ 35184372087808
theorem one_ok {o : Opr} {S : List Shp} (h : (o.one S).2 = 0) : (0 ≤ o.a ∧ o.a < S.length) ∧ (o.one S).1.ok ∧ (slides o.kind → o.win.dims) ∧ (o.mk1 (S.getD o.a.toNat default)).2 = 0 := by
  unfold Opr.one at h ⊢
  repeat' split at h
  all_goals try (exfalso; simp at h; done)
  · rename_i h5; exact absurd h h5
  · rename_i h1 h2 h3 h4 h5 h6 h7 h8 h9 h10
    rw [if_neg h1, if_neg h2, if_neg h3, if_neg h4, if_neg h5, if_neg h6, if_neg h7, if_neg h8, if_neg h9, if_neg h10]
    rw [not_or] at h6
    have h5' : (o.mk1 (S.getD o.a.toNat default)).2 = 0 := by simpa using h5
    exact ⟨by omega, Classical.not_not.1 h6.2, mk1_dims h5', h5'⟩
theorem getD_mem {S : List Shp} {i : Nat} (h : i < S.length) : S.getD i default ∈ S := by
  rw [List.getD_eq_getElem?_getD, List.getElem?_eq_getElem h]; exact List.getElem_mem h
theorem row_opr (l : Rws) (k : Nat) (h : k < l.length) : (oprs l)[k]? = some (Opr.of (l.getD k [])) := by
  unfold oprs
  rw [List.getElem?_map, List.getD_eq_getElem?_getD, List.getElem?_eq_getElem h]; rfl
theorem drop_opr (l : Rws) (k : Nat) (h : k < l.length) : (oprs l).drop k = Opr.of (l.getD k []) :: (oprs l).drop (k + 1) := by
  have h' : k < (oprs l).length := by simpa [oprs] using h
  rw [List.drop_eq_getElem_cons h']
  congr 1
  have := row_opr l k h
  rw [List.getElem?_eq_getElem h'] at this
  exact Option.some.inj this
theorem g_ref08_one_row (l : Rws) (k : Nat) (S : List Shp) (nl : Bool) (hS : ∀ s ∈ S, s.ok) (hw : (Opr.of (l.getD k [])).ws.length ≤ 70368744175616) (hb : (Opr.of (l.getD k [])).bs.length ≤ 35184372087808) {R : Int × Int × Int × Int → Prop} (h : R (((Opr.of (l.getD k [])).one S).1.h, ((Opr.of (l.getD k [])).one S).1.w, ((Opr.of (l.getD k [])).one S).1.c, ((Opr.of (l.getD k [])).one S).2)) :
    (g_ref08_one (ri l k 0) (ri l k 1) (ri l k 2) (ri l k 3) (ri l k 4) (ri l k 5) (ri l k 6) (ri l k 7) (ri l k 8) (ri l k 9) (ri l k 10) (ri l k 11) (rn l k 12) (rr l k 12) (rn l k 13) (rr l k 13) (ri l k 14) (ri l k 15) (ri l k 16) (ri l k 17) (ri l k 18) (ri l k 19) (ri l k 20) (ri l k 21) S.length nl (S.map Shp.enc)).run R :=
  g_ref08_one_ok (Opr.of (l.getD k [])) S nl hS hw hb h
theorem g_ref08_Labour_row (l : Rws) (k : Nat) (s t : Shp) (hs : s.ok) (ht : t.ok) (hw : slides (Opr.of (l.getD k [])).kind → (Opr.of (l.getD k [])).win.dims) {R : Int → Prop} (h : R ((Opr.of (l.getD k [])).labour s t)) :
    (g_ref08_Labour (ri l k 0) (ri l k 1) (ri l k 2) (ri l k 3) (ri l k 4) (ri l k 5) (ri l k 6) (ri l k 7) (ri l k 8) (ri l k 9) (ri l k 10) (ri l k 11) (rn l k 12) (rr l k 12) (rn l k 13) (rr l k 13) (ri l k 14) (ri l k 15) (ri l k 16) (ri l k 17) (ri l k 18) (ri l k 19) (ri l k 20) (ri l k 21) s.h s.w s.c t.h t.w t.c).run R :=
  g_ref08_Labour_ok (Opr.of (l.getD k [])) s t hs ht hw h
theorem g_ref08_Look_ok (s : Shp) (lo hi : Int) (nl : Bool) (l : Rws) (out : Int) (hl : l.length ≤ 676622540150) (hsh : short l) {R : Int × Int × Int × Int × Bool × Rws → Prop} (h : R (look8 s lo hi (oprs l) out).tup) :
    (g_ref08_Look s.h s.w s.c lo hi nl l out).run R := by
  have hlen : (oprs l).length = l.length := by simp [oprs]
  unfold g_ref08_Look
  have key : ∀ {Q : Int → Prop}, Q (if ¬ s.ok then 50 else if ¬ val lo ∨ ¬ val hi ∨ hi < lo then 85 else if 64 < l.length then 80 else if out < 0 ∨ l.length < out then 3 else 0) →
      (W.bind (g_ref05_Valid s.h s.w s.c) fun v0 => W.ite (!v0) (W.ret 50) (W.bind (α := Bool) (W.bind (g_ref08_values lo) fun v1 => W.ite (!v1) (W.ret true) (W.bind (g_ref08_values hi) fun v2 => W.ret (!v2 || decide (hi < lo)))) fun v3 =>
        W.ite v3 (W.ret 85) (W.ite (decide (64 < (↑(List.length l) : Int))) (W.ret 80) (W.ite (decide (out < 0) || decide ((↑(List.length l) : Int) < out)) (W.ret 3) (W.ret 0))))).run Q := fun {Q} hq => by
    refine W.bindI (g_ref05_Valid_ok _ _ _ (W.iteC (¬ s.ok) (by simp) (fun h1 => W.retE hq (by rw [if_pos h1])) fun h1 => ?_))
    rw [if_neg h1] at hq
    have tail : ∀ b : Bool, b = decide (¬ val lo ∨ ¬ val hi ∨ hi < lo) → (W.ite b (W.ret 85) (W.ite (decide (64 < (↑(List.length l) : Int))) (W.ret 80) (W.ite (decide (out < 0) || decide ((↑(List.length l) : Int) < out)) (W.ret 3) (W.ret 0)))).run Q := fun b hb => by
      refine W.iteC _ hb (fun h2 => W.retE hq (by rw [if_pos h2])) fun h2 => ?_
      refine W.iteC (64 < l.length) (by rw [decide_eq_decide]; omega) (fun h3 => W.retE hq (by rw [if_neg h2, if_pos h3])) fun h3 => ?_
      exact W.iteC (out < 0 ∨ l.length < out) (by rw [Bool.decide_or]) (fun h4 => W.retE hq (by rw [if_neg h2, if_neg h3, if_pos h4])) fun h4 => W.retE hq (by rw [if_neg h2, if_neg h3, if_neg h4])
    refine W.bindI (W.bindI (g_ref08_values_ok _ (W.iteC (¬ val lo) (by simp) (fun h2 => W.retI (tail _ (by simp [h2]))) fun h2 => W.bindI (g_ref08_values_ok _ (W.retI (tail _ ?_))))))
    have h2 : val lo := by simpa using h2
    simp [h2]
  refine W.bindI (key ?_)
  unfold look8 at h
  rw [hlen] at h
  by_cases h1 : s.ok
  case neg => rw [if_pos h1] at h ⊢; exact W.iteT rfl (W.retE h rfl)
  rw [if_neg (by simpa using h1)] at h ⊢
  by_cases h2 : ¬ val lo ∨ ¬ val hi ∨ hi < lo
  · rw [if_pos h2] at h ⊢; exact W.iteT rfl (W.retE h rfl)
  rw [if_neg h2] at h ⊢
  by_cases h3 : 64 < l.length
  · rw [if_pos h3] at h ⊢; exact W.iteT rfl (W.retE h rfl)
  rw [if_neg h3] at h ⊢
  by_cases h4 : out < 0 ∨ (l.length : Int) < out
  · rw [if_pos h4] at h ⊢; exact W.iteT rfl (W.retE h rfl)
  rw [if_neg h4] at h ⊢
  refine W.iteF rfl (W.bindI (W.loop_inv (fun v : Int × Int × Rws => ∃ (k : Nat) (S : List Shp), v.2.1 = k ∧ k ≤ l.length ∧ v.2.2 = S.map Shp.enc ∧ S.length = k + 1 ∧ (∀ s ∈ S, s.ok) ∧ 0 ≤ v.1 ∧ v.1 ≤ 131072 ∧ R (walk8 ((oprs l).drop k) k v.1 S).tup)
    (fun v => l.length - v.2.1.toNat) ?_ ⟨0, [s], rfl, Nat.zero_le _, rfl, rfl, by simpa using h1, by dsimp only; omega, by dsimp only; omega, h⟩))
  rintro ⟨w, i, rows⟩ ⟨k, S, rfl, hk, rfl, hSl, hS, hw0, hw1, hR⟩
  dsimp only at hw0 hw1 hR ⊢
  refine W.iteC (k < l.length) (by rw [decide_eq_decide]; omega) (fun hlt => W.needI (by omega) ?_) fun hge => ?_
  · rw [Int.toNat_natCast, wrap64_in (x := (k : Int) + 1) (by omega) (by omega)]
    have hmem : l.getD k [] ∈ l := by rw [List.getD_eq_getElem?_getD, List.getElem?_eq_getElem hlt]; exact List.getElem_mem hlt
    obtain ⟨s1, s2⟩ := hsh _ hmem
    rw [drop_opr l k hlt] at hR
    have e1 : ((k : Int) + 1) = (S.length : Int) := by omega
    rw [e1]
    refine W.bindI (g_ref08_one_row l k S false hS s1 s2 ?_)
    dsimp only
    unfold walk8 at hR
    refine W.iteC (((Opr.of (l.getD k [])).one S).2 ≠ 0) (by first | (simp; done) | (simp; rfl)) (fun h5 => ?_) fun h5 => ?_
    · rw [if_pos h5] at hR
      refine W.retI (W.retE hR ?_)
      simp only [Ans8.tup, e1]
      simp [h5, -List.getD_eq_getElem?_getD]
    · rw [if_neg h5] at hR
      have h5' : ((Opr.of (l.getD k [])).one S).2 = 0 := by simpa using h5
      obtain ⟨q1, q2, q3, q4⟩ := one_ok h5'
      have hsa := hS _ (getD_mem (S := S) (i := (Opr.of (l.getD k [])).a.toNat) (by omega))
      rw [List.length_map]
      refine W.needI q1 ?_
      have e2 : (ri l k 1) = (Opr.of (l.getD k [])).a := rfl
      rw [ri_shp0, ri_shp1, ri_shp2]
      refine W.bindI (g_ref08_Labour_row l k (S.getD (Opr.of (l.getD k [])).a.toNat default) _ hsa q2 q3 ?_)
      have bd := labour_bd (Opr.of (l.getD k [])) _ _ hsa q2 q3
      rw [wrap64_in (by omega) (by omega)]
      refine W.iteC _ rfl (fun h6 => ?_) fun h6 => ?_
      · rw [if_pos h6] at hR
        refine W.retI (W.retE hR ?_)
        simp only [Ans8.tup, e1]
        simp
      · rw [if_neg h6] at hR
        refine W.needI (by omega) (W.retI ⟨⟨k + 1, S ++ [((Opr.of (l.getD k [])).one S).1], by simpa using e1.symm, hlt, by simp [Shp.enc], by simp [hSl], ?_, by dsimp only; omega, by dsimp only; omega, ?_⟩, ?_⟩)
        · intro x hx
          rcases List.mem_append.1 hx with hx | hx
          · exact hS x hx
          · simp at hx; subst hx; exact q2
        · simpa using hR
        · dsimp only; omega
  · have e : k = l.length := by omega
    subst e
    rw [List.drop_eq_nil_of_le (by omega)] at hR
    exact W.retI (W.retE hR (by simp [walk8, Ans8.tup]))
theorem W.iteR {α : Type} {b : Bool} {x y : α} {R : α → Prop} (h : R (bif b then x else y)) : (W.ite b (W.ret x) (W.ret y)).run R := by
  cases b
  · exact W.iteF rfl h
  · exact W.iteT rfl h
structure Uses where
  b : Bool
  m : Bool
  win : Bool
  pads : Bool
  weights : Bool
  sa : Bool
  sb : Bool
  pad : Bool
def usesOf (k : Int) : Uses := ⟨decide (k = 6), decide (k ≤ 2), decide (slides k), decide (k = 2 ∨ k = 3), decide (weighs k), decide (scales k), decide (k = 6), decide (k = 2 ∨ k = 3)⟩
theorem kind_cases {k : Int} (h : ¬ (k < 1 ∨ 8 < k)) : k = 1 ∨ k = 2 ∨ k = 3 ∨ k = 4 ∨ k = 5 ∨ k = 6 ∨ k = 7 ∨ k = 8 := by omega
theorem g_model_of_ok (k : Int) (h : ¬ (k < 1 ∨ 8 < k)) {R : Bool × Bool × Bool × Bool × Bool × Bool × Bool × Bool × Bool → Prop}
    (hR : R ((usesOf k).b, (usesOf k).m, (usesOf k).win, (usesOf k).pads, (usesOf k).weights, (usesOf k).sa, (usesOf k).sb, (usesOf k).pad, true)) : (g_model_of k).run R := by
  unfold g_model_of
  rcases kind_cases h with rfl | rfl | rfl | rfl | rfl | rfl | rfl | rfl
  · exact W.iteT rfl (W.retE hR rfl)
  · exact W.iteF rfl (W.iteT rfl (W.retE hR rfl))
  · exact W.iteF rfl (W.iteF rfl (W.iteT rfl (W.retE hR rfl)))
  · exact W.iteF rfl (W.iteF rfl (W.iteF rfl (W.bindI (W.iteT rfl (W.retI (W.iteT rfl (W.retE hR rfl)))))))
  · exact W.iteF rfl (W.iteF rfl (W.iteF rfl (W.bindI (W.iteF rfl (W.retI (W.iteT rfl (W.retE hR rfl)))))))
  · exact W.iteF rfl (W.iteF rfl (W.iteF rfl (W.bindI (W.iteF rfl (W.retI (W.iteF rfl (W.iteT rfl (W.retE hR rfl))))))))
  · exact W.iteF rfl (W.iteF rfl (W.iteF rfl (W.bindI (W.iteF rfl (W.retI (W.iteF rfl (W.iteF rfl (W.iteT rfl (W.retE hR rfl)))))))))
  · exact W.iteF rfl (W.iteF rfl (W.iteF rfl (W.bindI (W.iteF rfl (W.retI (W.iteF rfl (W.iteF rfl (W.iteF rfl (W.iteT rfl (W.retE hR rfl))))))))))
theorem g_model_of_bad (k : Int) (h : k < 1 ∨ 8 < k) {R : Bool × Bool × Bool × Bool × Bool × Bool × Bool × Bool × Bool → Prop} (hR : R (false, false, false, false, false, false, false, false, false)) : (g_model_of k).run R := by
  have ne : ∀ n : Int, 1 ≤ n → n ≤ 8 → (k == n) = false := fun n h1 h2 => by simp; omega
  unfold g_model_of
  exact W.iteF (ne 1 (by omega) (by omega)) (W.iteF (ne 2 (by omega) (by omega)) (W.iteF (ne 3 (by omega) (by omega)) (W.bindI (W.iteF (ne 4 (by omega) (by omega)) (W.retI (W.iteF (ne 5 (by omega) (by omega)) (W.iteF (ne 6 (by omega) (by omega)) (W.iteF (ne 7 (by omega) (by omega)) (W.iteF (ne 8 (by omega) (by omega)) (W.retI hR))))))))))
def restB (o : Opr) (u : Uses) : Bool :=
  (bif u.b then 0 else o.b) == 0 && (bif u.m then 0 else o.m) == 0 &&
  (bif u.pads then true else (bif u.win then true else o.win.kh == 0 && o.win.kw == 0 && o.win.sh == 0 && o.win.sw == 0) && (o.win.top == 0 && o.win.left == 0 && o.win.bottom == 0 && o.win.right == 0)) &&
  (bif u.weights then true else o.ws.isEmpty && o.bs.isEmpty) && (bif u.sa then true else o.sam == 0 && o.sas == 0 && o.zero == 0) && (bif u.sb then true else o.sbm == 0 && o.sbs == 0) && (bif u.pad then true else o.pad == 0)
theorem nil_len (l : Rws) : ((l.length : Int) == 0) = l.isEmpty := by cases l <;> simp <;> omega
theorem bare_empty_ok (o : Opr) (u : Uses) {R : Bool → Prop} (h : R (restB o u)) :
    (W.bind (g_model_bare o.kind o.a o.b o.m o.win.kh o.win.kw o.win.sh o.win.sw o.win.top o.win.left o.win.bottom o.win.right o.wn o.ws o.bn o.bs o.sam o.sas o.sbm o.sbs o.zero o.pad o.lo o.hi u.b u.m u.win u.pads u.weights u.sa u.sb u.pad) fun v1 =>
      g_model_empty (v1.fst) (v1.snd.fst) (v1.snd.snd.fst) (v1.snd.snd.snd.fst) (v1.snd.snd.snd.snd.fst) (v1.snd.snd.snd.snd.snd.fst) (v1.snd.snd.snd.snd.snd.snd.fst) (v1.snd.snd.snd.snd.snd.snd.snd.fst) (v1.snd.snd.snd.snd.snd.snd.snd.snd.fst) (v1.snd.snd.snd.snd.snd.snd.snd.snd.snd.fst) (v1.snd.snd.snd.snd.snd.snd.snd.snd.snd.snd.fst) (v1.snd.snd.snd.snd.snd.snd.snd.snd.snd.snd.snd.fst) (v1.snd.snd.snd.snd.snd.snd.snd.snd.snd.snd.snd.snd.fst) (v1.snd.snd.snd.snd.snd.snd.snd.snd.snd.snd.snd.snd.snd.fst) (v1.snd.snd.snd.snd.snd.snd.snd.snd.snd.snd.snd.snd.snd.snd.fst) (v1.snd.snd.snd.snd.snd.snd.snd.snd.snd.snd.snd.snd.snd.snd.snd.fst) (v1.snd.snd.snd.snd.snd.snd.snd.snd.snd.snd.snd.snd.snd.snd.snd.snd.fst) (v1.snd.snd.snd.snd.snd.snd.snd.snd.snd.snd.snd.snd.snd.snd.snd.snd.snd.fst) (v1.snd.snd.snd.snd.snd.snd.snd.snd.snd.snd.snd.snd.snd.snd.snd.snd.snd.snd.fst) (v1.snd.snd.snd.snd.snd.snd.snd.snd.snd.snd.snd.snd.snd.snd.snd.snd.snd.snd.snd.fst) (v1.snd.snd.snd.snd.snd.snd.snd.snd.snd.snd.snd.snd.snd.snd.snd.snd.snd.snd.snd.snd.fst) (v1.snd.snd.snd.snd.snd.snd.snd.snd.snd.snd.snd.snd.snd.snd.snd.snd.snd.snd.snd.snd.snd.fst) (v1.snd.snd.snd.snd.snd.snd.snd.snd.snd.snd.snd.snd.snd.snd.snd.snd.snd.snd.snd.snd.snd.snd.fst) (v1.snd.snd.snd.snd.snd.snd.snd.snd.snd.snd.snd.snd.snd.snd.snd.snd.snd.snd.snd.snd.snd.snd.snd)).run R := by
  unfold g_model_bare g_model_empty
  refine W.bindI (W.bindI ?_)
  iterate 7 (refine W.iteR ?_; refine W.bindI ?_)
  refine W.iteR ?_
  refine W.retI ?_
  refine W.retE h ?_
  obtain ⟨ub, um, uwin, upads, uw, usa, usb, upad⟩ := u
  dsimp only
  simp only [restB, nil_len]
  cases ub <;> cases um <;> cases uwin <;> cases upads <;> cases uw <;> cases usa <;> cases usb <;> cases upad <;> simp only [cond_true, cond_false] <;> simp <;> ac_rfl
theorem restB_eq (o : Opr) (h : ¬ (o.kind < 1 ∨ 8 < o.kind)) : restB o (usesOf o.kind) = decide o.spare := by
  obtain ⟨k, a, b, m, ⟨kh, kw, sh, sw, tp, lf, bt, rt⟩, wn, ws, bn, bs, sam, sas, sbm, sbs, zero, pad, lo, hi⟩ := o
  dsimp only at h ⊢
  rw [Bool.eq_iff_iff, decide_eq_true_eq]
  rcases kind_cases h with rfl | rfl | rfl | rfl | rfl | rfl | rfl | rfl <;> simp [restB, usesOf, Opr.spare, slides, weighs, scales, List.isEmpty_iff, List.length_eq_zero_iff, Win.mk.injEq] <;> (constructor <;> intro q <;> simp_all)
theorem g_model_makes_ok (o : Opr) (s : Shp) (hk : ¬ (o.kind < 1 ∨ 8 < o.kind)) (hs : s.ok) (hm : o.kind ≤ 2 → 1 ≤ o.m ∧ o.m ≤ 1024) {R : Int × Int × Int × Int × Int × Int → Prop}
    (h : R (if (o.mk1 s).2 ≠ 0 then (0, 0, 0, 0, 0, (o.mk1 s).2) else ((o.mk1 s).1.h, (o.mk1 s).1.w, (o.mk1 s).1.c, if reduces o.kind then o.len s else 0, o.labour s (o.mk1 s).1, 0))) :
    (g_model_makes o.kind o.a o.b o.m o.win.kh o.win.kw o.win.sh o.win.sw o.win.top o.win.left o.win.bottom o.win.right o.wn o.ws o.bn o.bs o.sam o.sas o.sbm o.sbs o.zero o.pad o.lo o.hi s.h s.w s.c).run R := by
  have hs' := hs
  unfold Shp.ok at hs'
  obtain ⟨p1, p2, p3, p4⟩ := prod3 hs'.1 hs'.2.1 hs'.2.2.1
  unfold g_model_makes
  refine W.bindI (g_model_of_ok _ hk (W.bindI (W.iteC (slides o.kind) rfl (fun h1 => ?_) fun h1 => ?_)))
  · -- a window
    have hk1 : o.kind ≠ 1 := by unfold slides at h1; omega
    refine W.bindI (g_window_Out_ok s o.win (W.iteC ((wout s o.win).2.2 ≠ 0) (by first | (simp; done) | (simp; rfl)) (fun he => W.retI (W.retE h ?_)) fun he => W.retI ?_))
    · have e : (o.mk1 s).2 ≠ 0 := by unfold Opr.mk1; rw [if_neg hk1, if_pos h1, if_pos he]; exact he
      rw [if_pos e]
      unfold Opr.mk1; rw [if_neg hk1, if_pos h1, if_pos he]
    · have he' : (wout s o.win).2.2 = 0 := by simpa using he
      have hd := (wout_win he').2
      have hd2 := hd.dims
      unfold Win.dims at hd2
      have q := mul_bd (A := 32) (B := 32) hd2.1.1 hd2.1.2 hd2.2.1 hd2.2.2
      have q2 := mul_bd (A := 1024) (B := 1024) q.1 (by omega) (by omega : 0 ≤ s.c) (by omega)
      have hmk : o.mk1 s = (⟨(wout s o.win).1, (wout s o.win).2.1, if o.kind = 2 then o.m else s.c⟩, 0) := by unfold Opr.mk1; rw [if_neg hk1, if_pos h1, if_neg he]
      rw [hmk] at h
      dsimp only at h
      rw [if_neg (by simp)] at h
      have hwo : (0 ≤ (wout s o.win).1 ∧ (wout s o.win).1 ≤ 2000) ∧ (0 ≤ (wout s o.win).2.1 ∧ (wout s o.win).2.1 ≤ 2000) := by
        have hd3 := hd
        unfold Win.ok sideOK at hd3
        unfold wout
        rw [if_neg (by simpa using hs), if_neg (by simpa using hd)]
        have b1 := places_bd (n := s.h + o.win.top + o.win.bottom) (k := o.win.kh) (s := o.win.sh) (by omega) (by omega)
        have b2 := places_bd (n := s.w + o.win.left + o.win.right) (k := o.win.kw) (s := o.win.sw) (by omega) (by omega)
        split
        · simp
        · dsimp only; omega
      have w1 := mul_bd (A := 2000) (B := 2000) hwo.1.1 hwo.1.2 hwo.2.1 hwo.2.2
      have w2 : ∀ c : Int, 0 ≤ c → c ≤ 1024 → 0 ≤ (wout s o.win).1 * (wout s o.win).2.1 * c ∧ (wout s o.win).1 * (wout s o.win).2.1 * c ≤ 4096000000 := fun c h0 h1 => by
        have := mul_bd (A := 4000000) (B := 1024) w1.1 (by omega) h0 h1; omega
      have w3 : ∀ c t : Int, 0 ≤ c → c ≤ 1024 → 0 ≤ t → t ≤ 1048576 → 0 ≤ (wout s o.win).1 * (wout s o.win).2.1 * c * t ∧ (wout s o.win).1 * (wout s o.win).2.1 * c * t ≤ 4294967296000000 := fun c t h0 h1 h2 h3 => by
        have := mul_bd (A := 4096000000) (B := 1048576) (w2 c h0 h1).1 (w2 c h0 h1).2 h2 h3; omega
      rw [wrap64_in (x := o.win.kh * o.win.kw) (by omega) (by omega)]
      refine W.bindI (W.iteF (by simp [hk1]) (W.iteC (o.kind = 2) rfl (fun h2 => W.retI (W.retE h ?_)) fun h2 => W.bindI ?_))
      · have e1 := w2 o.m (by omega) (by omega)
        have e2 := w3 o.m (o.win.kh * o.win.kw * s.c) (by omega) (by omega) q2.1 (by omega)
        dsimp only
        rw [wrap64_in (x := o.win.kh * o.win.kw * s.c) (by omega) (by omega), wrap64_in (x := (wout s o.win).1 * (wout s o.win).2.1) (by omega) (by omega), wrap64_in (x := (wout s o.win).1 * (wout s o.win).2.1 * o.m) (by omega) (by omega), wrap64_in (by omega) (by omega)]
        have hr : reduces o.kind := by unfold reduces; omega
        rw [if_pos h2, if_pos hr]
        simp only [Opr.labour, Opr.len]
        rw [if_pos hr, if_neg hk1, if_pos h2]
      · have e1 := w2 s.c (by omega) (by omega)
        have e2 := w3 s.c (o.win.kh * o.win.kw) (by omega) (by omega) q.1 (by omega)
        rw [if_neg h2] at h
        have key : ∀ b : Bool, b = decide (o.kind = 3 ∨ o.kind = 4) → (W.ite b (W.ret (o.win.kh * o.win.kw, o.win.kh * o.win.kw, (wout s o.win).1, (wout s o.win).2.1, s.c)) (W.ret (o.win.kh * o.win.kw, 0, (wout s o.win).1, (wout s o.win).2.1, s.c))).run fun v4 =>
            (W.ret (v4.snd.snd.fst, v4.snd.snd.snd.fst, v4.snd.snd.snd.snd, v4.snd.fst, IntKind.i64.wrap (IntKind.i64.wrap (IntKind.i64.wrap (v4.snd.snd.fst * v4.snd.snd.snd.fst) * v4.snd.snd.snd.snd) * v4.fst), (0 : Int))).run R := fun b hb => by
          have hlab : o.labour s ⟨(wout s o.win).1, (wout s o.win).2.1, s.c⟩ = (wout s o.win).1 * (wout s o.win).2.1 * s.c * (o.win.kh * o.win.kw) := by
            unfold Opr.labour Opr.len
            dsimp only
            by_cases hr : reduces o.kind
            · rw [if_pos hr, if_neg hk1, if_neg h2]
            · rw [if_neg hr, if_pos (by unfold reduces at hr; unfold slides at h1; omega)]
              rw [Int.mul_assoc ((wout s o.win).1 * (wout s o.win).2.1 * s.c)]
          have hlen : o.len s = o.win.kh * o.win.kw := by unfold Opr.len; rw [if_neg hk1, if_neg h2]
          rw [hlab, hlen] at h
          refine W.iteC _ hb (fun h3 => W.retI (W.retE h ?_)) fun h3 => W.retI (W.retE h ?_)
          · rw [if_pos (by unfold reduces; omega)]
            dsimp only
            rw [wrap64_in (x := (wout s o.win).1 * (wout s o.win).2.1) (by omega) (by omega), wrap64_in (x := (wout s o.win).1 * (wout s o.win).2.1 * s.c) (by omega) (by omega), wrap64_in (by omega) (by omega)]
          · rw [if_neg (by unfold reduces; unfold slides at h1; omega)]
            dsimp only
            rw [wrap64_in (x := (wout s o.win).1 * (wout s o.win).2.1) (by omega) (by omega), wrap64_in (x := (wout s o.win).1 * (wout s o.win).2.1 * s.c) (by omega) (by omega), wrap64_in (by omega) (by omega)]
        refine (W.iteC (o.kind = 3) rfl (fun h3 => W.retI (key (o.kind == 3) (by simp [h3]))) fun h3 => W.retI (key (o.kind == 4) (by rw [Bool.eq_iff_iff]; simp [h3])))
  · refine W.retI (W.bindI (W.iteC (o.kind = 1) rfl (fun h2 => W.retI ?_) fun h2 => W.iteF (by simp; unfold slides at h1; omega) (W.bindI (W.iteF (by simp; unfold slides at h1; omega) (W.retI (W.iteF (by simp; unfold slides at h1; omega) (W.retI ?_)))))))
    · have hmk : o.mk1 s = (⟨1, 1, o.m⟩, 0) := by unfold Opr.mk1; rw [if_pos h2]
      have hr : reduces o.kind := by unfold reduces; omega
      have hm := hm (by omega)
      have q := mul_bd (A := 1024) (B := 16384) (by omega : 0 ≤ o.m) hm.2 p3 hs'.2.2.2
      have hlen : o.len s = s.h * s.w * s.c := by unfold Opr.len; rw [if_pos h2]
      have hlab : o.labour s ⟨1, 1, o.m⟩ = o.m * (s.h * s.w * s.c) := by
        unfold Opr.labour; rw [if_pos hr, hlen]; simp only [Int.one_mul]
      rw [hmk] at h
      dsimp only at h
      rw [if_neg (by simp : ¬ ((0 : Int) ≠ 0)), if_pos hr, hlen, hlab] at h
      refine W.retE h ?_
      dsimp only
      rw [wrap64_in (x := s.h * s.w) (by omega) (by omega), wrap64_in (x := s.h * s.w * s.c) (by omega) (by omega), wrap64_in (x := (1 : Int) * 1) (by omega) (by omega)]
      simp only [Int.one_mul]
      rw [wrap64_in (x := o.m) (by omega) (by omega), wrap64_in (by omega) (by omega)]
    · have hmk : o.mk1 s = (s, 0) := by unfold Opr.mk1; rw [if_neg h2, if_neg h1]
      have hr : ¬ reduces o.kind := by unfold reduces; unfold slides at h1; omega
      have hlab : o.labour s s = s.h * s.w * s.c := by
        unfold Opr.labour; rw [if_neg hr, if_neg (by unfold slides at h1; omega)]
      rw [hmk] at h
      dsimp only at h
      rw [if_neg (by simp : ¬ ((0 : Int) ≠ 0)), if_neg hr, hlab] at h
      refine W.retE h ?_
      dsimp only
      rw [wrap64_in (x := s.h * s.w) (by omega) (by omega), wrap64_in (x := s.h * s.w * s.c) (by omega) (by omega), Int.mul_one, wrap64_in (by omega) (by omega)]
theorem g_fixq_Valid_ok (a b : Int) {R : Bool → Prop} (h : R (decide (scaleOK a b))) : (g_fixq_Valid a b).run R := by
  unfold g_fixq_Valid
  exact W.retE h (by rw [Bool.eq_iff_iff, decide_eq_true_eq]; simp [scaleOK, and_assoc]; omega)
theorem W.assoc {α β γ : Type} {x : W α} {f : α → W β} {g : β → W γ} {R : γ → Prop} (h : (W.bind (W.bind x f) g).run R) : (W.bind x fun a => W.bind (f a) g).run R := h
def intRows (l : List Int) : Rws := l.map fun n => [I n]
theorem ri_ints (l : List Int) (i : Nat) : ri (intRows l) i 0 = l.getD i 0 := by
  simp only [ri, cellOf, intRows, List.getD_eq_getElem?_getD, List.getElem?_map]
  cases l[i]? <;> rfl
theorem g_model_byte8_ok (nl : Bool) (l : List Int) (hl : l.length ≤ 70368744175616) {R : Bool → Prop} (h : R (decide (∀ n ∈ l, val n))) : (g_model_byte8 nl (intRows l)).run R := by
  have hlen : (intRows l).length = l.length := by simp [intRows]
  unfold g_model_byte8
  refine W.bindI (W.loop_inv (fun v : Int => ∃ k : Nat, v = k ∧ k ≤ l.length ∧ ∀ n ∈ l.take k, val n) (fun v => l.length - v.toNat) ?_ ⟨0, rfl, Nat.zero_le _, by simp⟩)
  rintro _ ⟨k, rfl, hk, hv⟩
  rw [hlen]
  refine W.iteC (k < l.length) (by rw [decide_eq_decide]; omega) (fun hlt => W.needI (by omega) ?_) fun hge => ?_
  · rw [Int.toNat_natCast, ri_ints]
    have hg : l.getD k 0 = l[k] := by rw [List.getD_eq_getElem?_getD, List.getElem?_eq_getElem hlt]; rfl
    rw [hg]
    refine W.iteC (¬ val l[k]) (by rw [Bool.eq_iff_iff, decide_eq_true_eq]; simp [val]; omega) (fun h1 => W.retI (W.retE h ?_)) fun h1 => W.retI ?_
    · have : ¬ ∀ n ∈ l, val n := fun q => h1 (q _ (List.getElem_mem hlt))
      simp [this]
    · rw [wrap64_in (by omega) (by omega)]
      refine ⟨⟨k + 1, by omega, hlt, fun n hn => ?_⟩, by omega⟩
      rw [List.take_succ_eq_append_getElem hlt] at hn
      rcases List.mem_append.1 hn with hn | hn
      · exact hv n hn
      · simp at hn; subst hn; exact Classical.not_not.1 h1
  · refine W.retI (W.retE h ?_)
    have e : k = l.length := by omega
    subst e
    rw [List.take_length] at hv
    exact (decide_eq_true hv).symm
theorem g_model_op_ok (o : Opr) (S : List Shp) (nl : Bool) (hS : ∀ s ∈ S, s.ok) (hw : o.ws.length ≤ 70368744175616) (hb : o.bs.length ≤ 35184372087808) {R : Int × Int × Int × Int × Int → Prop}
    (h : R (if (o.one S).2 ≠ 0 then (0, 0, 0, 0, (o.one S).2) else ((o.one S).1.h, (o.one S).1.w, (o.one S).1.c, o.labour (S.getD o.a.toNat default) (o.one S).1, 0))) :
    (g_model_op o.kind o.a o.b o.m o.win.kh o.win.kw o.win.sh o.win.sw o.win.top o.win.left o.win.bottom o.win.right o.wn o.ws o.bn o.bs o.sam o.sas o.sbm o.sbs o.zero o.pad o.lo o.hi nl (S.map Shp.enc)).run R := by
  have fail : ∀ e : Int, o.one S = (⟨0, 0, 0⟩, e) → e ≠ 0 → R (0, 0, 0, 0, e) := fun e h1 h2 => by rw [h1] at h; dsimp only at h; rwa [if_pos h2] at h
  unfold g_model_op
  refine W.bindI ?_
  by_cases h1 : o.kind < 1 ∨ 8 < o.kind
  · exact g_model_of_bad _ h1 (W.iteT rfl (W.retI (fail 81 (by simp only [Opr.one]; rw [if_pos h1]) (by decide))))
  refine g_model_of_ok _ h1 (W.iteF rfl ?_)
  rw [List.length_map]
  refine W.iteC ((o.a < 0 ∨ S.length ≤ o.a) ∨ o.kind = 6 ∧ (o.b < 0 ∨ S.length ≤ o.b)) (by simp [usesOf]) (fun h2 => W.retI (fail 82 (by simp only [Opr.one]; rw [if_neg h1, if_pos h2]) (by decide))) fun h2 => ?_
  refine W.assoc (W.bindI (bare_empty_ok o (usesOf o.kind) ?_))
  rw [restB_eq o h1]
  refine W.iteC (¬ o.spare) (by simp) (fun h3 => W.retI (fail 83 (by simp only [Opr.one]; rw [if_neg h1, if_neg h2, if_pos h3]) (by decide))) fun h3 => ?_
  refine W.iteC (o.kind ≤ 2 ∧ (o.m < 1 ∨ 1024 < o.m)) (by simp [usesOf]) (fun h4 => W.retI (fail 2 (by simp only [Opr.one]; rw [if_neg h1, if_neg h2, if_neg h3, if_pos h4]) (by decide))) fun h4 => ?_
  refine W.needI (by omega) ?_
  have hsa : (S.getD o.a.toNat default).ok := hS _ (getD_mem (by omega))
  rw [ri_shp0, ri_shp1, ri_shp2]
  refine W.bindI (g_model_makes_ok o _ h1 hsa (by omega) ?_)
  by_cases h5 : (o.mk1 (S.getD o.a.toNat default)).2 ≠ 0
  · rw [if_pos h5]
    exact W.iteT (by simpa using h5) (W.retI (fail _ (by simp only [Opr.one]; rw [if_neg h1, if_neg h2, if_neg h3, if_neg h4, if_pos h5]) h5))
  rw [if_neg h5]
  have h5' : (o.mk1 (S.getD o.a.toNat default)).2 = 0 := Classical.not_not.1 h5
  have hd := mk1_dims h5'
  refine W.iteF rfl ?_
  dsimp only
  refine W.bindI (g_shape_Elems_ok _ _ _ ?_)
  have hel : ∀ b : Int × Int, b = (if Shp.ok ⟨(o.mk1 (S.getD o.a.toNat default)).1.h, (o.mk1 (S.getD o.a.toNat default)).1.w, (o.mk1 (S.getD o.a.toNat default)).1.c⟩ then ((o.mk1 (S.getD o.a.toNat default)).1.h * (o.mk1 (S.getD o.a.toNat default)).1.w * (o.mk1 (S.getD o.a.toNat default)).1.c, 0) else (0, 50)) →
      (b.2 != 0) = decide (¬ (o.mk1 (S.getD o.a.toNat default)).1.ok) := fun b hb => by
    subst hb
    generalize o.mk1 (S.getD o.a.toNat default) = t
    obtain ⟨⟨x, y, z⟩, e⟩ := t
    dsimp only
    split <;> simp_all
  generalize hq : (if Shp.ok ⟨(o.mk1 (S.getD o.a.toNat default)).1.h, (o.mk1 (S.getD o.a.toNat default)).1.w, (o.mk1 (S.getD o.a.toNat default)).1.c⟩ then ((o.mk1 (S.getD o.a.toNat default)).1.h * (o.mk1 (S.getD o.a.toNat default)).1.w * (o.mk1 (S.getD o.a.toNat default)).1.c, (0 : Int)) else (0, 50)) = q
  rw [hel q hq.symm]
  refine W.needI (fun e => by have : o.kind = 6 := by simpa [usesOf] using e.1
                              omega) ?_
  rw [ri_shp0, ri_shp1, ri_shp2]
  refine W.iteC ((o.kind = 6 ∧ S.getD o.b.toNat default ≠ S.getD o.a.toNat default) ∨ ¬ (o.mk1 (S.getD o.a.toNat default)).1.ok) ?_
    (fun h6 => W.retI (fail 50 (by simp only [Opr.one]; rw [if_neg h1, if_neg h2, if_neg h3, if_neg h4, if_neg h5, if_pos h6]) (by decide))) fun h6 => ?_
  · rw [Bool.eq_iff_iff, decide_eq_true_eq]
    generalize S.getD o.b.toNat default = x
    generalize o.mk1 (S.getD o.a.toNat default) = t
    generalize S.getD o.a.toNat default = y
    obtain ⟨x1, x2, x3⟩ := x
    obtain ⟨y1, y2, y3⟩ := y
    by_cases hk6 : o.kind = 6 <;> simp [usesOf, hk6]
    by_cases ht : t.1.ok <;> simp [ht]
    omega
  have hout : (o.mk1 (S.getD o.a.toNat default)).1.ok := by
    rw [not_or] at h6; exact Classical.not_not.1 h6.2
  have hdl : reduces o.kind → o.kind ≠ 1 → o.win.dims := fun hr hk => hd (by unfold reduces at hr; unfold slides; omega)
  have hlists : o.lists (S.getD o.a.toNat default) = ((if weighs o.kind then (o.mk1 (S.getD o.a.toNat default)).1.c else 0) * (if reduces o.kind then o.len (S.getD o.a.toNat default) else 0), (if weighs o.kind then (o.mk1 (S.getD o.a.toNat default)).1.c else 0)) := by
    unfold Opr.lists
    by_cases k12 : o.kind = 1 ∨ o.kind = 2
    · have hc : (o.mk1 (S.getD o.a.toNat default)).1.c = o.m := by
        unfold Opr.mk1
        rcases k12 with k | k
        · rw [if_pos k]
        · rw [if_neg (by omega), if_pos (by unfold slides; omega)]
          unfold Opr.mk1 at h5'
          rw [if_neg (by omega), if_pos (by unfold slides; omega)] at h5'
          split at h5'
          · rename_i q; exact absurd h5' q
          · rename_i q; rw [if_neg q, if_pos k]
      rw [if_pos k12, if_pos (by unfold weighs; omega), if_pos (by unfold reduces; omega), hc]
    · rw [if_neg k12]
      by_cases k3 : o.kind = 3
      · have hc : (o.mk1 (S.getD o.a.toNat default)).1.c = (S.getD o.a.toNat default).c := by
          unfold Opr.mk1
          rw [if_neg (by omega), if_pos (by unfold slides; omega)]
          unfold Opr.mk1 at h5'
          rw [if_neg (by omega), if_pos (by unfold slides; omega)] at h5'
          split at h5'
          · rename_i q; exact absurd h5' q
          · rename_i q; rw [if_neg q, if_neg (by omega)]
        rw [if_pos k3, if_pos (by unfold weighs; omega), if_pos (by unfold reduces; omega), hc]
      · rw [if_neg k3, if_neg (by unfold weighs; omega), Int.zero_mul]
  refine W.bindI (W.iteR ?_)
  have hrows : (bif (usesOf o.kind).weights then (o.mk1 (S.getD o.a.toNat default)).1.c else 0) = (if weighs o.kind then (o.mk1 (S.getD o.a.toNat default)).1.c else 0) := by
    unfold usesOf; dsimp only; by_cases hh : weighs o.kind <;> simp [hh]
  rw [hrows]
  refine W.iteC (reduces o.kind ∧ 512 < o.len (S.getD o.a.toNat default)) ?_
    (fun h7 => W.retI (fail 84 (by simp only [Opr.one]; rw [if_neg h1, if_neg h2, if_neg h3, if_neg h4, if_neg h5, if_neg h6, if_pos h7]) (by decide))) fun h7 => ?_
  · rw [decide_eq_decide]
    by_cases hr : reduces o.kind <;> simp [hr]
  have hlb : 0 ≤ (if reduces o.kind then o.len (S.getD o.a.toNat default) else 0) ∧ (if reduces o.kind then o.len (S.getD o.a.toNat default) else 0) ≤ 512 := by
    by_cases hr : reduces o.kind
    · rw [if_pos hr]
      have := len_bd o _ hsa (hdl hr)
      have h7' : ¬ 512 < o.len (S.getD o.a.toNat default) := fun q => h7 ⟨hr, q⟩
      omega
    · rw [if_neg hr]; omega
  have hrb : 0 ≤ (if weighs o.kind then (o.mk1 (S.getD o.a.toNat default)).1.c else 0) ∧ (if weighs o.kind then (o.mk1 (S.getD o.a.toNat default)).1.c else 0) ≤ 1024 := by
    unfold Shp.ok at hout
    split <;> omega
  have hm := mul_bd (A := 1024) (B := 512) hrb.1 hrb.2 hlb.1 hlb.2
  rw [wrap64_in (by omega) (by omega)]
  refine W.iteC ((o.ws.length : Int) ≠ (o.lists (S.getD o.a.toNat default)).1 ∨ (o.bs.length : Int) ≠ (o.lists (S.getD o.a.toNat default)).2) (by rw [hlists]; first | (simp; done) | (simp; rfl))
    (fun h8 => W.retI (fail 70 (by simp only [Opr.one]; rw [if_neg h1, if_neg h2, if_neg h3, if_neg h4, if_neg h5, if_neg h6, if_neg h7, if_pos h8]) (by decide))) fun h8 => ?_
  have key9 : ∀ {Q : Bool → Prop}, Q (decide (scales o.kind ∧ ¬ scaleOK o.sam o.sas ∨ o.kind = 6 ∧ ¬ scaleOK o.sbm o.sbs)) →
      (W.ite (usesOf o.kind).sa (W.bind (g_fixq_Valid o.sam o.sas) fun v6 => W.ite (!v6) (W.ret true) (W.ite (usesOf o.kind).sb (W.bind (g_fixq_Valid o.sbm o.sbs) fun v7 => W.ret !v7) (W.ret false)))
        (W.ite (usesOf o.kind).sb (W.bind (g_fixq_Valid o.sbm o.sbs) fun v8 => W.ret !v8) (W.ret false))).run Q := fun {Q} hq => by
    have tail : ∀ {Q : Bool → Prop}, Q (decide (o.kind = 6 ∧ ¬ scaleOK o.sbm o.sbs)) → (W.ite (usesOf o.kind).sb (W.bind (g_fixq_Valid o.sbm o.sbs) fun v11 => W.ret !v11) (W.ret false)).run Q := fun {Q} hq =>
      W.iteC (o.kind = 6) rfl (fun q => W.bindI (g_fixq_Valid_ok _ _ (W.retE hq (by simp [q])))) fun q => W.retE hq (by simp [q])
    refine W.iteC (scales o.kind) rfl (fun q1 => W.bindI (g_fixq_Valid_ok _ _ (W.iteC (¬ scaleOK o.sam o.sas) (by simp) (fun q2 => W.retE hq (by simp [q1, q2])) fun q2 => tail ?_))) fun q1 => tail ?_
    · simpa [q1, q2] using hq
    · simpa [q1] using hq
  refine W.bindI (key9 ?_)
  refine W.iteC _ rfl (fun h9 => W.retI (fail 20 (by simp only [Opr.one]; rw [if_neg h1, if_neg h2, if_neg h3, if_neg h4, if_neg h5, if_neg h6, if_neg h7, if_neg h8, if_pos h9]) (by decide))) fun h9 => ?_
  refine W.bindI (g_model_byte8_ok false [o.lo, o.hi, o.zero, o.pad] (by simp) ?_)
  refine W.iteC (¬ val o.lo ∨ ¬ val o.hi ∨ o.hi < o.lo ∨ ¬ val o.zero ∨ ¬ val o.pad) (by rw [Bool.eq_iff_iff, decide_eq_true_eq]; by_cases a : val o.lo <;> by_cases b : val o.hi <;> by_cases c : val o.zero <;> by_cases d : val o.pad <;> simp [a, b, c, d])
    (fun h10 => W.retI (fail 85 (by simp only [Opr.one]; rw [if_neg h1, if_neg h2, if_neg h3, if_neg h4, if_neg h5, if_neg h6, if_neg h7, if_neg h8, if_neg h9, if_pos h10]) (by decide))) fun h10 => ?_
  have hone : o.one S = ((o.mk1 (S.getD o.a.toNat default)).1, 0) := by
    simp only [Opr.one]; rw [if_neg h1, if_neg h2, if_neg h3, if_neg h4, if_neg h5, if_neg h6, if_neg h7, if_neg h8, if_neg h9, if_neg h10]
  rw [hone] at h
  dsimp only at h
  rw [if_neg (by simp : ¬ ((0 : Int) ≠ 0))] at h
  exact W.retI h
theorem g_model_op_row (l : Rws) (k : Nat) (S : List Shp) (nl : Bool) (hS : ∀ s ∈ S, s.ok) (hw : (Opr.of (l.getD k [])).ws.length ≤ 70368744175616) (hb : (Opr.of (l.getD k [])).bs.length ≤ 35184372087808) {R : Int × Int × Int × Int × Int → Prop}
    (h : R (if ((Opr.of (l.getD k [])).one S).2 ≠ 0 then (0, 0, 0, 0, ((Opr.of (l.getD k [])).one S).2) else (((Opr.of (l.getD k [])).one S).1.h, ((Opr.of (l.getD k [])).one S).1.w, ((Opr.of (l.getD k [])).one S).1.c, (Opr.of (l.getD k [])).labour (S.getD (Opr.of (l.getD k [])).a.toNat default) ((Opr.of (l.getD k [])).one S).1, 0))) :
    (g_model_op (ri l k 0) (ri l k 1) (ri l k 2) (ri l k 3) (ri l k 4) (ri l k 5) (ri l k 6) (ri l k 7) (ri l k 8) (ri l k 9) (ri l k 10) (ri l k 11) (rn l k 12) (rr l k 12) (rn l k 13) (rr l k 13) (ri l k 14) (ri l k 15) (ri l k 16) (ri l k 17) (ri l k 18) (ri l k 19) (ri l k 20) (ri l k 21) nl (S.map Shp.enc)).run R :=
  by have q := g_model_op_ok (R := R) (Opr.of (l.getD k [])) S nl hS hw hb h
     refine (congrArg (fun x : W _ => x.run R) ?_).mp q
     congr 1
theorem g_model_whole_ok (s : Shp) (lo hi : Int) (nl : Bool) (l : Rws) (out : Int) (hl : l.length ≤ 676622540150) (hsh : short l) {R : Int × Int × Int × Int × Bool × Rws → Prop} (h : R (look8 s lo hi (oprs l) out).tup) :
    (g_model_whole s.h s.w s.c lo hi nl l out).run R := by
  have hlen : (oprs l).length = l.length := by simp [oprs]
  unfold g_model_whole
  unfold look8 at h
  rw [hlen] at h
  refine W.bindI (g_shape_Elems_ok _ _ _ (W.iteC (¬ s.ok) (by split <;> simp_all) (fun h1 => ?_) fun h1 => ?_))
  · rw [if_neg h1]
    rw [if_pos h1] at h
    exact W.retE h rfl
  rw [if_neg h1] at h
  refine W.bindI (g_model_byte8_ok false [lo, hi] (by simp) (W.iteC (¬ val lo ∨ ¬ val hi ∨ hi < lo) ?_ (fun h2 => ?_) fun h2 => ?_))
  · rw [Bool.eq_iff_iff, decide_eq_true_eq]; by_cases a : val lo <;> by_cases b : val hi <;> simp [a, b]
  · rw [if_pos h2] at h; exact W.retE h rfl
  rw [if_neg h2] at h
  refine W.iteC (64 < l.length) (by rw [decide_eq_decide]; omega) (fun h3 => ?_) fun h3 => ?_
  · rw [if_pos h3] at h; exact W.retE h rfl
  rw [if_neg h3] at h
  refine W.iteC (out < 0 ∨ l.length < out) (by rw [Bool.decide_or]) (fun h4 => ?_) fun h4 => ?_
  · rw [if_pos h4] at h; exact W.retE h rfl
  rw [if_neg h4] at h
  refine W.bindI (W.loop_inv (fun v : Int × Int × Rws => ∃ (k : Nat) (S : List Shp), v.2.1 = k ∧ k ≤ l.length ∧ v.2.2 = S.map Shp.enc ∧ S.length = k + 1 ∧ (∀ s ∈ S, s.ok) ∧ 0 ≤ v.1 ∧ v.1 ≤ 131072 ∧ R (walk8 ((oprs l).drop k) k v.1 S).tup)
    (fun v => l.length - v.2.1.toNat) ?_ ⟨0, [s], rfl, Nat.zero_le _, rfl, rfl, by simpa using h1, by dsimp only; omega, by dsimp only; omega, h⟩)
  rintro ⟨w, i, rows⟩ ⟨k, S, rfl, hk, rfl, hSl, hS, hw0, hw1, hR⟩
  dsimp only at hw0 hw1 hR ⊢
  refine W.iteC (k < l.length) (by rw [decide_eq_decide]; omega) (fun hlt => W.needI (by omega) ?_) fun hge => ?_
  · rw [Int.toNat_natCast, wrap64_in (x := (k : Int) + 1) (by omega) (by omega)]
    have hmem : l.getD k [] ∈ l := by rw [List.getD_eq_getElem?_getD, List.getElem?_eq_getElem hlt]; exact List.getElem_mem hlt
    obtain ⟨s1, s2⟩ := hsh _ hmem
    rw [drop_opr l k hlt] at hR
    refine W.bindI (g_model_op_row l k S false hS s1 s2 ?_)
    unfold walk8 at hR
    by_cases h5 : ((Opr.of (l.getD k [])).one S).2 ≠ 0
    · rw [if_pos h5] at hR ⊢
      dsimp only
      rw [Int.add_zero, wrap64_in (by omega) (by omega)]
      refine W.bindI (W.iteF (by simp [h5, -List.getD_eq_getElem?_getD]) (W.retI (W.iteT (by simp [h5, -List.getD_eq_getElem?_getD]) (W.retI (W.retE hR ?_)))))
      simp only [Ans8.tup]
      simp [h5, -List.getD_eq_getElem?_getD]
    · rw [if_neg h5] at hR ⊢
      have h5' : ((Opr.of (l.getD k [])).one S).2 = 0 := Classical.not_not.1 h5
      obtain ⟨q1, q2, q3, q4⟩ := one_ok h5'
      have hsa := hS _ (getD_mem (S := S) (i := (Opr.of (l.getD k [])).a.toNat) (by omega))
      have bd := labour_bd (Opr.of (l.getD k [])) _ _ hsa q2 q3
      dsimp only
      rw [wrap64_in (by omega) (by omega)]
      refine W.bindI (W.iteC (131072 < w + (Opr.of (l.getD k [])).labour (S.getD (Opr.of (l.getD k [])).a.toNat default) ((Opr.of (l.getD k [])).one S).1) (by simp) (fun h6 => W.retI (W.iteT rfl (W.retI ?_))) fun h6 => W.retI (W.iteF rfl ?_))
      · rw [if_pos h6] at hR
        exact W.retE hR rfl
      · rw [if_neg h6] at hR
        rw [List.length_map]
        refine W.needI (by omega) (W.retI ⟨⟨k + 1, S ++ [((Opr.of (l.getD k [])).one S).1], rfl, hlt, by simp [Shp.enc], by simp [hSl], ?_, by dsimp only; omega, by dsimp only; omega, ?_⟩, ?_⟩)
        · intro x hx
          rcases List.mem_append.1 hx with hx | hx
          · exact hS x hx
          · simp at hx; subst hx; exact q2
        · simpa using hR
        · dsimp only; omega
  · have e : k = l.length := by omega
    subst e
    rw [List.drop_eq_nil_of_le (by omega)] at hR
    exact W.retI (W.retE hR (by simp [walk8, Ans8.tup]))
theorem g_model_Shapes_ok (s : Shp) (lo hi : Int) (nl : Bool) (l : Rws) (out : Int) (hl : l.length ≤ 676622540150) (hsh : short l) {R : Int × Int × Int × Bool × Rws → Prop} (h : R (look8 s lo hi (oprs l) out).tup.2) : (g_model_Shapes s.h s.w s.c lo hi nl l out).run R := by
  unfold g_model_Shapes
  exact W.bindI (g_model_whole_ok s lo hi nl l out hl hsh (W.retI h))
theorem g_model_Check_ok (s : Shp) (lo hi : Int) (nl : Bool) (l : Rws) (out : Int) (hl : l.length ≤ 676622540150) (hsh : short l) {R : Int × Int × Int → Prop} (h : R ((look8 s lo hi (oprs l) out).err, (look8 s lo hi (oprs l) out).op, 0)) : (g_model_Check s.h s.w s.c lo hi nl l out).run R := by
  unfold g_model_Check
  exact W.bindI (g_model_whole_ok s lo hi nl l out hl hsh (W.retI h))
theorem g_model_Reduces_ok (k : Int) {R : Bool → Prop} (h : R (decide (reduces k))) : (g_model_Reduces k).run R := by
  unfold g_model_Reduces
  have e : ∀ b : Bool, b = decide (reduces k) → (W.ite b (W.ret true) (W.ret false)).run R := fun b hb => by
    subst hb; exact W.iteC _ rfl (fun q => W.retE h (by simp [q])) fun q => W.retE h (by simp [q])
  refine W.bindI (W.iteC (k = 1) rfl (fun h1 => W.retI (e _ (by simp [h1, reduces]))) fun h1 => W.iteC (k = 2) rfl (fun h2 => W.retI (e _ (by simp [h2, reduces]))) fun h2 => W.iteC (k = 3) rfl (fun h3 => W.retI (e _ (by simp [h3, reduces]))) fun h3 => W.retI (e _ ?_))
  rw [Bool.eq_iff_iff, decide_eq_true_eq]
  unfold reduces
  simp; omega
/-! ### Comparing -/
deriving instance DecidableEq for Ans8
theorem walk8_facts : ∀ (l : List Opr) (i w : Int) (S : List Shp), ((walk8 l i w S).err = 0 → (walk8 l i w S).op = 0 ∧ (walk8 l i w S).S.length = S.length + l.length) ∧
    ((walk8 l i w S).err ≠ 0 → (walk8 l i w S).S = [] ∧ (walk8 l i w S).work = 0 ∧ i < (walk8 l i w S).op ∧ (walk8 l i w S).op ≤ i + l.length)
  | [], i, w, S => by simp [walk8]
  | o :: r, i, w, S => by
    unfold walk8
    split
    · rename_i h
      exact ⟨fun e => absurd e h, fun _ => ⟨rfl, rfl, by simp; omega, by simp; omega⟩⟩
    · split
      · exact ⟨fun e => by simp at e, fun _ => ⟨rfl, rfl, by simp; omega, by simp; omega⟩⟩
      · have := walk8_facts r (i + 1) (w + o.labour (S.getD o.a.toNat default) (o.one S).1) (S ++ [(o.one S).1])
        refine ⟨fun e => ?_, fun e => ?_⟩
        · have q := this.1 e
          refine ⟨q.1, ?_⟩
          rw [q.2]; simp; omega
        · have q := this.2 e
          refine ⟨q.1, q.2.1, by omega, ?_⟩
          have := q.2.2.2
          simp at this ⊢; omega
theorem step_ok {o : Opr} {S : List Shp} (hS : ∀ s ∈ S, s.ok) (h : ¬ (o.one S).2 ≠ 0) : 0 ≤ o.labour (S.getD o.a.toNat default) (o.one S).1 ∧ ∀ s ∈ S ++ [(o.one S).1], s.ok := by
  obtain ⟨h1, h2, h3, _⟩ := one_ok (Classical.not_not.1 h)
  refine ⟨(labour_bd o _ _ (hS _ (getD_mem (by omega))) h2 h3).1, fun s hs => ?_⟩
  rcases List.mem_append.1 hs with hs | hs
  · exact hS s hs
  · simp at hs; subst hs; exact h2
theorem walk8_mono : ∀ (l : List Opr) (i w : Int) (S : List Shp), (∀ s ∈ S, s.ok) → (walk8 l i w S).err = 0 → w ≤ (walk8 l i w S).work ∧ (walk8 l i w S).S.take S.length = S
  | [], i, w, S, _, _ => by simp [walk8]
  | o :: r, i, w, S, hS, he => by
    unfold walk8 at he ⊢
    split at he
    · rename_i h; exact absurd he h
    · rename_i h
      rw [if_neg h]
      split at he
      · simp at he
      · rename_i h2
        rw [if_neg h2]
        obtain ⟨q1, q2⟩ := step_ok hS h
        have := walk8_mono r _ _ _ q2 he
        refine ⟨by omega, ?_⟩
        have t := congrArg (List.take S.length) this.2
        rw [List.take_take, List.length_append] at t
        simpa using t
theorem look8_facts (s : Shp) (lo hi : Int) (l : List Opr) (out : Int) : ((look8 s lo hi l out).err = 0 → (look8 s lo hi l out).op = 0 ∧ (look8 s lo hi l out).S.length = l.length + 1) ∧
    ((look8 s lo hi l out).err ≠ 0 → (look8 s lo hi l out).S = [] ∧ (look8 s lo hi l out).work = 0 ∧ 0 ≤ (look8 s lo hi l out).op ∧ (look8 s lo hi l out).op ≤ l.length) := by
  unfold look8
  repeat' split
  all_goals try (exact ⟨fun e => by simp at e, fun _ => ⟨rfl, rfl, by simp, by simp⟩⟩)
  have := walk8_facts l 0 0 [s]
  refine ⟨fun e => ?_, fun e => ?_⟩
  · have q := this.1 e
    exact ⟨q.1, by rw [q.2]; simp; omega⟩
  · have q := this.2 e
    exact ⟨q.1, q.2.1, by omega, by have := q.2.2.2; omega⟩
theorem wrapU64_eq (x : Int) : IntKind.u64.wrap x = x % 18446744073709551616 := by
  simp [IntKind.wrap, IntKind.signed, IntKind.bits]
theorem wrapU64_in {x : Int} (h : 0 ≤ x) (h' : x < 18446744073709551616) : IntKind.u64.wrap x = x := by rw [wrapU64_eq]; omega
theorem wrapU64_rng (x : Int) : 0 ≤ IntKind.u64.wrap x ∧ IntKind.u64.wrap x < 18446744073709551616 := by rw [wrapU64_eq]; omega
theorem one_at {o : Opr} {S : List Shp} (h : (o.one S).2 = 0) : (1 ≤ o.kind ∧ o.kind ≤ 8) ∧ (o.one S).1 = (o.mk1 (S.getD o.a.toNat default)).1 := by
  unfold Opr.one at h ⊢
  repeat' split at h
  all_goals try (exfalso; simp at h; done)
  · rename_i h5; exact absurd h h5
  · rename_i h1 h2 h3 h4 h5 h6 h7 h8 h9 h10
    rw [if_neg h1, if_neg h2, if_neg h3, if_neg h4, if_neg h5, if_neg h6, if_neg h7, if_neg h8, if_neg h9, if_neg h10]
    exact ⟨by omega, rfl⟩
theorem walk8_at : ∀ (l : List Opr) (i w : Int) (S : List Shp), (∀ s ∈ S, s.ok) → (walk8 l i w S).err = 0 → ∀ (j : Nat) (o : Opr), l[j]? = some o →
    (o.one ((walk8 l i w S).S.take (S.length + j))).2 = 0 ∧ (walk8 l i w S).S[S.length + j]? = some (o.one ((walk8 l i w S).S.take (S.length + j))).1
  | [], i, w, S, _, _, j, o, h => by simp at h
  | o :: r, i, w, S, hS, he, j, o', hj => by
    unfold walk8 at he ⊢
    by_cases h1 : (o.one S).2 ≠ 0
    · rw [if_pos h1] at he; exact absurd he h1
    · rw [if_neg h1] at he ⊢
      by_cases h2 : 131072 < w + o.labour (S.getD o.a.toNat default) (o.one S).1
      · rw [if_pos h2] at he; simp at he
      · rw [if_neg h2] at he ⊢
        obtain ⟨q1, q2⟩ := step_ok hS h1
        have hm := (walk8_mono r _ _ _ q2 he).2
        cases j with
        | zero =>
          simp at hj
          subst hj
          have t := congrArg (List.take S.length) hm
          rw [List.take_take, List.length_append] at t
          have t : (walk8 r (i + 1) (w + o.labour (S.getD o.a.toNat default) (o.one S).1) (S ++ [(o.one S).1])).S.take S.length = S := by simpa using t
          rw [Nat.add_zero, t]
          refine ⟨Classical.not_not.1 h1, ?_⟩
          have g := congrArg (fun x => x[S.length]?) hm
          simpa using g
        | succ j =>
          have := walk8_at r _ _ _ q2 he j o' (by simpa using hj)
          have e : (S ++ [(o.one S).1]).length + j = S.length + (j + 1) := by simp; omega
          rw [e] at this
          exact this
theorem look8_at (s : Shp) (lo hi : Int) (l : List Opr) (out : Int) (he : (look8 s lo hi l out).err = 0) : (look8 s lo hi l out).S[0]? = some s ∧ ∀ (j : Nat) (o : Opr), l[j]? = some o →
    (o.one ((look8 s lo hi l out).S.take (1 + j))).2 = 0 ∧ (look8 s lo hi l out).S[1 + j]? = some (o.one ((look8 s lo hi l out).S.take (1 + j))).1 := by
  unfold look8 at he ⊢
  repeat' split at he
  all_goals try (exfalso; simp at he; done)
  rename_i h1 h2 h3 h4
  rw [if_neg h1, if_neg h2, if_neg h3, if_neg h4]
  have hS : ∀ t ∈ [s], t.ok := by intro t ht; simp at ht; subst ht; exact Classical.not_not.1 h1
  refine ⟨?_, fun j o hj => walk8_at l 0 0 [s] hS he j o hj⟩
  have hm := (walk8_mono l 0 0 [s] hS he).2
  have g := congrArg (fun x => x[0]?) hm
  simpa using g
theorem at_ok {o : Opr} {S : List Shp} {k : Nat} (h : (o.one (S.take (1 + k))).2 = 0) (hk : k + 1 < S.length) (h' : S[1 + k]? = some (o.one (S.take (1 + k))).1) :
    (0 ≤ o.a ∧ o.a ≤ k) ∧ (S.getD (k + 1) default).ok ∧
    (slides o.kind → (wout (S.getD o.a.toNat default) o.win).2.2 = 0 ∧ (S.getD (k + 1) default).h = (wout (S.getD o.a.toNat default) o.win).1 ∧ (S.getD (k + 1) default).w = (wout (S.getD o.a.toNat default) o.win).2.1 ∧ (o.kind ≠ 2 → (S.getD (k + 1) default).c = (S.getD o.a.toNat default).c)) ∧
    (6 ≤ o.kind → S.getD (k + 1) default = S.getD o.a.toNat default) := by
  obtain ⟨p1, p2, p3, p4⟩ := one_ok h
  obtain ⟨q1, q2⟩ := one_at h
  have hl : (S.take (1 + k)).length = 1 + k := by simp; omega
  rw [hl] at p1
  have ea : (S.take (1 + k)).getD o.a.toNat default = S.getD o.a.toNat default := by
    rw [List.getD_eq_getElem?_getD, List.getD_eq_getElem?_getD, List.getElem?_take, if_pos (by omega)]
  have et : S.getD (k + 1) default = (o.mk1 (S.getD o.a.toNat default)).1 := by
    rw [List.getD_eq_getElem?_getD, Nat.add_comm k 1, h', Option.getD_some, q2, ea]
  rw [q2, ea] at p2
  rw [ea] at p4
  rw [et]
  refine ⟨by omega, p2, fun hs => ?_, fun h6 => ?_⟩
  · unfold Opr.mk1 at p4 ⊢
    have hs' := hs
    unfold slides at hs'
    rw [if_neg (by omega), if_pos hs] at p4 ⊢
    split at p4
    · rename_i h8; exact absurd p4 h8
    · rename_i h8
      rw [if_neg h8]
      exact ⟨Classical.not_not.1 h8, rfl, rfl, fun hn => by rw [if_neg hn]⟩
  · unfold Opr.mk1
    rw [if_neg (by omega), if_neg (by unfold slides; omega)]
set_option maxHeartbeats 1000000
theorem g_fixq_Valid_v (m s : Int) {R : Bool → Prop} (h : R (decide (scaleOK m s))) : (g_fixq_Valid m s).run R := g_fixq_Valid_ok m s h
theorem and_lo {x : Int} (h : 0 ≤ x ∧ x < 18446744073709551616) : ibits BinOp.and IntKind.u64 x 4294967295 = x % 4294967296 := by
  obtain ⟨n, rfl⟩ := Int.eq_ofNat_of_zero_le h.1
  show IntKind.u64.wrap (((BitVec.ofInt 64 (n : Int) &&& BitVec.ofInt 64 4294967295 : BitVec 64).toNat : Nat) : Int) = _
  have e1 : BitVec.ofInt 64 4294967295 = BitVec.ofNat 64 (2 ^ 32 - 1) := by decide
  have e2 : (BitVec.ofNat 64 (2 ^ 32 - 1)).toNat = 2 ^ 32 - 1 := by decide
  rw [e1, BitVec.ofInt_natCast, BitVec.toNat_and, BitVec.toNat_ofNat, Nat.mod_eq_of_lt (by omega), e2, Nat.and_two_pow_sub_one_eq_mod, wrapU64_in (by omega) (by omega)]
  omega
theorem and_one {x : Int} (h : 0 ≤ x ∧ x < 18446744073709551616) : ibits BinOp.and IntKind.u64 x 1 = x % 2 := by
  obtain ⟨n, rfl⟩ := Int.eq_ofNat_of_zero_le h.1
  show IntKind.u64.wrap (((BitVec.ofInt 64 (n : Int) &&& BitVec.ofInt 64 1 : BitVec 64).toNat : Nat) : Int) = _
  have e1 : BitVec.ofInt 64 1 = 1#64 := by decide
  rw [e1, BitVec.ofInt_natCast, BitVec.toNat_and, BitVec.toNat_ofNat, Nat.mod_eq_of_lt (by omega), show (1#64).toNat = 1 from rfl, Nat.and_one_is_mod, wrapU64_in] <;> omega
theorem mul_bd32 {a b : Int} (ha : 0 ≤ a ∧ a ≤ 4294967295) (hb : 0 ≤ b ∧ b ≤ 4294967295) : 0 ≤ a * b ∧ a * b ≤ 18446744065119617025 :=
  ⟨Int.mul_nonneg ha.1 hb.1, Int.le_trans (Int.mul_le_mul ha.2 hb.2 hb.1 (by omega)) (by omega)⟩
theorem g_math_bits_Mul64_ok {x y : Int} (hx : 0 ≤ x ∧ x < 18446744073709551616) (hy : 0 ≤ y ∧ y < 18446744073709551616) {R : Int × Int → Prop} (h : R (x * y / 18446744073709551616, x * y % 18446744073709551616)) : (g_math_bits_Mul64 x y).run R := by
  unfold g_math_bits_Mul64
  refine W.retI ?_
  have fx : x.fdiv 4294967296 = x / 4294967296 := Int.fdiv_eq_ediv_of_nonneg _ (by omega)
  have fy : y.fdiv 4294967296 = y / 4294967296 := Int.fdiv_eq_ediv_of_nonneg _ (by omega)
  rw [and_lo hx, and_lo hy, fx, fy]
  obtain ⟨xh, hxh⟩ : ∃ xh, xh = x / 4294967296 := ⟨_, rfl⟩
  obtain ⟨xl, hxl⟩ : ∃ xl, xl = x % 4294967296 := ⟨_, rfl⟩
  obtain ⟨yh, hyh⟩ : ∃ yh, yh = y / 4294967296 := ⟨_, rfl⟩
  obtain ⟨yl, hyl⟩ : ∃ yl, yl = y % 4294967296 := ⟨_, rfl⟩
  rw [← hxh, ← hxl, ← hyh, ← hyl]
  have hA := mul_bd32 (a := xh) (b := yh) (by omega) (by omega)
  have hB := mul_bd32 (a := xh) (b := yl) (by omega) (by omega)
  have hC := mul_bd32 (a := xl) (b := yh) (by omega) (by omega)
  have hD := mul_bd32 (a := xl) (b := yl) (by omega) (by omega)
  have hxy : x * y = xh * yh * 18446744073709551616 + (xh * yl + xl * yh) * 4294967296 + xl * yl := by
    have e1 : x = xh * 4294967296 + xl := by omega
    have e2 : y = yh * 4294967296 + yl := by omega
    generalize xh = a at *; generalize xl = b at *; generalize yh = c at *; generalize yl = d at *
    rw [e1, e2, Int.add_mul, Int.mul_add, Int.mul_add, Int.add_mul]
    have q1 : a * 4294967296 * (c * 4294967296) = a * c * 18446744073709551616 := by
      rw [Int.mul_assoc, ← Int.mul_assoc 4294967296 c, Int.mul_comm 4294967296 c, Int.mul_assoc c, ← Int.mul_assoc a c]; rfl
    have q2 : a * 4294967296 * d = a * d * 4294967296 := by rw [Int.mul_assoc, Int.mul_comm 4294967296 d, ← Int.mul_assoc]
    have q3 : b * (c * 4294967296) = b * c * 4294967296 := by rw [← Int.mul_assoc]
    rw [q1, q2, q3]; omega
  rw [hxy] at h
  rw [hxy]
  generalize xh * yh = A at *; generalize xh * yl = B at *; generalize xl * yh = C at *; generalize xl * yl = D at *
  have f : ∀ z : Int, z.fdiv 4294967296 = z / 4294967296 := fun z => Int.fdiv_eq_ediv_of_nonneg _ (by omega)
  rw [wrapU64_in (x := A) (by omega) (by omega), wrapU64_in (x := D) (by omega) (by omega), f D, wrapU64_in (x := B) (by omega) (by omega), wrapU64_in (x := B + D / 4294967296) (by omega) (by omega), f (B + D / 4294967296), and_lo (by omega), wrapU64_in (x := C) (by omega) (by omega),
    wrapU64_in (x := (B + D / 4294967296) % 4294967296 + C) (by omega) (by omega), f ((B + D / 4294967296) % 4294967296 + C), wrapU64_in (x := A + (B + D / 4294967296) / 4294967296) (by omega) (by omega), wrapU64_in (x := A + (B + D / 4294967296) / 4294967296 + ((B + D / 4294967296) % 4294967296 + C) / 4294967296) (by omega) (by omega), wrapU64_eq]
  have e : A + (B + D / 4294967296) / 4294967296 + ((B + D / 4294967296) % 4294967296 + C) / 4294967296 = (A * 18446744073709551616 + (B + C) * 4294967296 + D) / 18446744073709551616 := by omega
  rw [e]; exact h
theorem small_mul {a b : Int} (ha : -2147483648 ≤ a ∧ a ≤ 2147483648) (hb : -2147483648 ≤ b ∧ b ≤ 2147483648) : -4611686018427387904 ≤ a * b ∧ a * b ≤ 4611686018427387904 := by
  have key : ∀ u v : Int, 0 ≤ u → u ≤ 2147483648 → 0 ≤ v → v ≤ 2147483648 → 0 ≤ u * v ∧ u * v ≤ 4611686018427387904 := fun u v h1 h2 h3 h4 => ⟨Int.mul_nonneg h1 h3, Int.le_trans (Int.mul_le_mul h2 h4 h3 (by omega)) (by omega)⟩
  by_cases h1 : 0 ≤ a <;> by_cases h2 : 0 ≤ b
  · have := key a b h1 ha.2 h2 hb.2; omega
  · have := key a (-b) h1 ha.2 (by omega) (by omega); rw [Int.mul_neg] at this; omega
  · have := key (-a) b (by omega) (by omega) h2 hb.2; rw [Int.neg_mul] at this; omega
  · have := key (-a) (-b) (by omega) (by omega) (by omega) (by omega); rw [Int.neg_mul_neg] at this; omega
theorem g_num_Mul_ok {a b : Int} (ha : -2147483648 ≤ a ∧ a ≤ 2147483648) (hb : -2147483648 ≤ b ∧ b ≤ 2147483648) {R : Int × Int → Prop} (h : R (a * b, 0)) : (g_num_Mul a b).run R := by
  unfold g_num_Mul
  have hp := small_mul ha hb
  have nn := fun (h1 : 0 ≤ a) (h2 : 0 ≤ b) => Int.mul_nonneg h1 h2
  have np := fun (h1 : a < 0) (h2 : 0 ≤ b) => Int.mul_nonneg (show 0 ≤ -a by omega) h2
  have pn := fun (h1 : 0 ≤ a) (h2 : b < 0) => Int.mul_nonneg h1 (show 0 ≤ -b by omega)
  have nn2 := fun (h1 : a < 0) (h2 : b < 0) => Int.mul_pos (show 0 < -a by omega) (show 0 < -b by omega)
  simp only [Int.neg_mul, Int.mul_neg, Int.neg_neg] at np pn nn2
  refine W.bindI (g_math_bits_Mul64_ok (wrapU64_rng a) (wrapU64_rng b) ?_)
  have hP : ∃ k : Int, IntKind.u64.wrap a * IntKind.u64.wrap b = a * b + 18446744073709551616 * k ∧ k = (if a < 0 then b else 0) + (if b < 0 then a else 0) + (if a < 0 ∧ b < 0 then 18446744073709551616 else 0) := by
    refine ⟨_, ?_, rfl⟩
    by_cases h1 : a < 0 <;> by_cases h2 : b < 0
    · rw [show IntKind.u64.wrap a = a + 18446744073709551616 by rw [wrapU64_eq]; omega, show IntKind.u64.wrap b = b + 18446744073709551616 by rw [wrapU64_eq]; omega, if_pos h1, if_pos h2, if_pos ⟨h1, h2⟩, Int.add_mul, Int.mul_add]
      omega
    · rw [show IntKind.u64.wrap a = a + 18446744073709551616 by rw [wrapU64_eq]; omega, show IntKind.u64.wrap b = b by rw [wrapU64_eq]; omega, if_pos h1, if_neg h2, if_neg (by omega), Int.add_mul]
      omega
    · rw [show IntKind.u64.wrap a = a by rw [wrapU64_eq]; omega, show IntKind.u64.wrap b = b + 18446744073709551616 by rw [wrapU64_eq]; omega, if_neg h1, if_pos h2, if_neg (by omega), Int.mul_add]
      omega
    · rw [show IntKind.u64.wrap a = a by rw [wrapU64_eq]; omega, show IntKind.u64.wrap b = b by rw [wrapU64_eq]; omega, if_neg h1, if_neg h2, if_neg (by omega)]
      omega
  obtain ⟨k, hk, hkv⟩ := hP
  rw [hk]
  generalize a * b = p at *
  have e1 : (p + 18446744073709551616 * k) / 18446744073709551616 = k + p / 18446744073709551616 := by omega
  have e2 : (p + 18446744073709551616 * k) % 18446744073709551616 = p % 18446744073709551616 := by omega
  rw [e1, e2]
  dsimp only
  have lo : IntKind.i64.wrap (p % 18446744073709551616) = p := by rw [IntKind.wrap_i64]; omega
  rw [lo]
  have fd : p.fdiv 9223372036854775808 = p / 9223372036854775808 := Int.fdiv_eq_ediv_of_nonneg _ (by omega)
  rw [fd]
  refine W.bindI (W.iteC (a < 0) rfl (fun h1 => W.retI ?_) (fun h1 => W.retI ?_))
  · refine W.bindI (W.iteC (b < 0) rfl (fun h2 => W.retI ?_) (fun h2 => W.retI ?_))
    · have := nn2 h1 h2
      rw [if_pos h1, if_pos h2, if_pos ⟨h1, h2⟩] at hkv
      refine W.iteF ?_ (W.retI h)
      simp only [bne_eq_false_iff_eq, IntKind.wrap_i64]
      omega
    · have := np h1 (by omega)
      rw [if_pos h1, if_neg h2, if_neg (by omega)] at hkv
      refine W.iteF ?_ (W.retI h)
      simp only [bne_eq_false_iff_eq, IntKind.wrap_i64]
      omega
  · refine W.bindI (W.iteC (b < 0) rfl (fun h2 => W.retI ?_) (fun h2 => W.retI ?_))
    · have := pn (by omega) h2
      rw [if_neg h1, if_pos h2, if_neg (by omega)] at hkv
      refine W.iteF ?_ (W.retI h)
      simp only [bne_eq_false_iff_eq, IntKind.wrap_i64]
      omega
    · have := nn (by omega) (by omega)
      rw [if_neg h1, if_neg h2, if_neg (by omega)] at hkv
      refine W.iteF ?_ (W.retI h)
      simp only [bne_eq_false_iff_eq, IntKind.wrap_i64]
      omega
def shr (q s : Int) : Int := if 0 < s then (q + 2 ^ (s.toNat - 1)) / 2 ^ s.toNat else q
def scaleS (x m s : Int) : Int := if x < 0 then -(shr (-x * m) s) else shr (x * m) s
def meanS (x n : Int) : Int := if x < 0 then -((2 * -x + n) / n / 2) else (2 * x + n) / n / 2
def sat16 (v : Int) : Int := if v < -32768 then -32768 else if 32767 < v then 32767 else v
def clampS (x lo hi : Int) : Int := if hi < x then hi else if x < lo then lo else x
def finS (v zero lo hi : Int) : Int := clampS (sat16 v + zero) lo hi
theorem two_pow_pos (n : Nat) : (0 : Int) < 2 ^ n := Int.pow_pos (by omega)
theorem shr_nonneg {q s : Int} (h : 0 ≤ q) : 0 ≤ shr q s := by
  unfold shr
  split
  · have := two_pow_pos (s.toNat - 1)
    exact Int.ediv_nonneg (by omega) (by have := two_pow_pos s.toNat; omega)
  · exact h
theorem shr_mono {q q' s : Int} (h : q ≤ q') : shr q s ≤ shr q' s := by
  unfold shr
  split
  · exact Int.ediv_le_ediv (two_pow_pos _) (by omega)
  · exact h
theorem shr_le {q s : Int} (h : 0 ≤ q) : shr q s ≤ q + 1 := by
  unfold shr
  split
  · rename_i hs
    obtain ⟨n, hn⟩ : ∃ n, s.toNat = n + 1 := ⟨s.toNat - 1, by omega⟩
    rw [hn, Nat.add_sub_cancel, Int.pow_succ]
    have hp := two_pow_pos n
    generalize (2 : Int) ^ n = p at *
    refine Int.ediv_le_of_le_mul (by omega) ?_
    have : (q + 1) * (p * 2) = (q + 1) * p * 2 := by rw [Int.mul_assoc]
    rw [this]
    have h1 : q + 1 ≤ (q + 1) * p := by
      have := Int.mul_le_mul_of_nonneg_left (show (1 : Int) ≤ p by omega) (show 0 ≤ q + 1 by omega)
      omega
    have h2 : p ≤ (q + 1) * p := by
      have := Int.mul_le_mul_of_nonneg_right (show (1 : Int) ≤ q + 1 by omega) (show 0 ≤ p by omega)
      omega
    omega
  · omega
theorem scaleS_mono {x x' m s : Int} (hm : 0 ≤ m) (h : x ≤ x') : scaleS x m s ≤ scaleS x' m s := by
  unfold scaleS
  by_cases h1 : x < 0 <;> by_cases h2 : x' < 0
  · rw [if_pos h1, if_pos h2]
    have := shr_mono (s := s) (Int.mul_le_mul_of_nonneg_right (show -x' ≤ -x by omega) hm)
    omega
  · rw [if_pos h1, if_neg h2]
    have a := shr_nonneg (s := s) (Int.mul_nonneg (show 0 ≤ -x by omega) hm)
    have b := shr_nonneg (s := s) (Int.mul_nonneg (show 0 ≤ x' by omega) hm)
    omega
  · omega
  · rw [if_neg h1, if_neg h2]
    exact shr_mono (Int.mul_le_mul_of_nonneg_right h hm)
theorem meanS_mono {x x' n : Int} (hn : 1 ≤ n) (h : x ≤ x') : meanS x n ≤ meanS x' n := by
  have key : ∀ u v : Int, u ≤ v → (2 * u + n) / n / 2 ≤ (2 * v + n) / n / 2 := fun u v huv => by
    have := Int.ediv_le_ediv (a := 2 * u + n) (b := 2 * v + n) (show 0 < n by omega) (by omega)
    omega
  have pos : ∀ u : Int, 0 ≤ u → 0 ≤ (2 * u + n) / n / 2 := fun u hu => by
    have := Int.ediv_nonneg (a := 2 * u + n) (b := n) (by omega) (by omega)
    omega
  unfold meanS
  by_cases h1 : x < 0 <;> by_cases h2 : x' < 0
  · rw [if_pos h1, if_pos h2]; have := key (-x') (-x) (by omega); omega
  · rw [if_pos h1, if_neg h2]; have a := pos (-x) (by omega); have b := pos x' (by omega); omega
  · omega
  · rw [if_neg h1, if_neg h2]; exact key _ _ h
theorem sat16_mono {v v' : Int} (h : v ≤ v') : sat16 v ≤ sat16 v' := by unfold sat16; split <;> split <;> (try split) <;> (try split) <;> omega
theorem clampS_mono {v v' lo hi : Int} (hl : lo ≤ hi) (h : v ≤ v') : clampS v lo hi ≤ clampS v' lo hi := by unfold clampS; split <;> split <;> (try split) <;> (try split) <;> omega
theorem clampS_rng {v lo hi : Int} (hl : lo ≤ hi) : lo ≤ clampS v lo hi ∧ clampS v lo hi ≤ hi := by unfold clampS; split <;> (try split) <;> omega
theorem finS_mono {v v' zero lo hi : Int} (hl : lo ≤ hi) (h : v ≤ v') : finS v zero lo hi ≤ finS v' zero lo hi := by
  unfold finS; exact clampS_mono hl (by have := sat16_mono h; omega)
theorem finS_rng {v zero lo hi : Int} (hl : lo ≤ hi) : lo ≤ finS v zero lo hi ∧ finS v zero lo hi ≤ hi := clampS_rng hl
theorem g_fixq_magnitude_ok {x : Int} (hx : -9223372036854775807 ≤ x ∧ x ≤ 9223372036854775807) {R : Int × Bool → Prop} (h : R (if x < 0 then -x else x, decide (x < 0))) : (g_fixq_magnitude x).run R := by
  unfold g_fixq_magnitude
  refine W.iteC (x < 0) rfl (fun h1 => W.retI ?_) (fun h1 => W.retI ?_)
  · rw [if_pos h1, decide_eq_true h1] at h
    rw [wrap64_in (by omega) (by omega), wrapU64_in (by omega) (by omega)]
    rw [show 0 - x = -x by omega]; exact h
  · rw [if_neg h1, decide_eq_false h1] at h
    rw [wrapU64_in (by omega) (by omega)]; exact h
theorem g_fixq_signed_ok {x : Int} {b : Bool} (hx : 0 ≤ x ∧ x ≤ 9223372036854775807) {R : Int → Prop} (h : R (if b then -x else x)) : (g_fixq_signed x b).run R := by
  unfold g_fixq_signed
  cases b
  · refine W.iteF rfl (W.retI ?_)
    rw [wrap64_in (by omega) (by omega)]; exact h
  · refine W.iteT rfl (W.retI ?_)
    have : IntKind.i64.wrap (IntKind.u64.wrap (0 - x)) = -x := by rw [wrapU64_eq, IntKind.wrap_i64]; omega
    rw [this]; exact h
theorem shr_step {q p : Int} (hq : 0 ≤ q) (hp : 0 < p) : q / (p * 2) + q / p % 2 = (q + p) / (p * 2) := by
  rw [← Int.ediv_ediv_of_nonneg (show 0 ≤ p by omega), ← Int.ediv_ediv_of_nonneg (show 0 ≤ p by omega)]
  have : (q + p) / p = q / p + 1 := by
    have := Int.add_mul_ediv_right q 1 (show p ≠ 0 by omega)
    rw [Int.one_mul] at this; exact this
  rw [this]; omega
theorem g_fixq_Shift_ok {q s : Int} (hq : 0 ≤ q ∧ q ≤ 9223372036854775806) (hs : 0 ≤ s ∧ s ≤ 62) {R : Int × Int → Prop} (h : R (shr q s, 0)) : (g_fixq_Shift q s).run R := by
  unfold g_fixq_Shift
  refine W.iteF (by rw [decide_eq_false (show ¬ s < 0 by omega), decide_eq_false (show ¬ 62 < s by omega)]; rfl) ?_
  refine W.bindI (g_fixq_magnitude_ok (by omega) ?_)
  rw [if_neg (show ¬ q < 0 by omega), decide_eq_false (show ¬ q < 0 by omega)]
  dsimp only
  have hu : IntKind.u64.wrap s = s := wrapU64_in (by omega) (by omega)
  have hm : min s.toNat 64 = s.toNat := by omega
  rw [hu, hm]
  have fd : ∀ n : Nat, q.fdiv (2 ^ n) = q / 2 ^ n := fun n => Int.fdiv_eq_ediv_of_nonneg _ (by have := two_pow_pos n; omega)
  refine W.needI hs.1 (W.bindI ?_)
  have fin : ∀ v : Int, v = shr q s → ((W.bind (g_fixq_signed v false) fun v2 => W.ret (v2, (0 : Int))) : W (Int × Int)).run R := fun v hv => by
    subst hv
    have h1 := shr_nonneg (s := s) hq.1
    have h2 := shr_le (s := s) hq.1
    exact W.bindI (g_fixq_signed_ok (by omega) (W.retI h))
  refine W.iteC (0 < s) rfl (fun h1 => ?_) (fun h1 => W.retI ?_)
  · have hu2 : IntKind.u64.wrap (IntKind.i64.wrap (s - 1)) = s - 1 := by rw [wrap64_in (by omega) (by omega), wrapU64_in (by omega) (by omega)]
    rw [hu2]
    refine W.needI (by omega) (W.retI (fin _ ?_))
    have hm2 : min (s - 1).toNat 64 = s.toNat - 1 := by omega
    rw [hm2, fd, fd]
    unfold shr
    rw [if_pos h1]
    obtain ⟨n, hn⟩ : ∃ n, s.toNat = n + 1 := ⟨s.toNat - 1, by omega⟩
    rw [hn, Nat.add_sub_cancel, Int.pow_succ]
    have hp := two_pow_pos n
    generalize (2 : Int) ^ n = p at *
    have d1 : 0 ≤ q / p := Int.ediv_nonneg hq.1 (by omega)
    have d2 : q / p ≤ q := Int.ediv_le_self _ hq.1
    have d3 : 0 ≤ q / (p * 2) := Int.ediv_nonneg hq.1 (by omega)
    have d4 : q / (p * 2) ≤ q := Int.ediv_le_self _ hq.1
    rw [and_one ⟨d1, by omega⟩, wrapU64_in (by omega) (by omega)]
    exact shr_step hq.1 hp
  · rw [fd]
    refine fin _ ?_
    have : s.toNat = 0 := by omega
    unfold shr
    rw [if_neg h1, this]
    simp
theorem scale_bd {y m : Int} (hy : 0 ≤ y ∧ y ≤ 4294967296) (hm : 1 ≤ m ∧ m ≤ 2147483647) : 0 ≤ y * m ∧ y * m ≤ 9223372032559808512 :=
  ⟨Int.mul_nonneg hy.1 (by omega), Int.le_trans (Int.mul_le_mul hy.2 hm.2 (by omega) (by omega)) (by omega)⟩
theorem g_fixq_Apply_ok {x m s : Int} (hs : scaleOK m s) (hx : -4294967296 ≤ x ∧ x ≤ 4294967296) {R : Int × Int → Prop} (h : R (scaleS x m s, 0)) : (g_fixq_Apply x m s).run R := by
  unfold g_fixq_Apply
  refine W.bindI (g_fixq_Valid_v m s ?_)
  unfold scaleOK at hs
  refine W.iteF (by rw [decide_eq_true (show scaleOK m s from hs)]; rfl) ?_
  refine W.bindI (g_fixq_magnitude_ok (by omega) ?_)
  obtain ⟨y, hy⟩ : ∃ y, y = if x < 0 then -x else x := ⟨_, rfl⟩
  rw [← hy]
  have hyb : 0 ≤ y ∧ y ≤ 4294967296 := by rw [hy]; split <;> omega
  have hb := scale_bd hyb ⟨hs.1, hs.2.1⟩
  dsimp only
  refine W.iteF (decide_eq_false (by omega)) ?_
  rw [wrapU64_in (x := m) (by omega) (by omega), wrapU64_in (x := y * m) (by omega) (by omega), wrap64_in (x := y * m) (by omega) (by omega)]
  refine W.bindI (g_fixq_Shift_ok (by omega) hs.2.2 ?_)
  have h1 := shr_nonneg (s := s) hb.1
  have h2 := shr_le (s := s) hb.1
  dsimp only
  rw [wrapU64_in (by omega) (by omega)]
  refine W.bindI (g_fixq_signed_ok (by omega) (W.retI ?_))
  have e : (if decide (x < 0) = true then -shr (y * m) s else shr (y * m) s) = scaleS x m s := by
    unfold scaleS
    by_cases hx0 : x < 0
    · rw [if_pos hx0, if_pos (decide_eq_true hx0), hy, if_pos hx0]
    · rw [if_neg hx0, if_neg (by simpa using hx0), hy, if_neg hx0]
  rw [e]; exact h
theorem g_fixq_Mean_ok {x n : Int} (hx : -1099511627776 ≤ x ∧ x ≤ 1099511627776) (hn : 1 ≤ n ∧ n ≤ 1099511627776) {R : Int × Int → Prop} (h : R (meanS x n, 0)) : (g_fixq_Mean x n).run R := by
  unfold g_fixq_Mean
  refine W.iteF (decide_eq_false (by omega)) ?_
  refine W.bindI (g_fixq_magnitude_ok (by omega) ?_)
  obtain ⟨y, hy⟩ : ∃ y, y = if x < 0 then -x else x := ⟨_, rfl⟩
  rw [← hy]
  have hyb : 0 ≤ y ∧ y ≤ 1099511627776 := by rw [hy]; split <;> omega
  dsimp only
  refine W.bindI (g_math_bits_Mul64_ok (by omega) (by omega) ?_)
  have e1 : y * 2 / 18446744073709551616 = 0 := by omega
  have e2 : y * 2 % 18446744073709551616 = y * 2 := by omega
  rw [e1, e2]
  dsimp only
  rw [wrapU64_in (x := n) (by omega) (by omega)]
  refine W.bindI ?_
  unfold g_math_bits_Add64
  refine W.needI (by omega) (W.retI ?_)
  have e3 : (y * 2 + n + 0) % 18446744073709551616 = 2 * y + n := by omega
  have e4 : (y * 2 + n + 0) / 18446744073709551616 = 0 := by omega
  rw [e3, e4]
  dsimp only
  rw [wrapU64_in (x := 0 + 0) (by omega) (by omega)]
  refine W.needI (by omega) (W.bindI ?_)
  unfold g_math_bits_Div64
  have e5 : ((0 : Int) + 0).tmod n = 0 := by simp
  rw [e5]
  refine W.iteF (by simp; omega) (W.iteF (decide_eq_false (by omega)) (W.iteT rfl (W.needI (by omega) (W.needI (by omega) (W.retI ?_)))))
  dsimp only
  have e6 : (2 * y + n).tdiv n = (2 * y + n) / n := Int.tdiv_eq_ediv_of_nonneg (by omega)
  have d1 : 0 ≤ (2 * y + n) / n := Int.ediv_nonneg (by omega) (by omega)
  have d2 : (2 * y + n) / n ≤ 2 * y + n := Int.ediv_le_self _ (by omega)
  rw [e6, wrapU64_in (x := (2 * y + n) / n) (by omega) (by omega)]
  have e7 : ((2 * y + n) / n).tdiv 2 = (2 * y + n) / n / 2 := Int.tdiv_eq_ediv_of_nonneg (by omega)
  rw [e7, wrapU64_in (by omega) (by omega)]
  refine W.iteF (decide_eq_false (by omega)) (W.bindI (g_fixq_signed_ok (by omega) (W.retI ?_)))
  have e : (if decide (x < 0) = true then -((2 * y + n) / n / 2) else (2 * y + n) / n / 2) = meanS x n := by
    unfold meanS
    by_cases hx0 : x < 0
    · rw [if_pos hx0, if_pos (decide_eq_true hx0), hy, if_pos hx0]
    · rw [if_neg hx0, if_neg (by simpa using hx0), hy, if_neg hx0]
  rw [e]; exact h
theorem wrap_i16 (x : Int) : IntKind.i16.wrap x = (x + 32768) % 65536 - 32768 := by
  unfold IntKind.wrap; simp only [IntKind.bits, IntKind.signed, Bool.true_and, decide_eq_true_eq]; split <;> simp_all <;> omega
theorem wrap_i8 (x : Int) : IntKind.i8.wrap x = (x + 128) % 256 - 128 := by
  unfold IntKind.wrap; simp only [IntKind.bits, IntKind.signed, Bool.true_and, decide_eq_true_eq]; split <;> simp_all <;> omega
theorem g_num_Sat_int16_ok {v : Int} {R : Int → Prop} (h : R (sat16 v)) : (g_num_Sat_int16_ v).run R := by
  unfold g_num_Sat_int16_ g_num_Fits_int16_
  refine W.bindI (W.retI ?_)
  rw [wrap_i16, wrap64_in (by omega) (by omega)]
  unfold sat16 at h
  refine W.iteC (-32768 ≤ v ∧ v ≤ 32767) (by rw [Bool.eq_iff_iff]; simp only [beq_iff_eq, decide_eq_true_eq]; omega) (fun h1 => W.retI ?_) (fun h1 => W.iteC (v < 0) rfl (fun h2 => W.retI ?_) (fun h2 => W.retI ?_))
  · rw [if_neg (by omega), if_neg (by omega)] at h
    rw [show (v + 32768) % 65536 - 32768 = v by omega]; exact h
  · rw [if_pos (by omega)] at h; exact h
  · rw [if_neg (by omega), if_pos (by omega)] at h; exact h
theorem g_num_Clamp_ok {v lo hi : Int} {R : Int → Prop} (h : R (clampS v lo hi)) : (g_num_Clamp v lo hi).run R := by
  unfold g_num_Clamp
  unfold clampS at h
  refine W.iteC (hi < v) rfl (fun h1 => W.retI (by rw [if_pos h1] at h; exact h)) (fun h1 => W.iteC (v < lo) rfl (fun h2 => W.retI (by rw [if_neg h1, if_pos h2] at h; exact h)) (fun h2 => W.retI (by rw [if_neg h1, if_neg h2] at h; exact h)))
theorem sat16_rng (v : Int) : -32768 ≤ sat16 v ∧ sat16 v ≤ 32767 := by unfold sat16; split <;> (try split) <;> omega
theorem g_fixq_Finish_ok {v zero lo hi : Int} (hz : -128 ≤ zero ∧ zero ≤ 127) (hl : -128 ≤ lo ∧ lo ≤ hi ∧ hi ≤ 127) {R : Int × Int → Prop} (h : R (finS v zero lo hi, 0)) : (g_fixq_Finish v zero lo hi).run R := by
  unfold g_fixq_Finish g_num_Fits_int8_
  refine W.bindI (W.iteF (by rw [decide_eq_false (show ¬ lo < -128 by omega), decide_eq_false (show ¬ 127 < hi by omega), decide_eq_false (show ¬ hi < lo by omega)]; rfl) (W.bindI (W.retI (W.retI ?_))))
  rw [wrap_i8, wrap64_in (by omega) (by omega), show (zero + 128) % 256 - 128 = zero by omega]
  refine W.iteF (by simp) (W.bindI (g_num_Sat_int16_ok ?_))
  have := sat16_rng v
  rw [wrap64_in (x := sat16 v) (by omega) (by omega), wrap64_in (by omega) (by omega)]
  exact W.bindI (g_num_Clamp_ok (W.retI h))
theorem toInt_of (b : BitVec 64) : IntKind.i64.wrap ((b.toNat : Nat) : Int) = b.toInt := by
  rw [IntKind.wrap_i64, BitVec.toInt_eq_toNat_cond]
  have := b.isLt
  split <;> omega
theorem msb_of {x : Int} (h : -9223372036854775808 ≤ x ∧ x ≤ 9223372036854775807) : (BitVec.ofInt 64 x).msb = decide (x < 0) := by
  rw [BitVec.msb_eq_toInt, BitVec.toInt_ofInt]
  have : x.bmod (2 ^ 64) = x := by rw [Int.bmod_def]; simp; omega
  rw [this]
theorem xor_rng (x y : Int) : -9223372036854775808 ≤ ibits BinOp.xor IntKind.i64 x y ∧ ibits BinOp.xor IntKind.i64 x y ≤ 9223372036854775807 := by
  show -9223372036854775808 ≤ IntKind.i64.wrap _ ∧ IntKind.i64.wrap _ ≤ 9223372036854775807
  rw [IntKind.wrap_i64]; omega
theorem xor_neg {x y : Int} (hx : -9223372036854775808 ≤ x ∧ x ≤ 9223372036854775807) (hy : -9223372036854775808 ≤ y ∧ y ≤ 9223372036854775807) : decide (ibits BinOp.xor IntKind.i64 x y < 0) = (decide (x < 0) != decide (y < 0)) := by
  have hib : ibits BinOp.xor IntKind.i64 x y = IntKind.i64.wrap (((BitVec.ofInt 64 x ^^^ BitVec.ofInt 64 y : BitVec 64).toNat : Nat) : Int) := rfl
  have e := BitVec.msb_xor (x := BitVec.ofInt 64 x) (y := BitVec.ofInt 64 y)
  rw [BitVec.msb_eq_toInt] at e
  rw [hib, toInt_of, ← msb_of hx, ← msb_of hy, e]
theorem and_neg {x y : Int} (hx : -9223372036854775808 ≤ x ∧ x ≤ 9223372036854775807) (hy : -9223372036854775808 ≤ y ∧ y ≤ 9223372036854775807) : decide (ibits BinOp.and IntKind.i64 x y < 0) = (decide (x < 0) && decide (y < 0)) := by
  have hib : ibits BinOp.and IntKind.i64 x y = IntKind.i64.wrap (((BitVec.ofInt 64 x &&& BitVec.ofInt 64 y : BitVec 64).toNat : Nat) : Int) := rfl
  have e := BitVec.msb_and (x := BitVec.ofInt 64 x) (y := BitVec.ofInt 64 y)
  rw [BitVec.msb_eq_toInt] at e
  rw [hib, toInt_of, ← msb_of hx, ← msb_of hy, e]
theorem g_num_Add_ok {a b : Int} (ha : -4611686018427387904 ≤ a ∧ a ≤ 4611686018427387903) (hb : -4611686018427387904 ≤ b ∧ b ≤ 4611686018427387903) {R : Int × Int → Prop} (h : R (a + b, 0)) : (g_num_Add a b).run R := by
  unfold g_num_Add
  rw [wrap64_in (x := a + b) (by omega) (by omega)]
  refine W.iteF ?_ (W.retI h)
  rw [and_neg (xor_rng _ _) (xor_rng _ _), xor_neg (by omega) (by omega), xor_neg (by omega) (by omega)]
  by_cases h1 : a < 0 <;> by_cases h2 : b < 0
  · simp [h1, h2, show a + b < 0 by omega]
  · by_cases h3 : a + b < 0 <;> simp [h1, h2, h3]
  · by_cases h3 : a + b < 0 <;> simp [h1, h2, h3]
  · simp [h1, h2, show ¬ a + b < 0 by omega]
def SpOK (n : Int) (a : Int × Int) : Prop := -n ≤ a.1 ∧ a.1 ≤ a.2 ∧ a.2 ≤ n
def timesS (a : Int × Int) (k : Int) : Int × Int := if k < 0 then (a.2 * k, a.1 * k) else (a.1 * k, a.2 * k)
theorem g_span_Valid_ok (a b : Int) {R : Bool → Prop} (h : R (decide (a ≤ b))) : (g_span_Valid a b).run R := W.retI h
theorem g_span_Holds_ok (a b c d : Int) {R : Bool → Prop} (h : R (decide (c ≤ d ∧ a ≤ c ∧ d ≤ b))) : (g_span_Holds a b c d).run R := by
  unfold g_span_Holds
  refine W.bindI (g_span_Valid_ok _ _ (W.retE h ?_))
  rw [Bool.eq_iff_iff]; simp [and_assoc]
theorem g_span_pair_ok {a b : Int} {R : Int × Int × Int → Prop} (h : R (a, b, 0)) : (g_span_pair a 0 b 0).run R := by
  unfold g_span_pair
  exact W.iteF rfl (W.iteF rfl (W.retI h))
theorem g_span_Times_ok {a b k : Int} (hab : a ≤ b) (ha : -2147483648 ≤ a ∧ b ≤ 2147483648) (hk : -2147483648 ≤ k ∧ k ≤ 2147483648) {R : Int × Int × Int → Prop} (h : R ((timesS (a, b) k).1, (timesS (a, b) k).2, 0)) : (g_span_Times a b k).run R := by
  unfold g_span_Times
  refine W.bindI (g_span_Valid_ok _ _ (W.iteF (by rw [decide_eq_true hab]; rfl) (W.bindI ?_)))
  unfold timesS at h
  refine W.iteC (k < 0) rfl (fun h1 => W.retI ?_) (fun h1 => W.retI ?_)
  · rw [if_pos h1] at h
    exact W.bindI (g_num_Mul_ok (by dsimp only; omega) hk (W.bindI (g_num_Mul_ok (by dsimp only; omega) hk (W.bindI (g_span_pair_ok (W.retI h))))))
  · rw [if_neg h1] at h
    exact W.bindI (g_num_Mul_ok (by dsimp only; omega) hk (W.bindI (g_num_Mul_ok (by dsimp only; omega) hk (W.bindI (g_span_pair_ok (W.retI h))))))
theorem timesS_ok {a : Int × Int} {k : Int} (h : a.1 ≤ a.2) : (timesS a k).1 ≤ (timesS a k).2 := by
  unfold timesS
  by_cases hk : k < 0
  · rw [if_pos hk]
    have := Int.mul_le_mul_of_nonneg_right h (show 0 ≤ -k by omega)
    rw [Int.mul_neg, Int.mul_neg] at this
    show a.2 * k ≤ a.1 * k
    omega
  · rw [if_neg hk]; exact Int.mul_le_mul_of_nonneg_right h (show 0 ≤ k by omega)
theorem mul_bnd {x k M K : Int} (hx : -M ≤ x ∧ x ≤ M) (hk : -K ≤ k ∧ k ≤ K) (hM : 0 ≤ M) (hK : 0 ≤ K) : -(M * K) ≤ x * k ∧ x * k ≤ M * K := by
  have key : ∀ u v : Int, 0 ≤ u → u ≤ M → 0 ≤ v → v ≤ K → 0 ≤ u * v ∧ u * v ≤ M * K := fun u v h1 h2 h3 h4 => ⟨Int.mul_nonneg h1 h3, Int.mul_le_mul h2 h4 h3 hM⟩
  by_cases h1 : 0 ≤ x <;> by_cases h2 : 0 ≤ k
  · have := key x k h1 hx.2 h2 hk.2; omega
  · have := key x (-k) h1 hx.2 (by omega) (by omega); rw [Int.mul_neg] at this; omega
  · have := key (-x) k (by omega) (by omega) h2 hk.2; rw [Int.neg_mul] at this; omega
  · have := key (-x) (-k) (by omega) (by omega) (by omega) (by omega); rw [Int.neg_mul_neg] at this; omega
theorem timesS_bd {a : Int × Int} {k : Int} (h : SpOK 128 a) (hk : -32768 ≤ k ∧ k ≤ 32768) : SpOK 4194304 (timesS a k) := by
  obtain ⟨h1, h2, h3⟩ := h
  have q := timesS_ok (k := k) h2
  have b1 := mul_bnd (M := 128) (K := 32768) (x := a.1) ⟨h1, by omega⟩ hk (by omega) (by omega)
  have b2 := mul_bnd (M := 128) (K := 32768) (x := a.2) ⟨by omega, h3⟩ hk (by omega) (by omega)
  refine ⟨?_, q, ?_⟩ <;> (unfold timesS; split <;> simp only [] <;> omega)
def hullS (a b : Int × Int) : Int × Int := (min a.1 b.1, max a.2 b.2)
theorem imin_f (a b : Int) : imin false a b = min a b := by unfold imin; simp only [cond_false]; split <;> omega
theorem imin_t (a b : Int) : imin true a b = max a b := by unfold imin; simp only [cond_true]; split <;> omega
theorem g_span_Hull_ok {a b c d : Int} (h1 : a ≤ b) (h2 : c ≤ d) {R : Int × Int × Int → Prop} (h : R ((hullS (a, b) (c, d)).1, (hullS (a, b) (c, d)).2, 0)) : (g_span_Hull a b c d).run R := by
  unfold g_span_Hull
  refine W.bindI (W.bindI (g_span_Valid_ok _ _ (W.iteF (by rw [decide_eq_true h1]; rfl) (W.bindI (g_span_Valid_ok _ _ (W.retI ?_))))))
  refine W.iteF (by rw [decide_eq_true h2]; rfl) (W.retI ?_)
  rw [imin_f, imin_t]; exact h
theorem g_span_Scaled_ok {a b m s : Int} (hab : a ≤ b) (hb : -4294967296 ≤ a ∧ b ≤ 4294967296) (hs : scaleOK m s) {R : Int × Int × Int → Prop} (h : R (scaleS a m s, scaleS b m s, 0)) : (g_span_Scaled a b m s).run R := by
  unfold g_span_Scaled
  refine W.bindI (g_span_Valid_ok _ _ (W.iteF (by rw [decide_eq_true hab]; rfl) ?_))
  exact W.bindI (g_fixq_Apply_ok hs (by omega) (W.bindI (g_fixq_Apply_ok hs (by omega) (W.bindI (g_span_pair_ok (W.retI h))))))
theorem g_span_Add_ok {a b c d : Int} (h1 : a ≤ b) (h2 : c ≤ d) (hb : -4611686018427387904 ≤ a ∧ b ≤ 4611686018427387903) (hd : -4611686018427387904 ≤ c ∧ d ≤ 4611686018427387903) {R : Int × Int × Int → Prop} (h : R (a + c, b + d, 0)) : (g_span_Add a b c d).run R := by
  unfold g_span_Add
  refine W.bindI (W.bindI (g_span_Valid_ok _ _ (W.iteF (by rw [decide_eq_true h1]; rfl) (W.bindI (g_span_Valid_ok _ _ (W.retI ?_))))))
  refine W.iteF (by rw [decide_eq_true h2]; rfl) ?_
  exact W.bindI (g_num_Add_ok (by omega) (by omega) (W.bindI (g_num_Add_ok (by omega) (by omega) (W.bindI (g_span_pair_ok (W.retI h))))))
theorem scaleS_bd {x m s : Int} (hs : scaleOK m s) (hx : -128 ≤ x ∧ x ≤ 128) : -274877906817 ≤ scaleS x m s ∧ scaleS x m s ≤ 274877906817 := by
  unfold scaleOK at hs
  have key : ∀ y : Int, 0 ≤ y → y ≤ 128 → 0 ≤ shr (y * m) s ∧ shr (y * m) s ≤ 274877906817 := fun y h1 h2 => by
    have hb : y * m ≤ 128 * 2147483647 := Int.mul_le_mul h2 hs.2.1 (by omega) (by omega)
    have h0 := Int.mul_nonneg h1 (show 0 ≤ m by omega)
    have a := shr_nonneg (s := s) h0
    have b := shr_le (s := s) h0
    omega
  unfold scaleS
  split
  · have := key (-x) (by omega) (by omega); omega
  · have := key x (by omega) (by omega); omega
structure OF (o : Opr) (s t : Shp) : Prop where
  kind : 1 ≤ o.kind ∧ o.kind ≤ 8
  sok : s.ok
  tok : t.ok
  mks : (o.mk1 s).2 = 0 ∧ t = (o.mk1 s).1
  len : reduces o.kind → o.len s ≤ 512
  ws : (o.ws.length : Int) = (o.lists s).1
  bs : (o.bs.length : Int) = (o.lists s).2
  sc : scales o.kind → scaleOK o.sam o.sas
  sb : o.kind = 6 → scaleOK o.sbm o.sbs
  v : (val o.lo ∧ val o.hi ∧ o.lo ≤ o.hi) ∧ val o.zero ∧ val o.pad
  m : o.kind ≤ 2 → 1 ≤ o.m ∧ o.m ≤ 1024
theorem one_all {o : Opr} {S : List Shp} (h : (o.one S).2 = 0) (hS : (S.getD o.a.toNat default).ok) : OF o (S.getD o.a.toNat default) (o.one S).1 ∧ (0 ≤ o.a ∧ o.a < S.length) ∧ (o.kind = 6 → 0 ≤ o.b ∧ o.b < S.length) := by
  have h0 := h
  unfold Opr.one at h
  repeat' split at h
  all_goals try (exfalso; simp at h; done)
  · rename_i h5; exact absurd h h5
  · rename_i h1 h2 h3 h4 h5 h6 h7 h8 h9 h10
    have e : (o.one S).1 = (o.mk1 (S.getD o.a.toNat default)).1 := (one_at h0).2
    have h5 := Classical.not_not.1 h5
    simp only [not_or, not_and, Classical.not_not, Int.not_lt] at h2 h4 h6 h7 h8 h9 h10
    exact ⟨⟨by omega, hS, by rw [e]; exact h6.2, ⟨h5, e⟩, fun hr => h7 hr, h8.1, h8.2, fun hs => h9.1 hs, fun hk => h9.2 hk, ⟨⟨h10.1, h10.2.1, h10.2.2.1⟩, h10.2.2.2.1, h10.2.2.2.2⟩, fun hk => h4 hk⟩, by omega, fun hk => by have := h2.2 hk; omega⟩
structure MF (s : Shp) (lo hi : Int) (l : List Opr) (S : List Shp) : Prop where
  n : S.length = l.length + 1
  s0 : S[0]? = some s
  sok : ∀ i, i ≤ l.length → (S.getD i default).ok
  v : val lo ∧ val hi ∧ lo ≤ hi
  n64 : l.length ≤ 64
  op : ∀ (j : Nat) (o : Opr), l[j]? = some o → OF o (S.getD o.a.toNat default) (S.getD (j + 1) default) ∧ (0 ≤ o.a ∧ o.a ≤ j) ∧ (o.kind = 6 → 0 ≤ o.b ∧ o.b ≤ j)
theorem look8_MF {s : Shp} {lo hi : Int} {l : List Opr} {out : Int} (he : (look8 s lo hi l out).err = 0) : MF s lo hi l (look8 s lo hi l out).S := by
  have hf := (look8_facts s lo hi l out).1 he
  obtain ⟨h0, hat⟩ := look8_at s lo hi l out he
  have hg : s.ok ∧ (val lo ∧ val hi ∧ lo ≤ hi) ∧ l.length ≤ 64 := by
    unfold look8 at he
    repeat' split at he
    all_goals try (exfalso; simp at he; done)
    rename_i h1 h2 h3 h4
    simp only [not_or, Classical.not_not, Int.not_lt] at h1 h2
    exact ⟨h1, by omega, by omega⟩
  generalize (look8 s lo hi l out).S = S at *
  have hok : ∀ i, i ≤ l.length → (S.getD i default).ok := fun i hi => by
    cases i with
    | zero => rw [List.getD_eq_getElem?_getD, h0]; exact hg.1
    | succ i =>
      have hj : l[i]? = some l[i] := List.getElem?_eq_getElem (by omega)
      obtain ⟨q1, q2⟩ := hat i _ hj
      exact (at_ok q1 (by rw [hf.2]; omega) q2).2.1
  refine ⟨hf.2, h0, hok, hg.2.1, hg.2.2, fun j o hj => ?_⟩
  have hjl : j < l.length := (List.getElem?_eq_some_iff.1 hj).1
  obtain ⟨q1, q2⟩ := hat j o hj
  obtain ⟨a1, _, _, _⟩ := at_ok q1 (by rw [hf.2]; omega) q2
  have hl : (S.take (1 + j)).length = 1 + j := by simp; omega
  have et : ∀ i : Nat, i < 1 + j → (S.take (1 + j)).getD i default = S.getD i default := fun i hi => by
    rw [List.getD_eq_getElem?_getD, List.getD_eq_getElem?_getD, List.getElem?_take, if_pos hi]
  have ea := et o.a.toNat (by omega)
  obtain ⟨b1, b2, b3⟩ := one_all q1 (by rw [ea]; exact hok _ (by omega))
  rw [ea] at b1
  have e2 : S.getD (j + 1) default = (o.one (S.take (1 + j))).1 := by rw [List.getD_eq_getElem?_getD, Nat.add_comm j 1, q2]; rfl
  rw [hl] at b2 b3
  exact ⟨by rw [e2]; exact b1, by omega, fun h6 => by have := b3 h6; omega⟩
namespace OF
variable {o : Opr} {s t : Shp} (H : OF o s t)
include H
theorem dense (h : o.kind = 1) : t = ⟨1, 1, o.m⟩ := by
  have := H.mks.2
  unfold Opr.mk1 at this
  rw [if_pos h] at this; exact this
theorem slide (h : slides o.kind) : o.win.ok ∧ t.h = places (s.h + o.win.top + o.win.bottom) o.win.kh o.win.sh ∧ t.w = places (s.w + o.win.left + o.win.right) o.win.kw o.win.sw ∧ 1 ≤ t.h ∧ 1 ≤ t.w ∧ t.c = (if o.kind = 2 then o.m else s.c) ∧ wout s o.win = (t.h, t.w, 0) := by
  obtain ⟨h1, h2⟩ := H.mks
  have hk : o.kind ≠ 1 := by unfold slides at h; omega
  unfold Opr.mk1 at h1 h2
  rw [if_neg hk, if_pos h] at h1 h2
  by_cases hw : (wout s o.win).2.2 ≠ 0
  · rw [if_pos hw] at h1; exact absurd h1 hw
  · rw [if_neg hw] at h2
    have hw0 := Classical.not_not.1 hw
    have tok := H.tok
    obtain ⟨_, wok⟩ := wout_win hw0
    have hwe : wout s o.win = (if places (s.h + o.win.top + o.win.bottom) o.win.kh o.win.sh = 0 ∨ places (s.w + o.win.left + o.win.right) o.win.kw o.win.sw = 0 then (0, 0, 60) else (places (s.h + o.win.top + o.win.bottom) o.win.kh o.win.sh, places (s.w + o.win.left + o.win.right) o.win.kw o.win.sw, 0)) := by
      unfold wout
      rw [if_neg (Classical.not_not.2 H.sok), if_neg (Classical.not_not.2 wok)]
    rw [hwe] at hw0 h2 ⊢
    split at hw0
    · simp at hw0
    · rename_i hp
      rw [if_neg hp] at h2 ⊢
      subst h2
      unfold Shp.ok at tok
      exact ⟨wok, rfl, rfl, tok.1.1, tok.2.1.1, rfl, rfl⟩
theorem tc : t.c = (if o.kind = 1 ∨ o.kind = 2 then o.m else s.c) := by
  by_cases h1 : o.kind = 1
  · rw [H.dense h1, if_pos (.inl h1)]
  · by_cases h2 : slides o.kind
    · rw [(H.slide h2).2.2.2.2.2.1]
      by_cases h3 : o.kind = 2
      · rw [if_pos h3, if_pos (.inr h3)]
      · rw [if_neg h3, if_neg (by omega)]
    · have := H.mks.2
      unfold Opr.mk1 at this
      rw [if_neg h1, if_neg h2] at this
      unfold slides at h2
      rw [this, if_neg (by omega)]
theorem lenp (h : reduces o.kind) : 1 ≤ o.len s ∧ o.len s ≤ 512 := by
  refine ⟨?_, H.len h⟩
  have hs := H.sok
  unfold Shp.ok at hs
  have p : ∀ a b : Int, 1 ≤ a → 1 ≤ b → 1 ≤ a * b := fun a b ha hb => by
    have := Int.mul_pos (show 0 < a by omega) (show 0 < b by omega); omega
  unfold Opr.len
  split
  · exact p _ _ (p _ _ hs.1.1 hs.2.1.1) hs.2.2.1.1
  · have hw := (H.slide (by unfold slides; unfold reduces at h; omega)).1
    unfold Win.ok sideOK at hw
    split
    · exact p _ _ (p _ _ hw.1.1.1 hw.2.1.1) hs.2.2.1.1
    · exact p _ _ hw.1.1.1 hw.2.1.1
theorem pos : 1 ≤ t.h * t.w ∧ t.h * t.w ≤ 16384 ∧ 1 ≤ t.c ∧ t.c ≤ 1024 ∧ t.h ≤ 1024 ∧ t.w ≤ 1024 ∧ 1 ≤ t.h ∧ 1 ≤ t.w := by
  have ht := H.tok
  unfold Shp.ok at ht
  have h1 := Int.mul_pos (show 0 < t.h by omega) (show 0 < t.w by omega)
  have h2 : t.h * t.w * 1 ≤ t.h * t.w * t.c := Int.mul_le_mul_of_nonneg_left (by omega) (by omega)
  omega
end OF
set_option linter.unusedVariables false
set_option maxHeartbeats 1000000
theorem W.loop_for {σ ε : Type} {f : σ → W (σ ⊕ ε)} {R : ε → Prop} (n : Nat) (J : Nat → σ → Prop) (h : ∀ i s, i < n → J i s → (f s).run (W.on (J (i + 1)) R)) (hend : ∀ s, J n s → (f s).run (W.on (fun _ => False) R)) {s : σ} (h0 : J 0 s) : (W.loop f s).run R := by
  have key : ∀ k i s, n - i = k → i ≤ n → J i s → (W.loop f s).run R := by
    intro k
    induction k with
    | zero =>
      intro i s hk hi hJ
      have : i = n := by omega
      subst this
      exact W.loop_unroll ((f s).mono (W.on_mono (fun _ q => q.elim) fun _ => id) (hend s hJ))
    | succ k ih =>
      intro i s hk hi hJ
      exact W.loop_unroll ((f s).mono (W.on_mono (fun s' q => ih (i + 1) s' (by omega) (by omega) q) fun _ => id) (h i s (by omega) hJ))
  exact key n 0 s (by omega) (by omega) h0
theorem W.each_range {τ σ : Type} {B : τ → σ → W σ} {row : Nat → W τ} {N : Nat} {s : σ} {R : σ → Prop} (Inv : Nat → σ → Prop) (h0 : Inv 0 s) (step : ∀ k s, k < N → Inv k s → (row k).run fun t => (B t s).run (Inv (k + 1))) (fin : ∀ s, Inv N s → R s) :
    (W.each B ((List.range N).map row) s).run R := by
  have key : ∀ n k s, k + n = N → Inv k s → (W.each B ((List.range' k n).map row) s).run R := by
    intro n
    induction n with
    | zero => intro k s hk hi; rw [Nat.add_zero] at hk; subst hk; exact fin s hi
    | succ n ih =>
      intro k s hk hi
      rw [List.range'_succ, List.map_cons]
      exact (row k).mono (fun t ht => W.mono (B t s) (fun s' hs' => ih (k + 1) s' (by omega) hs') ht) (step k s (by omega) hi)
  rw [List.range_eq_range']
  exact key N 0 s (by omega) h0
def tapAt (s : Shp) (w : Win) (cols at' k : Int) : Int :=
  if (0 ≤ at' / cols * w.sh - w.top + k / w.kw ∧ at' / cols * w.sh - w.top + k / w.kw ≤ s.h - 1) ∧ (0 ≤ at' % cols * w.sw - w.left + k % w.kw ∧ at' % cols * w.sw - w.left + k % w.kw ≤ s.w - 1)
  then (at' / cols * w.sh - w.top + k / w.kw) * s.w + (at' % cols * w.sw - w.left + k % w.kw) else -1
def placeS (o : Opr) (s t : Shp) (ch at' : Int) (i : Nat) : Int :=
  if o.kind = 1 then i
  else if tapAt s o.win t.w at' (if o.kind = 2 then (i : Int) / s.c else i) < 0 then -1
  else tapAt s o.win t.w at' (if o.kind = 2 then (i : Int) / s.c else i) * s.c + (if o.kind = 2 then (i : Int) % s.c else ch - 1)
def rowsI (f : Nat → Int) (n : Nat) : Rws := (List.range n).map fun i => [I (f i)]
theorem rowsI_succ (f : Nat → Int) (n : Nat) : rowsI f (n + 1) = rowsI f n ++ [[I (f n)]] := by unfold rowsI; rw [List.range_succ, List.map_append]; rfl
theorem rowsI_len (f : Nat → Int) (n : Nat) : (rowsI f n).length = n := by simp [rowsI]
theorem rowsI_ri (f : Nat → Int) (n i : Nat) (h : i < n) : ri (rowsI f n) i 0 = f i := by
  simp only [ri, cellOf, List.getD_eq_getElem?_getD, rowsI, List.getElem?_map, List.getElem?_range h]; rfl
section
variable {o : Opr} {s t : Shp}
theorem tap_bd {w : Win} {cols at' k : Int} (hs : s.ok) : -1 ≤ tapAt s w cols at' k ∧ tapAt s w cols at' k < s.h * s.w := by
  unfold tapAt
  unfold Shp.ok at hs
  have h1 := Int.mul_pos (show 0 < s.h by omega) (show 0 < s.w by omega)
  split
  · rename_i h
    generalize at' / cols * w.sh - w.top + k / w.kw = y at h ⊢
    generalize at' % cols * w.sw - w.left + k % w.kw = x at h ⊢
    have a := Int.mul_nonneg (show 0 ≤ y by omega) (show 0 ≤ s.w by omega)
    have b := Int.mul_le_mul_of_nonneg_right (show y ≤ s.h - 1 by omega) (show 0 ≤ s.w by omega)
    rw [Int.sub_mul] at b
    omega
  · omega
theorem win_bd (h : o.win.ok) : (1 ≤ o.win.kh ∧ o.win.kh ≤ 32) ∧ (1 ≤ o.win.kw ∧ o.win.kw ≤ 32) ∧ (1 ≤ o.win.kh * o.win.kw ∧ o.win.kh * o.win.kw ≤ 1024) := by
  unfold Win.ok sideOK at h
  have h1 := Int.mul_pos (show 0 < o.win.kh by omega) (show 0 < o.win.kw by omega)
  have h2 := Int.mul_le_mul (show o.win.kh ≤ 32 by omega) (show o.win.kw ≤ 32 by omega) (by omega) (by omega)
  omega
theorem corner_bd {cols n st pad at' : Int} (hc : 1 ≤ cols) (hn : n ≤ 1024) (h : 0 ≤ at' ∧ at' < n * cols) (hs : 1 ≤ st ∧ st ≤ 32) (hp : 0 ≤ pad ∧ pad ≤ 31) : (0 ≤ at' / cols ∧ at' / cols < n) ∧ (-31 ≤ at' / cols * st - pad ∧ at' / cols * st - pad ≤ 32768) := by
  have h1 : 0 ≤ at' / cols := Int.ediv_nonneg h.1 (by omega)
  have h2 : at' / cols < n := Int.ediv_lt_of_lt_mul (by omega) h.2
  have h3 := Int.mul_nonneg h1 (show 0 ≤ st by omega)
  have h4 := Int.mul_le_mul (show at' / cols ≤ 1024 by omega) hs.2 (by omega) (by omega)
  omega
theorem corner2_bd {cols st pad at' : Int} (hc : 1 ≤ cols ∧ cols ≤ 1024) (hs : 1 ≤ st ∧ st ≤ 32) (hp : 0 ≤ pad ∧ pad ≤ 31) : -31 ≤ at' % cols * st - pad ∧ at' % cols * st - pad ≤ 32768 := by
  have h1 : 0 ≤ at' % cols := Int.emod_nonneg _ (by omega)
  have h2 : at' % cols < cols := Int.emod_lt_of_pos _ (by omega)
  have h3 := Int.mul_nonneg h1 (show 0 ≤ st by omega)
  have h4 := Int.mul_le_mul (show at' % cols ≤ 1024 by omega) hs.2 (by omega) (by omega)
  omega
theorem g_window_Taps_ok (H : OF o s t) (hk : slides o.kind) {at' : Int} (hat : 0 ≤ at' ∧ at' < t.h * t.w) {R : Unit ⊕ (Int × Int × Int × Int × Int × Int × Int × Int × Int × Int × Int × Int × Int) → Prop}
    (h : R (Sum.inr (o.win.kh, o.win.kw, o.win.sh, o.win.sw, o.win.top, o.win.left, o.win.bottom, o.win.right, at' / t.w * o.win.sh - o.win.top, at' % t.w * o.win.sw - o.win.left, s.h, s.w, s.c))) :
    (g_window_Taps s.h s.w s.c o.win.kh o.win.kw o.win.sh o.win.sw o.win.top o.win.left o.win.bottom o.win.right at').run R := by
  obtain ⟨wok, _, _, h1, h2, _, hw⟩ := H.slide hk
  have hp := H.pos
  unfold g_window_Taps
  refine W.bindI (g_window_Out_ok s o.win ?_)
  rw [hw]
  dsimp only
  rw [wrap64_in (x := t.h * t.w) (by omega) (by omega)]
  refine W.iteF (by rw [decide_eq_false (show ¬ at' < 0 by omega), decide_eq_false (show ¬ t.h * t.w ≤ at' by omega)]; rfl) (W.needI (by omega) (W.needI (by omega) (W.retI ?_)))
  unfold Win.ok sideOK at wok
  rw [Int.tdiv_eq_ediv_of_nonneg hat.1, Int.tmod_eq_emod_of_nonneg hat.1]
  have c1 := corner_bd (cols := t.w) (n := t.h) (st := o.win.sh) (pad := o.win.top) (by omega) (by omega) hat (by omega) (by omega)
  have c2 := corner2_bd (cols := t.w) (st := o.win.sw) (pad := o.win.left) (at' := at') (by omega) (by omega) (by omega)
  have c3 := Int.ediv_le_self (a := at') t.w hat.1
  have c4 := Int.emod_lt_of_pos at' (show 0 < t.w by omega)
  have c5 := Int.emod_nonneg at' (show t.w ≠ 0 by omega)
  rw [wrap64_in (x := at' / t.w) (by omega) (by omega), wrap64_in (x := at' / t.w * o.win.sh) (by omega) (by omega), wrap64_in (x := at' / t.w * o.win.sh - o.win.top) (by omega) (by omega), wrap64_in (x := at' % t.w * o.win.sw) (by omega) (by omega), wrap64_in (x := at' % t.w * o.win.sw - o.win.left) (by omega) (by omega)]
  exact h
theorem g_window_Taps_2_ok (H : OF o s t) (hk : slides o.kind) {at' : Int} (hat : 0 ≤ at' ∧ at' < t.h * t.w) {k : Nat} (hkk : (k : Int) < o.win.kh * o.win.kw) {R : Int × Int → Prop} (h : R ((k : Int), tapAt s o.win t.w at' k)) :
    (g_window_Taps_2 (k : Int) o.win.kh o.win.kw o.win.sh o.win.sw o.win.top o.win.left o.win.bottom o.win.right (at' / t.w * o.win.sh - o.win.top) (at' % t.w * o.win.sw - o.win.left) s.h s.w s.c).run R := by
  obtain ⟨wok, _, _, h1, h2, _, hw⟩ := H.slide hk
  have hp := H.pos
  have wb := win_bd wok
  unfold g_window_Taps_2
  unfold Win.ok sideOK at wok
  have sok := H.sok
  have tb := tap_bd (w := o.win) (cols := t.w) (at' := at') (k := (k : Int)) sok
  unfold tapAt at h tb
  unfold Shp.ok at sok
  have c1 := corner_bd (cols := t.w) (n := t.h) (st := o.win.sh) (pad := o.win.top) (by omega) (by omega) hat (by omega) (by omega)
  have c2 := corner2_bd (cols := t.w) (st := o.win.sw) (pad := o.win.left) (at' := at') (by omega) (by omega) (by omega)
  have k0 : (0 : Int) ≤ k := by omega
  have d1 : 0 ≤ (k : Int) / o.win.kw := Int.ediv_nonneg k0 (by omega)
  have d2 := Int.ediv_le_self (a := (k : Int)) o.win.kw k0
  have d3 := Int.emod_nonneg (k : Int) (show o.win.kw ≠ 0 by omega)
  have d4 := Int.emod_lt_of_pos (k : Int) (show 0 < o.win.kw by omega)
  rw [Int.tdiv_eq_ediv_of_nonneg k0, Int.tmod_eq_emod_of_nonneg k0, wrap64_in (x := (k : Int) / o.win.kw) (by omega) (by omega)]
  obtain ⟨Y, hY⟩ : ∃ Y, Y = at' / t.w * o.win.sh - o.win.top + (k : Int) / o.win.kw := ⟨_, rfl⟩
  obtain ⟨X, hX⟩ : ∃ X, X = at' % t.w * o.win.sw - o.win.left + (k : Int) % o.win.kw := ⟨_, rfl⟩
  rw [← hY, ← hX] at h ⊢
  have bY : -31 ≤ Y ∧ Y ≤ 40000 := by omega
  have bX : -31 ≤ X ∧ X ≤ 40000 := by omega
  have bp := mul_bnd (x := Y) (k := s.w) (M := 40000) (K := 1024) (by omega) (by omega) (by omega) (by omega)
  rw [wrap64_in (x := Y) (by omega) (by omega), wrap64_in (x := X) (by omega) (by omega), wrap64_in (x := s.h - 1) (by omega) (by omega), wrap64_in (x := s.w - 1) (by omega) (by omega), wrap64_in (x := Y * s.w) (by omega) (by omega), wrap64_in (x := Y * s.w + X) (by omega) (by omega)]
  refine W.needI (by omega) (W.needI (by omega) (W.bindI (W.bindI (g_window_within_ok _ _ _ ?_))))
  refine W.iteC (0 ≤ Y ∧ Y ≤ s.h - 1) rfl (fun hy => W.bindI (g_window_within_ok _ _ _ (W.retI ?_))) (fun hy => W.retI ?_)
  · refine W.iteC (0 ≤ X ∧ X ≤ s.w - 1) rfl (fun hx => W.retI ?_) (fun hx => W.retI ?_)
    · rw [if_pos ⟨hy, hx⟩] at h; exact h
    · rw [if_neg (fun q => hx q.2)] at h; exact h
  · rw [if_neg (fun q => hy q.1)] at h
    exact W.iteF rfl (W.retI h)
theorem div_step {k c j : Nat} (hc : 0 < c) (hj : j < c) : ((k * c + j : Nat) : Int) / (c : Int) = k ∧ ((k * c + j : Nat) : Int) % (c : Int) = j := by
  have h1 : (k * c + j) / c = k := by rw [Nat.add_comm, Nat.add_mul_div_right _ _ hc, Nat.div_eq_of_lt hj]; omega
  have h2 : (k * c + j) % c = j := by rw [Nat.add_comm, Nat.add_mul_mod_self_right, Nat.mod_eq_of_lt hj]
  rw [← Int.natCast_ediv, ← Int.natCast_emod, h1, h2]
  exact ⟨rfl, rfl⟩
theorem g_places_ok (H : OF o s t) (hr : reduces o.kind) {ch at' : Int} (hch : 1 ≤ ch ∧ ch ≤ t.c) (hat : 0 ≤ at' ∧ at' < t.h * t.w) {R : Bool × Rws → Prop} (h : ∀ b, R (b, rowsI (placeS o s t ch at') (o.len s).toNat)) :
    (g__terms_site__places o.kind o.a o.b o.m o.win.kh o.win.kw o.win.sh o.win.sw o.win.top o.win.left o.win.bottom o.win.right o.wn o.ws o.bn o.bs o.sam o.sas o.sbm o.sbs o.zero o.pad o.lo o.hi s.h s.w s.c t.h t.w t.c (o.len s) ch at').run R := by
  have hl := H.lenp hr
  have hp := H.pos
  have sok := H.sok
  unfold Shp.ok at sok
  unfold g__terms_site__places
  refine W.iteC (o.kind = 1) (by rw [Bool.eq_iff_iff]; simp) (fun h1 => ?_) (fun h1 => ?_)
  · refine W.bindI (W.loop_for (o.len s).toNat (fun i v => ∃ b, v = ((i : Int), b, rowsI (placeS o s t ch at') i)) ?_ ?_ ⟨true, rfl⟩)
    · rintro i _ hi ⟨b, rfl⟩
      dsimp only
      refine W.iteT (decide_eq_true (by omega)) (W.needI (by rw [rowsI_len]; omega) (W.retI ⟨b && false, ?_⟩))
      rw [wrap64_in (by omega) (by omega), rowsI_succ]
      have e : placeS o s t ch at' i = (i : Int) := by unfold placeS; rw [if_pos h1]
      rw [e]; rfl
    · rintro _ ⟨b, rfl⟩
      dsimp only
      exact W.iteF (decide_eq_false (by omega)) (W.retI (W.retI (h b)))
  · have hk : slides o.kind := by unfold slides; unfold reduces at hr; omega
    obtain ⟨wok, _, _, _, _, _, hw⟩ := H.slide hk
    have wb := win_bd wok
    obtain ⟨cnt, first, hcf, hcn⟩ : ∃ (cnt : Nat) (first : Int), (first = (if o.kind = 2 then 0 else ch - 1)) ∧ (cnt : Int) = (if o.kind = 2 then s.c else 1) := ⟨(if o.kind = 2 then s.c else 1).toNat, _, rfl, by split <;> omega⟩
    have hcnt : 1 ≤ cnt := by split at hcn <;> omega
    have hlen : (o.len s).toNat = (o.win.kh * o.win.kw).toNat * cnt := by
      have e : o.len s = o.win.kh * o.win.kw * (cnt : Int) := by
        unfold Opr.len
        rw [if_neg h1, hcn]
        by_cases h2 : o.kind = 2
        · rw [if_pos h2, if_pos h2]
        · rw [if_neg h2, if_neg h2, Int.mul_one]
      rw [e, Int.toNat_mul (by omega) (by omega), Int.toNat_natCast]
    have hf : 0 ≤ first ∧ first + cnt ≤ 1024 := by rw [hcf, hcn]; split <;> omega
    refine W.bindI (W.mono _ (R := fun v => v = (first, first + (cnt : Int) - 1)) ?_ ?_)
    rotate_left
    · refine W.iteC (o.kind = 2) (by rw [Bool.eq_iff_iff]; simp) (fun h2 => W.retI ?_) (fun h2 => W.retI ?_)
      · rw [if_pos h2] at hcf hcn
        rw [wrap64_in (by omega) (by omega), hcf, hcn, Int.zero_add]
      · rw [if_neg h2] at hcf hcn
        rw [wrap64_in (by omega) (by omega), hcf, hcn, Int.add_sub_cancel]
    rintro _ rfl
    refine W.bindI (W.bindI (g_window_Taps_ok H hk hat ?_))
    have hn : ∀ a2 a3 a4 a5 a6 a7 a8 a9 a10 a11 a12, g_window_Taps_2_n o.win.kh o.win.kw a2 a3 a4 a5 a6 a7 a8 a9 a10 a11 a12 = o.win.kh * o.win.kw := fun a2 a3 a4 a5 a6 a7 a8 a9 a10 a11 a12 => wrap64_in (by omega) (by omega)
    show (W.need _ _).run _
    rw [hn]
    refine W.needI (by omega) (W.bindI (W.each_range (fun k v => ∃ b, v = (b, rowsI (placeS o s t ch at') (k * cnt))) ⟨true, by rw [Nat.zero_mul]; rfl⟩ ?_ ?_))
    · rintro k _ hkk ⟨b, rfl⟩
      refine g_window_Taps_2_ok H hk hat (by omega) ?_
      have hkc : (k + 1) * cnt ≤ (o.win.kh * o.win.kw).toNat * cnt := Nat.mul_le_mul_right cnt (by omega)
      have tb := tap_bd (w := o.win) (cols := t.w) (at' := at') (k := (k : Int)) H.sok
      have hpl : ∀ j, j < cnt → placeS o s t ch at' (k * cnt + j) = if tapAt s o.win t.w at' k < 0 then -1 else tapAt s o.win t.w at' k * s.c + (first + j) := fun j hj => by
        unfold placeS
        rw [if_neg h1]
        by_cases h2 : o.kind = 2
        · rw [if_pos h2] at hcf hcn
          obtain ⟨e1, e2⟩ := div_step (k := k) (c := cnt) (j := j) (by omega) hj
          rw [hcn] at e1 e2
          rw [if_pos h2, if_pos h2, e1, e2, hcf, Int.zero_add]
        · rw [if_neg h2] at hcf hcn
          have : cnt = 1 := by omega
          subst this
          have : j = 0 := by omega
          subst this
          rw [if_neg h2, if_neg h2, hcf]
          simp
      generalize tapAt s o.win t.w at' k = p at *
      have pb := Int.mul_le_mul_of_nonneg_right (show p ≤ s.h * s.w - 1 by omega) (show 0 ≤ s.c by omega)
      have pc := Int.mul_le_mul_of_nonneg_right (show -1 ≤ p by omega) (show 0 ≤ s.c by omega)
      rw [Int.sub_mul] at pb
      rw [Nat.succ_mul] at hkc
      refine W.bindI (W.loop_for cnt (fun j v => ∃ b, v = (first + (j : Int), b, rowsI (placeS o s t ch at') (k * cnt + j))) ?_ ?_ ⟨b, by simp⟩)
      · rintro j _ hj ⟨b, rfl⟩
        dsimp only
        refine W.iteT (decide_eq_true (by omega)) (W.bindI ?_)
        have hsz : ((rowsI (placeS o s t ch at') (k * cnt + j)).length + 1) * 8 ≤ 140737488355328 := by rw [rowsI_len]; omega
        refine W.iteC (p < 0) rfl (fun hp0 => W.needI hsz (W.retI (W.retI ⟨b && false, ?_⟩))) (fun hp0 => W.needI hsz (W.retI (W.retI ⟨b && false, ?_⟩)))
        · rw [← Nat.add_assoc, rowsI_succ, hpl j hj, if_pos hp0, wrap64_in (by omega) (by omega)]
          simp only [Prod.mk.injEq, and_true, true_and]; omega
        · rw [← Nat.add_assoc, rowsI_succ, hpl j hj, if_neg hp0, wrap64_in (x := first + (j : Int) + 1) (by omega) (by omega), wrap64_in (x := p * s.c) (by omega) (by omega), wrap64_in (by omega) (by omega)]
          simp only [Prod.mk.injEq, and_true, true_and]; omega
      · rintro _ ⟨b, rfl⟩
        dsimp only
        refine W.iteF (decide_eq_false (by omega)) (W.retI (W.retI ⟨b, ?_⟩))
        rw [Nat.succ_mul]
    · rintro _ ⟨b, rfl⟩
      refine W.retI (W.retI ?_)
      rw [← hlen]
      exact h b
end
def fillF (f g : Nat → List AV) (n i : Nat) : Rws := (List.range n).map fun k => if k < i then f k else g k
theorem fillF_zero (f g : Nat → List AV) (n : Nat) : fillF f g n 0 = (List.range n).map g := by unfold fillF; simp
theorem fillF_end (f g : Nat → List AV) (n : Nat) : fillF f g n n = (List.range n).map f := by
  unfold fillF
  exact List.map_congr_left fun k hk => if_pos (List.mem_range.1 hk)
theorem fillF_len (f g : Nat → List AV) (n i : Nat) : (fillF f g n i).length = n := by simp [fillF]
theorem fillF_set (f g : Nat → List AV) (n i : Nat) : (fillF f g n i).set i (f i) = fillF f g n (i + 1) := by
  refine List.ext_getElem? fun k => ?_
  rw [List.getElem?_set]
  by_cases hk : k < n
  · by_cases e : i = k
    · subst e
      rw [if_pos rfl, if_pos (by rw [fillF_len]; exact hk)]
      simp [fillF, List.getElem?_range hk]
    · rw [if_neg e]
      simp only [fillF, List.getElem?_map, List.getElem?_range hk, Option.map_some]
      by_cases h2 : k < i
      · rw [if_pos h2, if_pos (by omega)]
      · rw [if_neg h2, if_neg (by omega)]
  · have h1 : (fillF f g n i)[k]? = none := List.getElem?_eq_none (by rw [fillF_len]; omega)
    have h2 : (fillF f g n (i + 1))[k]? = none := List.getElem?_eq_none (by rw [fillF_len]; omega)
    by_cases e : i = k
    · subst e
      rw [if_pos rfl, if_neg (by rw [fillF_len]; exact hk), h2]
    · rw [if_neg e, h1, h2]
theorem fillF_ri (f g : Nat → List AV) (n i k j : Nat) (hk : k < n) (hi : i ≤ k) : ri (fillF f g n i) k j = cI (g k) j := by
  simp only [ri_eq, List.getD_eq_getElem?_getD, fillF, List.getElem?_map, List.getElem?_range hk, Option.map_some, Option.getD_some]
  rw [if_neg (by omega)]
theorem rep_map {n : Nat} {z : List AV} : List.replicate n z = (List.range n).map fun _ => z := by
  refine List.ext_getElem? fun k => ?_
  by_cases hk : k < n
  · rw [List.getElem?_replicate, if_pos hk, List.getElem?_map, List.getElem?_range hk]; rfl
  · rw [List.getElem?_eq_none (by simp; omega), List.getElem?_eq_none (by simp; omega)]
def Opr.nums (o : Opr) : Prop := (∀ i, -32768 ≤ ri o.ws i 0 ∧ ri o.ws i 0 ≤ 32767) ∧ ∀ i, -2147483648 ≤ ri o.bs i 0 ∧ ri o.bs i 0 ≤ 2147483647
def wtS (o : Opr) (s : Shp) (ch : Int) (i : Nat) : Int := if o.kind = 4 then 1 else ri o.ws (((ch - 1) * o.len s).toNat + i) 0
def biasS (o : Opr) (ch : Int) : Int := if o.kind = 4 then 0 else ri o.bs (ch - 1).toNat 0
def termR (o : Opr) (s t : Shp) (ch at' : Int) (i : Nat) : List AV := [I (wtS o s ch i), I (placeS o s t ch at' i)]
def termsR (o : Opr) (s t : Shp) (ch at' : Int) : Rws := (List.range (o.len s).toNat).map (termR o s t ch at')
theorem termsR_len (o : Opr) (s t : Shp) (ch at' : Int) : (termsR o s t ch at').length = (o.len s).toNat := by simp [termsR]
theorem wt_rng {o : Opr} (h : o.nums) (s : Shp) (ch : Int) (i : Nat) : -32768 ≤ wtS o s ch i ∧ wtS o s ch i ≤ 32767 := by
  unfold wtS; split
  · omega
  · exact h.1 _
theorem bias_rng {o : Opr} (h : o.nums) (ch : Int) : -2147483648 ≤ biasS o ch ∧ biasS o ch ≤ 2147483647 := by
  unfold biasS; split
  · omega
  · exact h.2 _
section
variable {s0 : Shp} {lo hi out : Int} {nl : Bool} {l : Rws} {S : List Shp}
structure MD (s0 : Shp) (lo hi out : Int) (l : Rws) (S : List Shp) : Prop where
  hl : l.length ≤ 676622540150
  sh : short l
  e : (look8 s0 lo hi (oprs l) out).err = 0
  S : S = (look8 s0 lo hi (oprs l) out).S
  nums : ∀ r ∈ l, (Opr.of r).nums
theorem MD.mf (M : MD s0 lo hi out l S) : MF s0 lo hi (oprs l) S := by rw [M.S]; exact look8_MF M.e
theorem MD.n64 (M : MD s0 lo hi out l S) : l.length ≤ 64 := by have := M.mf.n64; simpa [oprs] using this
theorem MD.n (M : MD s0 lo hi out l S) : S.length = l.length + 1 := by have := M.mf.n; simpa [oprs] using this
theorem MD.of (M : MD s0 lo hi out l S) {j : Nat} (hj : j < l.length) : OF (Opr.of (l.getD j [])) (S.getD (Opr.of (l.getD j [])).a.toNat default) (S.getD (j + 1) default) ∧ (0 ≤ (Opr.of (l.getD j [])).a ∧ (Opr.of (l.getD j [])).a ≤ j) ∧ ((Opr.of (l.getD j [])).kind = 6 → 0 ≤ (Opr.of (l.getD j [])).b ∧ (Opr.of (l.getD j [])).b ≤ j) :=
  M.mf.op j _ (row_opr l j hj)
theorem MD.num (M : MD s0 lo hi out l S) {j : Nat} (hj : j < l.length) : (Opr.of (l.getD j [])).nums := by
  refine M.nums _ ?_
  rw [List.getD_eq_getElem?_getD, List.getElem?_eq_getElem hj]
  exact List.getElem_mem hj
abbrev Site := Int × Int × Int × Int × Int × Int × Int × Int × Int × Int × Int × Int × Bool × Rws × Bool × Rws × Int × Int × Int × Int × Int × Int × Int × Int × Int × Int × Int × Int × Int × Int × Int × Int
def siteT (o : Opr) (s t : Shp) : Site := (o.kind, o.a, o.b, o.m, o.win.kh, o.win.kw, o.win.sh, o.win.sw, o.win.top, o.win.left, o.win.bottom, o.win.right, o.wn, o.ws, o.bn, o.bs, o.sam, o.sas, o.sbm, o.sbs, o.zero, o.pad, o.lo, o.hi, s.h, s.w, s.c, t.h, t.w, t.c, o.len s, 0)
theorem g_terms_find_ok (M : MD s0 lo hi out l S) {j : Nat} (hj : j < l.length) (hr : reduces (Opr.of (l.getD j [])).kind) {R : Site → Prop}
    (h : R (siteT (Opr.of (l.getD j [])) (S.getD (Opr.of (l.getD j [])).a.toNat default) (S.getD (j + 1) default))) :
    (g_terms_find s0.h s0.w s0.c lo hi nl l out ((j : Int) + 1)).run R := by
  obtain ⟨H, ha, _⟩ := M.of hj
  have hn := M.n
  have h64 := M.n64
  have hlp := H.lenp hr
  have sok := H.sok
  unfold Shp.ok at sok
  unfold g_terms_find
  refine W.bindI (g_model_Shapes_ok s0 lo hi nl l out M.hl M.sh ?_)
  have e1 : (look8 s0 lo hi (oprs l) out).tup.2 = (0, (look8 s0 lo hi (oprs l) out).op, 0, false, S.map Shp.enc) := by
    rw [M.S]; unfold Ans8.tup; rw [M.e]; rfl
  rw [e1]
  have ej : (IntKind.i64.wrap ((j : Int) + 1 - 1)).toNat = j := by rw [wrap64_in (by omega) (by omega)]; omega
  have ejw : IntKind.i64.wrap ((j : Int) + 1 - 1) = j := by rw [wrap64_in (by omega) (by omega)]; omega
  have ej1 : ((j : Int) + 1).toNat = j + 1 := by omega
  dsimp only
  rw [ejw, Int.toNat_natCast, ej1]
  refine W.iteF rfl (W.iteF (by rw [decide_eq_false (show ¬ (j : Int) + 1 < 1 by omega), decide_eq_false (show ¬ (l.length : Int) < (j : Int) + 1 by omega)]; rfl) (W.needI (by omega) ?_))
  refine W.bindI (g_model_Reduces_ok _ (W.iteF (by rw [decide_eq_true (show reduces (ri l j 0) from hr)]; rfl) (W.needI (by omega) (W.needI (by simp; omega) ?_))))
  have ha' : 0 ≤ ri l j 1 ∧ ri l j 1 ≤ j := ha
  refine W.needI (by simp; omega) (W.bindI ?_)
  simp only [ri_shp0, ri_shp1, ri_shp2]
  unfold reduces at hr
  have k0 : ri l j 0 = (Opr.of (l.getD j [])).kind := rfl
  show ((W.ite (ri l j 0 == 1) (W.ret (IntKind.i64.wrap (IntKind.i64.wrap ((S.getD (Opr.of (l.getD j [])).a.toNat default).h * (S.getD (Opr.of (l.getD j [])).a.toNat default).w) * (S.getD (Opr.of (l.getD j [])).a.toNat default).c))) (W.ite (ri l j 0 == 2) (W.ret (IntKind.i64.wrap (IntKind.i64.wrap ((Opr.of (l.getD j [])).win.kh * (Opr.of (l.getD j [])).win.kw) * (S.getD (Opr.of (l.getD j [])).a.toNat default).c))) (W.ret (IntKind.i64.wrap ((Opr.of (l.getD j [])).win.kh * (Opr.of (l.getD j [])).win.kw))))) : W Int).run _
  refine W.mono (R := fun v => v = (Opr.of (l.getD j [])).len (S.getD (Opr.of (l.getD j [])).a.toNat default)) _ ?_ ?_
  · rintro _ rfl; exact W.retI h
  generalize S.getD (Opr.of (l.getD j [])).a.toNat default = s at *
  have p1 := Int.mul_pos (show 0 < s.h by omega) (show 0 < s.w by omega)
  have p2 := Int.mul_le_mul (show s.h ≤ 1024 by omega) (show s.w ≤ 1024 by omega) (by omega) (by omega)
  refine W.iteC ((Opr.of (l.getD j [])).kind = 1) (by rw [k0, Bool.eq_iff_iff]; simp) (fun h1 => W.retI ?_) (fun h1 => ?_)
  · unfold Opr.len at hlp ⊢; rw [if_pos h1] at hlp ⊢; rw [wrap64_in (x := s.h * s.w) (by omega) (by omega), wrap64_in (by omega) (by omega)]
  · have hk : slides (Opr.of (l.getD j [])).kind := by unfold slides; omega
    have wb := win_bd (H.slide hk).1
    refine W.iteC ((Opr.of (l.getD j [])).kind = 2) (by rw [k0, Bool.eq_iff_iff]; simp) (fun h2 => W.retI ?_) (fun h2 => W.retI ?_)
    · unfold Opr.len at hlp ⊢
      rw [if_neg h1, if_pos h2] at hlp ⊢
      rw [wrap64_in (x := (Opr.of (l.getD j [])).win.kh * (Opr.of (l.getD j [])).win.kw) (by omega) (by omega), wrap64_in (by omega) (by omega)]
    · unfold Opr.len; rw [if_neg h1, if_neg h2, wrap64_in (by omega) (by omega)]
theorem g_terms_Length_ok (M : MD s0 lo hi out l S) {j : Nat} (hj : j < l.length) (hr : reduces (Opr.of (l.getD j [])).kind) {R : Int × Int → Prop}
    (h : R ((Opr.of (l.getD j [])).len (S.getD (Opr.of (l.getD j [])).a.toNat default), 0)) : (g_terms_Length s0.h s0.w s0.c lo hi nl l out ((j : Int) + 1)).run R := by
  unfold g_terms_Length
  exact W.bindI (g_terms_find_ok M hj hr (W.retI h))
theorem g_terms_Channels_ok (M : MD s0 lo hi out l S) {j : Nat} (hj : j < l.length) (hr : reduces (Opr.of (l.getD j [])).kind) {R : Int × Int → Prop}
    (h : R ((S.getD (j + 1) default).c, 0)) : (g_terms_Channels s0.h s0.w s0.c lo hi nl l out ((j : Int) + 1)).run R := by
  unfold g_terms_Channels
  exact W.bindI (g_terms_find_ok M hj hr (W.retI h))
theorem g_terms_Positions_ok (M : MD s0 lo hi out l S) {j : Nat} (hj : j < l.length) (hr : reduces (Opr.of (l.getD j [])).kind) {R : Int × Int → Prop}
    (h : R ((S.getD (j + 1) default).h * (S.getD (j + 1) default).w, 0)) : (g_terms_Positions s0.h s0.w s0.c lo hi nl l out ((j : Int) + 1)).run R := by
  unfold g_terms_Positions
  refine W.bindI (g_terms_find_ok M hj hr (W.retI ?_))
  have := (M.of hj).1.pos
  show R (IntKind.i64.wrap ((S.getD (j + 1) default).h * (S.getD (j + 1) default).w), 0)
  rw [wrap64_in (by omega) (by omega)]; exact h
theorem ri_slice (ws : Rws) (a n i : Nat) (h : i < n) : ri (List.take n (List.drop a ws)) i 0 = ri ws (a + i) 0 := by
  simp only [ri_eq, List.getD_eq_getElem?_getD]
  rw [List.getElem?_take, if_pos h, List.getElem?_drop]
theorem g_terms_Of_ok (M : MD s0 lo hi out l S) {j : Nat} (hj : j < l.length) (hr : reduces (Opr.of (l.getD j [])).kind) {ch at' : Int} (hch : 1 ≤ ch ∧ ch ≤ (S.getD (j + 1) default).c) (hat : 0 ≤ at' ∧ at' < (S.getD (j + 1) default).h * (S.getD (j + 1) default).w) {R : Int × Int × Bool × Rws → Prop}
    (h : R (biasS (Opr.of (l.getD j [])) ch, 0, false, termsR (Opr.of (l.getD j [])) (S.getD (Opr.of (l.getD j [])).a.toNat default) (S.getD (j + 1) default) ch at')) :
    (g_terms_Of s0.h s0.w s0.c lo hi nl l out ((j : Int) + 1) ch at').run R := by
  unfold g_terms_Of
  refine W.bindI (g_terms_find_ok M hj hr ?_)
  obtain ⟨H, ha, _⟩ := M.of hj
  have hnum := M.num hj
  generalize Opr.of (l.getD j []) = o at *
  generalize S.getD o.a.toNat default = s at *
  generalize S.getD (j + 1) default = t at *
  have hp := H.pos
  have hlp := H.lenp hr
  dsimp only [siteT]
  have hwp : IntKind.i64.wrap (t.h * t.w) = t.h * t.w := wrap64_in (x := t.h * t.w) (by omega) (by omega)
  refine W.iteF rfl (W.iteF (by simp only [Bool.or_eq_false_iff, decide_eq_false_iff_not, hwp]; exact ⟨⟨⟨by omega, decide_eq_false (by omega)⟩, by omega⟩, by omega⟩) (W.needI (by omega) ?_))
  refine W.bindI (g_places_ok H hr hch hat fun b => ?_)
  dsimp only
  obtain ⟨n, hn⟩ : ∃ n : Nat, (n : Int) = o.len s := ⟨(o.len s).toNat, by omega⟩
  have hn' : (o.len s).toNat = n := by omega
  rw [hn', rowsI_len]
  let f1 : Nat → List AV := fun i => [I 1, I (placeS o s t ch at' i)]
  let z : Nat → List AV := fun _ => [I 0, I 0]
  refine W.bindI (W.loop_for n (fun i v => v = ((i : Int), fillF f1 z n i)) ?_ ?_ (by rw [fillF_zero, rep_map]; rfl))
  · rintro i _ hi rfl
    dsimp only
    rw [fillF_len]
    refine W.iteT (decide_eq_true (by omega)) (W.needI (by omega) (W.needI (by omega) (W.retI ?_)))
    rw [Int.toNat_natCast, rowsI_ri _ _ _ hi, wrap64_in (x := (i : Int) + 1) (by omega) (by omega)]
    show ((i : Int) + 1, (fillF f1 z n i).set i (f1 i)) = _
    rw [fillF_set]; rfl
  rintro _ rfl
  dsimp only
  refine W.iteF (decide_eq_false (by omega)) (W.retI ?_)
  have hR : (List.range n).map (termR o s t ch at') = termsR o s t ch at' := by unfold termsR; rw [hn']
  refine W.bindI (W.iteC (o.kind ≠ 4) (by rw [Bool.eq_iff_iff]; simp) (fun h4 => ?_) (fun h4 => W.retI (W.retI ?_)))
  · have hw : weighs o.kind := by unfold weighs; unfold reduces at hr; omega
    unfold weighs at hw
    have hls : (o.ws.length : Int) = t.c * o.len s ∧ (o.bs.length : Int) = t.c := by
      rw [H.ws, H.bs, H.tc]
      unfold Opr.lists
      by_cases h12 : o.kind = 1 ∨ o.kind = 2
      · rw [if_pos h12, if_pos h12]; exact ⟨rfl, rfl⟩
      · rw [if_neg h12, if_neg h12, if_pos (by omega)]; exact ⟨rfl, rfl⟩
    have m1 := Int.mul_le_mul_of_nonneg_right (show ch ≤ t.c by omega) (show 0 ≤ o.len s by omega)
    have m2 := Int.mul_le_mul (show t.c ≤ 1024 by omega) (show o.len s ≤ 512 by omega) (by omega) (by omega)
    have m3 := Int.mul_nonneg (show 0 ≤ ch - 1 by omega) (show 0 ≤ o.len s by omega)
    have m4 : ch * o.len s = (ch - 1) * o.len s + o.len s := by rw [Int.sub_mul]; omega
    have w1 : IntKind.i64.wrap (ch - 1) = ch - 1 := wrap64_in (by omega) (by omega)
    have w2 : IntKind.i64.wrap ((ch - 1) * o.len s) = (ch - 1) * o.len s := wrap64_in (by omega) (by omega)
    have w3 : IntKind.i64.wrap (ch * o.len s) = ch * o.len s := wrap64_in (by omega) (by omega)
    simp only [w1, w2, w3]
    have en : (ch * o.len s - (ch - 1) * o.len s).toNat = n := by omega
    simp only [en]
    obtain ⟨a, hA⟩ : ∃ a : Nat, a = ((ch - 1) * o.len s).toNat := ⟨_, rfl⟩
    simp only [← hA]
    have hsl : (List.take n (List.drop a o.ws)).length = n := by rw [List.length_take, List.length_drop]; omega
    simp only [hsl]
    refine W.needI (by omega) (W.needI (by omega) ?_)
    refine W.bindI (W.loop_for n (fun i v => v = ((i : Int), fillF (termR o s t ch at') f1 n i)) ?_ ?_ (by rw [fillF_zero, fillF_end]; rfl))
    · rintro i _ hi rfl
      dsimp only
      rw [fillF_len]
      refine W.iteT (decide_eq_true (by omega)) (W.needI (by omega) (W.needI (by omega) (W.retI ?_)))
      rw [Int.toNat_natCast, ri_slice _ _ _ _ hi, fillF_ri _ _ _ _ _ _ hi (Nat.le_refl _), wrap64_in (x := (i : Int) + 1) (by omega) (by omega)]
      have hwr := hnum.1 (a + i)
      rw [wrap64_in (x := ri o.ws (a + i) 0) (by omega) (by omega)]
      have e : [I (ri o.ws (a + i) 0), I (cI (f1 i) 1)] = termR o s t ch at' i := by
        unfold termR wtS
        rw [if_neg h4, ← hA]; rfl
      show ((i : Int) + 1, (fillF (termR o s t ch at') f1 n i).set i [I (ri o.ws (a + i) 0), I (cI (f1 i) 1)]) = _
      rw [e, fillF_set]; rfl
    · rintro _ rfl
      dsimp only
      refine W.iteF (decide_eq_false (by omega)) (W.retI (W.retI (W.retI ?_)))
      have hbr := hnum.2 (ch - 1).toNat
      rw [wrap64_in (x := ri o.bs (ch - 1).toNat 0) (by omega) (by omega), fillF_end, hR]
      unfold biasS at h
      rw [if_neg h4] at h
      exact h
  · have h4' : o.kind = 4 := Classical.not_not.1 h4
    rw [fillF_end]
    unfold biasS at h
    rw [if_pos h4'] at h
    have e : (List.range n).map f1 = termsR o s t ch at' := by
      rw [← hR]
      refine List.map_congr_left fun i _ => ?_
      unfold termR wtS
      rw [if_pos h4']
    dsimp only
    rw [e]; exact h
end
def sumN (f : Nat → Int) : Nat → Int
  | 0 => 0
  | n + 1 => sumN f n + f n
theorem sumN_bd {f : Nat → Int} {B : Int} (h : ∀ i, -B ≤ f i ∧ f i ≤ B) : ∀ n : Nat, -(B * n) ≤ sumN f n ∧ sumN f n ≤ B * n
  | 0 => by simp [sumN]
  | n + 1 => by
    have a := sumN_bd h n
    have b := h n
    have e : B * ((n + 1 : Nat) : Int) = B * n + B := by rw [Int.natCast_add, Int.mul_add]; simp
    rw [e]
    unfold sumN
    omega
theorem sumN_mono {f g : Nat → Int} (h : ∀ i, f i ≤ g i) : ∀ n : Nat, sumN f n ≤ sumN g n
  | 0 => Int.le_refl _
  | n + 1 => by
    have a := sumN_mono h n
    have b := h n
    unfold sumN
    omega
def hullN (f : Nat → Int × Int) : Nat → Int × Int
  | 0 => (0, 0)
  | n + 1 => if n = 0 then f 0 else hullS (hullN f n) (f n)
theorem hullN_ok {f : Nat → Int × Int} {B : Int} (h : ∀ i, SpOK B (f i)) : ∀ n : Nat, 1 ≤ n → SpOK B (hullN f n)
  | n + 1, _ => by
    unfold hullN
    by_cases e : n = 0
    · rw [if_pos e]; exact h 0
    · rw [if_neg e]
      have a := hullN_ok h n (by omega)
      have b := h n
      unfold SpOK hullS at *
      dsimp only
      omega
def endS (o : Opr) (s t : Shp) (ch at' : Int) (a : Int × Int) (i : Nat) : Int × Int := timesS (if placeS o s t ch at' i < 0 then (o.pad, o.pad) else a) (wtS o s ch i)
def rowE (o : Opr) (s t : Shp) (ch at' : Int) (a : Int × Int) (i : Nat) : List AV := [I (endS o s t ch at' a i).1, I (endS o s t ch at' a i).2]
def rowsE (o : Opr) (s t : Shp) (ch at' : Int) (a : Int × Int) : Rws := (List.range (o.len s).toNat).map (rowE o s t ch at' a)
def sumS (o : Opr) (s t : Shp) (ch at' : Int) (a : Int × Int) : Int × Int := (biasS o ch + sumN (fun i => (endS o s t ch at' a i).1) (o.len s).toNat, biasS o ch + sumN (fun i => (endS o s t ch at' a i).2) (o.len s).toNat)
def totS (o : Opr) (s t : Shp) (ch : Int) (a : Int × Int) : Int × Int := hullN (fun k => sumS o s t ch k a) (t.h * t.w).toNat
def totsS (o : Opr) (s t : Shp) (a : Int × Int) : Int × Int := hullN (fun k => totS o s t ((k : Int) + 1) a) t.c.toNat
section
variable {o : Opr} {s t : Shp} {a : Int × Int}
theorem pad_ok (H : OF o s t) : SpOK 128 (o.pad, o.pad) := by
  have := H.v.2.2
  unfold val at this
  exact ⟨by dsimp only; omega, by dsimp only; omega, by dsimp only; omega⟩
theorem endS_ok (H : OF o s t) (hn : o.nums) (ha : SpOK 128 a) (ch at' : Int) (i : Nat) : SpOK 4194304 (endS o s t ch at' a i) := by
  have hw := wt_rng hn s ch i
  unfold endS
  split
  · exact timesS_bd (pad_ok H) (by omega)
  · exact timesS_bd ha (by omega)
theorem sumS_ok (H : OF o s t) (hr : reduces o.kind) (hn : o.nums) (ha : SpOK 128 a) (ch at' : Int) : SpOK 4294967296 (sumS o s t ch at' a) := by
  have hl := H.lenp hr
  have hb := bias_rng hn ch
  have e := endS_ok H hn ha ch at'
  have l1 := sumN_bd (f := fun i => (endS o s t ch at' a i).1) (B := 4194304) (fun i => by have := e i; unfold SpOK at this; omega) (o.len s).toNat
  have l2 := sumN_bd (f := fun i => (endS o s t ch at' a i).2) (B := 4194304) (fun i => by have := e i; unfold SpOK at this; omega) (o.len s).toNat
  have l3 := sumN_mono (f := fun i => (endS o s t ch at' a i).1) (g := fun i => (endS o s t ch at' a i).2) (fun i => (e i).2.1) (o.len s).toNat
  unfold sumS SpOK
  dsimp only
  omega
theorem totS_ok (H : OF o s t) (hr : reduces o.kind) (hn : o.nums) (ha : SpOK 128 a) (ch : Int) : SpOK 4294967296 (totS o s t ch a) :=
  hullN_ok (fun k => sumS_ok H hr hn ha ch k) _ (by have := H.pos; omega)
theorem totsS_ok (H : OF o s t) (hr : reduces o.kind) (hn : o.nums) (ha : SpOK 128 a) : SpOK 4294967296 (totsS o s t a) :=
  hullN_ok (fun k => totS_ok H hr hn ha _) _ (by have := H.pos; omega)
end
section
variable {s0 : Shp} {lo hi out : Int} {nl : Bool} {l : Rws} {S : List Shp}
theorem g_bound_ask_ok (M : MD s0 lo hi out l S) {j : Nat} (hj : j < l.length) (hr : reduces (Opr.of (l.getD j [])).kind) {ch : Int} (hch : 1 ≤ ch ∧ ch ≤ (S.getD (j + 1) default).c) {a : Int × Int} (ha : -128 ≤ a.1 ∧ a.1 ≤ a.2 ∧ a.2 ≤ 127) {R : Int × Int → Prop}
    (h : R (biasS (Opr.of (l.getD j [])) ch, 0)) : (g_bound_ask s0.h s0.w s0.c lo hi nl l out ((j : Int) + 1) ch a.1 a.2).run R := by
  have hp := (M.of hj).1.pos
  unfold g_bound_ask
  refine W.bindI (g_terms_Of_ok M hj hr hch ⟨by omega, by omega⟩ ?_)
  refine W.bindI (W.iteT rfl (W.bindI (g_span_Holds_ok _ _ _ _ (W.retI ?_))))
  exact W.iteF (by rw [decide_eq_true ⟨ha.2.1, ha.1, ha.2.2⟩]; rfl) (W.retI h)
theorem g_bound_rows_1_ok (M : MD s0 lo hi out l S) {j : Nat} (hj : j < l.length) (hr : reduces (Opr.of (l.getD j [])).kind) {ch : Int} (hch : 1 ≤ ch ∧ ch ≤ (S.getD (j + 1) default).c) {a : Int × Int} (ha : SpOK 128 a) {k : Nat} (hk : (k : Int) < (S.getD (j + 1) default).h * (S.getD (j + 1) default).w) {n : Int} {R : Rws → Prop}
    (h : R (rowsE (Opr.of (l.getD j [])) (S.getD (Opr.of (l.getD j [])).a.toNat default) (S.getD (j + 1) default) ch k a)) :
    (g_bound_rows_1 (k : Int) n s0.h s0.w s0.c lo hi nl l out ((j : Int) + 1) ch a.1 a.2 (Opr.of (l.getD j [])).pad).run R := by
  obtain ⟨H, _, _⟩ := M.of hj
  have hn := M.num hj
  unfold g_bound_rows_1
  refine W.bindI (g_terms_Of_ok M hj hr hch ⟨by omega, hk⟩ ?_)
  generalize Opr.of (l.getD j []) = o at *
  generalize S.getD o.a.toNat default = s at *
  generalize S.getD (j + 1) default = t at *
  have hlp := H.lenp hr
  have hpd := pad_ok H
  dsimp only
  rw [termsR_len]
  obtain ⟨m, hm⟩ : ∃ m : Nat, (m : Int) = o.len s := ⟨(o.len s).toNat, by omega⟩
  have hm' : (o.len s).toNat = m := by omega
  unfold rowsE at h
  rw [hm'] at h
  rw [hm']
  refine W.needI (by omega) (W.bindI (W.loop_for m (fun i v => v = ((i : Int), fillF (rowE o s t ch k a) (fun _ => [I 0, I 0]) m i)) ?_ ?_ (by rw [fillF_zero, Int.toNat_natCast, rep_map]; rfl)))
  · rintro i _ hi rfl
    dsimp only
    rw [fillF_len]
    refine W.iteT (decide_eq_true (by omega)) (W.needI (by omega) ?_)
    have e0 : ∀ c, ri (termsR o s t ch k) i c = cI (termR o s t ch k i) c := fun c => by
      simp only [ri_eq, List.getD_eq_getElem?_getD, termsR, List.getElem?_map, List.getElem?_range (show i < (o.len s).toNat by omega), Option.map_some, Option.getD_some]
    rw [Int.toNat_natCast, e0, e0]
    show (W.bind (W.ite (decide (placeS o s t ch k i < 0)) _ _) _).run _
    have hw := wt_rng hn s ch i
    have fin : ∀ b : Int × Int, SpOK 128 b → b = (if placeS o s t ch k i < 0 then (o.pad, o.pad) else a) → (W.bind (g_span_Times b.1 b.2 (wtS o s ch i)) fun v3 => W.need (0 ≤ (i : Int) ∧ (i : Int) < m) (W.ret (Sum.inl (β := Rws) (IntKind.i64.wrap ((i : Int) + 1), (fillF (rowE o s t ch k a) (fun _ => [I 0, I 0]) m i).set i [I v3.1, I v3.2.1])))).run (W.on (fun v => v = (((i + 1 : Nat) : Int), fillF (rowE o s t ch k a) (fun _ => [I 0, I 0]) m (i + 1))) fun v => ((W.ret v) : W Rws).run R) := fun b hb e => by
      obtain ⟨b1, b2, b3⟩ := hb
      refine W.bindI (g_span_Times_ok b2 (by omega) (by omega) (W.needI (by omega) (W.retI ?_)))
      rw [wrap64_in (x := (i : Int) + 1) (by omega) (by omega)]
      have e2 : [I (timesS (b.1, b.2) (wtS o s ch i)).1, I (timesS (b.1, b.2) (wtS o s ch i)).2] = rowE o s t ch k a i := by unfold rowE endS; rw [← e]
      show ((i : Int) + 1, (fillF (rowE o s t ch k a) (fun _ => [I 0, I 0]) m i).set i [I (timesS (b.1, b.2) (wtS o s ch i)).1, I (timesS (b.1, b.2) (wtS o s ch i)).2]) = _
      rw [e2, fillF_set]; rfl
    refine W.bindI (W.iteC (placeS o s t ch k i < 0) rfl (fun h1 => W.retI ?_) (fun h1 => W.retI ?_))
    · exact fin (o.pad, o.pad) hpd (if_pos h1).symm
    · exact fin a ha (if_neg h1).symm
  · rintro _ rfl
    dsimp only
    refine W.iteF (decide_eq_false (by omega)) (W.retI (W.retI ?_))
    rw [fillF_end]; exact h
theorem g_bound_Total_ok (M : MD s0 lo hi out l S) {j : Nat} (hj : j < l.length) (hr : reduces (Opr.of (l.getD j [])).kind) {ch : Int} (hch : 1 ≤ ch ∧ ch ≤ (S.getD (j + 1) default).c) {a : Int × Int} (ha : -128 ≤ a.1 ∧ a.1 ≤ a.2 ∧ a.2 ≤ 127) {R : Int × Int × Int → Prop}
    (h : R ((totS (Opr.of (l.getD j [])) (S.getD (Opr.of (l.getD j [])).a.toNat default) (S.getD (j + 1) default) ch a).1, (totS (Opr.of (l.getD j [])) (S.getD (Opr.of (l.getD j [])).a.toNat default) (S.getD (j + 1) default) ch a).2, 0)) :
    (g_bound_Total s0.h s0.w s0.c lo hi nl l out ((j : Int) + 1) ch a.1 a.2).run R := by
  obtain ⟨H, _, _⟩ := M.of hj
  have hn := M.num hj
  have h64 := M.n64
  have ha' : SpOK 128 a := ⟨ha.1, ha.2.1, by omega⟩
  unfold g_bound_Total
  refine W.bindI (g_bound_ask_ok M hj hr hch ha (W.iteF rfl ?_))
  have hrow := fun {k : Nat} hk {n : Int} {R : Rws → Prop} => g_bound_rows_1_ok (nl := nl) M hj hr hch ha' (k := k) hk (n := n) (R := R)
  unfold g_bound_rows
  have ejw : (IntKind.i64.wrap ((j : Int) + 1 - 1)) = j := by rw [wrap64_in (by omega) (by omega)]; omega
  refine W.bindI (W.bindI (g_terms_Positions_ok M hj hr ?_))
  rw [ejw]
  refine W.needI (by omega) (W.retI ?_)
  rw [Int.toNat_natCast]
  have epad : ri l j 19 = (Opr.of (l.getD j [])).pad := rfl
  rw [epad]
  generalize Opr.of (l.getD j []) = o at *
  generalize S.getD o.a.toNat default = s at *
  generalize S.getD (j + 1) default = t at *
  have hp := H.pos
  have hlp := H.lenp hr
  have hb := bias_rng hn ch
  dsimp only [g_bound_rows_1_n]
  refine W.needI (by omega) (W.bindI (W.each_range (fun k v => v = ((hullN (fun k => sumS o s t ch k a) k).1, (hullN (fun k => sumS o s t ch k a) k).2, decide (0 < k))) rfl ?_ ?_))
  · rintro k _ hk rfl
    refine hrow (by omega) ?_
    have hrl : (rowsE o s t ch k a).length = (o.len s).toNat := by simp [rowsE]
    have e := endS_ok H hn ha' ch k
    have l1 := fun n => sumN_bd (f := fun i => (endS o s t ch k a i).1) (B := 4194304) (fun i => by have := e i; unfold SpOK at this; omega) n
    have l2 := fun n => sumN_bd (f := fun i => (endS o s t ch k a i).2) (B := 4194304) (fun i => by have := e i; unfold SpOK at this; omega) n
    have er : ∀ i c, i < (o.len s).toNat → ri (rowsE o s t ch k a) i c = cI (rowE o s t ch k a i) c := fun i c hi => by
      simp only [ri_eq, List.getD_eq_getElem?_getD, rowsE, List.getElem?_map, List.getElem?_range hi, Option.map_some, Option.getD_some]
    refine W.bindI (W.loop_for (o.len s).toNat (fun i v => v = ((i : Int), biasS o ch + sumN (fun i => (endS o s t ch k a i).1) i, biasS o ch + sumN (fun i => (endS o s t ch k a i).2) i)) ?_ ?_ (by simp [sumN]))
    · rintro i _ hi rfl
      dsimp only
      rw [hrl]
      refine W.iteT (decide_eq_true (by omega)) (W.needI (by omega) ?_)
      rw [Int.toNat_natCast, er _ _ hi, er _ _ hi]
      unfold g_bound_plus
      refine W.bindI (W.retI (W.retI ?_))
      have b1 := l1 (i + 1)
      have b2 := l2 (i + 1)
      have e1 : sumN (fun i => (endS o s t ch k a i).1) (i + 1) = sumN (fun i => (endS o s t ch k a i).1) i + (endS o s t ch k a i).1 := rfl
      have e2 : sumN (fun i => (endS o s t ch k a i).2) (i + 1) = sumN (fun i => (endS o s t ch k a i).2) i + (endS o s t ch k a i).2 := rfl
      have c1 : cI (rowE o s t ch k a i) 0 = (endS o s t ch k a i).1 := rfl
      have c2 : cI (rowE o s t ch k a i) 1 = (endS o s t ch k a i).2 := rfl
      have hi' : ((i + 1 : Nat) : Int) ≤ 512 := by omega
      show (IntKind.i64.wrap ((i : Int) + 1), IntKind.i64.wrap (biasS o ch + sumN (fun i => (endS o s t ch k a i).1) i + cI (rowE o s t ch k a i) 0), IntKind.i64.wrap (biasS o ch + sumN (fun i => (endS o s t ch k a i).2) i + cI (rowE o s t ch k a i) 1)) = _
      rw [c1, c2, wrap64_in (x := (i : Int) + 1) (by omega) (by omega), wrap64_in (x := biasS o ch + sumN (fun i => (endS o s t ch k a i).1) i + (endS o s t ch k a i).1) (by omega) (by omega), wrap64_in (x := biasS o ch + sumN (fun i => (endS o s t ch k a i).2) i + (endS o s t ch k a i).2) (by omega) (by omega), e1, e2, Int.add_assoc, Int.add_assoc]
      rfl
    · rintro _ rfl
      dsimp only
      rw [hrl]
      refine W.iteF (decide_eq_false (by omega)) (W.retI ?_)
      unfold g___bound_hull__take_p
      have es : (biasS o ch + sumN (fun i => (endS o s t ch k a i).1) (o.len s).toNat, biasS o ch + sumN (fun i => (endS o s t ch k a i).2) (o.len s).toNat) = sumS o s t ch k a := rfl
      refine W.bindI (W.bindI (W.iteC (0 < k) rfl (fun h0 => W.retI (W.retI (W.retI ?_))) (fun h0 => W.retI (W.retI (W.retI ?_)))))
      · have eh : hullN (fun k => sumS o s t ch k a) (k + 1) = hullS (hullN (fun k => sumS o s t ch k a) k) (sumS o s t ch k a) := by
          show (if k = 0 then _ else _) = _
          rw [if_neg (by omega)]
        rw [eh, imin_f, imin_t, decide_eq_true (show 0 < k + 1 by omega)]; rfl
      · have : k = 0 := by omega
        subst this
        rfl
  · rintro _ rfl
    exact W.retI h
end
def comesS (o : Opr) (s t : Shp) (a b : Int × Int) : Int × Int :=
  if o.kind ≤ 3 then (scaleS (totsS o s t a).1 o.sam o.sas, scaleS (totsS o s t a).2 o.sam o.sas)
  else if o.kind = 7 then (scaleS a.1 o.sam o.sas, scaleS a.2 o.sam o.sas)
  else if o.kind = 4 then (meanS (totsS o s t a).1 (o.len s), meanS (totsS o s t a).2 (o.len s))
  else if o.kind = 6 then (scaleS a.1 o.sam o.sas + scaleS b.1 o.sbm o.sbs, scaleS a.2 o.sam o.sas + scaleS b.2 o.sbm o.sbs)
  else a
def outS (o : Opr) (s t : Shp) (a b : Int × Int) : Int × Int := (finS (comesS o s t a b).1 o.zero o.lo o.hi, finS (comesS o s t a b).2 o.zero o.lo o.hi)
section
variable {o : Opr} {s t : Shp} {a b : Int × Int}
theorem comesS_le (H : OF o s t) (hn : o.nums) (ha : SpOK 128 a) (hb : SpOK 128 b) : (comesS o s t a b).1 ≤ (comesS o s t a b).2 := by
  have hk := H.kind
  unfold comesS
  by_cases h3 : o.kind ≤ 3
  · rw [if_pos h3]
    have sc := H.sc (by unfold scales; omega)
    unfold scaleOK at sc
    exact scaleS_mono (by omega) (totsS_ok H (by unfold reduces; omega) hn ha).2.1
  · rw [if_neg h3]
    by_cases h7 : o.kind = 7
    · rw [if_pos h7]
      have sc := H.sc (by unfold scales; omega)
      unfold scaleOK at sc
      exact scaleS_mono (by omega) ha.2.1
    · rw [if_neg h7]
      by_cases h4 : o.kind = 4
      · rw [if_pos h4]
        have hr : reduces o.kind := by unfold reduces; omega
        exact meanS_mono (H.lenp hr).1 (totsS_ok H hr hn ha).2.1
      · rw [if_neg h4]
        by_cases h6 : o.kind = 6
        · rw [if_pos h6]
          have sc := H.sc (by unfold scales; omega)
          have sb := H.sb h6
          unfold scaleOK at sc sb
          have q1 := scaleS_mono (m := o.sam) (s := o.sas) (by omega) ha.2.1
          have q2 := scaleS_mono (m := o.sbm) (s := o.sbs) (by omega) hb.2.1
          dsimp only; omega
        · rw [if_neg h6]; exact ha.2.1
theorem outS_ok (H : OF o s t) (hn : o.nums) (ha : SpOK 128 a) (hb : SpOK 128 b) : o.lo ≤ (outS o s t a b).1 ∧ (outS o s t a b).1 ≤ (outS o s t a b).2 ∧ (outS o s t a b).2 ≤ o.hi := by
  have hl := H.v.1.2.2
  exact ⟨(finS_rng hl).1, finS_mono hl (comesS_le H hn ha hb), (finS_rng hl).2⟩
end
def valsS (a : Int × Int) : Prop := -128 ≤ a.1 ∧ a.1 ≤ a.2 ∧ a.2 ≤ 127
instance (a : Int × Int) : Decidable (valsS a) := by unfold valsS; infer_instance
theorem valsS.sp {a : Int × Int} (h : valsS a) : SpOK 128 a := ⟨h.1, h.2.1, by have := h.2.2; omega⟩
section
variable {s0 : Shp} {lo hi out : Int} {nl : Bool} {l : Rws} {S : List Shp}
theorem g_flow_totals_ok (M : MD s0 lo hi out l S) {j : Nat} (hj : j < l.length) (hr : reduces (Opr.of (l.getD j [])).kind) {a : Int × Int} (ha : valsS a) {R : Int × Int → Prop}
    (h : R (totsS (Opr.of (l.getD j [])) (S.getD (Opr.of (l.getD j [])).a.toNat default) (S.getD (j + 1) default) a)) :
    (g_flow_totals s0.h s0.w s0.c lo hi nl l out ((j : Int) + 1) a.1 a.2).run R := by
  obtain ⟨H, _, _⟩ := M.of hj
  have hn := M.num hj
  unfold g_flow_totals
  refine W.bindI (g_terms_Channels_ok M hj hr ?_)
  have htot := fun {ch : Int} hch {R : Int × Int × Int → Prop} => g_bound_Total_ok (nl := nl) M hj hr (ch := ch) hch ha (R := R)
  generalize Opr.of (l.getD j []) = o at *
  generalize S.getD o.a.toNat default = s at *
  generalize S.getD (j + 1) default = t at *
  have hp := H.pos
  have tok := fun ch => totS_ok H hr hn ha.sp ch
  dsimp only
  refine W.bindI (W.loop_for t.c.toNat (fun i v => v = ((i : Int) + 1, hullN (fun k => totS o s t ((k : Int) + 1) a) i)) ?_ ?_ rfl)
  · rintro i _ hi rfl
    dsimp only
    refine W.iteT (decide_eq_true (by omega)) (W.bindI (htot (by omega) ?_))
    have hok := fun h => hullN_ok (fun k => tok ((k : Int) + 1)) i h
    have eh : i ≠ 0 → hullN (fun k => totS o s t ((k : Int) + 1) a) (i + 1) = hullS (hullN (fun k => totS o s t ((k : Int) + 1) a) i) (totS o s t ((i : Int) + 1) a) := fun h0 => by
      show (if i = 0 then _ else _) = _
      rw [if_neg h0]
    dsimp only
    refine W.bindI (W.iteC (1 < (i : Int) + 1) rfl (fun h1 => W.bindI (g_span_Hull_ok (hok (by omega)).2.1 (tok _).2.1 (W.retI (W.retI ?_)))) (fun h1 => W.retI (W.retI ?_)))
    · rw [wrap64_in (by omega) (by omega)]
      show ((i : Int) + 1 + 1, hullS (hullN (fun k => totS o s t ((k : Int) + 1) a) i) (totS o s t ((i : Int) + 1) a)) = _
      rw [eh (by omega)]; rfl
    · have : i = 0 := by omega
      subst this
      rfl
  · rintro _ rfl
    dsimp only
    exact W.iteF (decide_eq_false (by omega)) (W.retI (W.retI h))
theorem beqI {a b : Int} : (a == b) = decide (a = b) := by rw [Bool.eq_iff_iff]; simp
theorem g_flow_comes_ok (M : MD s0 lo hi out l S) {j : Nat} (hj : j < l.length) {a b : Int × Int} (ha : valsS a) (hb : valsS b) {R : Int × Int → Prop}
    (h : R (comesS (Opr.of (l.getD j [])) (S.getD (Opr.of (l.getD j [])).a.toNat default) (S.getD (j + 1) default) a b)) :
    (g_flow_comes s0.h s0.w s0.c lo hi nl l out ((j : Int) + 1) a.1 a.2 b.1 b.2).run R := by
  have h64 := M.n64
  unfold g_flow_comes
  have ejw : (IntKind.i64.wrap ((j : Int) + 1 - 1)) = j := by rw [wrap64_in (by omega) (by omega)]; omega
  rw [ejw, Int.toNat_natCast]
  refine W.needI (by omega) ?_
  obtain ⟨H, _, _⟩ := M.of hj
  have hn := M.num hj
  have htot := fun hr {R : Int × Int → Prop} => g_flow_totals_ok (nl := nl) M hj hr ha (R := R)
  have hlen := fun hr {R : Int × Int → Prop} => g_terms_Length_ok (nl := nl) M hj hr (R := R)
  have k0 : ri l j 0 = (Opr.of (l.getD j [])).kind := rfl
  have k14 : ri l j 14 = (Opr.of (l.getD j [])).sam := rfl
  have k15 : ri l j 15 = (Opr.of (l.getD j [])).sas := rfl
  have k16 : ri l j 16 = (Opr.of (l.getD j [])).sbm := rfl
  have k17 : ri l j 17 = (Opr.of (l.getD j [])).sbs := rfl
  rw [k0, k14, k15, k16, k17]
  generalize Opr.of (l.getD j []) = o at *
  generalize S.getD o.a.toNat default = s at *
  generalize S.getD (j + 1) default = t at *
  have hk := H.kind
  have scl : ∀ x : Int × Int, SpOK 4294967296 x → scales o.kind → ∀ {R : Int × Int → Prop}, R (scaleS x.1 o.sam o.sas, scaleS x.2 o.sam o.sas) → ((W.bind (g_span_Scaled x.1 x.2 o.sam o.sas) fun v10 => W.ret (v10.1, v10.2.1)) : W (Int × Int)).run R := fun x hx hs R q => by
    obtain ⟨x1, x2, x3⟩ := hx
    exact W.bindI (g_span_Scaled_ok x2 (by omega) (H.sc hs) (W.retI q))
  have sp64 : SpOK 4294967296 a := by have := ha.sp; unfold SpOK at this ⊢; omega
  refine W.bindI (W.bindI (W.bindI ?_))
  unfold comesS at h
  have b3 : ((W.ite (o.kind == 1) (W.ret (o.kind == 1)) (W.ite (o.kind == 2) (W.ret (o.kind == 2)) (W.ret (o.kind == 3)))) : W Bool).run fun v => v = decide (o.kind ≤ 3) := by
    refine W.iteC (o.kind = 1) beqI (fun h1 => W.retI ?_) (fun h1 => W.iteC (o.kind = 2) beqI (fun h2 => W.retI ?_) (fun h2 => W.retI ?_)) <;> (rw [beqI]; rw [Bool.eq_iff_iff]; simp only [decide_eq_true_eq]; omega)
  refine W.mono _ ?_ b3
  rintro _ rfl
  refine W.iteC (o.kind ≤ 3) rfl (fun h3 => ?_) (fun h3 => ?_)
  · rw [if_pos h3] at h
    have hr : reduces o.kind := by unfold reduces; omega
    refine W.bindI (htot hr (W.retI (scl _ (totsS_ok H hr hn ha.sp) (by unfold scales; omega) (W.retI h))))
  · rw [if_neg h3] at h
    refine W.iteC (o.kind = 7) beqI (fun h7 => W.retI ?_) (fun h7 => ?_)
    · rw [if_pos h7] at h
      exact scl a sp64 (by unfold scales; omega) (W.retI h)
    · rw [if_neg h7] at h
      refine W.iteC (o.kind = 4) beqI (fun h4 => ?_) (fun h4 => ?_)
      · rw [if_pos h4] at h
        have hr : reduces o.kind := by unfold reduces; omega
        have hlp := H.lenp hr
        obtain ⟨t1, t2, t3⟩ := totsS_ok H hr hn ha.sp
        refine W.bindI (hlen hr (W.bindI (htot hr (W.bindI (g_fixq_Mean_ok (by omega) (by dsimp only; omega) (W.bindI (g_fixq_Mean_ok (by omega) (by dsimp only; omega) (W.retI ?_))))))))
        exact W.retI (W.retI h)
      · rw [if_neg h4] at h
        refine W.iteC (o.kind = 6) beqI (fun h6 => ?_) (fun h6 => W.retI ?_)
        · rw [if_pos h6] at h
          have sc := H.sc (by unfold scales; omega)
          have sb := H.sb h6
          obtain ⟨a1, a2, a3⟩ := ha
          obtain ⟨b1, b2, b3⟩ := hb
          have m1 := scaleS_mono (m := o.sam) (s := o.sas) (by unfold scaleOK at sc; omega) a2
          have m2 := scaleS_mono (m := o.sbm) (s := o.sbs) (by unfold scaleOK at sb; omega) b2
          have n1 := scaleS_bd sc (x := a.1) (by omega)
          have n2 := scaleS_bd sc (x := a.2) (by omega)
          have n3 := scaleS_bd sb (x := b.1) (by omega)
          have n4 := scaleS_bd sb (x := b.2) (by omega)
          refine W.bindI (g_span_Scaled_ok a2 (by omega) sc (W.bindI (g_span_Scaled_ok b2 (by omega) sb (W.bindI (g_span_Add_ok m1 m2 (by omega) (by omega) (W.retI ?_))))))
          exact W.retI (W.retI h)
        · rw [if_neg h6] at h
          exact W.retI (W.retI h)
theorem g_flow_home_ok {o : Opr} {s t : Shp} (H : OF o s t) {v : Int} {a0 a1 a2 a3 a4 a5 a6 a7 a8 a9 a10 a11 a16 a17 a18 a19 a21 : Int} {a12 a14 : Bool} {a13 a15 : Rws} {R : Int → Prop} (h : R (finS v o.zero o.lo o.hi)) :
    (g_flow_home a0 a1 a2 a3 a4 a5 a6 a7 a8 a9 a10 a11 a12 a13 a14 a15 a16 a17 a18 a19 o.zero a21 o.lo o.hi v).run R := by
  unfold g_flow_home
  have hv := H.v
  unfold val at hv
  exact W.bindI (g_fixq_Finish_ok (by omega) (by omega) (W.retI h))
def spR (r : Rws) (i : Nat) : Int × Int := (ri r i 0, ri r i 1)
def outF (l : Rws) (S : List Shp) (err : Int) (op : Int) (r : Rws) : Int × Int × Int :=
  if err ≠ 0 then (0, 0, err)
  else if op < 1 ∨ l.length < op then (0, 0, 3)
  else if r.length < op then (0, 0, 70)
  else
    let o := Opr.of (l.getD (op - 1).toNat [])
    let a := spR r o.a.toNat
    let b := if o.kind = 6 then spR r o.b.toNat else a
    if ¬ valsS a ∨ ¬ valsS b then (0, 0, 30)
    else
      let c := outS o (S.getD o.a.toNat default) (S.getD op.toNat default) a b
      (c.1, c.2, 0)
theorem g_flow_Out_ok (hl : l.length ≤ 676622540150) (hsh : short l) (hnum : ∀ r ∈ l, (Opr.of r).nums) (op : Int) (n2 : Bool) (r : Rws) {R : Int × Int × Int → Prop}
    (h : R (outF l (look8 s0 lo hi (oprs l) out).S (look8 s0 lo hi (oprs l) out).err op r)) :
    (g_flow_Out s0.h s0.w s0.c lo hi nl l out op n2 r).run R := by
  unfold g_flow_Out
  refine W.bindI (g_model_Check_ok s0 lo hi nl l out hl hsh ?_)
  unfold outF at h
  dsimp only
  by_cases he : (look8 s0 lo hi (oprs l) out).err ≠ 0
  · rw [if_pos he] at h
    exact W.iteT (by simpa using he) (W.retI h)
  · rw [if_neg he] at h
    have he := Classical.not_not.1 he
    have M : MD s0 lo hi out l (look8 s0 lo hi (oprs l) out).S := ⟨hl, hsh, he, rfl, hnum⟩
    have h64 := M.n64
    generalize (look8 s0 lo hi (oprs l) out).S = S at *
    refine W.iteF (by simp [he]) (W.iteC (op < 1 ∨ l.length < op) (by rw [Bool.decide_or]) (fun h1 => W.retI (by rw [if_pos h1] at h; exact h)) (fun h1 => ?_))
    rw [if_neg h1] at h
    refine W.iteC (r.length < op) rfl (fun h2 => W.retI (by rw [if_pos h2] at h; exact h)) (fun h2 => ?_)
    rw [if_neg h2] at h
    obtain ⟨j, rfl⟩ : ∃ j : Nat, op = (j : Int) + 1 := ⟨(op - 1).toNat, by omega⟩
    have hj : j < l.length := by omega
    have ejw : (IntKind.i64.wrap ((j : Int) + 1 - 1)) = j := by rw [wrap64_in (by omega) (by omega)]; omega
    have ej1 : ((j : Int) + 1).toNat = j + 1 := by omega
    have ej2 : ((j : Int) + 1 - 1).toNat = j := by omega
    rw [ejw, Int.toNat_natCast]
    rw [ej1, ej2] at h
    obtain ⟨H, ha, hb⟩ := M.of hj
    have hn := M.num hj
    have hcom := fun {a b : Int × Int} ha hb {R : Int × Int → Prop} => g_flow_comes_ok (nl := nl) M hj (a := a) (b := b) ha hb (R := R)
    have k0 : ri l j 0 = (Opr.of (l.getD j [])).kind := rfl
    have k1 : ri l j 1 = (Opr.of (l.getD j [])).a := rfl
    have k2 : ri l j 2 = (Opr.of (l.getD j [])).b := rfl
    have kz : ri l j 18 = (Opr.of (l.getD j [])).zero := rfl
    have kl : ri l j 20 = (Opr.of (l.getD j [])).lo := rfl
    have kh : ri l j 21 = (Opr.of (l.getD j [])).hi := rfl
    rw [k0, k1, k2, kz, kl, kh]
    have hhome := fun {v : Int} {a0 a1 a2 a3 a4 a5 a6 a7 a8 a9 a10 a11 a16 a17 a18 a19 a21 : Int} {a12 a14 : Bool} {a13 a15 : Rws} {R : Int → Prop} => g_flow_home_ok H (v := v) (a0 := a0) (a1 := a1) (a2 := a2) (a3 := a3) (a4 := a4) (a5 := a5) (a6 := a6) (a7 := a7) (a8 := a8) (a9 := a9) (a10 := a10) (a11 := a11) (a12 := a12) (a13 := a13) (a14 := a14) (a15 := a15) (a16 := a16) (a17 := a17) (a18 := a18) (a19 := a19) (a21 := a21) (R := R)
    dsimp only at h
    obtain ⟨b, hbv⟩ : ∃ b, b = (if (Opr.of (l.getD j [])).kind = 6 then spR r (Opr.of (l.getD j [])).b.toNat else spR r (Opr.of (l.getD j [])).a.toNat) := ⟨_, rfl⟩
    rw [← hbv] at h
    refine W.needI (by omega) (W.needI (by omega) (W.needI (by omega) (W.bindI (W.mono _ (R := fun v => v = b) ?_ ?_))))
    rotate_left
    · refine W.iteC ((Opr.of (l.getD j [])).kind = 6) beqI (fun h6 => W.needI (by have := hb h6; omega) (W.retI ?_)) (fun h6 => W.retI ?_)
      · rw [hbv, if_pos h6]; rfl
      · rw [hbv, if_neg h6]; rfl
    rintro b rfl
    obtain ⟨a, hav⟩ : ∃ a, a = spR r (Opr.of (l.getD j [])).a.toNat := ⟨_, rfl⟩
    have e1 : ri r (Opr.of (l.getD j [])).a.toNat 0 = a.1 := by rw [hav]; rfl
    have e2 : ri r (Opr.of (l.getD j [])).a.toNat 1 = a.2 := by rw [hav]; rfl
    rw [e1, e2]
    rw [← hav] at h
    refine W.bindI (W.mono _ (R := fun v => v = decide (¬ valsS a ∨ ¬ valsS b)) ?_ ?_)
    rotate_left
    · refine W.bindI (g_span_Holds_ok _ _ _ _ ?_)
      by_cases hva : valsS a
      · refine W.iteF (by rw [decide_eq_true ⟨hva.2.1, hva.1, hva.2.2⟩]; rfl) (W.bindI (g_span_Holds_ok _ _ _ _ (W.retI ?_)))
        by_cases hvb : valsS b
        · rw [decide_eq_true ⟨hvb.2.1, hvb.1, hvb.2.2⟩, decide_eq_false (by simp [hva, hvb])]; rfl
        · rw [decide_eq_false (fun q => hvb ⟨q.2.1, q.1, q.2.2⟩), decide_eq_true (.inr hvb)]; rfl
      · refine W.iteT (by rw [decide_eq_false (fun q => hva ⟨q.2.1, q.1, q.2.2⟩)]; rfl) (W.retI ?_)
        rw [decide_eq_true (.inl hva)]
    rintro _ rfl
    refine W.iteC (¬ valsS a ∨ ¬ valsS b) rfl (fun h3 => W.retI (by rw [if_pos h3] at h; exact h)) (fun h3 => ?_)
    rw [if_neg h3] at h
    have h3 : valsS a ∧ valsS b := by
      by_cases q1 : valsS a <;> by_cases q2 : valsS b <;> simp_all
    refine W.bindI (hcom h3.1 h3.2 (W.bindI (hhome (W.bindI (hhome (W.retI ?_))))))
    exact h
end
theorem fm_sl {N : Nat} {fs : List FS} {b : Bool} {l : Rws} (h : fmF (.sl N fs) (.sl b 0 l)) : (b = true → l = []) ∧ l.length ≤ N ∧ ∀ r ∈ l, fmR fs r := by
  unfold fmF at h
  obtain ⟨b', l', e, h1, h2, h3⟩ := h
  injection e with e1 _ e2
  subst e1 e2
  exact ⟨h1, h2, h3⟩
theorem fm_cell {N : Nat} {fs fr : List FS} {r : List AV} {j : Nat} (h : fmR fr r) (hj : fr[j]? = some (.sl N fs)) : (cR r j).length ≤ N ∧ ∀ x ∈ cR r j, fmR fs x := by
  obtain ⟨x, hx, hf⟩ := fmR_get h hj
  have e : cR r j = x.toRows := by rw [cR, List.getD_eq_getElem?_getD, hx]; rfl
  unfold fmF at hf
  obtain ⟨b', l', rfl, _, h1, h2⟩ := hf
  rw [e]
  exact ⟨h1, h2⟩
theorem fm_ri {lo hi : Int} (h0 : lo ≤ 0 ∧ 0 ≤ hi) {l : Rws} (h : ∀ r ∈ l, fmR [.int lo hi] r) (i : Nat) : lo ≤ ri l i 0 ∧ ri l i 0 ≤ hi := by
  rw [ri_eq, List.getD_eq_getElem?_getD]
  cases hx : l[i]? with
  | none => exact h0
  | some r =>
    have := h r (List.mem_of_getElem? hx)
    match r, this with
    | [x], q =>
      unfold fmR fmF at q
      obtain ⟨⟨m, rfl, q1, q2⟩, _⟩ := q
      exact ⟨q1, q2⟩
    | [], q => unfold fmR at q; exact q.elim
    | _ :: _ :: _, q => unfold fmR fmR at q; exact q.2.elim
theorem fm_nums {n : Bool} {l : Rws} (h : fmF opsF (.sl n 0 l)) : l.length ≤ 676622540150 ∧ short l ∧ ∀ r ∈ l, (Opr.of r).nums := by
  obtain ⟨_, h2, h3⟩ := fm_sl h
  exact ⟨h2, fun r hr => ⟨(fm_cell (j := 12) (h3 r hr) rfl).1, (fm_cell (j := 13) (h3 r hr) rfl).1⟩,
    fun r hr => ⟨fm_ri (by omega) (fm_cell (j := 12) (h3 r hr) rfl).2, fm_ri (by omega) (fm_cell (j := 13) (h3 r hr) rfl).2⟩⟩
def spreadS (l : Rws) (S : List Shp) (lo hi : Int) : Nat → Rws
  | 0 => [[I lo, I hi]]
  | k + 1 => spreadS l S lo hi k ++ [[I (outF l S 0 ((k : Int) + 1) (spreadS l S lo hi k)).1, I (outF l S 0 ((k : Int) + 1) (spreadS l S lo hi k)).2.1]]
theorem spreadS_len (l : Rws) (S : List Shp) (lo hi : Int) : ∀ k, (spreadS l S lo hi k).length = k + 1
  | 0 => rfl
  | k + 1 => by unfold spreadS; rw [List.length_append, spreadS_len l S lo hi k]; rfl
section
variable {s0 : Shp} {lo hi out : Int} {nl : Bool} {l : Rws} {S : List Shp}
theorem g_flow_Spread_ok (hl : l.length ≤ 676622540150) (hsh : short l) (hnum : ∀ r ∈ l, (Opr.of r).nums) {R : Int × Int × Int × Bool × Rws → Prop}
    (h : R (if (look8 s0 lo hi (oprs l) out).err ≠ 0 then ((look8 s0 lo hi (oprs l) out).err, (look8 s0 lo hi (oprs l) out).op, 0, true, []) else (0, 0, 0, false, spreadS l (look8 s0 lo hi (oprs l) out).S lo hi l.length))) :
    (g_flow_Spread s0.h s0.w s0.c lo hi nl l out).run R := by
  unfold g_flow_Spread
  refine W.bindI (g_model_Check_ok s0 lo hi nl l out hl hsh ?_)
  dsimp only
  by_cases he : (look8 s0 lo hi (oprs l) out).err ≠ 0
  · rw [if_pos he] at h
    exact W.iteT (by simpa using he) (W.retI h)
  · rw [if_neg he] at h
    have he0 := Classical.not_not.1 he
    have M : MD s0 lo hi out l (look8 s0 lo hi (oprs l) out).S := ⟨hl, hsh, he0, rfl, hnum⟩
    have h64 := M.n64
    refine W.iteF (by simp [he0]) (W.bindI (W.loop_for l.length (fun i v => v = ((i : Int), spreadS l (look8 s0 lo hi (oprs l) out).S lo hi i)) ?_ ?_ rfl))
    · rintro i _ hi' rfl
      dsimp only
      rw [wrap64_in (x := (i : Int) + 1) (by omega) (by omega)]
      refine W.iteT (decide_eq_true (by omega)) (W.bindI (g_flow_Out_ok hl hsh hnum _ _ _ ?_))
      rw [he0, spreadS_len]
      exact W.needI (by omega) (W.retI rfl)
    · rintro _ rfl
      dsimp only
      exact W.iteF (decide_eq_false (by omega)) (W.retI (W.retI h))
end
def oneRow : List AV := [I 1, I 0, I 0, I 1, I 0, I 0, I 0, I 0, I 0, I 0, I 0, I 0, AV.sl false 0 [[I 3], [I (-2)]], AV.sl false 0 [[I 1]], I 1, I 0, I 0, I 0, I 0, I 0, I (-128), I 127]
theorem one_look : look8 ⟨1, 1, 2⟩ 0 10 (oprs [oneRow]) 1 = ⟨2, 0, 0, [⟨1, 1, 2⟩, ⟨1, 1, 1⟩]⟩ := by decide +kernel
theorem one_short : short [oneRow] := by
  intro r hr
  simp only [List.mem_singleton] at hr
  subst hr
  exact ⟨by decide, by decide⟩
theorem one_nums : ∀ r ∈ [oneRow], (Opr.of r).nums := by
  intro r hr
  simp only [List.mem_singleton] at hr
  subst hr
  refine ⟨fun i => ?_, fun i => ?_⟩
  · match i with
    | 0 => decide
    | 1 => decide
    | n + 2 => exact ⟨by show (-32768 : Int) ≤ 0; omega, by show (0 : Int) ≤ 32767; omega⟩
  · match i with
    | 0 => decide
    | n + 1 => exact ⟨by show (-2147483648 : Int) ≤ 0; omega, by show (0 : Int) ≤ 2147483647; omega⟩
theorem one_out : outF [oneRow] [⟨1, 1, 2⟩, ⟨1, 1, 1⟩] 0 1 [[I 0, I 10]] = (-19, 31, 0) := by decide +kernel
theorem one_nil : outF [oneRow] [⟨1, 1, 2⟩, ⟨1, 1, 1⟩] 0 1 [] = (0, 0, 70) := by decide +kernel
theorem g_law14_fixed_ok {R : Bool → Prop} (h : R true) : g_law14_fixed.run R := by
  unfold g_law14_fixed g_law14_one
  refine W.bindI (W.retI (W.bindI ?_))
  have hsp : spreadS [oneRow] [⟨1, 1, 2⟩, ⟨1, 1, 1⟩] 0 10 1 = [[I 0, I 10], [I (-19), I 31]] := by
    show [[I 0, I 10]] ++ [[I (outF [oneRow] [⟨1, 1, 2⟩, ⟨1, 1, 1⟩] 0 1 [[I 0, I 10]]).1, I (outF [oneRow] [⟨1, 1, 2⟩, ⟨1, 1, 1⟩] 0 1 [[I 0, I 10]]).2.1]] = _
    rw [one_out]; rfl
  refine g_flow_Spread_ok (s0 := ⟨1, 1, 2⟩) (lo := 0) (hi := 10) (out := 1) (nl := false) (l := [oneRow]) (by decide) one_short one_nums ?_
  rw [one_look, if_neg (by decide)]
  show (W.bind _ _).run R
  rw [show ([oneRow] : Rws).length = 1 from rfl, hsp]
  refine W.bindI (W.retI (W.bindI ?_))
  refine g_flow_Out_ok (s0 := ⟨1, 1, 2⟩) (lo := 0) (hi := 10) (out := 1) (nl := false) (l := [oneRow]) (by decide) one_short one_nums _ _ _ ?_
  rw [one_look, one_out]
  refine W.bindI (W.retI (W.bindI ?_))
  refine g_flow_Out_ok (s0 := ⟨1, 1, 2⟩) (lo := 0) (hi := 10) (out := 1) (nl := false) (l := [oneRow]) (by decide) one_short one_nums _ _ _ ?_
  rw [one_look, one_nil]
  refine W.needI (fun _ => by decide) (W.needI (fun _ => by decide) (W.needI (fun _ => by decide) (W.retE h ?_)))
  decide +kernel
theorem g_ref03_Values_ok (a b : Int) {R : Bool → Prop} (h : R (decide (valsS (a, b)))) : (g_ref03_Values a b).run R := by
  unfold g_ref03_Values
  refine W.retE h ?_
  rw [Bool.eq_iff_iff, decide_eq_true_eq]; unfold valsS; simp [and_assoc]
theorem g_ref01_Size_ok {x : Int} (hx : -9223372036854775807 ≤ x ∧ x ≤ 9223372036854775807) {R : Int → Prop} (h : R (if x < 0 then -x else x)) : (g_ref01_Size x).run R := by
  unfold g_ref01_Size
  refine W.iteC (x < 0) rfl (fun h1 => W.retI ?_) (fun h1 => W.retI ?_)
  · rw [if_pos h1] at h
    have : IntKind.u64.wrap (0 - IntKind.u64.wrap x) = -x := by rw [wrapU64_eq, wrapU64_eq]; omega
    rw [this]; exact h
  · rw [if_neg h1] at h
    rw [wrapU64_in (by omega) (by omega)]; exact h
theorem g_ref02_half_ok {x d : Int} (hx : 0 ≤ x ∧ x ≤ 9223372036854775806) (hd : 1 ≤ d ∧ d ≤ 9223372036854775806) {R : Int → Prop} (h : R ((2 * x + d) / d / 2)) : (g_ref02_half x d).run R := by
  unfold g_ref02_half
  rw [Int.tmod_eq_emod_of_nonneg hx.1, Int.tdiv_eq_ediv_of_nonneg hx.1]
  have r0 := Int.emod_nonneg x (show d ≠ 0 by omega)
  have r1 := Int.emod_lt_of_pos x (show 0 < d by omega)
  have q0 : 0 ≤ x / d := Int.ediv_nonneg hx.1 (by omega)
  have q1 := Int.ediv_le_self (a := x) d hx.1
  have e := Int.mul_ediv_add_emod x d
  have key : (2 * x + d) / d = 2 * (x / d) + (2 * (x % d) + d) / d := by
    have : 2 * x + d = (2 * (x % d) + d) + 2 * (x / d) * d := by
      have e2 : 2 * (x / d) * d = 2 * (d * (x / d)) := by rw [Int.mul_assoc, Int.mul_comm (x / d) d]
      rw [e2]; omega
    rw [this, Int.add_mul_ediv_right _ _ (by omega)]; omega
  rw [key] at h
  rw [wrapU64_in (x := d - x % d) (by omega) (by omega), wrapU64_in (x := x / d) (by omega) (by omega), wrapU64_in (x := x / d + 1) (by omega) (by omega)]
  refine W.needI (by omega) (W.needI (by omega) (W.iteC (d - x % d ≤ x % d) rfl (fun h1 => W.retI ?_) (fun h1 => W.retI ?_)))
  · have : (2 * (x % d) + d) / d = 2 := by
      have : 2 * (x % d) + d = (2 * (x % d) - d) + 2 * d := by omega
      rw [this, Int.add_mul_ediv_right _ _ (by omega), Int.ediv_eq_zero_of_lt (by omega) (by omega)]; rfl
    rw [this] at h
    rw [show (2 * (x / d) + 2) / 2 = x / d + 1 by omega] at h; exact h
  · have : (2 * (x % d) + d) / d = 1 := by
      have : 2 * (x % d) + d = 2 * (x % d) + 1 * d := by omega
      rw [this, Int.add_mul_ediv_right _ _ (by omega), Int.ediv_eq_zero_of_lt (by omega) (by omega)]; rfl
    rw [this] at h
    rw [show (2 * (x / d) + 1) / 2 = x / d by omega] at h; exact h
theorem g_ref02_back_ok {x : Int} {b : Bool} (hx : 0 ≤ x ∧ x ≤ 9223372036854775807) {R : Int → Prop} (h : R (if b then -x else x)) : (g_ref02_back x b).run R := by
  unfold g_ref02_back g_ref01_Signed
  refine W.bindI ?_
  cases b
  · refine W.iteF rfl (W.iteF (decide_eq_false (by omega)) (W.retI (W.retI ?_)))
    rw [wrap64_in (by omega) (by omega)]; exact h
  · refine W.iteT rfl (W.iteF (decide_eq_false (by omega)) (W.retI (W.retI ?_)))
    have : IntKind.i64.wrap (IntKind.u64.wrap (0 - x)) = -x := by rw [wrapU64_eq, IntKind.wrap_i64]; omega
    rw [this]; exact h
theorem pow_le (n : Nat) (h : n ≤ 62) : (2 : Int) ^ n ≤ 4611686018427387904 := by
  have : (2 : Int) ^ n ≤ 2 ^ 62 := by
    have := Nat.pow_le_pow_right (show 0 < 2 by omega) h
    exact_mod_cast this
  exact this
theorem shr_half {q s : Int} (hs : 0 ≤ s ∧ s ≤ 62) (hq : 0 ≤ q) : (2 * q + 2 ^ s.toNat) / 2 ^ s.toNat / 2 = shr q s := by
  unfold shr
  by_cases h1 : 0 < s
  · rw [if_pos h1]
    obtain ⟨n, hn⟩ : ∃ n, s.toNat = n + 1 := ⟨s.toNat - 1, by omega⟩
    rw [hn, Nat.add_sub_cancel, Int.pow_succ]
    have hp := two_pow_pos n
    generalize (2 : Int) ^ n = p at *
    have e : 2 * q + p * 2 = 2 * (q + p) := by omega
    have e2 : p * 2 = 2 * p := by omega
    rw [e, e2, Int.mul_ediv_mul_of_pos _ _ (by omega), Int.ediv_ediv_of_nonneg (by omega), Int.mul_comm p 2]
  · have : s.toNat = 0 := by omega
    rw [if_neg h1, this]
    simp
    omega
theorem g_ref02_Apply_ok {x m s : Int} (hs : scaleOK m s) (hx : -4294967296 ≤ x ∧ x ≤ 4294967296) {R : Int × Int → Prop} (h : R (scaleS x m s, 0)) : (g_ref02_Apply x m s).run R := by
  unfold g_ref02_Apply g_ref02_Valid
  unfold scaleOK at hs
  refine W.bindI (W.retI (W.iteF (by rw [decide_eq_true (show 1 ≤ m by omega), decide_eq_true (show m ≤ 2147483647 by omega), decide_eq_true (show 0 ≤ s by omega), decide_eq_true (show s ≤ 62 by omega)]; rfl) (W.iteF (by rw [decide_eq_false (show ¬ x < -4294967296 by omega), decide_eq_false (show ¬ 4294967296 < x by omega)]; rfl) ?_)))
  refine W.bindI (g_ref01_Size_ok (by omega) ?_)
  obtain ⟨y, hy⟩ : ∃ y, y = if x < 0 then -x else x := ⟨_, rfl⟩
  rw [← hy]
  have hyb : 0 ≤ y ∧ y ≤ 4294967296 := by rw [hy]; split <;> omega
  have hb := scale_bd hyb ⟨hs.1, hs.2.1⟩
  have hm : min s.toNat 64 = s.toNat := by omega
  have hpw := two_pow_pos s.toNat
  have hpl := pow_le s.toNat (by omega)
  rw [wrapU64_in (x := m) (by omega) (by omega), wrapU64_in (x := y * m) (by omega) (by omega), wrapU64_in (x := s) (by omega) (by omega), hm, Int.one_mul, wrapU64_in (x := 2 ^ s.toNat) (by omega) (by omega)]
  refine W.needI (by omega) (W.bindI (g_ref02_half_ok (by omega) (by omega) ?_))
  rw [shr_half hs.2.2 hb.1]
  have h1 := shr_nonneg (s := s) hb.1
  have h2 := shr_le (s := s) hb.1
  refine W.bindI (g_ref02_back_ok (by omega) (W.retI ?_))
  have e : (if decide (x < 0) = true then -shr (y * m) s else shr (y * m) s) = scaleS x m s := by
    unfold scaleS
    by_cases hx0 : x < 0
    · rw [if_pos hx0, if_pos (decide_eq_true hx0), hy, if_pos hx0]
    · rw [if_neg hx0, if_neg (by simpa using hx0), hy, if_neg hx0]
  rw [e]; exact h
theorem g_ref02_Mean_ok {x n : Int} (hx : -1099511627776 ≤ x ∧ x ≤ 1099511627776) (hn : 1 ≤ n ∧ n ≤ 1099511627776) {R : Int × Int → Prop} (h : R (meanS x n, 0)) : (g_ref02_Mean x n).run R := by
  unfold g_ref02_Mean
  refine W.iteF (decide_eq_false (by omega)) (W.bindI (g_ref01_Size_ok (by omega) ?_))
  obtain ⟨y, hy⟩ : ∃ y, y = if x < 0 then -x else x := ⟨_, rfl⟩
  rw [← hy]
  have hyb : 0 ≤ y ∧ y ≤ 1099511627776 := by rw [hy]; split <;> omega
  rw [wrapU64_in (x := n) (by omega) (by omega)]
  have d1 : 0 ≤ (2 * y + n) / n := Int.ediv_nonneg (by omega) (by omega)
  have d2 : (2 * y + n) / n ≤ 2 * y + n := Int.ediv_le_self _ (by omega)
  refine W.bindI (g_ref02_half_ok (by omega) (by omega) (W.bindI (g_ref02_back_ok (by omega) (W.retI ?_))))
  have e : (if decide (x < 0) = true then -((2 * y + n) / n / 2) else (2 * y + n) / n / 2) = meanS x n := by
    unfold meanS
    by_cases hx0 : x < 0
    · rw [if_pos hx0, if_pos (decide_eq_true hx0), hy, if_pos hx0]
    · rw [if_neg hx0, if_neg (by simpa using hx0), hy, if_neg hx0]
  rw [e]; exact h
theorem g_ref02_Finish_ok {v zero lo hi : Int} (hz : -128 ≤ zero ∧ zero ≤ 127) (hl : -128 ≤ lo ∧ lo ≤ hi ∧ hi ≤ 127) {R : Int × Int → Prop} (h : R (finS v zero lo hi, 0)) : (g_ref02_Finish v zero lo hi).run R := by
  unfold g_ref02_Finish g_ref01_Clamp
  unfold finS clampS sat16 at h
  refine W.iteF (by rw [decide_eq_false (show ¬ lo < -128 by omega), decide_eq_false (show ¬ hi < lo by omega), decide_eq_false (show ¬ 127 < hi by omega), decide_eq_false (show ¬ zero < -128 by omega), decide_eq_false (show ¬ 127 < zero by omega)]; rfl) ?_
  refine W.iteC (1000 < v) rfl (fun h1 => W.retI ?_) (fun h1 => W.iteC (v < -1000) rfl (fun h2 => W.retI ?_) (fun h2 => W.bindI ?_))
  · rw [if_pos (show hi < _ by split <;> (try split) <;> omega)] at h; exact h
  · rw [if_neg (show ¬ hi < _ by split <;> (try split) <;> omega), if_pos (show _ < lo by split <;> (try split) <;> omega)] at h; exact h
  · rw [if_neg (show ¬ v < -32768 by omega), if_neg (show ¬ 32767 < v by omega)] at h
    rw [wrap64_in (x := v + zero) (by omega) (by omega)]
    refine W.iteC (hi < v + zero) rfl (fun h3 => W.retI (W.retI (by rw [if_pos h3] at h; exact h))) (fun h3 => W.iteC (v + zero < lo) rfl (fun h4 => W.retI (W.retI (by rw [if_neg h3, if_pos h4] at h; exact h))) (fun h4 => W.retI (W.retI (by rw [if_neg h3, if_neg h4] at h; exact h))))
section
variable {o : Opr} {s t : Shp}
theorem g_ref06_Taps_ok (H : OF o s t) (hk : slides o.kind) {at' : Int} (hat : 0 ≤ at' ∧ at' < t.h * t.w) {R : Bool × Rws → Prop} (h : ∀ b, R (b, rowsI (fun k => tapAt s o.win t.w at' k) (o.win.kh * o.win.kw).toNat)) :
    (g_ref06_Taps s.h s.w s.c o.win.kh o.win.kw o.win.sh o.win.sw o.win.top o.win.left o.win.bottom o.win.right at').run R := by
  obtain ⟨wok, _, _, h1, h2, _, hw⟩ := H.slide hk
  have hp := H.pos
  have wb := win_bd wok
  have sok := H.sok
  unfold g_ref06_Taps
  refine W.bindI (g_ref06_Out_ok s o.win ?_)
  rw [hw]
  dsimp only
  unfold Win.ok sideOK at wok
  unfold Shp.ok at sok
  rw [Int.tdiv_eq_ediv_of_nonneg hat.1, Int.tmod_eq_emod_of_nonneg hat.1]
  have c1 := corner_bd (cols := t.w) (n := t.h) (st := o.win.sh) (pad := o.win.top) (by omega) (by omega) hat (by omega) (by omega)
  have c2 := corner2_bd (cols := t.w) (st := o.win.sw) (pad := o.win.left) (at' := at') (by omega) (by omega) (by omega)
  have c3 := Int.ediv_le_self (a := at') t.w hat.1
  have c4 := Int.emod_lt_of_pos at' (show 0 < t.w by omega)
  have c5 := Int.emod_nonneg at' (show t.w ≠ 0 by omega)
  rw [wrap64_in (x := at' / t.w) (by omega) (by omega), wrap64_in (x := at' / t.w * o.win.sh) (by omega) (by omega), wrap64_in (x := at' / t.w * o.win.sh - o.win.top) (by omega) (by omega), wrap64_in (x := at' % t.w * o.win.sw) (by omega) (by omega), wrap64_in (x := at' % t.w * o.win.sw - o.win.left) (by omega) (by omega)]
  obtain ⟨kw, hkw⟩ : ∃ kw : Nat, (kw : Int) = o.win.kw := ⟨o.win.kw.toNat, by omega⟩
  have hkk : (o.win.kh * o.win.kw).toNat = o.win.kh.toNat * kw := by rw [← hkw, Int.toNat_mul (by omega) (by omega), Int.toNat_natCast]
  refine W.needI (by omega) (W.needI (by omega) (W.bindI (W.loop_for o.win.kh.toNat (fun i v => ∃ b, v = ((i : Int), b, rowsI (fun k => tapAt s o.win t.w at' k) (i * kw))) ?_ ?_ ⟨true, by rw [Nat.zero_mul]; rfl⟩)))
  · rintro i _ hi ⟨b, rfl⟩
    dsimp only
    refine W.iteT (decide_eq_true (by omega)) (W.bindI (W.loop_for kw (fun j v => ∃ b, v = ((j : Int), b, rowsI (fun k => tapAt s o.win t.w at' k) (i * kw + j))) ?_ ?_ ⟨b, rfl⟩))
    · rintro j _ hj ⟨b, rfl⟩
      dsimp only
      have hij : i * kw + j < 1024 := by
        have : (i + 1) * kw ≤ o.win.kh.toNat * kw := Nat.mul_le_mul_right kw (by omega)
        rw [Nat.succ_mul] at this
        omega
      have hsz : ((rowsI (fun k => tapAt s o.win t.w at' k) (i * kw + j)).length + 1) * 8 ≤ 140737488355328 := by rw [rowsI_len]; omega
      obtain ⟨e1, e2⟩ := div_step (k := i) (c := kw) (j := j) (by omega) hj
      rw [hkw] at e1 e2
      have ht : tapAt s o.win t.w at' ((i * kw + j : Nat) : Int) = if (0 ≤ at' / t.w * o.win.sh - o.win.top + i ∧ at' / t.w * o.win.sh - o.win.top + i ≤ s.h - 1) ∧ (0 ≤ at' % t.w * o.win.sw - o.win.left + j ∧ at' % t.w * o.win.sw - o.win.left + j ≤ s.w - 1) then (at' / t.w * o.win.sh - o.win.top + i) * s.w + (at' % t.w * o.win.sw - o.win.left + j) else -1 := by
        unfold tapAt; rw [e1, e2]
      obtain ⟨Y, hY⟩ : ∃ Y, Y = at' / t.w * o.win.sh - o.win.top + (i : Int) := ⟨_, rfl⟩
      obtain ⟨X, hX⟩ : ∃ X, X = at' % t.w * o.win.sw - o.win.left + (j : Int) := ⟨_, rfl⟩
      rw [← hY, ← hX] at ht ⊢
      have bY : -31 ≤ Y ∧ Y ≤ 40000 := by omega
      have bX : -31 ≤ X ∧ X ≤ 40000 := by omega
      have bp := mul_bnd (x := Y) (k := s.w) (M := 40000) (K := 1024) (by omega) (by omega) (by omega) (by omega)
      rw [wrap64_in (x := Y) (by omega) (by omega), wrap64_in (x := X) (by omega) (by omega), wrap64_in (x := Y * s.w) (by omega) (by omega), wrap64_in (x := Y * s.w + X) (by omega) (by omega), wrap64_in (x := (j : Int) + 1) (by omega) (by omega)]
      refine W.iteT (decide_eq_true (by omega)) (W.bindI (W.iteC (¬ ((0 ≤ Y ∧ Y ≤ s.h - 1) ∧ (0 ≤ X ∧ X ≤ s.w - 1))) ?_ (fun hc => W.needI hsz (W.retI (W.retI ⟨b && false, ?_⟩))) (fun hc => W.needI hsz (W.retI (W.retI ⟨b && false, ?_⟩)))))
      · rw [Bool.eq_iff_iff]; simp only [Bool.or_eq_true, decide_eq_true_eq]; omega
      · rw [if_neg hc] at ht
        rw [← Nat.add_assoc, rowsI_succ, ht]; rfl
      · rw [if_pos (Classical.not_not.1 hc)] at ht
        rw [← Nat.add_assoc, rowsI_succ, ht]; rfl
    · rintro _ ⟨b, rfl⟩
      dsimp only
      refine W.iteF (decide_eq_false (by omega)) (W.retI (W.retI ⟨b, ?_⟩))
      rw [wrap64_in (x := (i : Int) + 1) (by omega) (by omega), Nat.succ_mul]; rfl
  · rintro _ ⟨b, rfl⟩
    dsimp only
    refine W.iteF (decide_eq_false (by omega)) (W.retI (W.retI ?_))
    rw [← hkk]; exact h b
theorem g_ref10_Length_ok (H : OF o s t) (hr : reduces o.kind) {R : Int → Prop} (h : R (o.len s)) : (g__ref10_Site__Length o.kind o.a o.b o.m o.win.kh o.win.kw o.win.sh o.win.sw o.win.top o.win.left o.win.bottom o.win.right o.wn o.ws o.bn o.bs o.sam o.sas o.sbm o.sbs o.zero o.pad o.lo o.hi s.h s.w s.c t.h t.w t.c).run R := by
  unfold g__ref10_Site__Length
  refine W.bindI (g_ref08_Length_ok o s H.sok (fun h1 => ?_) (W.retI h))
  exact (H.slide (by unfold slides; unfold reduces at hr; omega)).1.dims
theorem g_ref10_Bias_ok (H : OF o s t) (hr : reduces o.kind) (hn : o.nums) {ch : Int} (hch : 1 ≤ ch ∧ ch ≤ t.c) {R : Int → Prop} (h : R (biasS o ch)) : (g__ref10_Site__Bias o.kind o.a o.b o.m o.win.kh o.win.kw o.win.sh o.win.sw o.win.top o.win.left o.win.bottom o.win.right o.wn o.ws o.bn o.bs o.sam o.sas o.sbm o.sbs o.zero o.pad o.lo o.hi s.h s.w s.c t.h t.w t.c ch).run R := by
  have hp := H.pos
  unfold g__ref10_Site__Bias
  unfold biasS at h
  refine W.iteC (o.kind = 4) beqI (fun h4 => W.retI (by rw [if_pos h4] at h; exact h)) (fun h4 => ?_)
  rw [if_neg h4] at h
  have hls : (o.bs.length : Int) = t.c := by
    rw [H.bs, H.tc]
    unfold Opr.lists
    unfold reduces at hr
    by_cases h12 : o.kind = 1 ∨ o.kind = 2
    · rw [if_pos h12, if_pos h12]
    · rw [if_neg h12, if_neg h12, if_pos (by omega)]
  rw [wrap64_in (x := ch - 1) (by omega) (by omega)]
  have hbr := hn.2 (ch - 1).toNat
  refine W.needI (by omega) (W.retI ?_)
  rw [wrap64_in (by omega) (by omega)]; exact h
theorem g_ref10_weight_ok (H : OF o s t) (hr : reduces o.kind) (hn : o.nums) {ch : Int} (hch : 1 ≤ ch ∧ ch ≤ t.c) {i : Nat} (hi : (i : Int) < o.len s) {R : Int → Prop} (h : R (wtS o s ch i)) : (g__ref10_Site__weight o.kind o.a o.b o.m o.win.kh o.win.kw o.win.sh o.win.sw o.win.top o.win.left o.win.bottom o.win.right o.wn o.ws o.bn o.bs o.sam o.sas o.sbm o.sbs o.zero o.pad o.lo o.hi s.h s.w s.c t.h t.w t.c ch (i : Int)).run R := by
  have hp := H.pos
  have hlp := H.lenp hr
  unfold g__ref10_Site__weight
  unfold wtS at h
  refine W.iteC (o.kind = 4) beqI (fun h4 => W.retI (by rw [if_pos h4] at h; exact h)) (fun h4 => W.bindI (g_ref10_Length_ok H hr ?_))
  rw [if_neg h4] at h
  have hls : (o.ws.length : Int) = t.c * o.len s := by
    rw [H.ws, H.tc]
    unfold Opr.lists
    unfold reduces at hr
    by_cases h12 : o.kind = 1 ∨ o.kind = 2
    · rw [if_pos h12, if_pos h12]
    · rw [if_neg h12, if_neg h12, if_pos (by omega)]
  have m1 := Int.mul_le_mul_of_nonneg_right (show ch ≤ t.c by omega) (show 0 ≤ o.len s by omega)
  have m2 := Int.mul_le_mul (show t.c ≤ 1024 by omega) (show o.len s ≤ 512 by omega) (by omega) (by omega)
  have m3 := Int.mul_nonneg (show 0 ≤ ch - 1 by omega) (show 0 ≤ o.len s by omega)
  have m4 : ch * o.len s = (ch - 1) * o.len s + o.len s := by rw [Int.sub_mul]; omega
  rw [wrap64_in (x := ch - 1) (by omega) (by omega), wrap64_in (x := (ch - 1) * o.len s) (by omega) (by omega), wrap64_in (x := (ch - 1) * o.len s + (i : Int)) (by omega) (by omega)]
  have e : ((ch - 1) * o.len s + (i : Int)).toNat = ((ch - 1) * o.len s).toNat + i := by omega
  have hwr := hn.1 (((ch - 1) * o.len s).toNat + i)
  rw [e, wrap64_in (x := ri o.ws (((ch - 1) * o.len s).toNat + i) 0) (by omega) (by omega)]
  exact W.needI (by omega) (W.retI h)
theorem termsT_succ (o : Opr) (s t : Shp) (ch at' : Int) (n : Nat) : (List.range (n + 1)).map (termR o s t ch at') = (List.range n).map (termR o s t ch at') ++ [termR o s t ch at' n] := by rw [List.range_succ, List.map_append]; rfl
theorem g_ref10_Terms_ok (H : OF o s t) (hr : reduces o.kind) (hn : o.nums) {ch at' : Int} (hch : 1 ≤ ch ∧ ch ≤ t.c) (hat : 0 ≤ at' ∧ at' < t.h * t.w) {R : Bool × Rws → Prop} (h : ∀ b, R (b, termsR o s t ch at')) :
    (g__ref10_Site__Terms o.kind o.a o.b o.m o.win.kh o.win.kw o.win.sh o.win.sw o.win.top o.win.left o.win.bottom o.win.right o.wn o.ws o.bn o.bs o.sam o.sas o.sbm o.sbs o.zero o.pad o.lo o.hi s.h s.w s.c t.h t.w t.c ch at').run R := by
  have hlp := H.lenp hr
  have hp := H.pos
  have sok := H.sok
  unfold Shp.ok at sok
  unfold g__ref10_Site__Terms
  refine W.bindI (g_ref10_Length_ok H hr ?_)
  unfold termsR at h
  have hl1 : ∀ n, ((List.range n).map (termR o s t ch at')).length = n := fun n => by simp
  refine W.iteC (o.kind = 1) beqI (fun h1 => ?_) (fun h1 => ?_)
  · refine W.bindI (W.loop_for (o.len s).toNat (fun i v => ∃ b, v = ((i : Int), b, (List.range i).map (termR o s t ch at'))) ?_ ?_ ⟨true, rfl⟩)
    · rintro i _ hi ⟨b, rfl⟩
      dsimp only
      refine W.iteT (decide_eq_true (by omega)) (W.bindI (g_ref10_weight_ok H hr hn hch (by omega) (W.needI (by rw [hl1]; omega) (W.retI ⟨b && false, ?_⟩))))
      have e : placeS o s t ch at' i = (i : Int) := by unfold placeS; rw [if_pos h1]
      rw [wrap64_in (x := (i : Int) + 1) (by omega) (by omega), termsT_succ]
      unfold termR
      rw [e]; rfl
    · rintro _ ⟨b, rfl⟩
      dsimp only
      exact W.iteF (decide_eq_false (by omega)) (W.retI (W.retI (h b)))
  · have hk : slides o.kind := by unfold slides; unfold reduces at hr; omega
    obtain ⟨wok, _, _, _, _, _, hw⟩ := H.slide hk
    have wb := win_bd wok
    refine W.bindI (g_ref06_Taps_ok H hk hat fun bt => ?_)
    dsimp only
    refine W.bindI (W.loop_for (o.len s).toNat (fun i v => ∃ b, v = ((i : Int), b, (List.range i).map (termR o s t ch at'))) ?_ ?_ ⟨true, rfl⟩)
    · rintro i _ hi ⟨b, rfl⟩
      dsimp only
      refine W.iteT (decide_eq_true (by omega)) (W.bindI ?_)
      have fin : ∀ (k : Nat) (c : Int), (k : Int) = (if o.kind = 2 then (i : Int) / s.c else i) → c = (if o.kind = 2 then (i : Int) % s.c else ch - 1) → (k : Int) < o.win.kh * o.win.kw → 0 ≤ c ∧ c ≤ 1024 →
          (W.bind (g__ref10_Site__weight o.kind o.a o.b o.m o.win.kh o.win.kw o.win.sh o.win.sw o.win.top o.win.left o.win.bottom o.win.right o.wn o.ws o.bn o.bs o.sam o.sas o.sbm o.sbs o.zero o.pad o.lo o.hi s.h s.w s.c t.h t.w t.c ch (i : Int)) fun v7 =>
            W.bind (W.need (0 ≤ (k : Int) ∧ (k : Int) < ((rowsI (fun k => tapAt s o.win t.w at' k) (o.win.kh * o.win.kw).toNat).length : Int)) (W.ite (decide (0 ≤ ri (rowsI (fun k => tapAt s o.win t.w at' k) (o.win.kh * o.win.kw).toNat) (k : Int).toNat 0)) (W.need (0 ≤ (k : Int) ∧ (k : Int) < ((rowsI (fun k => tapAt s o.win t.w at' k) (o.win.kh * o.win.kw).toNat).length : Int)) (W.ret (IntKind.i64.wrap (IntKind.i64.wrap (ri (rowsI (fun k => tapAt s o.win t.w at' k) (o.win.kh * o.win.kw).toNat) (k : Int).toNat 0 * s.c) + c)))) (W.ret (-1)))) fun v8 =>
            W.need ((((List.range i).map (termR o s t ch at')).length + 1) * 16 ≤ 140737488355328) (W.ret (Sum.inl (β := Bool × Rws) (IntKind.i64.wrap ((i : Int) + 1), b && false, (List.range i).map (termR o s t ch at') ++ [[I v7, I v8]])))).run
            (W.on (fun v => ∃ b, v = (((i + 1 : Nat) : Int), b, (List.range (i + 1)).map (termR o s t ch at'))) fun v => ((W.ret (v.1, v.2)) : W (Bool × Rws)).run R) := fun k c hkv hcv hkl hcb => by
        refine W.bindI (g_ref10_weight_ok H hr hn hch (by omega) (W.bindI ?_))
        rw [rowsI_len, Int.toNat_natCast, rowsI_ri _ _ _ (by omega)]
        have tb := tap_bd (w := o.win) (cols := t.w) (at' := at') (k := (k : Int)) H.sok
        have epl : placeS o s t ch at' i = if tapAt s o.win t.w at' k < 0 then -1 else tapAt s o.win t.w at' k * s.c + c := by
          unfold placeS
          rw [if_neg h1, ← hkv, ← hcv]
        have ends : ∀ p : Int, p = placeS o s t ch at' i → (W.need ((((List.range i).map (termR o s t ch at')).length + 1) * 16 ≤ 140737488355328) (W.ret (Sum.inl (β := Bool × Rws) (IntKind.i64.wrap ((i : Int) + 1), b && false, (List.range i).map (termR o s t ch at') ++ [[I (wtS o s ch i), I p]])))).run
            (W.on (fun v => ∃ b, v = (((i + 1 : Nat) : Int), b, (List.range (i + 1)).map (termR o s t ch at'))) fun v => ((W.ret (v.1, v.2)) : W (Bool × Rws)).run R) := fun p hpv => by
          refine W.needI (by rw [hl1]; omega) (W.retI ⟨b && false, ?_⟩)
          rw [wrap64_in (x := (i : Int) + 1) (by omega) (by omega), termsT_succ, hpv]; rfl
        generalize tapAt s o.win t.w at' k = p at *
        have pb := Int.mul_le_mul_of_nonneg_right (show p ≤ s.h * s.w - 1 by omega) (show 0 ≤ s.c by omega)
        have pc := Int.mul_le_mul_of_nonneg_right (show -1 ≤ p by omega) (show 0 ≤ s.c by omega)
        rw [Int.sub_mul] at pb
        refine W.needI (by omega) (W.iteC (0 ≤ p) rfl (fun h0 => W.needI (by omega) (W.retI (ends _ ?_))) (fun h0 => W.retI (ends _ ?_)))
        · rw [epl, if_neg (by omega), wrap64_in (x := p * s.c) (by omega) (by omega), wrap64_in (by omega) (by omega)]
        · rw [epl, if_pos (by omega)]
      refine W.iteC (o.kind = 2) beqI (fun h2 => W.needI (by omega) (W.needI (by omega) (W.retI ?_))) (fun h2 => W.retI ?_)
      · have e1 : (i : Int).tdiv s.c = (i : Int) / s.c := Int.tdiv_eq_ediv_of_nonneg (by omega)
        have e2 : (i : Int).tmod s.c = (i : Int) % s.c := Int.tmod_eq_emod_of_nonneg (by omega)
        have q0 : 0 ≤ (i : Int) / s.c := Int.ediv_nonneg (by omega) (by omega)
        have q1 := Int.ediv_le_self (a := (i : Int)) s.c (by omega)
        have r0 := Int.emod_nonneg (i : Int) (show s.c ≠ 0 by omega)
        have r1 := Int.emod_lt_of_pos (i : Int) (show 0 < s.c by omega)
        have hl2 : o.len s = o.win.kh * o.win.kw * s.c := by unfold Opr.len; rw [if_neg h1, if_pos h2]
        have q2 : (i : Int) / s.c < o.win.kh * o.win.kw := Int.ediv_lt_of_lt_mul (by omega) (by rw [← hl2]; omega)
        rw [e1, e2, wrap64_in (x := (i : Int) / s.c) (by omega) (by omega)]
        obtain ⟨k, hk'⟩ := Int.eq_ofNat_of_zero_le q0
        have := fin k ((i : Int) % s.c) (by rw [if_pos h2]; exact hk'.symm) (by rw [if_pos h2]) (by omega) (by omega)
        rw [← show (i : Int) / s.c = (k : Int) from hk'] at this
        exact this
      · have hl2 : o.len s = o.win.kh * o.win.kw := by unfold Opr.len; rw [if_neg h1, if_neg h2]
        rw [wrap64_in (x := ch - 1) (by omega) (by omega)]
        exact fin i (ch - 1) (by rw [if_neg h2]) (by rw [if_neg h2]) (by omega) (by omega)
    · rintro _ ⟨b, rfl⟩
      dsimp only
      exact W.iteF (decide_eq_false (by omega)) (W.retI (W.retI (h b)))
end
section
variable {o : Opr} {s t : Shp} {a : Int × Int}
theorem g_ref13_Ends_ok (H : OF o s t) (ha : SpOK 128 a) {w p : Int} (hw : -32768 ≤ w ∧ w ≤ 32768) {R : Int × Int → Prop} (h : R (timesS (if p < 0 then (o.pad, o.pad) else a) w)) : (g_ref13_Ends o.kind o.a o.b o.m o.win.kh o.win.kw o.win.sh o.win.sw o.win.top o.win.left o.win.bottom o.win.right o.wn o.ws o.bn o.bs o.sam o.sas o.sbm o.sbs o.zero o.pad o.lo o.hi s.h s.w s.c t.h t.w t.c w p a.1 a.2).run R := by
  have hpd := pad_ok H
  have fin : ∀ b : Int × Int, SpOK 128 b → b = (if p < 0 then (o.pad, o.pad) else a) → R (imin false (IntKind.i64.wrap (w * b.1)) (IntKind.i64.wrap (w * b.2)), imin true (IntKind.i64.wrap (w * b.1)) (IntKind.i64.wrap (w * b.2))) := fun b hb e => by
    rw [← e] at h
    have hk := timesS_ok (k := w) hb.2.1
    obtain ⟨b1, b2, b3⟩ := hb
    have m1 := mul_bnd (M := 128) (K := 32768) (x := b.1) (k := w) ⟨b1, by omega⟩ hw (by omega) (by omega)
    have m2 := mul_bnd (M := 128) (K := 32768) (x := b.2) (k := w) ⟨by omega, b3⟩ hw (by omega) (by omega)
    rw [Int.mul_comm w b.1, Int.mul_comm w b.2, wrap64_in (x := b.1 * w) (by omega) (by omega), wrap64_in (x := b.2 * w) (by omega) (by omega), imin_f, imin_t]
    have e2 : timesS b w = (min (b.1 * w) (b.2 * w), max (b.1 * w) (b.2 * w)) := by
      unfold timesS at hk ⊢
      by_cases h1 : w < 0
      · rw [if_pos h1] at hk ⊢
        dsimp only at hk
        rw [Int.min_eq_right hk, Int.max_eq_left hk]
      · rw [if_neg h1] at hk ⊢
        dsimp only at hk
        rw [Int.min_eq_left hk, Int.max_eq_right hk]
    rw [← e2]; exact h
  unfold g_ref13_Ends
  refine W.bindI (W.iteC (p < 0) rfl (fun h1 => W.retI (W.retI ?_)) (fun h1 => W.retI (W.retI ?_)))
  · exact fin (o.pad, o.pad) hpd (if_pos h1).symm
  · exact fin a ha (if_neg h1).symm
def rowR (o : Opr) (s t : Shp) (ch : Int) (a : Int × Int) (k : Nat) : List AV := [AV.sl false 0 (rowsE o s t ch k a)]
theorem g_ref13_Rows_ok (H : OF o s t) (hr : reduces o.kind) (hn : o.nums) (ha : SpOK 128 a) {ch : Int} (hch : 1 ≤ ch ∧ ch ≤ t.c) {R : Bool × Rws → Prop} (h : ∀ b, R (b, (List.range (t.h * t.w).toNat).map (rowR o s t ch a))) :
    (g_ref13_Rows o.kind o.a o.b o.m o.win.kh o.win.kw o.win.sh o.win.sw o.win.top o.win.left o.win.bottom o.win.right o.wn o.ws o.bn o.bs o.sam o.sas o.sbm o.sbs o.zero o.pad o.lo o.hi s.h s.w s.c t.h t.w t.c ch a.1 a.2).run R := by
  have hlp := H.lenp hr
  have hp := H.pos
  unfold g_ref13_Rows
  have hpos : ∀ {R : Int → Prop}, R (t.h * t.w) → (g__ref10_Site__Positions o.kind o.a o.b o.m o.win.kh o.win.kw o.win.sh o.win.sw o.win.top o.win.left o.win.bottom o.win.right o.wn o.ws o.bn o.bs o.sam o.sas o.sbm o.sbs o.zero o.pad o.lo o.hi s.h s.w s.c t.h t.w t.c).run R := fun q => by
    unfold g__ref10_Site__Positions
    refine W.retI ?_
    rw [wrap64_in (by omega) (by omega)]; exact q
  have hl1 : ∀ n, ((List.range n).map (rowR o s t ch a)).length = n := fun n => by simp
  refine W.bindI (W.loop_for (t.h * t.w).toNat (fun k v => ∃ b, v = ((k : Int), b, (List.range k).map (rowR o s t ch a))) ?_ ?_ ⟨true, rfl⟩)
  · rintro k _ hk ⟨b, rfl⟩
    refine W.bindI (hpos ?_)
    dsimp only
    refine W.iteT (decide_eq_true (by omega)) (W.bindI (g_ref10_Terms_ok H hr hn hch (by omega) fun bt => ?_))
    dsimp only
    rw [termsR_len]
    have hl2 : ∀ n, ((List.range n).map (rowE o s t ch k a)).length = n := fun n => by simp
    refine W.bindI (W.loop_for (o.len s).toNat (fun i v => v = ((i : Int), decide (i = 0), (List.range i).map (rowE o s t ch k a))) ?_ ?_ rfl)
    · rintro i _ hi rfl
      dsimp only
      have e0 : ∀ c, ri (termsR o s t ch k) i c = cI (termR o s t ch k i) c := fun c => by
        simp only [ri_eq, List.getD_eq_getElem?_getD, termsR, List.getElem?_map, List.getElem?_range hi, Option.map_some, Option.getD_some]
      rw [Int.toNat_natCast, e0, e0]
      have hw := wt_rng hn s ch i
      have c0 : cI (termR o s t ch k i) 0 = wtS o s ch i := rfl
      have c1 : cI (termR o s t ch k i) 1 = placeS o s t ch k i := rfl
      rw [c0, c1]
      refine W.iteT (decide_eq_true (by omega)) (W.needI (by omega) (W.bindI (g_ref13_Ends_ok H ha (by omega) (W.needI (by rw [hl2]; omega) (W.retI ?_)))))
      have e : (List.range (i + 1)).map (rowE o s t ch k a) = (List.range i).map (rowE o s t ch k a) ++ [rowE o s t ch k a i] := by rw [List.range_succ, List.map_append]; rfl
      show (IntKind.i64.wrap ((i : Int) + 1), (decide (i = 0) && false), (List.range i).map (rowE o s t ch k a) ++ [rowE o s t ch k a i]) = (((i + 1 : Nat) : Int), decide (i + 1 = 0), (List.range (i + 1)).map (rowE o s t ch k a))
      rw [e, wrap64_in (x := (i : Int) + 1) (by omega) (by omega), decide_eq_false (show ¬ i + 1 = 0 by omega), Bool.and_false]; rfl
    · rintro _ rfl
      dsimp only
      refine W.iteF (decide_eq_false (by omega)) (W.retI (W.needI (by rw [hl1]; omega) (W.retI ⟨b && false, ?_⟩)))
      rw [wrap64_in (x := (k : Int) + 1) (by omega) (by omega)]
      have e : (List.range (k + 1)).map (rowR o s t ch a) = (List.range k).map (rowR o s t ch a) ++ [rowR o s t ch a k] := by rw [List.range_succ, List.map_append]; rfl
      rw [e, decide_eq_false (show ¬ (o.len s).toNat = 0 by omega)]; rfl
  · rintro _ ⟨b, rfl⟩
    refine W.bindI (hpos ?_)
    dsimp only
    exact W.iteF (decide_eq_false (by omega)) (W.retI (W.retI (h b)))
theorem g_ref13_Total_ok (H : OF o s t) (hr : reduces o.kind) (hn : o.nums) (ha : SpOK 128 a) {ch : Int} (hch : 1 ≤ ch ∧ ch ≤ t.c) {R : Int × Int → Prop} (h : R (totS o s t ch a)) :
    (g_ref13_Total o.kind o.a o.b o.m o.win.kh o.win.kw o.win.sh o.win.sw o.win.top o.win.left o.win.bottom o.win.right o.wn o.ws o.bn o.bs o.sam o.sas o.sbm o.sbs o.zero o.pad o.lo o.hi s.h s.w s.c t.h t.w t.c ch a.1 a.2).run R := by
  have hlp := H.lenp hr
  have hp := H.pos
  have hb := bias_rng hn ch
  unfold g_ref13_Total
  refine W.bindI (g_ref13_Rows_ok H hr hn ha hch fun bt => ?_)
  dsimp only
  have hl1 : ((List.range (t.h * t.w).toNat).map (rowR o s t ch a)).length = (t.h * t.w).toNat := by simp
  rw [hl1]
  refine W.bindI (W.loop_for (t.h * t.w).toNat (fun k v => v = ((k : Int), (hullN (fun k => sumS o s t ch k a) k).1, (hullN (fun k => sumS o s t ch k a) k).2, decide (0 < k))) ?_ ?_ rfl)
  · rintro k _ hk rfl
    dsimp only
    have err : rr ((List.range (t.h * t.w).toNat).map (rowR o s t ch a)) k 0 = rowsE o s t ch k a := by
      simp only [rr_eq, List.getD_eq_getElem?_getD, List.getElem?_map, List.getElem?_range hk, Option.map_some, Option.getD_some]; rfl
    rw [Int.toNat_natCast, err]
    have hrl : (rowsE o s t ch k a).length = (o.len s).toNat := by simp [rowsE]
    have e := endS_ok H hn ha ch k
    have l1 := fun n => sumN_bd (f := fun i => (endS o s t ch k a i).1) (B := 4194304) (fun i => by have := e i; unfold SpOK at this; omega) n
    have l2 := fun n => sumN_bd (f := fun i => (endS o s t ch k a i).2) (B := 4194304) (fun i => by have := e i; unfold SpOK at this; omega) n
    have er : ∀ i c, i < (o.len s).toNat → ri (rowsE o s t ch k a) i c = cI (rowE o s t ch k a i) c := fun i c hi => by
      simp only [ri_eq, List.getD_eq_getElem?_getD, rowsE, List.getElem?_map, List.getElem?_range hi, Option.map_some, Option.getD_some]
    unfold g_ref13_begin
    refine W.iteT (decide_eq_true (by omega)) (W.needI (by omega) (W.bindI (W.bindI (g_ref10_Bias_ok H hr hn hch (W.bindI (g_ref10_Bias_ok H hr hn hch (W.retI ?_)))))))
    dsimp only
    refine W.bindI (W.loop_for (o.len s).toNat (fun i v => v = ((i : Int), biasS o ch + sumN (fun i => (endS o s t ch k a i).1) i, biasS o ch + sumN (fun i => (endS o s t ch k a i).2) i)) ?_ ?_ (by simp [sumN]))
    · rintro i _ hi rfl
      dsimp only
      rw [hrl]
      refine W.iteT (decide_eq_true (by omega)) (W.needI (by omega) ?_)
      rw [Int.toNat_natCast, er _ _ hi, er _ _ hi]
      unfold g_ref13_plus
      refine W.bindI (W.retI (W.retI ?_))
      have b1 := l1 (i + 1)
      have b2 := l2 (i + 1)
      have e1 : sumN (fun i => (endS o s t ch k a i).1) (i + 1) = sumN (fun i => (endS o s t ch k a i).1) i + (endS o s t ch k a i).1 := rfl
      have e2 : sumN (fun i => (endS o s t ch k a i).2) (i + 1) = sumN (fun i => (endS o s t ch k a i).2) i + (endS o s t ch k a i).2 := rfl
      have c1 : cI (rowE o s t ch k a i) 0 = (endS o s t ch k a i).1 := rfl
      have c2 : cI (rowE o s t ch k a i) 1 = (endS o s t ch k a i).2 := rfl
      have hi' : ((i + 1 : Nat) : Int) ≤ 512 := by omega
      show (IntKind.i64.wrap ((i : Int) + 1), IntKind.i64.wrap (biasS o ch + sumN (fun i => (endS o s t ch k a i).1) i + cI (rowE o s t ch k a i) 0), IntKind.i64.wrap (biasS o ch + sumN (fun i => (endS o s t ch k a i).2) i + cI (rowE o s t ch k a i) 1)) = _
      rw [c1, c2, wrap64_in (x := (i : Int) + 1) (by omega) (by omega), wrap64_in (x := biasS o ch + sumN (fun i => (endS o s t ch k a i).1) i + (endS o s t ch k a i).1) (by omega) (by omega), wrap64_in (x := biasS o ch + sumN (fun i => (endS o s t ch k a i).2) i + (endS o s t ch k a i).2) (by omega) (by omega), e1, e2, Int.add_assoc, Int.add_assoc]
      rfl
    · rintro _ rfl
      dsimp only
      rw [hrl]
      refine W.iteF (decide_eq_false (by omega)) (W.retI ?_)
      unfold g___ref13_Hull__take_p
      rw [wrap64_in (x := (k : Int) + 1) (by omega) (by omega)]
      refine W.bindI (W.iteC (¬ 0 < k) (by rw [Bool.eq_iff_iff]; simp) (fun h0 => W.retI (W.retI ?_)) (fun h0 => W.retI (W.retI ?_)))
      · have : k = 0 := by omega
        subst this
        rfl
      · have eh : hullN (fun k => sumS o s t ch k a) (k + 1) = hullS (hullN (fun k => sumS o s t ch k a) k) (sumS o s t ch k a) := by
          show (if k = 0 then _ else _) = _
          rw [if_neg (by omega)]
        rw [eh, imin_f, imin_t, decide_eq_true (show 0 < k + 1 by omega), decide_eq_true (Classical.not_not.1 h0)]; rfl
  · rintro _ rfl
    dsimp only
    exact W.iteF (decide_eq_false (by omega)) (W.retI (W.retI h))
theorem zero4 {S : List Shp} (h : (o.one S).2 = 0) (hs : ¬ scales o.kind) : o.zero = 0 := by
  unfold Opr.one at h
  repeat' split at h
  all_goals try (exfalso; simp at h; done)
  · rename_i h5; exact absurd h h5
  · rename_i h1 h2 h3 h4 h5 h6 h7 h8 h9 h10
    have h3 := Classical.not_not.1 h3
    unfold Opr.spare at h3
    rcases h3.2.2.2.1 with q | q
    · exact absurd q hs
    · exact q.2.2
theorem g_ref11_Home_ok (H : OF o s t) (hr : reduces o.kind) (hz : ¬ scales o.kind → o.zero = 0) {v : Int} (hv : -4294967296 ≤ v ∧ v ≤ 4294967296) {R : Int → Prop} (h : R (finS (if o.kind ≤ 3 then scaleS v o.sam o.sas else meanS v (o.len s)) o.zero o.lo o.hi)) :
    (g_ref11_Home o.kind o.a o.b o.m o.win.kh o.win.kw o.win.sh o.win.sw o.win.top o.win.left o.win.bottom o.win.right o.wn o.ws o.bn o.bs o.sam o.sas o.sbm o.sbs o.zero o.pad o.lo o.hi v (o.len s)).run R := by
  have hlp := H.lenp hr
  have hvv := H.v
  unfold val at hvv
  unfold reduces at hr
  unfold g_ref11_Home
  have fin : ∀ x : Int, R (finS x o.zero o.lo o.hi) → R (IntKind.i8.wrap (finS x o.zero o.lo o.hi)) := fun x q => by
    have := finS_rng (v := x) (zero := o.zero) hvv.1.2.2
    rw [wrap_i8, show (finS x o.zero o.lo o.hi + 128) % 256 - 128 = finS x o.zero o.lo o.hi by omega]; exact q
  refine W.bindI (W.iteC (o.kind = 4) beqI (fun h4 => W.bindI (g_ref02_Mean_ok (by omega) (by omega) (W.retI ?_))) (fun h4 => W.bindI (g_ref02_Apply_ok (H.sc (by unfold scales; omega)) hv (W.retI ?_))))
  · rw [if_neg (by omega)] at h
    have z := hz (by unfold scales; omega)
    rw [z] at h fin
    exact W.bindI (g_ref02_Finish_ok (by dsimp only; omega) (by omega) (W.retI (fin _ h)))
  · rw [if_pos (by omega)] at h
    exact W.bindI (g_ref02_Finish_ok (by dsimp only; omega) (by omega) (W.retI (fin _ h)))
theorem g_ref14_Comes_ok (H : OF o s t) (hn : o.nums) (hz : ¬ scales o.kind → o.zero = 0) {b : Int × Int} (ha : valsS a) (hb : valsS b) {R : Int × Int → Prop} (h : R (outS o s t a b)) :
    (g_ref14_Comes o.kind o.a o.b o.m o.win.kh o.win.kw o.win.sh o.win.sw o.win.top o.win.left o.win.bottom o.win.right o.wn o.ws o.bn o.bs o.sam o.sas o.sbm o.sbs o.zero o.pad o.lo o.hi s.h s.w s.c t.h t.w t.c a.1 a.2 b.1 b.2).run R := by
  have hk := H.kind
  have hvv := H.v
  have hp := H.pos
  have hO := outS_ok H hn ha.sp hb.sp
  unfold val at hvv
  unfold g_ref14_Comes
  have hfin : ∀ x {R : Int × Int → Prop}, R (finS x o.zero o.lo o.hi, 0) → (g_ref02_Finish x o.zero o.lo o.hi).run R := fun x q => g_ref02_Finish_ok (by omega) (by omega)
  refine W.bindI (g_ref08_Reduces_ok _ ?_)
  refine W.iteC (¬ reduces o.kind) (by rw [Bool.eq_iff_iff]; simp) (fun hr => ?_) (fun hr => ?_)
  · have hend : ∀ x y : Int, -128 ≤ x ∧ x ≤ 127 → -128 ≤ y ∧ y ≤ 127 → ∀ {R : Int → Prop}, R (finS (if o.kind = 7 then scaleS x o.sam o.sas else if o.kind = 6 then scaleS x o.sam o.sas + scaleS y o.sbm o.sbs else x) o.zero o.lo o.hi) →
        (g_ref14_end o.kind o.a o.b o.m o.win.kh o.win.kw o.win.sh o.win.sw o.win.top o.win.left o.win.bottom o.win.right o.wn o.ws o.bn o.bs o.sam o.sas o.sbm o.sbs o.zero o.pad o.lo o.hi x y).run R := fun x y hx hy R q => by
      unfold g_ref14_end
      refine W.bindI (W.iteC (o.kind = 6 ∨ o.kind = 7) (by rw [beqI, beqI, Bool.decide_or]) (fun h67 => ?_) (fun h67 => W.retI ?_))
      · have sc := H.sc (by unfold scales; omega)
        have n1 := scaleS_bd sc (x := x) (by omega)
        refine W.bindI (g_ref02_Apply_ok sc (by omega) (W.retI (W.bindI ?_)))
        refine W.iteC (o.kind = 6) beqI (fun h6 => ?_) (fun h6 => W.retI ?_)
        · have sb := H.sb h6
          have n2 := scaleS_bd sb (x := y) (by omega)
          rw [if_neg (by omega), if_pos h6] at q
          refine W.bindI (g_ref02_Apply_ok sb (by omega) (W.retI ?_))
          dsimp only
          rw [wrap64_in (by omega) (by omega)]
          exact W.bindI (hfin _ (W.retI q))
        · rw [if_pos (by omega)] at q
          exact W.bindI (hfin _ (W.retI q))
      · rw [if_neg (by omega), if_neg (by omega)] at q
        refine W.bindI (W.iteF (by rw [beqI]; exact decide_eq_false (by omega)) (W.retI ?_))
        exact W.bindI (hfin _ (W.retI q))
    have e : outS o s t a b = (finS (if o.kind = 7 then scaleS a.1 o.sam o.sas else if o.kind = 6 then scaleS a.1 o.sam o.sas + scaleS b.1 o.sbm o.sbs else a.1) o.zero o.lo o.hi, finS (if o.kind = 7 then scaleS a.2 o.sam o.sas else if o.kind = 6 then scaleS a.2 o.sam o.sas + scaleS b.2 o.sbm o.sbs else a.2) o.zero o.lo o.hi) := by
      unfold reduces at hr
      unfold outS comesS
      rw [if_neg (by omega)]
      by_cases h7 : o.kind = 7
      · rw [if_pos h7, if_pos h7, if_pos h7]
      · rw [if_neg h7, if_neg h7, if_neg h7, if_neg (by omega)]
        by_cases h6 : o.kind = 6
        · rw [if_pos h6, if_pos h6, if_pos h6]
        · rw [if_neg h6, if_neg h6, if_neg h6]
    rw [e] at h
    obtain ⟨a1, a2, a3⟩ := ha
    obtain ⟨b1, b2, b3⟩ := hb
    exact W.bindI (hend _ _ (by omega) (by omega) (W.bindI (hend _ _ (by omega) (by omega) (W.retI h))))
  · have hr := Classical.not_not.1 hr
    have tok := fun ch => totS_ok H hr hn ha.sp ch
    have htot := fun {ch : Int} hch {R : Int × Int → Prop} => g_ref13_Total_ok H hr hn ha.sp (ch := ch) hch (R := R)
    have hlp := H.lenp hr
    refine W.bindI (htot (by omega) ?_)
    refine W.bindI (W.loop_for (t.c - 1).toNat (fun i v => v = ((i : Int) + 2, hullN (fun k => totS o s t ((k : Int) + 1) a) (i + 1))) ?_ ?_ rfl)
    · rintro i _ hi rfl
      dsimp only
      refine W.iteT (decide_eq_true (by omega)) (W.bindI (htot (by omega) (W.retI ?_)))
      rw [wrap64_in (by omega) (by omega), imin_f, imin_t]
      have eh : hullN (fun k => totS o s t ((k : Int) + 1) a) (i + 1 + 1) = hullS (hullN (fun k => totS o s t ((k : Int) + 1) a) (i + 1)) (totS o s t (((i + 1 : Nat) : Int) + 1) a) := by
        show (if i + 1 = 0 then _ else _) = _
        rw [if_neg (by omega)]
      have ec : ((i + 1 : Nat) : Int) + 1 = (i : Int) + 2 := by omega
      rw [ec] at eh
      show ((i : Int) + 2 + 1, hullS (hullN (fun k => totS o s t ((k : Int) + 1) a) (i + 1)) (totS o s t ((i : Int) + 2) a)) = _
      rw [eh]
      simp only [Prod.mk.injEq, and_true]; omega
    · rintro _ rfl
      dsimp only
      have ec : (t.c - 1).toNat + 1 = t.c.toNat := by omega
      rw [ec]
      have et : hullN (fun k => totS o s t ((k : Int) + 1) a) t.c.toNat = totsS o s t a := rfl
      rw [et]
      obtain ⟨t1, t2, t3⟩ := totsS_ok H hr hn ha.sp
      have e : outS o s t a b = (finS (if o.kind ≤ 3 then scaleS (totsS o s t a).1 o.sam o.sas else meanS (totsS o s t a).1 (o.len s)) o.zero o.lo o.hi, finS (if o.kind ≤ 3 then scaleS (totsS o s t a).2 o.sam o.sas else meanS (totsS o s t a).2 (o.len s)) o.zero o.lo o.hi) := by
        unfold reduces at hr
        unfold outS comesS
        by_cases h3 : o.kind ≤ 3
        · rw [if_pos h3, if_pos h3, if_pos h3]
        · rw [if_neg h3, if_neg h3, if_neg h3, if_neg (by omega), if_pos (by omega)]
      rw [e] at h hO
      dsimp only at hO
      refine W.iteF (decide_eq_false (by omega)) (W.retI ?_)
      refine W.bindI (g_ref10_Length_ok H hr (W.bindI (g_ref11_Home_ok H hr hz (by omega) (W.bindI (g_ref10_Length_ok H hr (W.bindI (g_ref11_Home_ok H hr hz (by omega) (W.retI ?_))))))))
      dsimp only at h ⊢
      generalize finS (if o.kind ≤ 3 then scaleS (totsS o s t a).1 o.sam o.sas else meanS (totsS o s t a).1 (o.len s)) o.zero o.lo o.hi = X at *
      generalize finS (if o.kind ≤ 3 then scaleS (totsS o s t a).2 o.sam o.sas else meanS (totsS o s t a).2 (o.len s)) o.zero o.lo o.hi = Y at *
      rw [wrap64_in (x := X) (by omega) (by omega), wrap64_in (x := Y) (by omega) (by omega)]
      exact h
end
section
variable {s0 : Shp} {lo hi out : Int} {nl : Bool} {l : Rws} {S : List Shp}
theorem MD.zero (M : MD s0 lo hi out l S) {j : Nat} (hj : j < l.length) : ¬ scales (Opr.of (l.getD j [])).kind → (Opr.of (l.getD j [])).zero = 0 :=
  zero4 ((look8_at s0 lo hi (oprs l) out M.e).2 j _ (row_opr l j hj)).1
theorem g_ref14_Out_ok (hl : l.length ≤ 676622540150) (hsh : short l) (hnum : ∀ r ∈ l, (Opr.of r).nums) (op : Int) (n2 : Bool) (r : Rws) {R : Int × Int × Int → Prop}
    (h : R (outF l (look8 s0 lo hi (oprs l) out).S (look8 s0 lo hi (oprs l) out).err op r)) :
    (g_ref14_Out s0.h s0.w s0.c lo hi nl l out op n2 r).run R := by
  unfold g_ref14_Out
  refine W.bindI (g_ref08_Look_ok s0 lo hi nl l out hl hsh ?_)
  unfold outF at h
  dsimp only [Ans8.tup]
  by_cases he : (look8 s0 lo hi (oprs l) out).err ≠ 0
  · rw [if_pos he] at h
    exact W.iteT (by simpa using he) (W.retI h)
  · rw [if_neg he] at h
    have he := Classical.not_not.1 he
    have M : MD s0 lo hi out l (look8 s0 lo hi (oprs l) out).S := ⟨hl, hsh, he, rfl, hnum⟩
    have h64 := M.n64
    have hSn := M.n
    generalize (look8 s0 lo hi (oprs l) out).S = S at *
    refine W.iteF (by simp [he]) (W.iteC (op < 1 ∨ l.length < op) (by rw [Bool.decide_or]) (fun h1 => W.retI (by rw [if_pos h1] at h; exact h)) (fun h1 => ?_))
    rw [if_neg h1] at h
    refine W.iteC (r.length < op) rfl (fun h2 => W.retI (by rw [if_pos h2] at h; exact h)) (fun h2 => ?_)
    rw [if_neg h2] at h
    obtain ⟨j, rfl⟩ : ∃ j : Nat, op = (j : Int) + 1 := ⟨(op - 1).toNat, by omega⟩
    have hj : j < l.length := by omega
    have ejw : (IntKind.i64.wrap ((j : Int) + 1 - 1)) = j := by rw [wrap64_in (by omega) (by omega)]; omega
    have ej1 : ((j : Int) + 1).toNat = j + 1 := by omega
    have ej2 : ((j : Int) + 1 - 1).toNat = j := by omega
    rw [ejw, Int.toNat_natCast]
    rw [ej1, ej2] at h
    rw [ej1]
    obtain ⟨H, ha, hb⟩ := M.of hj
    have hn := M.num hj
    have hz := M.zero hj
    have k0 : ri l j 0 = (Opr.of (l.getD j [])).kind := rfl
    have k1 : ri l j 1 = (Opr.of (l.getD j [])).a := rfl
    have k2 : ri l j 2 = (Opr.of (l.getD j [])).b := rfl
    have hcom := fun {a b : Int × Int} ha hb {R : Int × Int → Prop} => g_ref14_Comes_ok H hn hz (a := a) (b := b) ha hb (R := R)
    simp only [ri_shp0, ri_shp1, ri_shp2]
    dsimp only at h
    obtain ⟨b, hbv⟩ : ∃ b, b = (if (Opr.of (l.getD j [])).kind = 6 then spR r (Opr.of (l.getD j [])).b.toNat else spR r (Opr.of (l.getD j [])).a.toNat) := ⟨_, rfl⟩
    rw [← hbv] at h
    have hSl : ((S.map Shp.enc).length : Int) = l.length + 1 := by rw [List.length_map, hSn]; rfl
    rw [hSl]
    refine W.needI (by omega) (W.needI (by rw [k1]; omega) (W.bindI (W.mono _ (R := fun v => v = b) ?_ ?_)))
    rotate_left
    · refine W.iteC ((Opr.of (l.getD j [])).kind = 6) (by rw [k0]; exact beqI) (fun h6 => W.needI (by rw [k2]; have := hb h6; omega) (W.retI ?_)) (fun h6 => W.retI ?_)
      · rw [hbv, if_pos h6]; rfl
      · rw [hbv, if_neg h6]; rfl
    rintro b rfl
    obtain ⟨a, hav⟩ : ∃ a, a = spR r (Opr.of (l.getD j [])).a.toNat := ⟨_, rfl⟩
    have e1 : ri r (ri l j 1).toNat 0 = a.1 := by rw [hav]; rfl
    have e2 : ri r (ri l j 1).toNat 1 = a.2 := by rw [hav]; rfl
    rw [e1, e2]
    rw [← hav] at h
    refine W.bindI (W.mono _ (R := fun v => v = decide (¬ valsS a ∨ ¬ valsS b)) ?_ ?_)
    rotate_left
    · refine W.bindI (g_ref03_Values_ok _ _ ?_)
      by_cases hva : valsS a
      · refine W.iteF (by rw [decide_eq_true (show valsS (a.1, a.2) from hva)]; rfl) (W.bindI (g_ref03_Values_ok _ _ (W.retI ?_)))
        by_cases hvb : valsS b
        · rw [decide_eq_true (show valsS (b.1, b.2) from hvb), decide_eq_false (by simp [hva, hvb])]; rfl
        · rw [decide_eq_false (show ¬ valsS (b.1, b.2) from hvb), decide_eq_true (.inr hvb)]; rfl
      · refine W.iteT (by rw [decide_eq_false (show ¬ valsS (a.1, a.2) from hva)]; rfl) (W.retI ?_)
        rw [decide_eq_true (.inl hva)]
    rintro _ rfl
    refine W.iteC (¬ valsS a ∨ ¬ valsS b) rfl (fun h3 => W.retI (by rw [if_pos h3] at h; exact h)) (fun h3 => ?_)
    rw [if_neg h3] at h
    have h3 : valsS a ∧ valsS b := by
      by_cases q1 : valsS a <;> by_cases q2 : valsS b <;> simp_all
    refine W.needI (by rw [k1]; omega) (W.needI (by omega) (W.bindI ?_))
    exact hcom h3.1 h3.2 (W.retI h)
theorem g_ref14_Same_ok (n1 n2 : Bool) (r : Rws) (hr : r.length ≤ 8796093022208) {R : Bool → Prop} (h : R true) : (g_ref14_Same n1 r n2 r).run R := by
  unfold g_ref14_Same
  refine W.iteF (by simp) (W.bindI (W.loop_for r.length (fun i v => v = (i : Int)) ?_ ?_ rfl))
  · rintro i _ hi rfl
    refine W.iteT (decide_eq_true (by omega)) (W.needI (by omega) (W.needI (by omega) (W.iteF (by simp) (W.retI ?_))))
    rw [wrap64_in (by omega) (by omega)]; rfl
  · rintro _ rfl
    exact W.iteF (decide_eq_false (by omega)) (W.retI (W.retI h))
theorem g_ref14_Spread_ok (hl : l.length ≤ 676622540150) (hsh : short l) (hnum : ∀ r ∈ l, (Opr.of r).nums) {R : Int × Int × Int × Bool × Rws → Prop}
    (h : R (if (look8 s0 lo hi (oprs l) out).err ≠ 0 then ((look8 s0 lo hi (oprs l) out).err, (look8 s0 lo hi (oprs l) out).op, 0, true, []) else (0, 0, 0, false, spreadS l (look8 s0 lo hi (oprs l) out).S lo hi l.length))) :
    (g_ref14_Spread s0.h s0.w s0.c lo hi nl l out).run R := by
  unfold g_ref14_Spread g_ref08_Check
  refine W.bindI (W.bindI (g_ref08_Look_ok s0 lo hi nl l out hl hsh (W.retI ?_)))
  dsimp only [Ans8.tup]
  by_cases he : (look8 s0 lo hi (oprs l) out).err ≠ 0
  · rw [if_pos he] at h
    exact W.iteT (by simpa using he) (W.retI h)
  · rw [if_neg he] at h
    have he0 := Classical.not_not.1 he
    have M : MD s0 lo hi out l (look8 s0 lo hi (oprs l) out).S := ⟨hl, hsh, he0, rfl, hnum⟩
    have h64 := M.n64
    refine W.iteF (by simp [he0]) (W.bindI (W.loop_for l.length (fun i v => v = ((i : Int), spreadS l (look8 s0 lo hi (oprs l) out).S lo hi i)) ?_ ?_ rfl))
    · rintro i _ hi' rfl
      dsimp only
      rw [wrap64_in (x := (i : Int) + 1) (by omega) (by omega)]
      refine W.iteT (decide_eq_true (by omega)) (W.bindI (g_ref14_Out_ok hl hsh hnum _ _ _ ?_))
      rw [he0, spreadS_len]
      exact W.needI (by omega) (W.retI rfl)
    · rintro _ rfl
      dsimp only
      exact W.iteF (decide_eq_false (by omega)) (W.retI (W.retI h))
end
theorem ri_app (p q : Rws) (i j : Nat) (h : i < p.length) : ri (p ++ q) i j = ri p i j := by
  simp only [ri_eq, List.getD_eq_getElem?_getD]
  rw [List.getElem?_append_left h]
theorem ri_end (p : Rws) (x : List AV) (j : Nat) : ri (p ++ [x]) p.length j = cI x j := by
  simp only [ri_eq, List.getD_eq_getElem?_getD]
  rw [List.getElem?_append_right (Nat.le_refl _)]
  simp
theorem g_law14_FlowSpreads_ok {a b c lo hi out : Int} {nl : Bool} {l : Rws} (hl : l.length ≤ 676622540150) (hsh : short l) (hnum : ∀ r ∈ l, (Opr.of r).nums) {R : Bool → Prop} (hR : R true) :
    (g_law14_FlowSpreads a b c lo hi nl l out).run R := by
  unfold g_law14_FlowSpreads
  obtain ⟨e, op, bz, Z, hZ, hlen⟩ : ∃ (e op : Int) (bz : Bool) (Z : Rws), (if (look8 ⟨a, b, c⟩ lo hi (oprs l) out).err ≠ 0 then ((look8 ⟨a, b, c⟩ lo hi (oprs l) out).err, (look8 ⟨a, b, c⟩ lo hi (oprs l) out).op, (0 : Int), true, ([] : Rws)) else (0, 0, 0, false, spreadS l (look8 ⟨a, b, c⟩ lo hi (oprs l) out).S lo hi l.length)) = (e, op, 0, bz, Z) ∧ Z.length ≤ 65 := by
    by_cases he : (look8 ⟨a, b, c⟩ lo hi (oprs l) out).err ≠ 0
    · exact ⟨_, _, _, _, if_pos he, by simp⟩
    · refine ⟨_, _, _, _, if_neg he, ?_⟩
      have M : MD ⟨a, b, c⟩ lo hi out l (look8 ⟨a, b, c⟩ lo hi (oprs l) out).S := ⟨hl, hsh, Classical.not_not.1 he, rfl, hnum⟩
      have := M.n64
      rw [spreadS_len]; omega
  have hsp : ∀ {R : Int × Int × Int × Bool × Rws → Prop}, R (e, op, 0, bz, Z) → (g_flow_Spread a b c lo hi nl l out).run R := fun q => g_flow_Spread_ok (s0 := ⟨a, b, c⟩) hl hsh hnum (by rw [hZ]; exact q)
  have hsr : ∀ {R : Int × Int × Int × Bool × Rws → Prop}, R (e, op, 0, bz, Z) → (g_ref14_Spread a b c lo hi nl l out).run R := fun q => g_ref14_Spread_ok (s0 := ⟨a, b, c⟩) hl hsh hnum (by rw [hZ]; exact q)
  clear hZ
  refine W.bindI (hsp (W.bindI (hsr (W.bindI (W.bindI (g_law14_fixed_ok (W.iteF (by simp) (W.bindI (g_ref14_Same_ok _ _ _ (by dsimp only; omega) (W.retI (W.iteF rfl (W.bindI (hsp ?_)))))))))))))
  dsimp only
  refine W.bindI (W.loop_for Z.length (fun i v => ∃ q, v = ((i : Int), q) ∧ q.length = Z.length) ?_ ?_ ⟨Z, rfl, rfl⟩)
  · rintro i _ hi' ⟨q, rfl, hq⟩
    dsimp only
    refine W.iteT (decide_eq_true (by omega)) (W.needI (by omega) (W.retI ⟨q.set (i : Int).toNat [I 9, I 9], ?_, by rw [List.length_set]; exact hq⟩))
    rw [wrap64_in (by omega) (by omega)]; rfl
  · rintro _ ⟨q, rfl, hq⟩
    dsimp only
    refine W.iteF (decide_eq_false (by omega)) (W.retI ?_)
    refine W.needI (by omega) ?_
    iterate 19 refine W.needI (by simp only [List.length_append, List.length_cons, List.length_nil]; omega) ?_
    refine W.bindI (g_ref14_Same_ok _ _ _ (by omega) (W.needI (fun _ => by simp only [List.length_append, List.length_cons, List.length_nil]; omega) (W.retE hR ?_)))
    rw [Int.toNat_natCast, ← hq]
    iterate 19 rw [ri_app _ _ _ _ (by simp only [List.length_append, List.length_cons, List.length_nil]; omega)]
    rw [ri_end]; rfl
end Go.Proofs.YtgeedlfnjneeiaaGreat.VX
