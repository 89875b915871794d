/- Layer 8's functions in plain form: shapes and windows. -/
import Derived.Test.YtalchibbmkhkpaaVS
import Derived.IntWalk
import Derived.WalkKit
import Derived.Test.YtalchibbmkhkpaaVX1
set_option linter.unusedVariables false
set_option linter.unusedSimpArgs false
namespace Go.Proofs.Ytalchibbmkhkpaa.VX
def cI (r : List AV) (j : Nat) : Int := (r.getD j .dead).toInt
def cN (r : List AV) (j : Nat) : Bool := (r.getD j .dead).toNil
def cR (r : List AV) (j : Nat) : Rws := (r.getD j .dead).toRows
theorem ri_eq (l : Rws) (i j : Nat) : ri l i j = cI (l.getD i []) j := rfl
theorem rr_eq (l : Rws) (i j : Nat) : rr l i j = cR (l.getD i []) j := rfl
theorem wrap64_in {x : Int} (h : -9223372036854775808 ≤ x) (h' : x ≤ 9223372036854775807) : IntKind.i64.wrap x = x := by
  rw [IntKind.wrap_i64]; omega
theorem W.bindI {α β : Type} {x : W α} {f : α → W β} {R : β → Prop} (h : x.run fun a => (f a).run R) : (W.bind x f).run R := h
structure Shp where
  h : Int
  w : Int
  c : Int
  deriving DecidableEq, Inhabited
def Shp.ok (s : Shp) : Prop := (1 ≤ s.h ∧ s.h ≤ 1024) ∧ (1 ≤ s.w ∧ s.w ≤ 1024) ∧ (1 ≤ s.c ∧ s.c ≤ 1024) ∧ s.h * s.w * s.c ≤ 16384
instance (s : Shp) : Decidable s.ok := by unfold Shp.ok; infer_instance
theorem mul_bd {a b A B : Int} (ha : 0 ≤ a) (hA : a ≤ A) (hb : 0 ≤ b) (hB : b ≤ B) : 0 ≤ a * b ∧ a * b ≤ A * B :=
  ⟨Int.mul_nonneg ha hb, Int.mul_le_mul hA hB hb (Int.le_trans ha hA)⟩
theorem prod3 {a b c : Int} (ha : 1 ≤ a ∧ a ≤ 1024) (hb : 1 ≤ b ∧ b ≤ 1024) (hc : 1 ≤ c ∧ c ≤ 1024) : 0 ≤ a * b ∧ a * b ≤ 1048576 ∧ 0 ≤ a * b * c ∧ a * b * c ≤ 1073741824 := by
  have h1 := mul_bd (A := 1024) (B := 1024) (by omega : 0 ≤ a) (by omega) (by omega : 0 ≤ b) (by omega)
  have h2 := mul_bd (A := 1048576) (B := 1024) h1.1 (by omega) (by omega : 0 ≤ c) (by omega)
  exact ⟨h1.1, by omega, h2.1, by omega⟩
theorem g_shape_Elems_ok (a b c : Int) {R : Int × Int → Prop} (h : R (if Shp.ok ⟨a, b, c⟩ then (a * b * c, 0) else (0, 50))) : (g_shape_Elems a b c).run R := by
  unfold g_shape_Elems
  simp only [W.run_ite, W.run_ret, Bool.or_eq_true, decide_eq_true_eq]
  by_cases h1 : 1 ≤ a ∧ a ≤ 1024
  · by_cases h2 : 1 ≤ b ∧ b ≤ 1024
    · by_cases h3 : 1 ≤ c ∧ c ≤ 1024
      · obtain ⟨q1, q2, q3, q4⟩ := prod3 h1 h2 h3
        rw [if_neg (by omega), if_neg (by omega), if_neg (by omega), Int.one_mul, wrap64_in (x := a) (by omega) (by omega), wrap64_in (x := a * b) (by omega) (by omega), wrap64_in (x := a * b * c) (by omega) (by omega)]
        split
        · rwa [if_neg (by simp only [Shp.ok]; omega)] at h
        · rwa [if_pos (by simp only [Shp.ok]; omega)] at h
      · rw [if_neg (by omega), if_neg (by omega), if_pos (by omega)]
        rwa [if_neg (by simp [Shp.ok, h3])] at h
    · rw [if_neg (by omega), if_pos (by omega)]
      rwa [if_neg (by simp [Shp.ok, h2])] at h
  · rw [if_pos (by omega)]
    rwa [if_neg (by simp [Shp.ok, h1])] at h
theorem W.iteT {α : Type} {b : Bool} {x y : W α} {R : α → Prop} (hb : b = true) (h : x.run R) : (W.ite b x y).run R := ⟨fun _ => h, fun e => (by rw [hb] at e; cases e)⟩
theorem W.iteF {α : Type} {b : Bool} {x y : W α} {R : α → Prop} (hb : b = false) (h : y.run R) : (W.ite b x y).run R := ⟨fun e => (by rw [hb] at e; cases e), fun _ => h⟩
theorem W.needI {α : Type} {c : Prop} {x : W α} {R : α → Prop} (hc : c) (h : x.run R) : (W.need c x).run R := ⟨hc, h⟩
theorem W.retI {α : Type} {a : α} {R : α → Prop} (h : R a) : (W.ret a).run R := h
theorem W.retE {α : Type} {a b : α} {R : α → Prop} (h : R b) (e : a = b) : (W.ret a).run R := e ▸ h
theorem W.iteC {α : Type} {b : Bool} {x y : W α} {R : α → Prop} (c : Prop) [Decidable c] (hb : b = decide c) (hx : c → x.run R) (hy : ¬ c → y.run R) : (W.ite b x y).run R :=
  ⟨fun e => hx (by rw [hb] at e; simpa using e), fun e => hy (by rw [hb] at e; simpa using e)⟩
structure Win where
  kh : Int
  kw : Int
  sh : Int
  sw : Int
  top : Int
  left : Int
  bottom : Int
  right : Int
  deriving DecidableEq
def sideOK (k s t b : Int) : Prop := (1 ≤ k ∧ k ≤ 32) ∧ (1 ≤ s ∧ s ≤ 32) ∧ (0 ≤ t ∧ t ≤ k - 1) ∧ (0 ≤ b ∧ b ≤ k - 1)
instance (k s t b : Int) : Decidable (sideOK k s t b) := by unfold sideOK; infer_instance
def Win.ok (w : Win) : Prop := sideOK w.kh w.sh w.top w.bottom ∧ sideOK w.kw w.sw w.left w.right
instance (w : Win) : Decidable w.ok := by unfold Win.ok; infer_instance
def places (n k s : Int) : Int := if n - k < 0 then 0 else (n - k) / s + 1
def wout (s : Shp) (w : Win) : Int × Int × Int :=
  if ¬ s.ok then (0, 0, 50) else if ¬ w.ok then (0, 0, 60)
  else if places (s.h + w.top + w.bottom) w.kh w.sh = 0 ∨ places (s.w + w.left + w.right) w.kw w.sw = 0 then (0, 0, 60)
  else (places (s.h + w.top + w.bottom) w.kh w.sh, places (s.w + w.left + w.right) w.kw w.sw, 0)
theorem places_zero {n k s : Int} (hs : 1 ≤ s) : places n k s = 0 ↔ n - k < 0 := by
  unfold places
  split
  · simp [*]
  · rename_i h
    have := Int.ediv_nonneg (a := n - k) (b := s) (by omega) (by omega)
    omega
theorem places_bd {n k s : Int} (hs : 1 ≤ s) (hk : 1 ≤ k) : 0 ≤ places n k s ∧ (0 ≤ n → places n k s ≤ n) := by
  unfold places
  split
  · exact ⟨Int.le_refl _, fun h => h⟩
  · rename_i h
    have h1 := Int.ediv_nonneg (a := n - k) (b := s) (by omega) (by omega)
    have h2 := Int.ediv_le_self (a := n - k) s (by omega)
    omega
theorem g_window_within_ok (a b c : Int) {R : Bool → Prop} (h : R (decide (b ≤ a ∧ a ≤ c))) : (g_window_within a b c).run R := by
  unfold g_window_within
  simpa using h
theorem g_window_side_ok (k s t b : Int) {R : Bool → Prop} (h : R (decide (sideOK k s t b))) : (g_window_side k s t b).run R := by
  unfold g_window_side
  refine W.bindI (W.bindI (g_window_within_ok _ _ _ (W.iteC _ rfl (fun h1 => ?_) fun h1 => ?_)))
  · refine W.bindI (g_window_within_ok _ _ _ (W.iteC _ rfl (fun h2 => ?_) fun h2 => ?_))
    · rw [wrap64_in (x := k - 1) (by omega) (by omega)]
      refine W.bindI (g_window_within_ok _ _ _ (W.iteC _ rfl (fun h3 => ?_) fun h3 => ?_))
      · refine W.bindI (g_window_within_ok _ _ _ ?_)
        simpa [sideOK, h1, h2, h3] using h
      · simpa [sideOK, h1, h2, h3] using h
    · simpa [sideOK, h1, h2] using h
  · simpa [sideOK, h1] using h
theorem g_window_Valid_ok (w : Win) {R : Bool → Prop} (h : R (decide w.ok)) : (g_window_Valid w.kh w.kw w.sh w.sw w.top w.left w.bottom w.right).run R := by
  unfold g_window_Valid
  refine W.bindI (W.bindI (g_window_side_ok _ _ _ _ (W.iteC _ rfl (fun h1 => ?_) fun h1 => ?_)))
  · refine W.bindI (g_window_side_ok _ _ _ _ ?_)
    simpa [Win.ok, h1] using h
  · simpa [Win.ok, h1] using h
theorem g_window_Out_ok (s : Shp) (w : Win) {R : Int × Int × Int → Prop} (h : R (wout s w)) : (g_window_Out s.h s.w s.c w.kh w.kw w.sh w.sw w.top w.left w.bottom w.right).run R := by
  unfold g_window_Out
  refine W.bindI (g_shape_Elems_ok _ _ _ (W.iteC (¬ s.ok) (by split <;> simp_all) (fun h1 => ?_) fun h1 => ?_))
  · rw [if_neg h1]
    simpa [wout, h1] using h
  · refine W.bindI (g_window_Valid_ok _ (W.iteC (¬ w.ok) (by simp) (fun h2 => ?_) fun h2 => ?_))
    · have h1 : s.ok := by simpa using h1
      simpa [wout, h1, h2] using h
    · have h1 : s.ok := by simpa using h1
      have h2 : w.ok := by simpa using h2
      have g1 := h1
      have g2 := h2
      unfold Shp.ok at g1
      unfold Win.ok sideOK at g2
      rw [wrap64_in (x := s.h + w.top) (by omega) (by omega), wrap64_in (x := s.h + w.top + w.bottom) (by omega) (by omega), wrap64_in (x := s.w + w.left) (by omega) (by omega), wrap64_in (x := s.w + w.left + w.right) (by omega) (by omega),
        wrap64_in (x := s.h + w.top + w.bottom - w.kh) (by omega) (by omega), wrap64_in (x := s.w + w.left + w.right - w.kw) (by omega) (by omega)]
      have z1 := places_zero (n := s.h + w.top + w.bottom) (k := w.kh) (s := w.sh) (by omega)
      have z2 := places_zero (n := s.w + w.left + w.right) (k := w.kw) (s := w.sw) (by omega)
      refine W.iteC (places (s.h + w.top + w.bottom) w.kh w.sh = 0 ∨ places (s.w + w.left + w.right) w.kw w.sw = 0) (by rw [← Bool.decide_or, decide_eq_decide, z1, z2]) (fun h3 => ?_) fun h3 => ?_
      · simpa [wout, h1, h2, h3] using h
      · refine W.needI (by omega) (W.needI (by omega) (W.retE h ?_))
        simp only [wout, h1, h2, not_true, if_false]
        rw [if_neg h3]
        rw [not_or, z1, z2] at h3
        have b1 := Int.ediv_nonneg (a := s.h + w.top + w.bottom - w.kh) (b := w.sh) (by omega) (by omega)
        have b2 := Int.ediv_nonneg (a := s.w + w.left + w.right - w.kw) (b := w.sw) (by omega) (by omega)
        have b3 := Int.ediv_le_self (a := s.h + w.top + w.bottom - w.kh) w.sh (by omega)
        have b4 := Int.ediv_le_self (a := s.w + w.left + w.right - w.kw) w.sw (by omega)
        rw [Int.tdiv_eq_ediv_of_nonneg (by omega), Int.tdiv_eq_ediv_of_nonneg (by omega)]
        rw [wrap64_in (x := (s.h + w.top + w.bottom - w.kh) / w.sh) (by omega) (by omega), wrap64_in (x := (s.w + w.left + w.right - w.kw) / w.sw) (by omega) (by omega),
          wrap64_in (x := (s.h + w.top + w.bottom - w.kh) / w.sh + 1) (by omega) (by omega), wrap64_in (x := (s.w + w.left + w.right - w.kw) / w.sw + 1) (by omega) (by omega)]
        simp only [places]
        rw [if_neg h3.1, if_neg h3.2]
structure Opr where
  kind : Int
  a : Int
  b : Int
  m : Int
  win : Win
  wn : Bool
  ws : Rws
  bn : Bool
  bs : Rws
  sam : Int
  sas : Int
  sbm : Int
  sbs : Int
  zero : Int
  pad : Int
  lo : Int
  hi : Int
def Opr.of (r : List AV) : Opr :=
  ⟨cI r 0, cI r 1, cI r 2, cI r 3, ⟨cI r 4, cI r 5, cI r 6, cI r 7, cI r 8, cI r 9, cI r 10, cI r 11⟩, cN r 12, cR r 12, cN r 13, cR r 13, cI r 14, cI r 15, cI r 16, cI r 17, cI r 18, cI r 19, cI r 20, cI r 21⟩
def Shp.enc (s : Shp) : List AV := [I s.h, I s.w, I s.c]
theorem ri_shp0 (S : List Shp) (i : Nat) : ri (S.map Shp.enc) i 0 = (S.getD i default).h := by
  simp only [ri, cellOf, List.getD, List.getElem?_map]
  cases S[i]? <;> rfl
theorem ri_shp1 (S : List Shp) (i : Nat) : ri (S.map Shp.enc) i 1 = (S.getD i default).w := by
  simp only [ri, cellOf, List.getD, List.getElem?_map]
  cases S[i]? <;> rfl
theorem ri_shp2 (S : List Shp) (i : Nat) : ri (S.map Shp.enc) i 2 = (S.getD i default).c := by
  simp only [ri, cellOf, List.getD, List.getElem?_map]
  cases S[i]? <;> rfl
def slides (k : Int) : Prop := 2 ≤ k ∧ k ≤ 5
def weighs (k : Int) : Prop := 1 ≤ k ∧ k ≤ 3
def scales (k : Int) : Prop := (1 ≤ k ∧ k ≤ 3) ∨ k = 6 ∨ k = 7
def reduces (k : Int) : Prop := 1 ≤ k ∧ k ≤ 4
def scaleOK (m s : Int) : Prop := 1 ≤ m ∧ m ≤ 2147483647 ∧ 0 ≤ s ∧ s ≤ 62
def val (n : Int) : Prop := -128 ≤ n ∧ n ≤ 127
instance (k : Int) : Decidable (slides k) := by unfold slides; infer_instance
instance (k : Int) : Decidable (weighs k) := by unfold weighs; infer_instance
instance (k : Int) : Decidable (scales k) := by unfold scales; infer_instance
instance (k : Int) : Decidable (reduces k) := by unfold reduces; infer_instance
instance (m s : Int) : Decidable (scaleOK m s) := by unfold scaleOK; infer_instance
instance (n : Int) : Decidable (val n) := by unfold val; infer_instance
namespace Opr
def spare (o : Opr) : Prop :=
  (o.kind = 6 ∨ (o.b = 0 ∧ o.sbm = 0 ∧ o.sbs = 0)) ∧ (o.kind ≤ 2 ∨ o.m = 0) ∧ (weighs o.kind ∨ (o.ws.length = 0 ∧ o.bs.length = 0)) ∧ (scales o.kind ∨ (o.sam = 0 ∧ o.sas = 0 ∧ o.zero = 0)) ∧
  (slides o.kind ∨ o.win = ⟨0, 0, 0, 0, 0, 0, 0, 0⟩) ∧ (o.kind = 2 ∨ o.kind = 3 ∨ o.pad = 0) ∧ ((o.kind ≠ 4 ∧ o.kind ≠ 5) ∨ (o.win.top = 0 ∧ o.win.left = 0 ∧ o.win.bottom = 0 ∧ o.win.right = 0))
instance (o : Opr) : Decidable o.spare := by unfold spare; infer_instance
def len (o : Opr) (s : Shp) : Int := if o.kind = 1 then s.h * s.w * s.c else if o.kind = 2 then o.win.kh * o.win.kw * s.c else o.win.kh * o.win.kw
def mk1 (o : Opr) (s : Shp) : Shp × Int :=
  if o.kind = 1 then (⟨1, 1, o.m⟩, 0)
  else if slides o.kind then (if (wout s o.win).2.2 ≠ 0 then (⟨0, 0, 0⟩, (wout s o.win).2.2) else (⟨(wout s o.win).1, (wout s o.win).2.1, if o.kind = 2 then o.m else s.c⟩, 0))
  else (s, 0)
def lists (o : Opr) (s : Shp) : Int × Int := if o.kind = 1 ∨ o.kind = 2 then (o.m * o.len s, o.m) else if o.kind = 3 then (s.c * o.len s, s.c) else (0, 0)
def labour (o : Opr) (s t : Shp) : Int := if reduces o.kind then t.h * t.w * t.c * o.len s else if o.kind = 5 then t.h * t.w * t.c * o.win.kh * o.win.kw else t.h * t.w * t.c
def one (o : Opr) (S : List Shp) : Shp × Int :=
  if o.kind < 1 ∨ 8 < o.kind then (⟨0, 0, 0⟩, 81)
  else if (o.a < 0 ∨ S.length ≤ o.a) ∨ o.kind = 6 ∧ (o.b < 0 ∨ S.length ≤ o.b) then (⟨0, 0, 0⟩, 82)
  else if ¬ o.spare then (⟨0, 0, 0⟩, 83)
  else if o.kind ≤ 2 ∧ (o.m < 1 ∨ 1024 < o.m) then (⟨0, 0, 0⟩, 2)
  else if (o.mk1 (S.getD o.a.toNat default)).2 ≠ 0 then (⟨0, 0, 0⟩, (o.mk1 (S.getD o.a.toNat default)).2)
  else if (o.kind = 6 ∧ S.getD o.b.toNat default ≠ S.getD o.a.toNat default) ∨ ¬ (o.mk1 (S.getD o.a.toNat default)).1.ok then (⟨0, 0, 0⟩, 50)
  else if reduces o.kind ∧ 512 < o.len (S.getD o.a.toNat default) then (⟨0, 0, 0⟩, 84)
  else if (o.ws.length : Int) ≠ (o.lists (S.getD o.a.toNat default)).1 ∨ (o.bs.length : Int) ≠ (o.lists (S.getD o.a.toNat default)).2 then (⟨0, 0, 0⟩, 70)
  else if scales o.kind ∧ ¬ scaleOK o.sam o.sas ∨ o.kind = 6 ∧ ¬ scaleOK o.sbm o.sbs then (⟨0, 0, 0⟩, 20)
  else if ¬ val o.lo ∨ ¬ val o.hi ∨ o.hi < o.lo ∨ ¬ val o.zero ∨ ¬ val o.pad then (⟨0, 0, 0⟩, 85)
  else ((o.mk1 (S.getD o.a.toNat default)).1, 0)
end Opr
set_option linter.unusedVariables false
theorem wout_win {s : Shp} {w : Win} (h : (wout s w).2.2 = 0) : s.ok ∧ w.ok := by
  unfold wout at h
  split at h
  · simp at h
  · split at h
    · simp at h
    · rename_i h1 h2; exact ⟨by simpa using h1, by simpa using h2⟩
def Win.dims (w : Win) : Prop := (0 ≤ w.kh ∧ w.kh ≤ 32) ∧ (0 ≤ w.kw ∧ w.kw ≤ 32)
theorem Win.ok.dims {w : Win} (h : w.ok) : w.dims := by unfold Win.ok sideOK at h; unfold Win.dims; omega
theorem len_bd (o : Opr) (s : Shp) (hs : s.ok) (hw : o.kind ≠ 1 → o.win.dims) : 0 ≤ o.len s ∧ o.len s ≤ 1048576 := by
  unfold Shp.ok at hs
  unfold Opr.len
  obtain ⟨p1, p2, p3, p4⟩ := prod3 hs.1 hs.2.1 hs.2.2.1
  by_cases h1 : o.kind = 1
  · rw [if_pos h1]; omega
  · rw [if_neg h1]
    have hw := hw h1
    unfold Win.dims at hw
    have q := mul_bd (A := 32) (B := 32) hw.1.1 hw.1.2 hw.2.1 hw.2.2
    have q2 := mul_bd (A := 1024) (B := 1024) q.1 (by omega) (by omega : 0 ≤ s.c) (by omega)
    split <;> omega
theorem labour_bd (o : Opr) (s t : Shp) (hs : s.ok) (ht : t.ok) (hw : slides o.kind → o.win.dims) : 0 ≤ o.labour s t ∧ o.labour s t ≤ 17179869184 := by
  have ht' := ht
  unfold Shp.ok at ht'
  obtain ⟨p1, p2, p3, p4⟩ := prod3 ht'.1 ht'.2.1 ht'.2.2.1
  unfold Opr.labour
  split
  · rename_i h1
    have q := len_bd o s hs (fun h2 => hw (by unfold reduces at h1; unfold slides; omega))
    have := mul_bd (A := 16384) (B := 1048576) p3 ht'.2.2.2 q.1 q.2
    omega
  · split
    · rename_i h2
      have hw := hw (by unfold slides; omega)
      unfold Win.dims at hw
      have q := mul_bd (A := 16384) (B := 32) p3 ht'.2.2.2 hw.1.1 hw.1.2
      have q2 := mul_bd (A := 524288) (B := 32) q.1 (by omega) hw.2.1 hw.2.2
      omega
    · omega
theorem mk1_dims {o : Opr} {s : Shp} (h : (o.mk1 s).2 = 0) : slides o.kind → o.win.dims := fun hs => by
  unfold Opr.mk1 at h
  rw [if_neg (by unfold slides at hs; omega), if_pos hs] at h
  split at h
  · rename_i h1; exact absurd h h1
  · rename_i h1
    exact (wout_win (by simpa using h1)).2.dims
structure Ans8 where
  work : Int
  err : Int
  op : Int
  S : List Shp
def walk8 : List Opr → Int → Int → List Shp → Ans8
  | [], _, w, S => ⟨w, 0, 0, S⟩
  | o :: r, i, w, S =>
    if (o.one S).2 ≠ 0 then ⟨0, (o.one S).2, i + 1, []⟩
    else if 131072 < w + o.labour (S.getD o.a.toNat default) (o.one S).1 then ⟨0, 86, i + 1, []⟩
    else walk8 r (i + 1) (w + o.labour (S.getD o.a.toNat default) (o.one S).1) (S ++ [(o.one S).1])
def look8 (s : Shp) (lo hi : Int) (ops : List Opr) (out : Int) : Ans8 :=
  if ¬ s.ok then ⟨0, 50, 0, []⟩
  else if ¬ val lo ∨ ¬ val hi ∨ hi < lo then ⟨0, 85, 0, []⟩
  else if 64 < ops.length then ⟨0, 80, 0, []⟩
  else if out < 0 ∨ ops.length < out then ⟨0, 3, 0, []⟩
  else walk8 ops 0 0 [s]
def Ans8.tup (a : Ans8) : Int × Int × Int × Int × Bool × Rws := (a.work, a.err, a.op, 0, decide (a.err ≠ 0), a.S.map Shp.enc)
def oprs (l : Rws) : List Opr := l.map Opr.of
def short (l : Rws) : Prop := ∀ r ∈ l, (Opr.of r).ws.length ≤ 70368744175616 ∧ (Opr.of r).bs.length ≤ 35184372087808
theorem one_ok {o : Opr} {S : List Shp} (h : (o.one S).2 = 0) : (0 ≤ o.a ∧ o.a < S.length) ∧ (o.one S).1.ok ∧ (slides o.kind → o.win.dims) ∧ (o.mk1 (S.getD o.a.toNat default)).2 = 0 := by
  unfold Opr.one at h ⊢
  repeat' split at h
  all_goals try (exfalso; simp at h; done)
  · rename_i h5; exact absurd h h5
  · rename_i h1 h2 h3 h4 h5 h6 h7 h8 h9 h10
    rw [if_neg h1, if_neg h2, if_neg h3, if_neg h4, if_neg h5, if_neg h6, if_neg h7, if_neg h8, if_neg h9, if_neg h10]
    rw [not_or] at h6
    have h5' : (o.mk1 (S.getD o.a.toNat default)).2 = 0 := by simpa using h5
    exact ⟨by omega, Classical.not_not.1 h6.2, mk1_dims h5', h5'⟩
theorem getD_mem {S : List Shp} {i : Nat} (h : i < S.length) : S.getD i default ∈ S := by
  rw [List.getD_eq_getElem?_getD, List.getElem?_eq_getElem h]; exact List.getElem_mem h
theorem row_opr (l : Rws) (k : Nat) (h : k < l.length) : (oprs l)[k]? = some (Opr.of (l.getD k [])) := by
  unfold oprs
  rw [List.getElem?_map, List.getD_eq_getElem?_getD, List.getElem?_eq_getElem h]; rfl
theorem drop_opr (l : Rws) (k : Nat) (h : k < l.length) : (oprs l).drop k = Opr.of (l.getD k []) :: (oprs l).drop (k + 1) := by
  have h' : k < (oprs l).length := by simpa [oprs] using h
  rw [List.drop_eq_getElem_cons h']
  congr 1
  have := row_opr l k h
  rw [List.getElem?_eq_getElem h'] at this
  exact Option.some.inj this
theorem W.iteR {α : Type} {b : Bool} {x y : α} {R : α → Prop} (h : R (bif b then x else y)) : (W.ite b (W.ret x) (W.ret y)).run R := by
  cases b
  · exact W.iteF rfl h
  · exact W.iteT rfl h
structure Uses where
  b : Bool
  m : Bool
  win : Bool
  pads : Bool
  weights : Bool
  sa : Bool
  sb : Bool
  pad : Bool
def usesOf (k : Int) : Uses := ⟨decide (k = 6), decide (k ≤ 2), decide (slides k), decide (k = 2 ∨ k = 3), decide (weighs k), decide (scales k), decide (k = 6), decide (k = 2 ∨ k = 3)⟩
theorem kind_cases {k : Int} (h : ¬ (k < 1 ∨ 8 < k)) : k = 1 ∨ k = 2 ∨ k = 3 ∨ k = 4 ∨ k = 5 ∨ k = 6 ∨ k = 7 ∨ k = 8 := by omega
theorem g_model_of_ok (k : Int) (h : ¬ (k < 1 ∨ 8 < k)) {R : Bool × Bool × Bool × Bool × Bool × Bool × Bool × Bool × Bool → Prop}
    (hR : R ((usesOf k).b, (usesOf k).m, (usesOf k).win, (usesOf k).pads, (usesOf k).weights, (usesOf k).sa, (usesOf k).sb, (usesOf k).pad, true)) : (g_model_of k).run R := by
  unfold g_model_of
  rcases kind_cases h with rfl | rfl | rfl | rfl | rfl | rfl | rfl | rfl
  · exact W.iteT rfl (W.retE hR rfl)
  · exact W.iteF rfl (W.iteT rfl (W.retE hR rfl))
  · exact W.iteF rfl (W.iteF rfl (W.iteT rfl (W.retE hR rfl)))
  · exact W.iteF rfl (W.iteF rfl (W.iteF rfl (W.bindI (W.iteT rfl (W.retI (W.iteT rfl (W.retE hR rfl)))))))
  · exact W.iteF rfl (W.iteF rfl (W.iteF rfl (W.bindI (W.iteF rfl (W.retI (W.iteT rfl (W.retE hR rfl)))))))
  · exact W.iteF rfl (W.iteF rfl (W.iteF rfl (W.bindI (W.iteF rfl (W.retI (W.iteF rfl (W.iteT rfl (W.retE hR rfl))))))))
  · exact W.iteF rfl (W.iteF rfl (W.iteF rfl (W.bindI (W.iteF rfl (W.retI (W.iteF rfl (W.iteF rfl (W.iteT rfl (W.retE hR rfl)))))))))
  · exact W.iteF rfl (W.iteF rfl (W.iteF rfl (W.bindI (W.iteF rfl (W.retI (W.iteF rfl (W.iteF rfl (W.iteF rfl (W.iteT rfl (W.retE hR rfl))))))))))
theorem g_model_of_bad (k : Int) (h : k < 1 ∨ 8 < k) {R : Bool × Bool × Bool × Bool × Bool × Bool × Bool × Bool × Bool → Prop} (hR : R (false, false, false, false, false, false, false, false, false)) : (g_model_of k).run R := by
  have ne : ∀ n : Int, 1 ≤ n → n ≤ 8 → (k == n) = false := fun n h1 h2 => by simp; omega
  unfold g_model_of
  exact W.iteF (ne 1 (by omega) (by omega)) (W.iteF (ne 2 (by omega) (by omega)) (W.iteF (ne 3 (by omega) (by omega)) (W.bindI (W.iteF (ne 4 (by omega) (by omega)) (W.retI (W.iteF (ne 5 (by omega) (by omega)) (W.iteF (ne 6 (by omega) (by omega)) (W.iteF (ne 7 (by omega) (by omega)) (W.iteF (ne 8 (by omega) (by omega)) (W.retI hR))))))))))
def restB (o : Opr) (u : Uses) : Bool :=
  (bif u.b then 0 else o.b) == 0 && (bif u.m then 0 else o.m) == 0 &&
  (bif u.pads then true else (bif u.win then true else o.win.kh == 0 && o.win.kw == 0 && o.win.sh == 0 && o.win.sw == 0) && (o.win.top == 0 && o.win.left == 0 && o.win.bottom == 0 && o.win.right == 0)) &&
  (bif u.weights then true else o.ws.isEmpty && o.bs.isEmpty) && (bif u.sa then true else o.sam == 0 && o.sas == 0 && o.zero == 0) && (bif u.sb then true else o.sbm == 0 && o.sbs == 0) && (bif u.pad then true else o.pad == 0)
theorem nil_len (l : Rws) : ((l.length : Int) == 0) = l.isEmpty := by cases l <;> simp <;> omega
theorem bare_empty_ok (o : Opr) (u : Uses) {R : Bool → Prop} (h : R (restB o u)) :
    (W.bind (g_model_bare o.kind o.a o.b o.m o.win.kh o.win.kw o.win.sh o.win.sw o.win.top o.win.left o.win.bottom o.win.right o.wn o.ws o.bn o.bs o.sam o.sas o.sbm o.sbs o.zero o.pad o.lo o.hi u.b u.m u.win u.pads u.weights u.sa u.sb u.pad) fun v1 =>
      g_model_empty (v1.fst) (v1.snd.fst) (v1.snd.snd.fst) (v1.snd.snd.snd.fst) (v1.snd.snd.snd.snd.fst) (v1.snd.snd.snd.snd.snd.fst) (v1.snd.snd.snd.snd.snd.snd.fst) (v1.snd.snd.snd.snd.snd.snd.snd.fst) (v1.snd.snd.snd.snd.snd.snd.snd.snd.fst) (v1.snd.snd.snd.snd.snd.snd.snd.snd.snd.fst) (v1.snd.snd.snd.snd.snd.snd.snd.snd.snd.snd.fst) (v1.snd.snd.snd.snd.snd.snd.snd.snd.snd.snd.snd.fst) (v1.snd.snd.snd.snd.snd.snd.snd.snd.snd.snd.snd.snd.fst) (v1.snd.snd.snd.snd.snd.snd.snd.snd.snd.snd.snd.snd.snd.fst) (v1.snd.snd.snd.snd.snd.snd.snd.snd.snd.snd.snd.snd.snd.snd.fst) (v1.snd.snd.snd.snd.snd.snd.snd.snd.snd.snd.snd.snd.snd.snd.snd.fst) (v1.snd.snd.snd.snd.snd.snd.snd.snd.snd.snd.snd.snd.snd.snd.snd.snd.fst) (v1.snd.snd.snd.snd.snd.snd.snd.snd.snd.snd.snd.snd.snd.snd.snd.snd.snd.fst) (v1.snd.snd.snd.snd.snd.snd.snd.snd.snd.snd.snd.snd.snd.snd.snd.snd.snd.snd.fst) (v1.snd.snd.snd.snd.snd.snd.snd.snd.snd.snd.snd.snd.snd.snd.snd.snd.snd.snd.snd.fst) (v1.snd.snd.snd.snd.snd.snd.snd.snd.snd.snd.snd.snd.snd.snd.snd.snd.snd.snd.snd.snd.fst) (v1.snd.snd.snd.snd.snd.snd.snd.snd.snd.snd.snd.snd.snd.snd.snd.snd.snd.snd.snd.snd.snd.fst) (v1.snd.snd.snd.snd.snd.snd.snd.snd.snd.snd.snd.snd.snd.snd.snd.snd.snd.snd.snd.snd.snd.snd.fst) (v1.snd.snd.snd.snd.snd.snd.snd.snd.snd.snd.snd.snd.snd.snd.snd.snd.snd.snd.snd.snd.snd.snd.snd)).run R := by
  unfold g_model_bare g_model_empty
  refine W.bindI (W.bindI ?_)
  iterate 7 (refine W.iteR ?_; refine W.bindI ?_)
  refine W.iteR ?_
  refine W.retI ?_
  refine W.retE h ?_
  obtain ⟨ub, um, uwin, upads, uw, usa, usb, upad⟩ := u
  dsimp only
  simp only [restB, nil_len]
  cases ub <;> cases um <;> cases uwin <;> cases upads <;> cases uw <;> cases usa <;> cases usb <;> cases upad <;> simp only [cond_true, cond_false] <;> simp <;> ac_rfl
theorem restB_eq (o : Opr) (h : ¬ (o.kind < 1 ∨ 8 < o.kind)) : restB o (usesOf o.kind) = decide o.spare := by
  obtain ⟨k, a, b, m, ⟨kh, kw, sh, sw, tp, lf, bt, rt⟩, wn, ws, bn, bs, sam, sas, sbm, sbs, zero, pad, lo, hi⟩ := o
  dsimp only at h ⊢
  rw [Bool.eq_iff_iff, decide_eq_true_eq]
  rcases kind_cases h with rfl | rfl | rfl | rfl | rfl | rfl | rfl | rfl <;> simp [restB, usesOf, Opr.spare, slides, weighs, scales, List.isEmpty_iff, List.length_eq_zero_iff, Win.mk.injEq] <;> (constructor <;> intro q <;> simp_all)
theorem g_model_makes_ok (o : Opr) (s : Shp) (hk : ¬ (o.kind < 1 ∨ 8 < o.kind)) (hs : s.ok) (hm : o.kind ≤ 2 → 1 ≤ o.m ∧ o.m ≤ 1024) {R : Int × Int × Int × Int × Int × Int → Prop}
    (h : R (if (o.mk1 s).2 ≠ 0 then (0, 0, 0, 0, 0, (o.mk1 s).2) else ((o.mk1 s).1.h, (o.mk1 s).1.w, (o.mk1 s).1.c, if reduces o.kind then o.len s else 0, o.labour s (o.mk1 s).1, 0))) :
    (g_model_makes o.kind o.a o.b o.m o.win.kh o.win.kw o.win.sh o.win.sw o.win.top o.win.left o.win.bottom o.win.right o.wn o.ws o.bn o.bs o.sam o.sas o.sbm o.sbs o.zero o.pad o.lo o.hi s.h s.w s.c).run R := by
  have hs' := hs
  unfold Shp.ok at hs'
  obtain ⟨p1, p2, p3, p4⟩ := prod3 hs'.1 hs'.2.1 hs'.2.2.1
  unfold g_model_makes
  refine W.bindI (g_model_of_ok _ hk (W.bindI (W.iteC (slides o.kind) rfl (fun h1 => ?_) fun h1 => ?_)))
  · -- a window
    have hk1 : o.kind ≠ 1 := by unfold slides at h1; omega
    refine W.bindI (g_window_Out_ok s o.win (W.iteC ((wout s o.win).2.2 ≠ 0) (by first | (simp; done) | (simp; rfl)) (fun he => W.retI (W.retE h ?_)) fun he => W.retI ?_))
    · have e : (o.mk1 s).2 ≠ 0 := by unfold Opr.mk1; rw [if_neg hk1, if_pos h1, if_pos he]; exact he
      rw [if_pos e]
      unfold Opr.mk1; rw [if_neg hk1, if_pos h1, if_pos he]
    · have he' : (wout s o.win).2.2 = 0 := by simpa using he
      have hd := (wout_win he').2
      have hd2 := hd.dims
      unfold Win.dims at hd2
      have q := mul_bd (A := 32) (B := 32) hd2.1.1 hd2.1.2 hd2.2.1 hd2.2.2
      have q2 := mul_bd (A := 1024) (B := 1024) q.1 (by omega) (by omega : 0 ≤ s.c) (by omega)
      have hmk : o.mk1 s = (⟨(wout s o.win).1, (wout s o.win).2.1, if o.kind = 2 then o.m else s.c⟩, 0) := by unfold Opr.mk1; rw [if_neg hk1, if_pos h1, if_neg he]
      rw [hmk] at h
      dsimp only at h
      rw [if_neg (by simp)] at h
      have hwo : (0 ≤ (wout s o.win).1 ∧ (wout s o.win).1 ≤ 2000) ∧ (0 ≤ (wout s o.win).2.1 ∧ (wout s o.win).2.1 ≤ 2000) := by
        have hd3 := hd
        unfold Win.ok sideOK at hd3
        unfold wout
        rw [if_neg (by simpa using hs), if_neg (by simpa using hd)]
        have b1 := places_bd (n := s.h + o.win.top + o.win.bottom) (k := o.win.kh) (s := o.win.sh) (by omega) (by omega)
        have b2 := places_bd (n := s.w + o.win.left + o.win.right) (k := o.win.kw) (s := o.win.sw) (by omega) (by omega)
        split
        · simp
        · dsimp only; omega
      have w1 := mul_bd (A := 2000) (B := 2000) hwo.1.1 hwo.1.2 hwo.2.1 hwo.2.2
      have w2 : ∀ c : Int, 0 ≤ c → c ≤ 1024 → 0 ≤ (wout s o.win).1 * (wout s o.win).2.1 * c ∧ (wout s o.win).1 * (wout s o.win).2.1 * c ≤ 4096000000 := fun c h0 h1 => by
        have := mul_bd (A := 4000000) (B := 1024) w1.1 (by omega) h0 h1; omega
      have w3 : ∀ c t : Int, 0 ≤ c → c ≤ 1024 → 0 ≤ t → t ≤ 1048576 → 0 ≤ (wout s o.win).1 * (wout s o.win).2.1 * c * t ∧ (wout s o.win).1 * (wout s o.win).2.1 * c * t ≤ 4294967296000000 := fun c t h0 h1 h2 h3 => by
        have := mul_bd (A := 4096000000) (B := 1048576) (w2 c h0 h1).1 (w2 c h0 h1).2 h2 h3; omega
      rw [wrap64_in (x := o.win.kh * o.win.kw) (by omega) (by omega)]
      refine W.bindI (W.iteF (by simp [hk1]) (W.iteC (o.kind = 2) rfl (fun h2 => W.retI (W.retE h ?_)) fun h2 => W.bindI ?_))
      · have e1 := w2 o.m (by omega) (by omega)
        have e2 := w3 o.m (o.win.kh * o.win.kw * s.c) (by omega) (by omega) q2.1 (by omega)
        dsimp only
        rw [wrap64_in (x := o.win.kh * o.win.kw * s.c) (by omega) (by omega), wrap64_in (x := (wout s o.win).1 * (wout s o.win).2.1) (by omega) (by omega), wrap64_in (x := (wout s o.win).1 * (wout s o.win).2.1 * o.m) (by omega) (by omega), wrap64_in (by omega) (by omega)]
        have hr : reduces o.kind := by unfold reduces; omega
        rw [if_pos h2, if_pos hr]
        simp only [Opr.labour, Opr.len]
        rw [if_pos hr, if_neg hk1, if_pos h2]
      · have e1 := w2 s.c (by omega) (by omega)
        have e2 := w3 s.c (o.win.kh * o.win.kw) (by omega) (by omega) q.1 (by omega)
        rw [if_neg h2] at h
        have key : ∀ b : Bool, b = decide (o.kind = 3 ∨ o.kind = 4) → (W.ite b (W.ret (o.win.kh * o.win.kw, o.win.kh * o.win.kw, (wout s o.win).1, (wout s o.win).2.1, s.c)) (W.ret (o.win.kh * o.win.kw, 0, (wout s o.win).1, (wout s o.win).2.1, s.c))).run fun v4 =>
            (W.ret (v4.snd.snd.fst, v4.snd.snd.snd.fst, v4.snd.snd.snd.snd, v4.snd.fst, IntKind.i64.wrap (IntKind.i64.wrap (IntKind.i64.wrap (v4.snd.snd.fst * v4.snd.snd.snd.fst) * v4.snd.snd.snd.snd) * v4.fst), (0 : Int))).run R := fun b hb => by
          have hlab : o.labour s ⟨(wout s o.win).1, (wout s o.win).2.1, s.c⟩ = (wout s o.win).1 * (wout s o.win).2.1 * s.c * (o.win.kh * o.win.kw) := by
            unfold Opr.labour Opr.len
            dsimp only
            by_cases hr : reduces o.kind
            · rw [if_pos hr, if_neg hk1, if_neg h2]
            · rw [if_neg hr, if_pos (by unfold reduces at hr; unfold slides at h1; omega)]
              rw [Int.mul_assoc ((wout s o.win).1 * (wout s o.win).2.1 * s.c)]
          have hlen : o.len s = o.win.kh * o.win.kw := by unfold Opr.len; rw [if_neg hk1, if_neg h2]
          rw [hlab, hlen] at h
          refine W.iteC _ hb (fun h3 => W.retI (W.retE h ?_)) fun h3 => W.retI (W.retE h ?_)
          · rw [if_pos (by unfold reduces; omega)]
            dsimp only
            rw [wrap64_in (x := (wout s o.win).1 * (wout s o.win).2.1) (by omega) (by omega), wrap64_in (x := (wout s o.win).1 * (wout s o.win).2.1 * s.c) (by omega) (by omega), wrap64_in (by omega) (by omega)]
          · rw [if_neg (by unfold reduces; unfold slides at h1; omega)]
            dsimp only
            rw [wrap64_in (x := (wout s o.win).1 * (wout s o.win).2.1) (by omega) (by omega), wrap64_in (x := (wout s o.win).1 * (wout s o.win).2.1 * s.c) (by omega) (by omega), wrap64_in (by omega) (by omega)]
        refine (W.iteC (o.kind = 3) rfl (fun h3 => W.retI (key (o.kind == 3) (by simp [h3]))) fun h3 => W.retI (key (o.kind == 4) (by rw [Bool.eq_iff_iff]; simp [h3])))
  · refine W.retI (W.bindI (W.iteC (o.kind = 1) rfl (fun h2 => W.retI ?_) fun h2 => W.iteF (by simp; unfold slides at h1; omega) (W.bindI (W.iteF (by simp; unfold slides at h1; omega) (W.retI (W.iteF (by simp; unfold slides at h1; omega) (W.retI ?_)))))))
    · have hmk : o.mk1 s = (⟨1, 1, o.m⟩, 0) := by unfold Opr.mk1; rw [if_pos h2]
      have hr : reduces o.kind := by unfold reduces; omega
      have hm := hm (by omega)
      have q := mul_bd (A := 1024) (B := 16384) (by omega : 0 ≤ o.m) hm.2 p3 hs'.2.2.2
      have hlen : o.len s = s.h * s.w * s.c := by unfold Opr.len; rw [if_pos h2]
      have hlab : o.labour s ⟨1, 1, o.m⟩ = o.m * (s.h * s.w * s.c) := by
        unfold Opr.labour; rw [if_pos hr, hlen]; simp only [Int.one_mul]
      rw [hmk] at h
      dsimp only at h
      rw [if_neg (by simp : ¬ ((0 : Int) ≠ 0)), if_pos hr, hlen, hlab] at h
      refine W.retE h ?_
      dsimp only
      rw [wrap64_in (x := s.h * s.w) (by omega) (by omega), wrap64_in (x := s.h * s.w * s.c) (by omega) (by omega), wrap64_in (x := (1 : Int) * 1) (by omega) (by omega)]
      simp only [Int.one_mul]
      rw [wrap64_in (x := o.m) (by omega) (by omega), wrap64_in (by omega) (by omega)]
    · have hmk : o.mk1 s = (s, 0) := by unfold Opr.mk1; rw [if_neg h2, if_neg h1]
      have hr : ¬ reduces o.kind := by unfold reduces; unfold slides at h1; omega
      have hlab : o.labour s s = s.h * s.w * s.c := by
        unfold Opr.labour; rw [if_neg hr, if_neg (by unfold slides at h1; omega)]
      rw [hmk] at h
      dsimp only at h
      rw [if_neg (by simp : ¬ ((0 : Int) ≠ 0)), if_neg hr, hlab] at h
      refine W.retE h ?_
      dsimp only
      rw [wrap64_in (x := s.h * s.w) (by omega) (by omega), wrap64_in (x := s.h * s.w * s.c) (by omega) (by omega), Int.mul_one, wrap64_in (by omega) (by omega)]
theorem g_fixq_Valid_ok (a b : Int) {R : Bool → Prop} (h : R (decide (scaleOK a b))) : (g_fixq_Valid a b).run R := by
  unfold g_fixq_Valid
  exact W.retE h (by rw [Bool.eq_iff_iff, decide_eq_true_eq]; simp [scaleOK, and_assoc]; omega)
theorem W.assoc {α β γ : Type} {x : W α} {f : α → W β} {g : β → W γ} {R : γ → Prop} (h : (W.bind (W.bind x f) g).run R) : (W.bind x fun a => W.bind (f a) g).run R := h
def intRows (l : List Int) : Rws := l.map fun n => [I n]
theorem ri_ints (l : List Int) (i : Nat) : ri (intRows l) i 0 = l.getD i 0 := by
  simp only [ri, cellOf, intRows, List.getD_eq_getElem?_getD, List.getElem?_map]
  cases l[i]? <;> rfl
theorem g_model_byte8_ok (nl : Bool) (l : List Int) (hl : l.length ≤ 70368744175616) {R : Bool → Prop} (h : R (decide (∀ n ∈ l, val n))) : (g_model_byte8 nl (intRows l)).run R := by
  have hlen : (intRows l).length = l.length := by simp [intRows]
  unfold g_model_byte8
  refine W.bindI (W.loop_inv (fun v : Int => ∃ k : Nat, v = k ∧ k ≤ l.length ∧ ∀ n ∈ l.take k, val n) (fun v => l.length - v.toNat) ?_ ⟨0, rfl, Nat.zero_le _, by simp⟩)
  rintro _ ⟨k, rfl, hk, hv⟩
  rw [hlen]
  refine W.iteC (k < l.length) (by rw [decide_eq_decide]; omega) (fun hlt => W.needI (by omega) ?_) fun hge => ?_
  · rw [Int.toNat_natCast, ri_ints]
    have hg : l.getD k 0 = l[k] := by rw [List.getD_eq_getElem?_getD, List.getElem?_eq_getElem hlt]; rfl
    rw [hg]
    refine W.iteC (¬ val l[k]) (by rw [Bool.eq_iff_iff, decide_eq_true_eq]; simp [val]; omega) (fun h1 => W.retI (W.retE h ?_)) fun h1 => W.retI ?_
    · have : ¬ ∀ n ∈ l, val n := fun q => h1 (q _ (List.getElem_mem hlt))
      simp [this]
    · rw [wrap64_in (by omega) (by omega)]
      refine ⟨⟨k + 1, by omega, hlt, fun n hn => ?_⟩, by omega⟩
      rw [List.take_succ_eq_append_getElem hlt] at hn
      rcases List.mem_append.1 hn with hn | hn
      · exact hv n hn
      · simp at hn; subst hn; exact Classical.not_not.1 h1
  · refine W.retI (W.retE h ?_)
    have e : k = l.length := by omega
    subst e
    rw [List.take_length] at hv
    exact (decide_eq_true hv).symm
theorem g_model_op_ok (o : Opr) (S : List Shp) (nl : Bool) (hS : ∀ s ∈ S, s.ok) (hw : o.ws.length ≤ 70368744175616) (hb : o.bs.length ≤ 35184372087808) {R : Int × Int × Int × Int × Int → Prop}
    (h : R (if (o.one S).2 ≠ 0 then (0, 0, 0, 0, (o.one S).2) else ((o.one S).1.h, (o.one S).1.w, (o.one S).1.c, o.labour (S.getD o.a.toNat default) (o.one S).1, 0))) :
    (g_model_op o.kind o.a o.b o.m o.win.kh o.win.kw o.win.sh o.win.sw o.win.top o.win.left o.win.bottom o.win.right o.wn o.ws o.bn o.bs o.sam o.sas o.sbm o.sbs o.zero o.pad o.lo o.hi nl (S.map Shp.enc)).run R := by
  have fail : ∀ e : Int, o.one S = (⟨0, 0, 0⟩, e) → e ≠ 0 → R (0, 0, 0, 0, e) := fun e h1 h2 => by rw [h1] at h; dsimp only at h; rwa [if_pos h2] at h
  unfold g_model_op
  refine W.bindI ?_
  by_cases h1 : o.kind < 1 ∨ 8 < o.kind
  · exact g_model_of_bad _ h1 (W.iteT rfl (W.retI (fail 81 (by simp only [Opr.one]; rw [if_pos h1]) (by decide))))
  refine g_model_of_ok _ h1 (W.iteF rfl ?_)
  rw [List.length_map]
  refine W.iteC ((o.a < 0 ∨ S.length ≤ o.a) ∨ o.kind = 6 ∧ (o.b < 0 ∨ S.length ≤ o.b)) (by simp [usesOf]) (fun h2 => W.retI (fail 82 (by simp only [Opr.one]; rw [if_neg h1, if_pos h2]) (by decide))) fun h2 => ?_
  refine W.assoc (W.bindI (bare_empty_ok o (usesOf o.kind) ?_))
  rw [restB_eq o h1]
  refine W.iteC (¬ o.spare) (by simp) (fun h3 => W.retI (fail 83 (by simp only [Opr.one]; rw [if_neg h1, if_neg h2, if_pos h3]) (by decide))) fun h3 => ?_
  refine W.iteC (o.kind ≤ 2 ∧ (o.m < 1 ∨ 1024 < o.m)) (by simp [usesOf]) (fun h4 => W.retI (fail 2 (by simp only [Opr.one]; rw [if_neg h1, if_neg h2, if_neg h3, if_pos h4]) (by decide))) fun h4 => ?_
  refine W.needI (by omega) ?_
  have hsa : (S.getD o.a.toNat default).ok := hS _ (getD_mem (by omega))
  rw [ri_shp0, ri_shp1, ri_shp2]
  refine W.bindI (g_model_makes_ok o _ h1 hsa (by omega) ?_)
  by_cases h5 : (o.mk1 (S.getD o.a.toNat default)).2 ≠ 0
  · rw [if_pos h5]
    exact W.iteT (by simpa using h5) (W.retI (fail _ (by simp only [Opr.one]; rw [if_neg h1, if_neg h2, if_neg h3, if_neg h4, if_pos h5]) h5))
  rw [if_neg h5]
  have h5' : (o.mk1 (S.getD o.a.toNat default)).2 = 0 := Classical.not_not.1 h5
  have hd := mk1_dims h5'
  refine W.iteF rfl ?_
  dsimp only
  refine W.bindI (g_shape_Elems_ok _ _ _ ?_)
  have hel : ∀ b : Int × Int, b = (if Shp.ok ⟨(o.mk1 (S.getD o.a.toNat default)).1.h, (o.mk1 (S.getD o.a.toNat default)).1.w, (o.mk1 (S.getD o.a.toNat default)).1.c⟩ then ((o.mk1 (S.getD o.a.toNat default)).1.h * (o.mk1 (S.getD o.a.toNat default)).1.w * (o.mk1 (S.getD o.a.toNat default)).1.c, 0) else (0, 50)) →
      (b.2 != 0) = decide (¬ (o.mk1 (S.getD o.a.toNat default)).1.ok) := fun b hb => by
    subst hb
    generalize o.mk1 (S.getD o.a.toNat default) = t
    obtain ⟨⟨x, y, z⟩, e⟩ := t
    dsimp only
    split <;> simp_all
  generalize hq : (if Shp.ok ⟨(o.mk1 (S.getD o.a.toNat default)).1.h, (o.mk1 (S.getD o.a.toNat default)).1.w, (o.mk1 (S.getD o.a.toNat default)).1.c⟩ then ((o.mk1 (S.getD o.a.toNat default)).1.h * (o.mk1 (S.getD o.a.toNat default)).1.w * (o.mk1 (S.getD o.a.toNat default)).1.c, (0 : Int)) else (0, 50)) = q
  rw [hel q hq.symm]
  refine W.needI (fun e => by have : o.kind = 6 := by simpa [usesOf] using e.1
                              omega) ?_
  rw [ri_shp0, ri_shp1, ri_shp2]
  refine W.iteC ((o.kind = 6 ∧ S.getD o.b.toNat default ≠ S.getD o.a.toNat default) ∨ ¬ (o.mk1 (S.getD o.a.toNat default)).1.ok) ?_
    (fun h6 => W.retI (fail 50 (by simp only [Opr.one]; rw [if_neg h1, if_neg h2, if_neg h3, if_neg h4, if_neg h5, if_pos h6]) (by decide))) fun h6 => ?_
  · rw [Bool.eq_iff_iff, decide_eq_true_eq]
    generalize S.getD o.b.toNat default = x
    generalize o.mk1 (S.getD o.a.toNat default) = t
    generalize S.getD o.a.toNat default = y
    obtain ⟨x1, x2, x3⟩ := x
    obtain ⟨y1, y2, y3⟩ := y
    by_cases hk6 : o.kind = 6 <;> simp [usesOf, hk6]
    by_cases ht : t.1.ok <;> simp [ht]
    omega
  have hout : (o.mk1 (S.getD o.a.toNat default)).1.ok := by
    rw [not_or] at h6; exact Classical.not_not.1 h6.2
  have hdl : reduces o.kind → o.kind ≠ 1 → o.win.dims := fun hr hk => hd (by unfold reduces at hr; unfold slides; omega)
  have hlists : o.lists (S.getD o.a.toNat default) = ((if weighs o.kind then (o.mk1 (S.getD o.a.toNat default)).1.c else 0) * (if reduces o.kind then o.len (S.getD o.a.toNat default) else 0), (if weighs o.kind then (o.mk1 (S.getD o.a.toNat default)).1.c else 0)) := by
    unfold Opr.lists
    by_cases k12 : o.kind = 1 ∨ o.kind = 2
    · have hc : (o.mk1 (S.getD o.a.toNat default)).1.c = o.m := by
        unfold Opr.mk1
        rcases k12 with k | k
        · rw [if_pos k]
        · rw [if_neg (by omega), if_pos (by unfold slides; omega)]
          unfold Opr.mk1 at h5'
          rw [if_neg (by omega), if_pos (by unfold slides; omega)] at h5'
          split at h5'
          · rename_i q; exact absurd h5' q
          · rename_i q; rw [if_neg q, if_pos k]
      rw [if_pos k12, if_pos (by unfold weighs; omega), if_pos (by unfold reduces; omega), hc]
    · rw [if_neg k12]
      by_cases k3 : o.kind = 3
      · have hc : (o.mk1 (S.getD o.a.toNat default)).1.c = (S.getD o.a.toNat default).c := by
          unfold Opr.mk1
          rw [if_neg (by omega), if_pos (by unfold slides; omega)]
          unfold Opr.mk1 at h5'
          rw [if_neg (by omega), if_pos (by unfold slides; omega)] at h5'
          split at h5'
          · rename_i q; exact absurd h5' q
          · rename_i q; rw [if_neg q, if_neg (by omega)]
        rw [if_pos k3, if_pos (by unfold weighs; omega), if_pos (by unfold reduces; omega), hc]
      · rw [if_neg k3, if_neg (by unfold weighs; omega), Int.zero_mul]
  refine W.bindI (W.iteR ?_)
  have hrows : (bif (usesOf o.kind).weights then (o.mk1 (S.getD o.a.toNat default)).1.c else 0) = (if weighs o.kind then (o.mk1 (S.getD o.a.toNat default)).1.c else 0) := by
    unfold usesOf; dsimp only; by_cases hh : weighs o.kind <;> simp [hh]
  rw [hrows]
  refine W.iteC (reduces o.kind ∧ 512 < o.len (S.getD o.a.toNat default)) ?_
    (fun h7 => W.retI (fail 84 (by simp only [Opr.one]; rw [if_neg h1, if_neg h2, if_neg h3, if_neg h4, if_neg h5, if_neg h6, if_pos h7]) (by decide))) fun h7 => ?_
  · rw [decide_eq_decide]
    by_cases hr : reduces o.kind <;> simp [hr]
  have hlb : 0 ≤ (if reduces o.kind then o.len (S.getD o.a.toNat default) else 0) ∧ (if reduces o.kind then o.len (S.getD o.a.toNat default) else 0) ≤ 512 := by
    by_cases hr : reduces o.kind
    · rw [if_pos hr]
      have := len_bd o _ hsa (hdl hr)
      have h7' : ¬ 512 < o.len (S.getD o.a.toNat default) := fun q => h7 ⟨hr, q⟩
      omega
    · rw [if_neg hr]; omega
  have hrb : 0 ≤ (if weighs o.kind then (o.mk1 (S.getD o.a.toNat default)).1.c else 0) ∧ (if weighs o.kind then (o.mk1 (S.getD o.a.toNat default)).1.c else 0) ≤ 1024 := by
    unfold Shp.ok at hout
    split <;> omega
  have hm := mul_bd (A := 1024) (B := 512) hrb.1 hrb.2 hlb.1 hlb.2
  rw [wrap64_in (by omega) (by omega)]
  refine W.iteC ((o.ws.length : Int) ≠ (o.lists (S.getD o.a.toNat default)).1 ∨ (o.bs.length : Int) ≠ (o.lists (S.getD o.a.toNat default)).2) (by rw [hlists]; first | (simp; done) | (simp; rfl))
    (fun h8 => W.retI (fail 70 (by simp only [Opr.one]; rw [if_neg h1, if_neg h2, if_neg h3, if_neg h4, if_neg h5, if_neg h6, if_neg h7, if_pos h8]) (by decide))) fun h8 => ?_
  have key9 : ∀ {Q : Bool → Prop}, Q (decide (scales o.kind ∧ ¬ scaleOK o.sam o.sas ∨ o.kind = 6 ∧ ¬ scaleOK o.sbm o.sbs)) →
      (W.ite (usesOf o.kind).sa (W.bind (g_fixq_Valid o.sam o.sas) fun v6 => W.ite (!v6) (W.ret true) (W.ite (usesOf o.kind).sb (W.bind (g_fixq_Valid o.sbm o.sbs) fun v7 => W.ret !v7) (W.ret false)))
        (W.ite (usesOf o.kind).sb (W.bind (g_fixq_Valid o.sbm o.sbs) fun v8 => W.ret !v8) (W.ret false))).run Q := fun {Q} hq => by
    have tail : ∀ {Q : Bool → Prop}, Q (decide (o.kind = 6 ∧ ¬ scaleOK o.sbm o.sbs)) → (W.ite (usesOf o.kind).sb (W.bind (g_fixq_Valid o.sbm o.sbs) fun v11 => W.ret !v11) (W.ret false)).run Q := fun {Q} hq =>
      W.iteC (o.kind = 6) rfl (fun q => W.bindI (g_fixq_Valid_ok _ _ (W.retE hq (by simp [q])))) fun q => W.retE hq (by simp [q])
    refine W.iteC (scales o.kind) rfl (fun q1 => W.bindI (g_fixq_Valid_ok _ _ (W.iteC (¬ scaleOK o.sam o.sas) (by simp) (fun q2 => W.retE hq (by simp [q1, q2])) fun q2 => tail ?_))) fun q1 => tail ?_
    · simpa [q1, q2] using hq
    · simpa [q1] using hq
  refine W.bindI (key9 ?_)
  refine W.iteC _ rfl (fun h9 => W.retI (fail 20 (by simp only [Opr.one]; rw [if_neg h1, if_neg h2, if_neg h3, if_neg h4, if_neg h5, if_neg h6, if_neg h7, if_neg h8, if_pos h9]) (by decide))) fun h9 => ?_
  refine W.bindI (g_model_byte8_ok false [o.lo, o.hi, o.zero, o.pad] (by simp) ?_)
  refine W.iteC (¬ val o.lo ∨ ¬ val o.hi ∨ o.hi < o.lo ∨ ¬ val o.zero ∨ ¬ val o.pad) (by rw [Bool.eq_iff_iff, decide_eq_true_eq]; by_cases a : val o.lo <;> by_cases b : val o.hi <;> by_cases c : val o.zero <;> by_cases d : val o.pad <;> simp [a, b, c, d])
    (fun h10 => W.retI (fail 85 (by simp only [Opr.one]; rw [if_neg h1, if_neg h2, if_neg h3, if_neg h4, if_neg h5, if_neg h6, if_neg h7, if_neg h8, if_neg h9, if_pos h10]) (by decide))) fun h10 => ?_
  have hone : o.one S = ((o.mk1 (S.getD o.a.toNat default)).1, 0) := by
    simp only [Opr.one]; rw [if_neg h1, if_neg h2, if_neg h3, if_neg h4, if_neg h5, if_neg h6, if_neg h7, if_neg h8, if_neg h9, if_neg h10]
  rw [hone] at h
  dsimp only at h
  rw [if_neg (by simp : ¬ ((0 : Int) ≠ 0))] at h
  exact W.retI h
theorem g_model_op_row (l : Rws) (k : Nat) (S : List Shp) (nl : Bool) (hS : ∀ s ∈ S, s.ok) (hw : (Opr.of (l.getD k [])).ws.length ≤ 70368744175616) (hb : (Opr.of (l.getD k [])).bs.length ≤ 35184372087808) {R : Int × Int × Int × Int × Int → Prop}
    (h : R (if ((Opr.of (l.getD k [])).one S).2 ≠ 0 then (0, 0, 0, 0, ((Opr.of (l.getD k [])).one S).2) else (((Opr.of (l.getD k [])).one S).1.h, ((Opr.of (l.getD k [])).one S).1.w, ((Opr.of (l.getD k [])).one S).1.c, (Opr.of (l.getD k [])).labour (S.getD (Opr.of (l.getD k [])).a.toNat default) ((Opr.of (l.getD k [])).one S).1, 0))) :
    (g_model_op (ri l k 0) (ri l k 1) (ri l k 2) (ri l k 3) (ri l k 4) (ri l k 5) (ri l k 6) (ri l k 7) (ri l k 8) (ri l k 9) (ri l k 10) (ri l k 11) (rn l k 12) (rr l k 12) (rn l k 13) (rr l k 13) (ri l k 14) (ri l k 15) (ri l k 16) (ri l k 17) (ri l k 18) (ri l k 19) (ri l k 20) (ri l k 21) nl (S.map Shp.enc)).run R :=
  by have q := g_model_op_ok (R := R) (Opr.of (l.getD k [])) S nl hS hw hb h
     refine (congrArg (fun x : W _ => x.run R) ?_).mp q
     congr 1
theorem g_model_whole_ok (s : Shp) (lo hi : Int) (nl : Bool) (l : Rws) (out : Int) (hl : l.length ≤ 676622540150) (hsh : short l) {R : Int × Int × Int × Int × Bool × Rws → Prop} (h : R (look8 s lo hi (oprs l) out).tup) :
    (g_model_whole s.h s.w s.c lo hi nl l out).run R := by
  have hlen : (oprs l).length = l.length := by simp [oprs]
  unfold g_model_whole
  unfold look8 at h
  rw [hlen] at h
  refine W.bindI (g_shape_Elems_ok _ _ _ (W.iteC (¬ s.ok) (by split <;> simp_all) (fun h1 => ?_) fun h1 => ?_))
  · rw [if_neg h1]
    rw [if_pos h1] at h
    exact W.retE h rfl
  rw [if_neg h1] at h
  refine W.bindI (g_model_byte8_ok false [lo, hi] (by simp) (W.iteC (¬ val lo ∨ ¬ val hi ∨ hi < lo) ?_ (fun h2 => ?_) fun h2 => ?_))
  · rw [Bool.eq_iff_iff, decide_eq_true_eq]; by_cases a : val lo <;> by_cases b : val hi <;> simp [a, b]
  · rw [if_pos h2] at h; exact W.retE h rfl
  rw [if_neg h2] at h
  refine W.iteC (64 < l.length) (by rw [decide_eq_decide]; omega) (fun h3 => ?_) fun h3 => ?_
  · rw [if_pos h3] at h; exact W.retE h rfl
  rw [if_neg h3] at h
  refine W.iteC (out < 0 ∨ l.length < out) (by rw [Bool.decide_or]) (fun h4 => ?_) fun h4 => ?_
  · rw [if_pos h4] at h; exact W.retE h rfl
  rw [if_neg h4] at h
  refine W.bindI (W.loop_inv (fun v : Int × Int × Rws => ∃ (k : Nat) (S : List Shp), v.2.1 = k ∧ k ≤ l.length ∧ v.2.2 = S.map Shp.enc ∧ S.length = k + 1 ∧ (∀ s ∈ S, s.ok) ∧ 0 ≤ v.1 ∧ v.1 ≤ 131072 ∧ R (walk8 ((oprs l).drop k) k v.1 S).tup)
    (fun v => l.length - v.2.1.toNat) ?_ ⟨0, [s], rfl, Nat.zero_le _, rfl, rfl, by simpa using h1, by dsimp only; omega, by dsimp only; omega, h⟩)
  rintro ⟨w, i, rows⟩ ⟨k, S, rfl, hk, rfl, hSl, hS, hw0, hw1, hR⟩
  dsimp only at hw0 hw1 hR ⊢
  refine W.iteC (k < l.length) (by rw [decide_eq_decide]; omega) (fun hlt => W.needI (by omega) ?_) fun hge => ?_
  · rw [Int.toNat_natCast, wrap64_in (x := (k : Int) + 1) (by omega) (by omega)]
    have hmem : l.getD k [] ∈ l := by rw [List.getD_eq_getElem?_getD, List.getElem?_eq_getElem hlt]; exact List.getElem_mem hlt
    obtain ⟨s1, s2⟩ := hsh _ hmem
    rw [drop_opr l k hlt] at hR
    refine W.bindI (g_model_op_row l k S false hS s1 s2 ?_)
    unfold walk8 at hR
    by_cases h5 : ((Opr.of (l.getD k [])).one S).2 ≠ 0
    · rw [if_pos h5] at hR ⊢
      dsimp only
      rw [Int.add_zero, wrap64_in (by omega) (by omega)]
      refine W.bindI (W.iteF (by simp [h5, -List.getD_eq_getElem?_getD]) (W.retI (W.iteT (by simp [h5, -List.getD_eq_getElem?_getD]) (W.retI (W.retE hR ?_)))))
      simp only [Ans8.tup]
      simp [h5, -List.getD_eq_getElem?_getD]
    · rw [if_neg h5] at hR ⊢
      have h5' : ((Opr.of (l.getD k [])).one S).2 = 0 := Classical.not_not.1 h5
      obtain ⟨q1, q2, q3, q4⟩ := one_ok h5'
      have hsa := hS _ (getD_mem (S := S) (i := (Opr.of (l.getD k [])).a.toNat) (by omega))
      have bd := labour_bd (Opr.of (l.getD k [])) _ _ hsa q2 q3
      dsimp only
      rw [wrap64_in (by omega) (by omega)]
      refine W.bindI (W.iteC (131072 < w + (Opr.of (l.getD k [])).labour (S.getD (Opr.of (l.getD k [])).a.toNat default) ((Opr.of (l.getD k [])).one S).1) (by simp) (fun h6 => W.retI (W.iteT rfl (W.retI ?_))) fun h6 => W.retI (W.iteF rfl ?_))
      · rw [if_pos h6] at hR
        exact W.retE hR rfl
      · rw [if_neg h6] at hR
        rw [List.length_map]
        refine W.needI (by omega) (W.retI ⟨⟨k + 1, S ++ [((Opr.of (l.getD k [])).one S).1], rfl, hlt, by simp [Shp.enc], by simp [hSl], ?_, by dsimp only; omega, by dsimp only; omega, ?_⟩, ?_⟩)
        · intro x hx
          rcases List.mem_append.1 hx with hx | hx
          · exact hS x hx
          · simp at hx; subst hx; exact q2
        · simpa using hR
        · dsimp only; omega
  · have e : k = l.length := by omega
    subst e
    rw [List.drop_eq_nil_of_le (by omega)] at hR
    exact W.retI (W.retE hR (by simp [walk8, Ans8.tup]))
theorem g_model_Shapes_ok (s : Shp) (lo hi : Int) (nl : Bool) (l : Rws) (out : Int) (hl : l.length ≤ 676622540150) (hsh : short l) {R : Int × Int × Int × Bool × Rws → Prop} (h : R (look8 s lo hi (oprs l) out).tup.2) : (g_model_Shapes s.h s.w s.c lo hi nl l out).run R := by
  unfold g_model_Shapes
  exact W.bindI (g_model_whole_ok s lo hi nl l out hl hsh (W.retI h))
theorem g_model_Check_ok (s : Shp) (lo hi : Int) (nl : Bool) (l : Rws) (out : Int) (hl : l.length ≤ 676622540150) (hsh : short l) {R : Int × Int × Int → Prop} (h : R ((look8 s lo hi (oprs l) out).err, (look8 s lo hi (oprs l) out).op, 0)) : (g_model_Check s.h s.w s.c lo hi nl l out).run R := by
  unfold g_model_Check
  exact W.bindI (g_model_whole_ok s lo hi nl l out hl hsh (W.retI h))
theorem g_model_Check_v (a b c : Int) (lo hi : Int) (nl : Bool) (l : Rws) (out : Int) (hl : l.length ≤ 676622540150) (hsh : short l) {R : Int × Int × Int → Prop} (h : R ((look8 ⟨a, b, c⟩ lo hi (oprs l) out).err, (look8 ⟨a, b, c⟩ lo hi (oprs l) out).op, 0)) : (g_model_Check a b c lo hi nl l out).run R := g_model_Check_ok ⟨a, b, c⟩ lo hi nl l out hl hsh h
theorem g_model_Reduces_ok (k : Int) {R : Bool → Prop} (h : R (decide (reduces k))) : (g_model_Reduces k).run R := by
  unfold g_model_Reduces
  have e : ∀ b : Bool, b = decide (reduces k) → (W.ite b (W.ret true) (W.ret false)).run R := fun b hb => by
    subst hb; exact W.iteC _ rfl (fun q => W.retE h (by simp [q])) fun q => W.retE h (by simp [q])
  refine W.bindI (W.iteC (k = 1) rfl (fun h1 => W.retI (e _ (by simp [h1, reduces]))) fun h1 => W.iteC (k = 2) rfl (fun h2 => W.retI (e _ (by simp [h2, reduces]))) fun h2 => W.iteC (k = 3) rfl (fun h3 => W.retI (e _ (by simp [h3, reduces]))) fun h3 => W.retI (e _ ?_))
  rw [Bool.eq_iff_iff, decide_eq_true_eq]
  unfold reduces
  simp; omega
/-! ### Comparing -/
def Opr.flags (o : Opr) (a b : Bool) : Opr := { o with wn := a, bn := b }
theorem one_flags (o : Opr) (a b : Bool) (S : List Shp) : (o.flags a b).one S = o.one S := rfl
theorem labour_flags (o : Opr) (a b : Bool) (s t : Shp) : (o.flags a b).labour s t = o.labour s t := rfl
def sameOps : List Opr → List Opr → Prop
  | [], [] => True
  | o :: r, p :: q => (∃ a b, p = o.flags a b) ∧ sameOps r q
  | _, _ => False
theorem sameOps_len : ∀ {l m : List Opr}, sameOps l m → l.length = m.length
  | [], [], _ => rfl
  | _ :: _, _ :: _, h => by simp [sameOps_len h.2]
  | [], _ :: _, h => h.elim
  | _ :: _, [], h => h.elim
theorem sameOps_get : ∀ {l m : List Opr}, sameOps l m → ∀ {k : Nat} {o p : Opr}, l[k]? = some o → m[k]? = some p → ∃ a b, p = o.flags a b
  | _ :: _, _ :: _, h, 0, o, p, h1, h2 => by simp at h1 h2; subst h1 h2; exact h.1
  | _ :: _, _ :: _, h, k + 1, o, p, h1, h2 => sameOps_get h.2 (by simpa using h1) (by simpa using h2)
  | [], _, _, _, _, _, h1, _ => by simp at h1
  | _ :: _, [], h, _, _, _, _, _ => h.elim
theorem walk8_same : ∀ {l m : List Opr}, sameOps l m → ∀ i w S, walk8 m i w S = walk8 l i w S
  | [], [], _, i, w, S => rfl
  | o :: r, p :: q, h, i, w, S => by
    obtain ⟨⟨a, b, rfl⟩, h2⟩ := h
    simp only [walk8, one_flags, labour_flags]
    rw [walk8_same h2]; rfl
  | [], _ :: _, h, _, _, _ => h.elim
  | _ :: _, [], h, _, _, _ => h.elim
theorem look8_same {l m : List Opr} (h : sameOps l m) (s : Shp) (lo hi out : Int) : look8 s lo hi m out = look8 s lo hi l out := by
  unfold look8
  rw [sameOps_len h, walk8_same h]
deriving instance DecidableEq for Ans8
theorem walk8_facts : ∀ (l : List Opr) (i w : Int) (S : List Shp), ((walk8 l i w S).err = 0 → (walk8 l i w S).op = 0 ∧ (walk8 l i w S).S.length = S.length + l.length) ∧
    ((walk8 l i w S).err ≠ 0 → (walk8 l i w S).S = [] ∧ (walk8 l i w S).work = 0 ∧ i < (walk8 l i w S).op ∧ (walk8 l i w S).op ≤ i + l.length)
  | [], i, w, S => by simp [walk8]
  | o :: r, i, w, S => by
    unfold walk8
    split
    · rename_i h
      exact ⟨fun e => absurd e h, fun _ => ⟨rfl, rfl, by simp; omega, by simp; omega⟩⟩
    · split
      · exact ⟨fun e => by simp at e, fun _ => ⟨rfl, rfl, by simp; omega, by simp; omega⟩⟩
      · have := walk8_facts r (i + 1) (w + o.labour (S.getD o.a.toNat default) (o.one S).1) (S ++ [(o.one S).1])
        refine ⟨fun e => ?_, fun e => ?_⟩
        · have q := this.1 e
          refine ⟨q.1, ?_⟩
          rw [q.2]; simp; omega
        · have q := this.2 e
          refine ⟨q.1, q.2.1, by omega, ?_⟩
          have := q.2.2.2
          simp at this ⊢; omega
theorem step_ok {o : Opr} {S : List Shp} (hS : ∀ s ∈ S, s.ok) (h : ¬ (o.one S).2 ≠ 0) : 0 ≤ o.labour (S.getD o.a.toNat default) (o.one S).1 ∧ ∀ s ∈ S ++ [(o.one S).1], s.ok := by
  obtain ⟨h1, h2, h3, _⟩ := one_ok (Classical.not_not.1 h)
  refine ⟨(labour_bd o _ _ (hS _ (getD_mem (by omega))) h2 h3).1, fun s hs => ?_⟩
  rcases List.mem_append.1 hs with hs | hs
  · exact hS s hs
  · simp at hs; subst hs; exact h2
theorem walk8_mono : ∀ (l : List Opr) (i w : Int) (S : List Shp), (∀ s ∈ S, s.ok) → (walk8 l i w S).err = 0 → w ≤ (walk8 l i w S).work ∧ (walk8 l i w S).S.take S.length = S
  | [], i, w, S, _, _ => by simp [walk8]
  | o :: r, i, w, S, hS, he => by
    unfold walk8 at he ⊢
    split at he
    · rename_i h; exact absurd he h
    · rename_i h
      rw [if_neg h]
      split at he
      · simp at he
      · rename_i h2
        rw [if_neg h2]
        obtain ⟨q1, q2⟩ := step_ok hS h
        have := walk8_mono r _ _ _ q2 he
        refine ⟨by omega, ?_⟩
        have t := congrArg (List.take S.length) this.2
        rw [List.take_take, List.length_append] at t
        simpa using t
theorem look8_facts (s : Shp) (lo hi : Int) (l : List Opr) (out : Int) : ((look8 s lo hi l out).err = 0 → (look8 s lo hi l out).op = 0 ∧ (look8 s lo hi l out).S.length = l.length + 1) ∧
    ((look8 s lo hi l out).err ≠ 0 → (look8 s lo hi l out).S = [] ∧ (look8 s lo hi l out).work = 0 ∧ 0 ≤ (look8 s lo hi l out).op ∧ (look8 s lo hi l out).op ≤ l.length) := by
  unfold look8
  repeat' split
  all_goals try (exact ⟨fun e => by simp at e, fun _ => ⟨rfl, rfl, by simp, by simp⟩⟩)
  have := walk8_facts l 0 0 [s]
  refine ⟨fun e => ?_, fun e => ?_⟩
  · have q := this.1 e
    exact ⟨q.1, by rw [q.2]; simp; omega⟩
  · have q := this.2 e
    exact ⟨q.1, q.2.1, by omega, by have := q.2.2.2; omega⟩
theorem wrapU64_eq (x : Int) : IntKind.u64.wrap x = x % 18446744073709551616 := by
  simp [IntKind.wrap, IntKind.signed, IntKind.bits]
theorem wrapU64_in {x : Int} (h : 0 ≤ x) (h' : x < 18446744073709551616) : IntKind.u64.wrap x = x := by rw [wrapU64_eq]; omega
theorem one_at {o : Opr} {S : List Shp} (h : (o.one S).2 = 0) : (1 ≤ o.kind ∧ o.kind ≤ 8) ∧ (o.one S).1 = (o.mk1 (S.getD o.a.toNat default)).1 := by
  unfold Opr.one at h ⊢
  repeat' split at h
  all_goals try (exfalso; simp at h; done)
  · rename_i h5; exact absurd h h5
  · rename_i h1 h2 h3 h4 h5 h6 h7 h8 h9 h10
    rw [if_neg h1, if_neg h2, if_neg h3, if_neg h4, if_neg h5, if_neg h6, if_neg h7, if_neg h8, if_neg h9, if_neg h10]
    exact ⟨by omega, rfl⟩
theorem walk8_at : ∀ (l : List Opr) (i w : Int) (S : List Shp), (∀ s ∈ S, s.ok) → (walk8 l i w S).err = 0 → ∀ (j : Nat) (o : Opr), l[j]? = some o →
    (o.one ((walk8 l i w S).S.take (S.length + j))).2 = 0 ∧ (walk8 l i w S).S[S.length + j]? = some (o.one ((walk8 l i w S).S.take (S.length + j))).1
  | [], i, w, S, _, _, j, o, h => by simp at h
  | o :: r, i, w, S, hS, he, j, o', hj => by
    unfold walk8 at he ⊢
    by_cases h1 : (o.one S).2 ≠ 0
    · rw [if_pos h1] at he; exact absurd he h1
    · rw [if_neg h1] at he ⊢
      by_cases h2 : 131072 < w + o.labour (S.getD o.a.toNat default) (o.one S).1
      · rw [if_pos h2] at he; simp at he
      · rw [if_neg h2] at he ⊢
        obtain ⟨q1, q2⟩ := step_ok hS h1
        have hm := (walk8_mono r _ _ _ q2 he).2
        cases j with
        | zero =>
          simp at hj
          subst hj
          have t := congrArg (List.take S.length) hm
          rw [List.take_take, List.length_append] at t
          have t : (walk8 r (i + 1) (w + o.labour (S.getD o.a.toNat default) (o.one S).1) (S ++ [(o.one S).1])).S.take S.length = S := by simpa using t
          rw [Nat.add_zero, t]
          refine ⟨Classical.not_not.1 h1, ?_⟩
          have g := congrArg (fun x => x[S.length]?) hm
          simpa using g
        | succ j =>
          have := walk8_at r _ _ _ q2 he j o' (by simpa using hj)
          have e : (S ++ [(o.one S).1]).length + j = S.length + (j + 1) := by simp; omega
          rw [e] at this
          exact this
theorem look8_at (s : Shp) (lo hi : Int) (l : List Opr) (out : Int) (he : (look8 s lo hi l out).err = 0) : (look8 s lo hi l out).S[0]? = some s ∧ ∀ (j : Nat) (o : Opr), l[j]? = some o →
    (o.one ((look8 s lo hi l out).S.take (1 + j))).2 = 0 ∧ (look8 s lo hi l out).S[1 + j]? = some (o.one ((look8 s lo hi l out).S.take (1 + j))).1 := by
  unfold look8 at he ⊢
  repeat' split at he
  all_goals try (exfalso; simp at he; done)
  rename_i h1 h2 h3 h4
  rw [if_neg h1, if_neg h2, if_neg h3, if_neg h4]
  have hS : ∀ t ∈ [s], t.ok := by intro t ht; simp at ht; subst ht; exact Classical.not_not.1 h1
  refine ⟨?_, fun j o hj => walk8_at l 0 0 [s] hS he j o hj⟩
  have hm := (walk8_mono l 0 0 [s] hS he).2
  have g := congrArg (fun x => x[0]?) hm
  simpa using g
theorem at_ok {o : Opr} {S : List Shp} {k : Nat} (h : (o.one (S.take (1 + k))).2 = 0) (hk : k + 1 < S.length) (h' : S[1 + k]? = some (o.one (S.take (1 + k))).1) :
    (0 ≤ o.a ∧ o.a ≤ k) ∧ (S.getD (k + 1) default).ok ∧
    (slides o.kind → (wout (S.getD o.a.toNat default) o.win).2.2 = 0 ∧ (S.getD (k + 1) default).h = (wout (S.getD o.a.toNat default) o.win).1 ∧ (S.getD (k + 1) default).w = (wout (S.getD o.a.toNat default) o.win).2.1 ∧ (o.kind ≠ 2 → (S.getD (k + 1) default).c = (S.getD o.a.toNat default).c)) ∧
    (6 ≤ o.kind → S.getD (k + 1) default = S.getD o.a.toNat default) := by
  obtain ⟨p1, p2, p3, p4⟩ := one_ok h
  obtain ⟨q1, q2⟩ := one_at h
  have hl : (S.take (1 + k)).length = 1 + k := by simp; omega
  rw [hl] at p1
  have ea : (S.take (1 + k)).getD o.a.toNat default = S.getD o.a.toNat default := by
    rw [List.getD_eq_getElem?_getD, List.getD_eq_getElem?_getD, List.getElem?_take, if_pos (by omega)]
  have et : S.getD (k + 1) default = (o.mk1 (S.getD o.a.toNat default)).1 := by
    rw [List.getD_eq_getElem?_getD, Nat.add_comm k 1, h', Option.getD_some, q2, ea]
  rw [q2, ea] at p2
  rw [ea] at p4
  rw [et]
  refine ⟨by omega, p2, fun hs => ?_, fun h6 => ?_⟩
  · unfold Opr.mk1 at p4 ⊢
    have hs' := hs
    unfold slides at hs'
    rw [if_neg (by omega), if_pos hs] at p4 ⊢
    split at p4
    · rename_i h8; exact absurd p4 h8
    · rename_i h8
      rw [if_neg h8]
      exact ⟨Classical.not_not.1 h8, rfl, rfl, fun hn => by rw [if_neg hn]⟩
  · unfold Opr.mk1
    rw [if_neg (by omega), if_neg (by unfold slides; omega)]
set_option linter.unusedSimpArgs false
def rdT (ops : List Opr) (k n : Nat) : Prop := ∃ o : Opr, ops[k]? = some o ∧ (o.a = (n : Int) ∨ (o.kind = 6 ∧ o.b = (n : Int)))
def closedT (ops : List Opr) (S : Nat → Prop) : Prop := ∀ k, S (k + 1) → ∀ n, rdT ops k n → S n
def need (ops : List Opr) (out n : Nat) : Prop := ∀ S, closedT ops S → S out → S n
theorem need_out (ops : List Opr) (out : Nat) : need ops out out := fun _ _ h => h
theorem need_rd {ops : List Opr} {out k n : Nat} (h : need ops out (k + 1)) (hr : rdT ops k n) : need ops out n := fun S hS ho => hS k (h S hS ho) n hr
def wfT (ops : List Opr) : Prop := ∀ (k : Nat) (o : Opr), ops[k]? = some o → (0 ≤ o.a ∧ o.a ≤ k) ∧ (o.kind = 6 → 0 ≤ o.b ∧ o.b ≤ k)
def rowsL (l : List Bool) : Rws := l.map fun b => [B b]
def rowsI (l : List Int) : Rws := l.map fun n => [I n]
theorem rowsL_len (l : List Bool) : (rowsL l).length = l.length := by simp [rowsL]
theorem rowsI_len (l : List Int) : (rowsI l).length = l.length := by simp [rowsI]
theorem rowsL_rep (n : Nat) (b : Bool) : List.replicate n [B b] = rowsL (List.replicate n b) := by simp [rowsL]
theorem rowsI_rep (n : Nat) (b : Int) : List.replicate n [I b] = rowsI (List.replicate n b) := by simp [rowsI]
theorem rowsL_set (l : List Bool) (i : Nat) (b : Bool) : List.set (rowsL l) i [B b] = rowsL (l.set i b) := by simp [rowsL, List.map_set]
theorem rowsI_set (l : List Int) (i : Nat) (b : Int) : List.set (rowsI l) i [I b] = rowsI (l.set i b) := by simp [rowsI, List.map_set]
theorem rb_rows (l : List Bool) (i : Nat) : rb (rowsL l) i 0 = l.getD i false := by
  simp only [rb, cellOf, rowsL, List.getD, List.getElem?_map]
  cases l[i]? <;> rfl
theorem ri_rows (l : List Int) (i : Nat) : ri (rowsI l) i 0 = l.getD i 0 := by
  simp only [ri, cellOf, rowsI, List.getD, List.getElem?_map]
  cases l[i]? <;> rfl
theorem rowsI_app (l m : List Int) : rowsI l ++ rowsI m = rowsI (l ++ m) := by simp [rowsI]
theorem rowsI_take (l : List Int) (n : Nat) : (rowsI l).take n = rowsI (l.take n) := by simp [rowsI]
def isNeed (ops : List Opr) (out : Nat) (bl : List Bool) : Prop := bl.length = ops.length + 1 ∧ ∀ n, bl.getD n false = true ↔ need ops out n
theorem getD_setB (l : List Bool) (i n : Nat) (b : Bool) (h : i < l.length) : (l.set i b).getD n false = if n = i then b else l.getD n false := by
  simp only [List.getD_eq_getElem?_getD, List.getElem?_set]
  by_cases e : i = n
  · subst e; simp [h]
  · rw [if_neg e, if_neg (Ne.symm e)]
def cnt : List Bool → Nat
  | [] => 0
  | b :: r => (if b then 0 else 1) + cnt r
theorem cnt_le : ∀ l : List Bool, cnt l ≤ l.length
  | [] => Nat.le_refl _
  | b :: r => by have := cnt_le r; unfold cnt; simp only [List.length_cons]; split <;> omega
theorem cnt_set : ∀ (l : List Bool) (i : Nat), l.getD i false = false → i < l.length → cnt (l.set i true) + 1 = cnt l
  | [], i, _, h => by simp at h
  | b :: r, 0, h, _ => by simp at h; subst h; simp [cnt]; omega
  | b :: r, i + 1, h, hl => by
    have := cnt_set r i (show r.getD i false = false from h) (by simpa using hl)
    simp only [List.set_cons_succ, cnt]; omega
theorem ops_at (l : Rws) {k : Nat} (h : k < l.length) : (oprs l)[k]? = some (Opr.of (l.getD k [])) := row_opr l k h
theorem rdT_at (l : Rws) {k : Nat} (h : k < l.length) (n : Nat) : rdT (oprs l) k n ↔ ri l k 1 = (n : Int) ∨ (ri l k 0 = 6 ∧ ri l k 2 = (n : Int)) := by
  constructor
  · rintro ⟨o, ho, hr⟩
    rw [ops_at l h] at ho
    injection ho with ho
    subst ho
    exact hr
  · intro hr
    exact ⟨_, ops_at l h, hr⟩
theorem wfT_at {l : Rws} (hw : wfT (oprs l)) {k : Nat} (h : k < l.length) : (0 ≤ ri l k 1 ∧ ri l k 1 ≤ k) ∧ (ri l k 0 = 6 → 0 ≤ ri l k 2 ∧ ri l k 2 ≤ k) := hw k _ (ops_at l h)
theorem one_b {o : Opr} {S : List Shp} (h : (o.one S).2 = 0) (h6 : o.kind = 6) : 0 ≤ o.b ∧ o.b < S.length := by
  unfold Opr.one at h
  split at h
  · exact absurd h (by decide)
  · split at h
    · exact absurd h (by decide)
    · rename_i h2
      omega
theorem walk8_wf : ∀ (l : List Opr) (i w : Int) (S : List Shp), (walk8 l i w S).err = 0 → ∀ (k : Nat) (o : Opr), l[k]? = some o → (0 ≤ o.a ∧ o.a < S.length + k) ∧ (o.kind = 6 → 0 ≤ o.b ∧ o.b < S.length + k)
  | [], _, _, _, _, k, o, h => by simp at h
  | p :: r, i, w, S, he, k, o, h => by
    unfold walk8 at he
    split at he
    · rename_i h1; exact absurd he h1
    · rename_i h1
      split at he
      · simp at he
      · have h1 : (p.one S).2 = 0 := Classical.not_not.1 h1
        cases k with
        | zero =>
          simp at h
          subst h
          obtain ⟨q1, _⟩ := one_ok h1
          exact ⟨by omega, fun h6 => by have := one_b h1 h6; omega⟩
        | succ k =>
          have := walk8_wf r _ _ _ he k o (by simpa using h)
          rw [List.length_append, List.length_singleton] at this
          exact ⟨by omega, fun h6 => by have := this.2 h6; omega⟩
theorem look8_wf {s : Shp} {lo hi : Int} {ops : List Opr} {out : Int} (h : (look8 s lo hi ops out).err = 0) : ops.length ≤ 64 ∧ (0 ≤ out ∧ out ≤ ops.length) ∧ wfT ops := by
  unfold look8 at h
  repeat' split at h
  all_goals try (exfalso; simp at h; done)
  rename_i h1 h2 h3 h4
  rw [not_or] at h4
  refine ⟨by omega, by omega, fun k o ho => ?_⟩
  have := walk8_wf ops 0 0 [s] h k o ho
  simp only [List.length_singleton] at this
  exact ⟨by omega, fun h6 => by have := this.2 h6; omega⟩
theorem oprs_len (l : Rws) : (oprs l).length = l.length := by simp [oprs]
theorem g_trim_reads_q_ok (l : Rws) (k : Nat) {R : Unit ⊕ Unit → Prop} (h : R (if ri l k 0 = 6 then .inl () else .inr ())) : (g_trim_reads_q l k).run R := by
  unfold g_trim_reads_q
  exact W.iteC (ri l k 0 = 6) (by rw [Bool.eq_iff_iff, decide_eq_true_eq, beq_iff_eq]) (fun e => W.retI (by rwa [if_pos e] at h)) (fun e => W.retI (by rwa [if_neg e] at h))
theorem take_pop (t : List Int) (n : Nat) (h : 0 < n) (hn : n ≤ t.length) : t.take n = t.take (n - 1) ++ [t.getD (n - 1) 0] := by
  have h1 : n - 1 < t.length := by omega
  rw [List.getD_eq_getElem?_getD, List.getElem?_eq_getElem h1]
  have := List.take_append_getElem h1
  rw [show n - 1 + 1 = n from by omega] at this
  simpa using this.symm
theorem g_trim_Live_ok (a b c lo hi : Int) (nl : Bool) (l : Rws) (out : Int) (hl : l.length ≤ 676622540150) (hsh : short l) {R : Int × Int × Int × Bool × Rws → Prop}
    (h0 : (look8 ⟨a, b, c⟩ lo hi (oprs l) out).err ≠ 0 → R ((look8 ⟨a, b, c⟩ lo hi (oprs l) out).err, (look8 ⟨a, b, c⟩ lo hi (oprs l) out).op, 0, true, []))
    (h1 : (look8 ⟨a, b, c⟩ lo hi (oprs l) out).err = 0 → ∀ bl, isNeed (oprs l) out.toNat bl → R (0, 0, 0, false, rowsL bl)) : (g_trim_Live a b c lo hi nl l out).run R := by
  unfold g_trim_Live
  refine W.bindI (g_model_Check_v a b c lo hi nl l out hl hsh (W.iteC ((look8 ⟨a, b, c⟩ lo hi (oprs l) out).err ≠ 0) (by simp; rfl) (fun e => W.retI (h0 e)) fun e => ?_))
  have e := Classical.not_not.1 e
  obtain ⟨hN, ho, hw⟩ := look8_wf e
  replace h1 := h1 e
  clear h0 e
  rw [oprs_len] at hN ho
  have e : IntKind.i64.wrap ((l.length : Int) + 1) = ((l.length + 1 : Nat) : Int) := by rw [wrap64_in (by omega) (by omega)]; rfl
  rw [e, Int.toNat_natCast]
  refine W.needI (by omega) ?_
  rw [rowsL_rep]
  refine W.bindI (W.loop_inv (fun v : Nat × Rws × Rws => ∃ (n : Nat) (bl : List Bool) (t : List Int), v = (n, rowsL bl, rowsI t) ∧ bl.length = l.length + 1 ∧ n ≤ t.length ∧ 3 * cnt bl + n ≤ 3 * (l.length + 1) + 1 ∧
      (∀ x ∈ t.take n, 0 ≤ x ∧ x ≤ l.length ∧ need (oprs l) out.toNat x.toNat) ∧ (∀ m, bl.getD m false = true → need (oprs l) out.toNat m) ∧ (bl.getD out.toNat false = true ∨ out ∈ t.take n) ∧
      ∀ j, bl.getD (j + 1) false = true → ∀ m : Nat, rdT (oprs l) j m → bl.getD m false = true ∨ (m : Int) ∈ t.take n) (fun v => 3 * cnt (v.2.1.map fun r => (r.getD 0 .dead).toBool) + v.1) ?_ ⟨1, List.replicate (l.length + 1) false, [out], rfl, by simp, by simp, ?_, ?_, ?_, ?_, ?_⟩)
  · rintro _ ⟨n, bl, t, rfl, hbl, hn, hm, ht, hb, hout, hcl⟩
    have back : ∀ bl : List Bool, ((rowsL bl).map fun r => (r.getD 0 .dead).toBool) = bl := fun bl => by
      simp only [rowsL, List.map_map]
      conv => rhs; rw [← List.map_id bl]
      rfl
    dsimp only
    rw [back bl]
    refine W.iteC (0 < n) (by rw [decide_eq_decide]; omega) (fun hlt => ?_) fun hge => ?_
    · have e1 : IntKind.i64.wrap ((n : Int) - 1) = ((n - 1 : Nat) : Int) := by
        have := cnt_le bl
        rw [wrap64_in (by omega) (by omega)]; omega
      rw [e1]
      refine W.needI (by omega) (W.needI (by omega) ?_)
      rw [Int.toNat_natCast, Nat.zero_add, ri_rows, rowsL_len]
      have hpop := take_pop t n hlt hn
      generalize hx : t.getD (n - 1) 0 = x at hpop
      obtain ⟨x0, x1, xn⟩ := ht x (by rw [hpop]; simp)
      refine W.needI (by omega) ?_
      rw [rb_rows, show (((n - 1 : Nat) : Int) - 0).toNat = n - 1 from by omega]
      have hsub : ∀ y ∈ t.take (n - 1), 0 ≤ y ∧ y ≤ l.length ∧ need (oprs l) out.toNat y.toNat := fun y hy => ht y (by rw [hpop]; simp [hy])
      refine W.iteC (bl.getD x.toNat false = true) (by simp [-List.getD_eq_getElem?_getD]) (fun hxb => ?_) fun hxb => ?_
      · refine W.retI ⟨⟨n - 1, bl, t, rfl, hbl, by omega, by omega, hsub, hb, ?_, fun j hj m hr => ?_⟩, ?_⟩
        · rcases hout with h | h
          · exact .inl h
          · rw [hpop, List.mem_append, List.mem_singleton] at h
            rcases h with h | h
            · exact .inr h
            · left; rw [h]; exact hxb
        · rcases hcl j hj m hr with h | h
          · exact .inl h
          · rw [hpop, List.mem_append, List.mem_singleton] at h
            rcases h with h | h
            · exact .inr h
            · left; rw [← h, Int.toNat_natCast] at hxb; exact hxb
        · show 3 * cnt ((rowsL bl).map _) + (n - 1) < _
          rw [back]; omega
      · have hxb : bl.getD x.toNat false = false := by simpa [-List.getD_eq_getElem?_getD] using hxb
        have hxl : x.toNat < bl.length := by omega
        have hcnt := cnt_set bl x.toNat hxb hxl
        refine W.needI (by omega) ?_
        rw [rowsL_set]
        have hb' : ∀ m, (bl.set x.toNat true).getD m false = true → need (oprs l) out.toNat m := fun m hm' => by
          rw [getD_setB _ _ _ _ hxl] at hm'
          split at hm'
          · rename_i e; rw [e]; exact xn
          · exact hb m hm'
        have fin : ∀ (n' : Nat) (t' : List Int), n' ≤ t'.length → n' ≤ n + 1 → (∀ y ∈ t'.take n', y ∈ t.take (n - 1) ∨ (0 ≤ y ∧ y ≤ l.length ∧ need (oprs l) out.toNat y.toNat)) → (∀ y ∈ t.take (n - 1), y ∈ t'.take n') →
            (∀ m : Nat, 0 < x → rdT (oprs l) (x.toNat - 1) m → (m : Int) ∈ t'.take n') →
            W.on (fun s' : Nat × Rws × Rws => (∃ (n : Nat) (bl : List Bool) (t : List Int), s' = (n, rowsL bl, rowsI t) ∧ bl.length = l.length + 1 ∧ n ≤ t.length ∧ 3 * cnt bl + n ≤ 3 * (l.length + 1) + 1 ∧
              (∀ x ∈ t.take n, 0 ≤ x ∧ x ≤ l.length ∧ need (oprs l) out.toNat x.toNat) ∧ (∀ m, bl.getD m false = true → need (oprs l) out.toNat m) ∧ (bl.getD out.toNat false = true ∨ out ∈ t.take n) ∧
              ∀ j, bl.getD (j + 1) false = true → ∀ m : Nat, rdT (oprs l) j m → bl.getD m false = true ∨ (m : Int) ∈ t.take n) ∧ 3 * cnt (s'.2.1.map fun r => (r.getD 0 .dead).toBool) + s'.1 < 3 * cnt bl + n) (fun v : Rws => ((fun v4 => W.ret (0, 0, 0, false, v4)) v).run R) (Sum.inl (n', rowsL (bl.set x.toNat true), rowsI t')) := fun n' t' q1 q2 q3 q4 q5 => by
          refine ⟨⟨n', bl.set x.toNat true, t', rfl, by simp [hbl], q1, by omega, fun y hy => ?_, hb', ?_, fun j hj m hr => ?_⟩, ?_⟩
          · rcases q3 y hy with h | h
            · exact hsub y h
            · exact h
          · rw [getD_setB _ _ _ _ hxl]
            by_cases ex : out.toNat = x.toNat
            · left; rw [if_pos ex]
            · rw [if_neg ex]
              rcases hout with h | h
              · exact .inl h
              · rw [hpop, List.mem_append, List.mem_singleton] at h
                rcases h with h | h
                · exact .inr (q4 _ h)
                · exact absurd (by rw [h]) ex
          · rw [getD_setB _ _ _ _ hxl] at hj ⊢
            split at hj
            · rename_i e
              right
              refine q5 m (by omega) ?_
              rwa [← e, Nat.add_sub_cancel]
            · by_cases em : m = x.toNat
              · left; rw [if_pos em]
              · rw [if_neg em]
                rcases hcl j hj m hr with h | h
                · exact .inl h
                · rw [hpop, List.mem_append, List.mem_singleton] at h
                  rcases h with h | h
                  · exact .inr (q4 _ h)
                  · exact absurd (by omega) em
          · show 3 * cnt ((rowsL (bl.set x.toNat true)).map _) + n' < _
            rw [back]; omega
        refine W.iteC (0 < x) rfl (fun hx0 => ?_) fun hx0 => ?_
        · have e2 : IntKind.i64.wrap (x - 1) = ((x.toNat - 1 : Nat) : Int) := by rw [wrap64_in (by omega) (by omega)]; omega
          rw [e2, Int.toNat_natCast]
          refine W.needI (by omega) ?_
          have hk1 : x.toNat - 1 < l.length := by omega
          obtain ⟨w1, w2⟩ := wfT_at hw hk1
          have hxk : x.toNat - 1 + 1 = x.toNat := by omega
          have nA : need (oprs l) out.toNat (ri l (x.toNat - 1) 1).toNat := need_rd (k := x.toNat - 1) (by rw [hxk]; exact xn) ((rdT_at l hk1 _).2 (.inl (by omega)))
          refine W.bindI (g_trim_reads_q_ok l _ ?_)
          have lt1 : (t.take (n - 1)).length = n - 1 := by simp; omega
          have hc := cnt_le bl
          rw [rowsI_take, show [[I (ri l (x.toNat - 1) 1)]] = rowsI [ri l (x.toNat - 1) 1] from rfl, show [[I (ri l (x.toNat - 1) 2)]] = rowsI [ri l (x.toNat - 1) 2] from rfl, rowsI_app, rowsI_app, rowsI_len, rowsI_len]
          split
          · rename_i h6
            have w2 := w2 h6
            have nB : need (oprs l) out.toNat (ri l (x.toNat - 1) 2).toNat := need_rd (k := x.toNat - 1) (by rw [hxk]; exact xn) ((rdT_at l hk1 _).2 (.inr ⟨h6, by omega⟩))
            have el : (t.take (n - 1) ++ [ri l (x.toNat - 1) 1] ++ [ri l (x.toNat - 1) 2]).length = n + 1 := by simp [lt1]; omega
            refine W.needI (by omega) (W.needI (by simp [lt1]; omega) (W.retI ?_))
            rw [el]
            refine fin (n + 1) _ (by omega) (Nat.le_refl _) (fun y hy => ?_) (fun y hy => ?_) (fun m _ hr => ?_)
            · rw [List.take_of_length_le (by omega)] at hy
              simp only [List.mem_append, List.mem_singleton] at hy
              rcases hy with (hy | hy) | hy
              · exact .inl hy
              · right; rw [hy]; exact ⟨by omega, by omega, nA⟩
              · right; rw [hy]; exact ⟨by omega, by omega, nB⟩
            · rw [List.take_of_length_le (by omega)]; simp [hy]
            · rw [List.take_of_length_le (by omega)]
              simp only [List.mem_append, List.mem_singleton]
              rcases (rdT_at l hk1 m).1 hr with hr | ⟨_, hr⟩
              · left; right; exact hr.symm
              · right; exact hr.symm
          · rename_i h6
            have el : (t.take (n - 1) ++ [ri l (x.toNat - 1) 1]).length = n := by simp [lt1]; omega
            refine W.needI (by omega) (W.retI ?_)
            rw [el]
            refine fin n _ (by omega) (by omega) (fun y hy => ?_) (fun y hy => ?_) (fun m _ hr => ?_)
            · rw [List.take_of_length_le (by omega)] at hy
              simp only [List.mem_append, List.mem_singleton] at hy
              rcases hy with hy | hy
              · exact .inl hy
              · right; rw [hy]; exact ⟨by omega, by omega, nA⟩
            · rw [List.take_of_length_le (by omega)]; simp [hy]
            · rw [List.take_of_length_le (by omega)]
              simp only [List.mem_append, List.mem_singleton]
              rcases (rdT_at l hk1 m).1 hr with hr | ⟨h6', _⟩
              · right; exact hr.symm
              · exact absurd h6' h6
        · exact W.retI (fin (n - 1) t (by omega) (by omega) (fun y hy => .inl hy) (fun y hy => hy) (fun m hx' _ => absurd hx' hx0))
    · have hn0 : n = 0 := by omega
      subst hn0
      refine W.retI (W.retI (h1 bl ⟨by rw [oprs_len]; exact hbl, fun m => ⟨hb m, fun hm' => ?_⟩⟩))
      refine hm' (fun m => bl.getD m false = true) (fun j hj m hr => ?_) ?_
      · rcases hcl j hj m hr with h | h
        · exact h
        · simp at h
      · rcases hout with h | h
        · exact h
        · simp at h
  · have := cnt_le (List.replicate (l.length + 1) false)
    simp at this
    omega
  · intro x hx
    simp at hx
    subst hx
    exact ⟨ho.1, ho.2, need_out _ _⟩
  · intro m hm'
    simp [List.getD_eq_getElem?_getD, List.getElem?_replicate] at hm'
    split at hm' <;> simp at hm'
  · right; simp
  · intro j hj
    simp [List.getD_eq_getElem?_getD, List.getElem?_replicate] at hj
    split at hj <;> simp at hj
def Opr.to (o : Opr) (now : List Int) : Opr := { o with a := now.getD o.a.toNat 0, b := if o.kind = 6 then now.getD o.b.toNat 0 else o.b }
def trimT (bl : List Bool) : List Opr → Nat → List Int → List Opr → List Int × List Opr
  | [], _, now, acc => (now, acc)
  | o :: r, i, now, acc => if bl.getD (i + 1) false then trimT bl r (i + 1) (now.set (i + 1) ((acc.length : Int) + 1)) (acc ++ [o.to now]) else trimT bl r (i + 1) now acc
theorem trimT_nil (bl : List Bool) (i : Nat) (now : List Int) (acc : List Opr) : trimT bl [] i now acc = (now, acc) := rfl
theorem trimT_cons (bl : List Bool) (o : Opr) (r : List Opr) (i : Nat) (now : List Int) (acc : List Opr) : trimT bl (o :: r) i now acc =
    if bl.getD (i + 1) false then trimT bl r (i + 1) (now.set (i + 1) ((acc.length : Int) + 1)) (acc ++ [o.to now]) else trimT bl r (i + 1) now acc := rfl
def nilOK (l : Rws) : Prop := ∀ r ∈ l, ((Opr.of r).wn = true → (Opr.of r).ws = []) ∧ ((Opr.of r).bn = true → (Opr.of r).bs = [])
theorem sameOps_app : ∀ {l m l' m' : List Opr}, sameOps l m → sameOps l' m' → sameOps (l ++ l') (m ++ m')
  | [], [], _, _, _, h => h
  | _ :: _, _ :: _, _, _, h, h' => ⟨h.1, sameOps_app h.2 h'⟩
  | [], _ :: _, _, _, h, _ => h.elim
  | _ :: _, [], _, _, h, _ => h.elim
theorem oprs_app (l m : Rws) : oprs (l ++ m) = oprs l ++ oprs m := by simp [oprs]
theorem g_trim_reads_p_ok (a0 a1 a2 a3 a4 a5 a6 a7 a8 a9 a10 a11 : Int) (a12 : Bool) (a13 : Rws) (a14 : Bool) (a15 : Rws) (a16 a17 a18 a19 a20 a21 a22 a23 : Int) {R : Unit ⊕ Unit → Prop} (h : R (if a0 = 6 then .inl () else .inr ())) :
    (g_trim_reads_p a0 a1 a2 a3 a4 a5 a6 a7 a8 a9 a10 a11 a12 a13 a14 a15 a16 a17 a18 a19 a20 a21 a22 a23).run R := by
  unfold g_trim_reads_p
  exact W.iteC (a0 = 6) (by rw [Bool.eq_iff_iff, decide_eq_true_eq, beq_iff_eq]) (fun e => W.retI (by rwa [if_pos e] at h)) (fun e => W.retI (by rwa [if_neg e] at h))
theorem g_clone16_ok (b : Bool) (l : Rws) (hb : b = true → l = []) (hl : l.length ≤ 70368744175616) {R : Bool × Rws → Prop} (h : ∀ b, (b = true → l = []) → R (b, l)) : (g_slices_Clone___int16_int16_ b l).run R := by
  unfold g_slices_Clone___int16_int16_
  refine W.iteC (b = true) (by simp) (fun e => W.retI (by rw [hb e] at h; exact h true (fun _ => rfl))) fun _ => W.needI (by omega) (W.retI (h false (fun e => by cases e)))
theorem g_clone32_ok (b : Bool) (l : Rws) (hb : b = true → l = []) (hl : l.length ≤ 35184372087808) {R : Bool × Rws → Prop} (h : ∀ b, (b = true → l = []) → R (b, l)) : (g_slices_Clone___int32_int32_ b l).run R := by
  unfold g_slices_Clone___int32_int32_
  refine W.iteC (b = true) (by simp) (fun e => W.retI (by rw [hb e] at h; exact h true (fun _ => rfl))) fun _ => W.needI (by omega) (W.retI (h false (fun e => by cases e)))
def toRow (r : List AV) (a b : Int) (x y : Bool) (ws bs : Rws) : List AV :=
  [I (cI r 0), I a, I b, I (cI r 3), I (cI r 4), I (cI r 5), I (cI r 6), I (cI r 7), I (cI r 8), I (cI r 9), I (cI r 10), I (cI r 11), .sl x 0 ws, .sl y 0 bs, I (cI r 14), I (cI r 15), I (cI r 16), I (cI r 17), I (cI r 18), I (cI r 19), I (cI r 20), I (cI r 21)]
theorem of_toRow (r : List AV) (now : List Int) (x y : Bool) : Opr.of (toRow r (now.getD (cI r 1).toNat 0) (if cI r 0 = 6 then now.getD (cI r 2).toNat 0 else cI r 2) x y (cR r 12) (cR r 13)) = ((Opr.of r).to now).flags x y := rfl
def Trimmed (ops : List Opr) (bl : List Bool) (rows : Rws) : Prop := sameOps (trimT bl ops 0 (List.replicate bl.length 0) []).2 (oprs rows) ∧ short rows ∧ nilOK rows ∧ rows.length ≤ 64
theorem getD_mem' {l : Rws} {k : Nat} (h : k < l.length) : l.getD k [] ∈ l := by rw [List.getD_eq_getElem?_getD, List.getElem?_eq_getElem h]; exact List.getElem_mem h
theorem g_trim_Trim_ok (a b c lo hi : Int) (nl : Bool) (l : Rws) (out : Int) (hl : l.length ≤ 676622540150) (hsh : short l) (hni : nilOK l) {R : Int × Int × Int × Int × Int × Int × Int × Int × Int × Bool × Rws → Prop}
    (h0 : (look8 ⟨a, b, c⟩ lo hi (oprs l) out).err ≠ 0 → R (0, 0, 0, 0, 0, 0, (look8 ⟨a, b, c⟩ lo hi (oprs l) out).err, (look8 ⟨a, b, c⟩ lo hi (oprs l) out).op, 0, true, []))
    (h1 : (look8 ⟨a, b, c⟩ lo hi (oprs l) out).err = 0 → ∀ bl fl rows, isNeed (oprs l) out.toNat bl → Trimmed (oprs l) bl rows → R (a, b, c, lo, hi, (trimT bl (oprs l) 0 (List.replicate bl.length 0) []).1.getD out.toNat 0, 0, 0, 0, fl, rows)) :
    (g_trim_Trim a b c lo hi nl l out).run R := by
  unfold g_trim_Trim
  refine W.bindI (g_trim_Live_ok a b c lo hi nl l out hl hsh (fun e => W.iteT (by simpa using e) (W.retI (h0 e))) fun e bl hbl => W.iteF rfl ?_)
  obtain ⟨hN, ho, hw⟩ := look8_wf e
  replace h1 := fun fl rows => h1 e bl fl rows hbl
  clear h0 e
  rw [oprs_len] at hN ho
  have hbll : bl.length = l.length + 1 := by have := hbl.1; rwa [oprs_len] at this
  dsimp only
  rw [rowsL_len]
  refine W.needI (by omega) ?_
  rw [Int.toNat_natCast, rowsI_rep]
  refine W.bindI (W.loop_inv (fun v : Int × Rws × Bool × Rws => ∃ (k : Nat) (now : List Int) (acc : List Opr), v.1 = k ∧ k ≤ l.length ∧ v.2.1 = rowsI now ∧ now.length = l.length + 1 ∧ sameOps acc (oprs v.2.2.2) ∧ acc.length ≤ k ∧ short v.2.2.2 ∧ nilOK v.2.2.2 ∧
      trimT bl ((oprs l).drop k) k now acc = trimT bl (oprs l) 0 (List.replicate bl.length 0) []) (fun v => l.length - v.1.toNat) ?_ ⟨0, List.replicate bl.length 0, [], rfl, Nat.zero_le _, rfl, by simp [hbll], trivial, by simp, (fun r hr => by simp at hr), (fun r hr => by simp at hr), rfl⟩)
  rintro ⟨_, _, fl, rows⟩ ⟨k, now, acc, rfl, hk, rfl, hnow, hacc, hal, hsr, hnr, hT⟩
  dsimp only at hacc hsr hnr ⊢
  have hrl : rows.length = acc.length := by have := sameOps_len hacc; rw [oprs_len] at this; exact this.symm
  refine W.iteC (k < l.length) (by rw [decide_eq_decide]; omega) (fun hlt => ?_) fun hge => ?_
  · rw [drop_opr l k hlt, trimT_cons] at hT
    have hrw := getD_mem' hlt
    obtain ⟨s1, s2⟩ := hsh _ hrw
    obtain ⟨n1, n2⟩ := hni _ hrw
    obtain ⟨w1, w2⟩ := wfT_at hw hlt
    have e1 : IntKind.i64.wrap ((k : Int) + 1) = ((k + 1 : Nat) : Int) := by rw [wrap64_in (by omega) (by omega)]; rfl
    rw [e1, Int.toNat_natCast, Int.toNat_natCast, rb_rows, rowsI_len]
    refine W.bindI (W.needI (by omega) (W.needI (by omega) (W.iteC (bl.getD (k + 1) false ≠ true) (by simp [-List.getD_eq_getElem?_getD]) (fun hb => W.retI (W.retI ?_)) fun hb => ?_)))
    · rw [if_neg hb] at hT
      exact ⟨⟨k + 1, now, acc, rfl, hlt, rfl, hnow, hacc, by omega, hsr, hnr, hT⟩, by show l.length - (((k + 1 : Nat) : Int)).toNat < l.length - (k : Int).toNat; omega⟩
    · have hb := Classical.not_not.1 hb
      rw [if_pos hb] at hT
      have fin : ∀ v4 : Int × Int × Int × Nat × Int × Int × Int, v4.2.2.2.2.2.2 = (if ri l k 0 = 6 then now.getD (ri l k 2).toNat 0 else ri l k 2) →
          ((fun v4 : Int × Int × Int × Nat × Int × Int × Int => W.bind (g_slices_Clone___int16_int16_ (rn l k 12) (rr l k 12)) fun v5 =>
            W.bind (g_slices_Clone___int32_int32_ (rn l k 13) (rr l k 13)) fun v6 =>
            W.need ((List.length rows + 1) * 208 ≤ 140737488355328) <|
            W.need (0 ≤ ((k + 1 : Nat) : Int) ∧ ((k + 1 : Nat) : Int) < (now.length : Int)) <|
            W.ret (List.set (rowsI now) (k + 1) [I (((rows ++ [toRow (l.getD k []) (ri (rowsI now) (ri l k 1).toNat 0) v4.2.2.2.2.2.2 v5.1 v6.1 v5.2 v6.2]).length : Int))], ri (rowsI now) (ri l k 1).toNat 0, v4.2.2.2.2.2.2, v5.1, v5.2, v6.1, v6.2, fl && false, rows ++ [toRow (l.getD k []) (ri (rowsI now) (ri l k 1).toNat 0) v4.2.2.2.2.2.2 v5.1 v6.1 v5.2 v6.2])) v4).run
          (fun v7 : Rws × Int × Int × Bool × Rws × Bool × Rws × Bool × Rws => (W.ret (α := (Int × Rws × Bool × Rws) ⊕ (Rws × Bool × Rws)) (Sum.inl (((k + 1 : Nat) : Int), v7.1, v7.2.2.2.2.2.2.2.1, v7.2.2.2.2.2.2.2.2))).run
            (W.on (fun s' : Int × Rws × Bool × Rws => (∃ (k : Nat) (now : List Int) (acc : List Opr), s'.1 = k ∧ k ≤ l.length ∧ s'.2.1 = rowsI now ∧ now.length = l.length + 1 ∧ sameOps acc (oprs s'.2.2.2) ∧ acc.length ≤ k ∧ short s'.2.2.2 ∧ nilOK s'.2.2.2 ∧
              trimT bl ((oprs l).drop k) k now acc = trimT bl (oprs l) 0 (List.replicate bl.length 0) []) ∧ l.length - s'.1.toNat < l.length - (k : Int).toNat)
              (fun v8 : Rws × Bool × Rws => ((fun v8 => W.need (0 ≤ out ∧ out < (↑(List.length v8.1) : Int)) <| W.ret (a, b, c, lo, hi, ri v8.1 out.toNat 0, 0, 0, 0, v8.2.1, v8.2.2)) v8).run R))) := fun v4 hv4 => by
        refine W.bindI (g_clone16_ok _ _ n1 s1 fun x hx => W.bindI (g_clone32_ok _ _ n2 s2 fun y hy => ?_))
        refine W.needI (by omega) (W.needI (by omega) (W.retI (W.retI ⟨⟨k + 1, now.set (k + 1) ((acc.length : Int) + 1), acc ++ [(Opr.of (l.getD k [])).to now], rfl, hlt, ?_, by simp [hnow], ?_, by simp; omega, ?_, ?_, hT⟩, ?_⟩)))
        · show List.set (rowsI now) (k + 1) _ = _
          rw [rowsI_set, List.length_append, List.length_singleton, hrl]; rfl
        · show sameOps _ (oprs (rows ++ [toRow (l.getD k []) (ri (rowsI now) (ri l k 1).toNat 0) v4.2.2.2.2.2.2 x y (rr l k 12) (rr l k 13)]))
          rw [oprs_app, hv4, ri_rows]
          exact sameOps_app hacc ⟨⟨x, y, of_toRow (l.getD k []) now x y⟩, trivial⟩
        · intro r hr
          rcases List.mem_append.1 hr with hr | hr
          · exact hsr r hr
          · simp only [List.mem_singleton] at hr; subst hr; exact ⟨s1, s2⟩
        · intro r hr
          rcases List.mem_append.1 hr with hr | hr
          · exact hnr r hr
          · simp only [List.mem_singleton] at hr; subst hr
            exact ⟨hx, hy⟩
        · show l.length - (((k + 1 : Nat) : Int)).toNat < l.length - (k : Int).toNat; omega
      refine W.bindI (W.bindI (g_trim_reads_p_ok _ _ _ _ _ _ _ _ _ _ _ _ _ _ _ _ _ _ _ _ _ _ _ _ ?_))
      split
      · rename_i h6
        have w2 := w2 h6
        refine W.needI (by omega) (W.needI (by omega) (W.retI (fin _ ?_)))
        show ri (rowsI now) (ri l k 2).toNat 0 = _
        rw [if_pos h6, ri_rows]
      · rename_i h6
        refine W.needI (by omega) (W.retI (fin _ ?_))
        show ri l k 2 = _
        rw [if_neg h6]
  · have hk' : k = l.length := by omega
    subst hk'
    rw [List.drop_eq_nil_of_le (by rw [oprs_len]; exact Nat.le_refl _), trimT_nil] at hT
    refine W.retI ?_
    show (W.need (0 ≤ out ∧ out < (↑(List.length (rowsI now)) : Int)) <| W.ret (a, b, c, lo, hi, ri (rowsI now) out.toNat 0, 0, 0, 0, fl, rows)).run R
    rw [rowsI_len, ri_rows]
    refine W.needI (by omega) (W.retI ?_)
    have e2 : now = (trimT bl (oprs l) 0 (List.replicate bl.length 0) []).1 := by rw [← hT]
    rw [e2]
    exact h1 fl rows ⟨by rw [← hT]; exact hacc, hsr, hnr, by omega⟩
set_option maxRecDepth 100000
set_option maxHeartbeats 0
theorem XSplit.tt' {b : Bool} {x y : Prop} (h : b = true) (h' : x) : XSplit b x y := ⟨fun _ => h', fun e => by rw [h] at e; cases e⟩
theorem XSplit.ff' {b : Bool} {x y : Prop} (h : b = false) (h' : y) : XSplit b x y := ⟨fun e => (by rw [h] at e; cases e), fun _ => h'⟩
theorem loop_go {σ ε : Type} {f : σ → W (σ ⊕ ε)} {s : σ} {R : ε → Prop} (h : (f s).run (W.on (fun s' => (W.loop f s').run R) R)) : (W.loop f s).pr R := W.loop_unroll h
attribute [local irreducible] W.loop
theorem fixed24 : g_law24_fixed.run (fun b => b = true) := by
  iterate 3000 (all_goals ((conv => whnf); first | with_reducible exact rfl | with_reducible refine XNeed.mk (of_decide_eq_true (by decide +kernel)) ?_ | with_reducible refine XSplit.tt' (by decide +kernel) ?_ | with_reducible refine XSplit.ff' (by decide +kernel) ?_ | refine loop_go ?_ | decide +kernel))
theorem g_law24_fixed_ok {R : Bool → Prop} (h : R true) : g_law24_fixed.run R := g_law24_fixed.mono (fun b e => by rw [e]; exact h) fixed24
def rk (bl : List Bool) : Nat → Nat
  | 0 => 0
  | n + 1 => rk bl n + (if bl.getD (n + 1) false then 1 else 0)
theorem rk_succ (bl : List Bool) (n : Nat) : rk bl (n + 1) = rk bl n + (if bl.getD (n + 1) false then 1 else 0) := rfl
theorem rk_live {bl : List Bool} {n : Nat} (h : bl.getD (n + 1) false = true) : rk bl (n + 1) = rk bl n + 1 := by rw [rk_succ, if_pos h]
theorem rk_dead {bl : List Bool} {n : Nat} (h : ¬ bl.getD (n + 1) false = true) : rk bl (n + 1) = rk bl n := by rw [rk_succ, if_neg h]; rfl
theorem rk_le (bl : List Bool) : ∀ n, rk bl n ≤ n
  | 0 => Nat.le_refl _
  | n + 1 => by have := rk_le bl n; rw [rk_succ]; split <;> omega
theorem rk_mono (bl : List Bool) {m n : Nat} (h : m ≤ n) : rk bl m ≤ rk bl n := by
  induction h with
  | refl => exact Nat.le_refl _
  | step _ ih => rw [Nat.succ_eq_add_one, rk_succ]; omega
def Opr.rn (o : Opr) (bl : List Bool) : Opr := { o with a := rk bl o.a.toNat, b := if o.kind = 6 then (rk bl o.b.toNat : Int) else o.b }
def trs (bl : List Bool) : List Opr → Nat → List Opr
  | [], _ => []
  | o :: r, i => if bl.getD (i + 1) false then o.rn bl :: trs bl r (i + 1) else trs bl r (i + 1)
theorem trs_cons (bl : List Bool) (o : Opr) (r : List Opr) (i : Nat) : trs bl (o :: r) i = if bl.getD (i + 1) false then o.rn bl :: trs bl r (i + 1) else trs bl r (i + 1) := rfl
theorem trs_len (bl : List Bool) : ∀ (ops : List Opr) (i : Nat), rk bl i + (trs bl ops i).length = rk bl (i + ops.length)
  | [], i => by simp [trs]
  | o :: r, i => by
    have := trs_len bl r (i + 1)
    rw [trs_cons, show i + (o :: r).length = i + 1 + r.length from by simp; omega, ← this]
    split
    · rename_i h; rw [rk_live h]; simp; omega
    · rename_i h; rw [rk_dead h]
theorem trs_get (bl : List Bool) : ∀ (ops : List Opr) (i k : Nat) (o : Opr), ops[k]? = some o → bl.getD (i + k + 1) false = true → (trs bl ops i)[rk bl (i + k) - rk bl i]? = some (o.rn bl)
  | [], _, _, _, h, _ => by simp at h
  | p :: r, i, 0, o, h, hb => by
    simp at h
    subst h
    rw [trs_cons, if_pos hb]; simp
  | p :: r, i, k + 1, o, h, hb => by
    have e : i + (k + 1) = i + 1 + k := by omega
    rw [e] at hb ⊢
    have := trs_get bl r (i + 1) k o (by simpa using h) hb
    have hm := rk_mono bl (m := i + 1) (n := i + 1 + k) (by omega)
    rw [trs_cons]
    split
    · rename_i h'
      rw [rk_live h'] at this hm
      rw [show rk bl (i + 1 + k) - rk bl i = rk bl (i + 1 + k) - (rk bl i + 1) + 1 from by omega, List.getElem?_cons_succ]
      exact this
    · rename_i h'
      rw [rk_dead h'] at this
      exact this
theorem trs_of (bl : List Bool) : ∀ (ops : List Opr) (i j : Nat) (p : Opr), (trs bl ops i)[j]? = some p → ∃ k o, ops[k]? = some o ∧ bl.getD (i + k + 1) false = true ∧ p = o.rn bl
  | [], _, _, _, h => by simp [trs] at h
  | q :: r, i, j, p, h => by
    rw [trs_cons] at h
    split at h
    · rename_i hb
      cases j with
      | zero => simp at h; subst h; exact ⟨0, q, rfl, hb, rfl⟩
      | succ j =>
        obtain ⟨k, o, h1, h2, h3⟩ := trs_of bl r (i + 1) j p (by simpa using h)
        exact ⟨k + 1, o, by simpa using h1, by rwa [show i + (k + 1) + 1 = i + 1 + k + 1 from by omega], h3⟩
    · obtain ⟨k, o, h1, h2, h3⟩ := trs_of bl r (i + 1) j p h
      exact ⟨k + 1, o, by simpa using h1, by rwa [show i + (k + 1) + 1 = i + 1 + k + 1 from by omega], h3⟩
def clB (bl : List Bool) (ops : List Opr) (i : Nat) : Prop := ∀ (k : Nat) (o : Opr), ops[k]? = some o → bl.getD (i + k + 1) false = true →
  ((0 ≤ o.a ∧ o.a.toNat ≤ i + k) ∧ (o.a.toNat = 0 ∨ bl.getD o.a.toNat false = true)) ∧ (o.kind = 6 → (0 ≤ o.b ∧ o.b.toNat ≤ i + k) ∧ (o.b.toNat = 0 ∨ bl.getD o.b.toNat false = true))
theorem clB_tail {bl : List Bool} {o : Opr} {r : List Opr} {i : Nat} (h : clB bl (o :: r) i) : clB bl r (i + 1) := fun k p hp hb => by
  have := h (k + 1) p (by simpa using hp) (by rwa [show i + (k + 1) + 1 = i + 1 + k + 1 from by omega])
  rwa [show i + (k + 1) = i + 1 + k from by omega] at this
theorem clB_need {ops : List Opr} {out : Nat} {bl : List Bool} (hw : wfT ops) (h : isNeed ops out bl) : clB bl ops 0 := fun k o ho hb => by
  obtain ⟨w1, w2⟩ := hw k o ho
  rw [Nat.zero_add] at hb ⊢
  have hn := (h.2 _).1 hb
  refine ⟨⟨by omega, .inr ((h.2 _).2 (need_rd hn ⟨o, ho, .inl (by omega)⟩))⟩, fun h6 => ?_⟩
  have := w2 h6
  exact ⟨by omega, .inr ((h.2 _).2 (need_rd hn ⟨o, ho, .inr ⟨h6, by omega⟩⟩))⟩
theorem getD_setI (l : List Int) (i n : Nat) (b : Int) (h : i < l.length) : (l.set i b).getD n 0 = if n = i then b else l.getD n 0 := by
  simp only [List.getD_eq_getElem?_getD, List.getElem?_set]
  by_cases e : i = n
  · subst e; simp [h]
  · rw [if_neg e, if_neg (Ne.symm e)]
theorem trimT_trs (bl : List Bool) : ∀ (ops : List Opr) (i : Nat) (now : List Int) (acc : List Opr), clB bl ops i → acc.length = rk bl i → i + ops.length < now.length → (∀ n, n ≤ i → (n = 0 ∨ bl.getD n false = true) → now.getD n 0 = (rk bl n : Int)) →
    (trimT bl ops i now acc).2 = acc ++ trs bl ops i ∧ ∀ n, n ≤ i + ops.length → (n = 0 ∨ bl.getD n false = true) → (trimT bl ops i now acc).1.getD n 0 = (rk bl n : Int)
  | [], i, now, acc, _, _, _, h => by simp only [trimT_nil, trs, List.append_nil, true_and]; simpa using h
  | o :: r, i, now, acc, hc, ha, hl, h => by
    rw [trimT_cons, trs_cons]
    simp only [List.length_cons] at hl ⊢
    split
    · rename_i hb
      obtain ⟨⟨c1, c2⟩, c3⟩ := hc 0 o rfl hb
      have e : o.to now = o.rn bl := by
        have h1 := h o.a.toNat c1.2 c2
        unfold Opr.to Opr.rn
        rw [h1]
        by_cases h6 : o.kind = 6
        · have c4 := c3 h6
          rw [if_pos h6, if_pos h6, h o.b.toNat c4.1.2 c4.2]
        · rw [if_neg h6, if_neg h6]
      have ih := trimT_trs bl r (i + 1) (now.set (i + 1) ((acc.length : Int) + 1)) (acc ++ [o.to now]) (clB_tail hc) (by rw [List.length_append, ha, rk_live hb]; rfl) (by simp; omega) (fun n hn hq => by
        rw [getD_setI _ _ _ _ (by omega)]
        split
        · rename_i en; rw [en, rk_live hb, ha]; rfl
        · exact h n (by omega) hq)
      rw [show i + (r.length + 1) = i + 1 + r.length from by omega]
      refine ⟨?_, ih.2⟩
      rw [ih.1, e, List.append_assoc]; rfl
    · rename_i hb
      have ih := trimT_trs bl r (i + 1) now acc (clB_tail hc) (by rw [ha, rk_dead hb]) (by omega) (fun n hn hq => by
        by_cases en : n = i + 1
        · subst en
          rcases hq with hq | hq
          · omega
          · exact absurd hq hb
        · exact h n (by omega) hq)
      rw [show i + (r.length + 1) = i + 1 + r.length from by omega]
      exact ih
theorem one_rn {o : Opr} {bl : List Bool} {S S' : List Shp} (h : (o.one S).2 = 0) (ha : S'.getD (rk bl o.a.toNat) default = S.getD o.a.toNat default) (hal : rk bl o.a.toNat < S'.length)
    (hb : o.kind = 6 → S'.getD (rk bl o.b.toNat) default = S.getD o.b.toNat default ∧ rk bl o.b.toNat < S'.length) : (o.rn bl).one S' = o.one S := by
  have ea : (o.rn bl).a.toNat = rk bl o.a.toNat := by show ((rk bl o.a.toNat : Nat) : Int).toNat = _; omega
  have hs : (o.rn bl).spare ↔ o.spare := by
    unfold Opr.spare Opr.rn
    dsimp only
    by_cases h6 : o.kind = 6
    · simp [h6]
    · simp [h6]
  obtain ⟨q1, _⟩ := one_ok h
  have q2 := one_b h
  have c1 : ¬ (((o.rn bl).a < 0 ∨ (S'.length : Int) ≤ (o.rn bl).a) ∨ (o.rn bl).kind = 6 ∧ ((o.rn bl).b < 0 ∨ (S'.length : Int) ≤ (o.rn bl).b)) := by
    show ¬ (((rk bl o.a.toNat : Int) < 0 ∨ (S'.length : Int) ≤ (rk bl o.a.toNat : Int)) ∨ o.kind = 6 ∧ ((if o.kind = 6 then (rk bl o.b.toNat : Int) else o.b) < 0 ∨ (S'.length : Int) ≤ (if o.kind = 6 then (rk bl o.b.toNat : Int) else o.b)))
    by_cases h6 : o.kind = 6
    · have := (hb h6).2
      rw [if_pos h6]; omega
    · omega
  have c2 : ¬ ((o.a < 0 ∨ (S.length : Int) ≤ o.a) ∨ o.kind = 6 ∧ (o.b < 0 ∨ (S.length : Int) ≤ o.b)) := by
    by_cases h6 : o.kind = 6
    · have := q2 h6; omega
    · omega
  unfold Opr.one
  rw [if_neg c1, if_neg c2, ea, ha]
  have eb : ((o.rn bl).kind = 6 ∧ S'.getD (o.rn bl).b.toNat default ≠ S.getD o.a.toNat default) ↔ (o.kind = 6 ∧ S.getD o.b.toNat default ≠ S.getD o.a.toNat default) := by
    show (o.kind = 6 ∧ S'.getD (if o.kind = 6 then (rk bl o.b.toNat : Int) else o.b).toNat default ≠ S.getD o.a.toNat default) ↔ _
    by_cases h6 : o.kind = 6
    · rw [if_pos h6, Int.toNat_natCast, (hb h6).1]
    · simp [h6]
  simp only [hs, eb]
  rfl
theorem walk8_trs (bl : List Bool) : ∀ (ops : List Opr) (i : Nat) (j j' w w' : Int) (S S' : List Shp), (walk8 ops j w S).err = 0 → clB bl ops i → S.length = i + 1 → S'.length = rk bl i + 1 → (∀ s ∈ S, s.ok) → w' ≤ w →
    (∀ n, n ≤ i → (n = 0 ∨ bl.getD n false = true) → S'.getD (rk bl n) default = S.getD n default) →
    (walk8 (trs bl ops i) j' w' S').err = 0 ∧ (walk8 (trs bl ops i) j' w' S').work ≤ (walk8 ops j w S).work
  | [], i, j, j', w, w', S, S', h, _, _, _, _, hw, _ => by simpa [walk8, trs] using hw
  | o :: r, i, j, j', w, w', S, S', h, hc, hl, hl', hok, hw, hS => by
    unfold walk8 at h
    split at h
    · rename_i h1; exact absurd h h1
    · rename_i h1
      split at h
      · simp at h
      · rename_i h2
        have h1' : (o.one S).2 = 0 := Classical.not_not.1 h1
        obtain ⟨p1, p2⟩ := step_ok hok h1
        rw [show walk8 (o :: r) j w S = walk8 r (j + 1) (w + o.labour (S.getD o.a.toNat default) (o.one S).1) (S ++ [(o.one S).1]) from by conv => lhs; unfold walk8; rw [if_neg h1, if_neg h2]]
        rw [trs_cons]
        split
        · rename_i hb
          obtain ⟨⟨c1, c2⟩, c3⟩ := hc 0 o rfl hb
          have ra := rk_mono bl c1.2
          have e := one_rn (bl := bl) (S' := S') h1' (hS _ c1.2 c2) (by rw [hl']; simp at ra; omega) (fun h6 => by
            have c4 := c3 h6
            have rb := rk_mono bl c4.1.2
            exact ⟨hS _ c4.1.2 c4.2, by rw [hl']; simp at rb; omega⟩)
          have ea : (o.rn bl).a.toNat = rk bl o.a.toNat := by show ((rk bl o.a.toNat : Nat) : Int).toNat = _; omega
          have elb : (o.rn bl).labour (S'.getD (o.rn bl).a.toNat default) ((o.rn bl).one S').1 = o.labour (S.getD o.a.toNat default) (o.one S).1 := by
            rw [e, ea, hS _ c1.2 c2]; rfl
          have ih := walk8_trs bl r (i + 1) (j + 1) (j' + 1) (w + o.labour (S.getD o.a.toNat default) (o.one S).1) (w' + o.labour (S.getD o.a.toNat default) (o.one S).1) (S ++ [(o.one S).1]) (S' ++ [(o.one S).1]) h (clB_tail hc)
            (by rw [List.length_append, hl]; rfl) (by rw [List.length_append, hl', rk_live hb]; rfl) p2 (by omega) (fun n hn hq => by
              by_cases en : n = i + 1
              · subst en
                rw [rk_live hb, ← hl', ← hl]
                simp [List.getD_eq_getElem?_getD]
              · have hn' : n ≤ i := by omega
                have rn := rk_mono bl hn'
                have := hS n hn' hq
                rw [List.getD_eq_getElem?_getD, List.getD_eq_getElem?_getD, List.getElem?_append_left (by omega), List.getElem?_append_left (by omega)]
                rwa [List.getD_eq_getElem?_getD, List.getD_eq_getElem?_getD] at this)
          have eW : walk8 (o.rn bl :: trs bl r (i + 1)) j' w' S' = walk8 (trs bl r (i + 1)) (j' + 1) (w' + o.labour (S.getD o.a.toNat default) (o.one S).1) (S' ++ [(o.one S).1]) := by
            conv => lhs; unfold walk8
            rw [elb, e, if_neg h1, if_neg (by omega)]
          rw [eW]
          exact ih
        · rename_i hb
          exact walk8_trs bl r (i + 1) (j + 1) j' _ w' (S ++ [(o.one S).1]) S' h (clB_tail hc) (by rw [List.length_append, hl]; rfl) (by rw [hl', rk_dead hb]) p2 (by omega) (fun n hn hq => by
            by_cases en : n = i + 1
            · subst en
              rcases hq with hq | hq
              · omega
              · exact absurd hq hb
            · have hn' : n ≤ i := by omega
              rw [hS n hn' hq, List.getD_eq_getElem?_getD, List.getD_eq_getElem?_getD, List.getElem?_append_left (by omega)])
theorem look8_trs {s : Shp} {lo hi : Int} {ops : List Opr} {out : Int} {bl : List Bool} (h : (look8 s lo hi ops out).err = 0) (hb : isNeed ops out.toNat bl) :
    (look8 s lo hi (trs bl ops 0) (rk bl out.toNat)).err = 0 ∧ (look8 s lo hi (trs bl ops 0) (rk bl out.toNat)).work ≤ (look8 s lo hi ops out).work := by
  obtain ⟨hN, ho, hw⟩ := look8_wf h
  have hc := clB_need hw hb
  have hl := trs_len bl ops 0
  simp only [rk, Nat.zero_add] at hl
  have hr := rk_le bl ops.length
  have ho' := rk_mono bl (m := out.toNat) (n := ops.length) (by omega)
  unfold look8 at h ⊢
  split at h
  · simp at h
  · rename_i h1
    split at h
    · simp at h
    · rename_i h2
      split at h
      · simp at h
      · rename_i h3
        split at h
        · simp at h
        · rename_i h4
          rw [if_neg h1, if_neg h2, if_neg (by omega), if_neg (by omega), if_neg h1, if_neg h2, if_neg h3, if_neg h4]
          refine walk8_trs bl ops 0 0 0 0 0 [s] [s] h hc rfl rfl (fun x hx => ?_) (Int.le_refl _) (fun n hn _ => ?_)
          · simp at hx; subst hx; exact Classical.not_not.1 h1
          · have : n = 0 := by omega
            subst this; rfl
set_option maxHeartbeats 1000000
theorem g_fixq_Valid_v (m s : Int) {R : Bool → Prop} (h : R (decide (scaleOK m s))) : (g_fixq_Valid m s).run R := g_fixq_Valid_ok m s h
theorem and_lo {x : Int} (h : 0 ≤ x ∧ x < 18446744073709551616) : ibits BinOp.and IntKind.u64 x 4294967295 = x % 4294967296 := by
  obtain ⟨n, rfl⟩ := Int.eq_ofNat_of_zero_le h.1
  show IntKind.u64.wrap (((BitVec.ofInt 64 (n : Int) &&& BitVec.ofInt 64 4294967295 : BitVec 64).toNat : Nat) : Int) = _
  have e1 : BitVec.ofInt 64 4294967295 = BitVec.ofNat 64 (2 ^ 32 - 1) := by decide
  have e2 : (BitVec.ofNat 64 (2 ^ 32 - 1)).toNat = 2 ^ 32 - 1 := by decide
  rw [e1, BitVec.ofInt_natCast, BitVec.toNat_and, BitVec.toNat_ofNat, Nat.mod_eq_of_lt (by omega), e2, Nat.and_two_pow_sub_one_eq_mod, wrapU64_in (by omega) (by omega)]
  omega
theorem and_one {x : Int} (h : 0 ≤ x ∧ x < 18446744073709551616) : ibits BinOp.and IntKind.u64 x 1 = x % 2 := by
  obtain ⟨n, rfl⟩ := Int.eq_ofNat_of_zero_le h.1
  show IntKind.u64.wrap (((BitVec.ofInt 64 (n : Int) &&& BitVec.ofInt 64 1 : BitVec 64).toNat : Nat) : Int) = _
  have e1 : BitVec.ofInt 64 1 = 1#64 := by decide
  rw [e1, BitVec.ofInt_natCast, BitVec.toNat_and, BitVec.toNat_ofNat, Nat.mod_eq_of_lt (by omega), show (1#64).toNat = 1 from rfl, Nat.and_one_is_mod, wrapU64_in] <;> omega
theorem mul_bd32 {a b : Int} (ha : 0 ≤ a ∧ a ≤ 4294967295) (hb : 0 ≤ b ∧ b ≤ 4294967295) : 0 ≤ a * b ∧ a * b ≤ 18446744065119617025 :=
  ⟨Int.mul_nonneg ha.1 hb.1, Int.le_trans (Int.mul_le_mul ha.2 hb.2 hb.1 (by omega)) (by omega)⟩
theorem g_math_bits_Mul64_ok {x y : Int} (hx : 0 ≤ x ∧ x < 18446744073709551616) (hy : 0 ≤ y ∧ y < 18446744073709551616) {R : Int × Int → Prop} (h : R (x * y / 18446744073709551616, x * y % 18446744073709551616)) : (g_math_bits_Mul64 x y).run R := by
  unfold g_math_bits_Mul64
  refine W.retI ?_
  have fx : x.fdiv 4294967296 = x / 4294967296 := Int.fdiv_eq_ediv_of_nonneg _ (by omega)
  have fy : y.fdiv 4294967296 = y / 4294967296 := Int.fdiv_eq_ediv_of_nonneg _ (by omega)
  rw [and_lo hx, and_lo hy, fx, fy]
  obtain ⟨xh, hxh⟩ : ∃ xh, xh = x / 4294967296 := ⟨_, rfl⟩
  obtain ⟨xl, hxl⟩ : ∃ xl, xl = x % 4294967296 := ⟨_, rfl⟩
  obtain ⟨yh, hyh⟩ : ∃ yh, yh = y / 4294967296 := ⟨_, rfl⟩
  obtain ⟨yl, hyl⟩ : ∃ yl, yl = y % 4294967296 := ⟨_, rfl⟩
  rw [← hxh, ← hxl, ← hyh, ← hyl]
  have hA := mul_bd32 (a := xh) (b := yh) (by omega) (by omega)
  have hB := mul_bd32 (a := xh) (b := yl) (by omega) (by omega)
  have hC := mul_bd32 (a := xl) (b := yh) (by omega) (by omega)
  have hD := mul_bd32 (a := xl) (b := yl) (by omega) (by omega)
  have hxy : x * y = xh * yh * 18446744073709551616 + (xh * yl + xl * yh) * 4294967296 + xl * yl := by
    have e1 : x = xh * 4294967296 + xl := by omega
    have e2 : y = yh * 4294967296 + yl := by omega
    generalize xh = a at *; generalize xl = b at *; generalize yh = c at *; generalize yl = d at *
    rw [e1, e2, Int.add_mul, Int.mul_add, Int.mul_add, Int.add_mul]
    have q1 : a * 4294967296 * (c * 4294967296) = a * c * 18446744073709551616 := by
      rw [Int.mul_assoc, ← Int.mul_assoc 4294967296 c, Int.mul_comm 4294967296 c, Int.mul_assoc c, ← Int.mul_assoc a c]; rfl
    have q2 : a * 4294967296 * d = a * d * 4294967296 := by rw [Int.mul_assoc, Int.mul_comm 4294967296 d, ← Int.mul_assoc]
    have q3 : b * (c * 4294967296) = b * c * 4294967296 := by rw [← Int.mul_assoc]
    rw [q1, q2, q3]; omega
  rw [hxy] at h
  rw [hxy]
  generalize xh * yh = A at *; generalize xh * yl = B at *; generalize xl * yh = C at *; generalize xl * yl = D at *
  have f : ∀ z : Int, z.fdiv 4294967296 = z / 4294967296 := fun z => Int.fdiv_eq_ediv_of_nonneg _ (by omega)
  rw [wrapU64_in (x := A) (by omega) (by omega), wrapU64_in (x := D) (by omega) (by omega), f D, wrapU64_in (x := B) (by omega) (by omega), wrapU64_in (x := B + D / 4294967296) (by omega) (by omega), f (B + D / 4294967296), and_lo (by omega), wrapU64_in (x := C) (by omega) (by omega),
    wrapU64_in (x := (B + D / 4294967296) % 4294967296 + C) (by omega) (by omega), f ((B + D / 4294967296) % 4294967296 + C), wrapU64_in (x := A + (B + D / 4294967296) / 4294967296) (by omega) (by omega), wrapU64_in (x := A + (B + D / 4294967296) / 4294967296 + ((B + D / 4294967296) % 4294967296 + C) / 4294967296) (by omega) (by omega), wrapU64_eq]
  have e : A + (B + D / 4294967296) / 4294967296 + ((B + D / 4294967296) % 4294967296 + C) / 4294967296 = (A * 18446744073709551616 + (B + C) * 4294967296 + D) / 18446744073709551616 := by omega
  rw [e]; exact h
def shr (q s : Int) : Int := if 0 < s then (q + 2 ^ (s.toNat - 1)) / 2 ^ s.toNat else q
def scaleS (x m s : Int) : Int := if x < 0 then -(shr (-x * m) s) else shr (x * m) s
def meanS (x n : Int) : Int := if x < 0 then -((2 * -x + n) / n / 2) else (2 * x + n) / n / 2
def sat16 (v : Int) : Int := if v < -32768 then -32768 else if 32767 < v then 32767 else v
def clampS (x lo hi : Int) : Int := if hi < x then hi else if x < lo then lo else x
def finS (v zero lo hi : Int) : Int := clampS (sat16 v + zero) lo hi
theorem two_pow_pos (n : Nat) : (0 : Int) < 2 ^ n := Int.pow_pos (by omega)
theorem shr_nonneg {q s : Int} (h : 0 ≤ q) : 0 ≤ shr q s := by
  unfold shr
  split
  · have := two_pow_pos (s.toNat - 1)
    exact Int.ediv_nonneg (by omega) (by have := two_pow_pos s.toNat; omega)
  · exact h
theorem shr_le {q s : Int} (h : 0 ≤ q) : shr q s ≤ q + 1 := by
  unfold shr
  split
  · rename_i hs
    obtain ⟨n, hn⟩ : ∃ n, s.toNat = n + 1 := ⟨s.toNat - 1, by omega⟩
    rw [hn, Nat.add_sub_cancel, Int.pow_succ]
    have hp := two_pow_pos n
    generalize (2 : Int) ^ n = p at *
    refine Int.ediv_le_of_le_mul (by omega) ?_
    have : (q + 1) * (p * 2) = (q + 1) * p * 2 := by rw [Int.mul_assoc]
    rw [this]
    have h1 : q + 1 ≤ (q + 1) * p := by
      have := Int.mul_le_mul_of_nonneg_left (show (1 : Int) ≤ p by omega) (show 0 ≤ q + 1 by omega)
      omega
    have h2 : p ≤ (q + 1) * p := by
      have := Int.mul_le_mul_of_nonneg_right (show (1 : Int) ≤ q + 1 by omega) (show 0 ≤ p by omega)
      omega
    omega
  · omega
theorem clampS_rng {v lo hi : Int} (hl : lo ≤ hi) : lo ≤ clampS v lo hi ∧ clampS v lo hi ≤ hi := by unfold clampS; split <;> (try split) <;> omega
theorem finS_rng {v zero lo hi : Int} (hl : lo ≤ hi) : lo ≤ finS v zero lo hi ∧ finS v zero lo hi ≤ hi := clampS_rng hl
theorem g_fixq_magnitude_ok {x : Int} (hx : -9223372036854775807 ≤ x ∧ x ≤ 9223372036854775807) {R : Int × Bool → Prop} (h : R (if x < 0 then -x else x, decide (x < 0))) : (g_fixq_magnitude x).run R := by
  unfold g_fixq_magnitude
  refine W.iteC (x < 0) rfl (fun h1 => W.retI ?_) (fun h1 => W.retI ?_)
  · rw [if_pos h1, decide_eq_true h1] at h
    rw [wrap64_in (by omega) (by omega), wrapU64_in (by omega) (by omega)]
    rw [show 0 - x = -x by omega]; exact h
  · rw [if_neg h1, decide_eq_false h1] at h
    rw [wrapU64_in (by omega) (by omega)]; exact h
theorem g_fixq_signed_ok {x : Int} {b : Bool} (hx : 0 ≤ x ∧ x ≤ 9223372036854775807) {R : Int → Prop} (h : R (if b then -x else x)) : (g_fixq_signed x b).run R := by
  unfold g_fixq_signed
  cases b
  · refine W.iteF rfl (W.retI ?_)
    rw [wrap64_in (by omega) (by omega)]; exact h
  · refine W.iteT rfl (W.retI ?_)
    have : IntKind.i64.wrap (IntKind.u64.wrap (0 - x)) = -x := by rw [wrapU64_eq, IntKind.wrap_i64]; omega
    rw [this]; exact h
theorem shr_step {q p : Int} (hq : 0 ≤ q) (hp : 0 < p) : q / (p * 2) + q / p % 2 = (q + p) / (p * 2) := by
  rw [← Int.ediv_ediv_of_nonneg (show 0 ≤ p by omega), ← Int.ediv_ediv_of_nonneg (show 0 ≤ p by omega)]
  have : (q + p) / p = q / p + 1 := by
    have := Int.add_mul_ediv_right q 1 (show p ≠ 0 by omega)
    rw [Int.one_mul] at this; exact this
  rw [this]; omega
theorem g_fixq_Shift_ok {q s : Int} (hq : 0 ≤ q ∧ q ≤ 9223372036854775806) (hs : 0 ≤ s ∧ s ≤ 62) {R : Int × Int → Prop} (h : R (shr q s, 0)) : (g_fixq_Shift q s).run R := by
  unfold g_fixq_Shift
  refine W.iteF (by rw [decide_eq_false (show ¬ s < 0 by omega), decide_eq_false (show ¬ 62 < s by omega)]; rfl) ?_
  refine W.bindI (g_fixq_magnitude_ok (by omega) ?_)
  rw [if_neg (show ¬ q < 0 by omega), decide_eq_false (show ¬ q < 0 by omega)]
  dsimp only
  have hu : IntKind.u64.wrap s = s := wrapU64_in (by omega) (by omega)
  have hm : min s.toNat 64 = s.toNat := by omega
  rw [hu, hm]
  have fd : ∀ n : Nat, q.fdiv (2 ^ n) = q / 2 ^ n := fun n => Int.fdiv_eq_ediv_of_nonneg _ (by have := two_pow_pos n; omega)
  refine W.needI hs.1 (W.bindI ?_)
  have fin : ∀ v : Int, v = shr q s → ((W.bind (g_fixq_signed v false) fun v2 => W.ret (v2, (0 : Int))) : W (Int × Int)).run R := fun v hv => by
    subst hv
    have h1 := shr_nonneg (s := s) hq.1
    have h2 := shr_le (s := s) hq.1
    exact W.bindI (g_fixq_signed_ok (by omega) (W.retI h))
  refine W.iteC (0 < s) rfl (fun h1 => ?_) (fun h1 => W.retI ?_)
  · have hu2 : IntKind.u64.wrap (IntKind.i64.wrap (s - 1)) = s - 1 := by rw [wrap64_in (by omega) (by omega), wrapU64_in (by omega) (by omega)]
    rw [hu2]
    refine W.needI (by omega) (W.retI (fin _ ?_))
    have hm2 : min (s - 1).toNat 64 = s.toNat - 1 := by omega
    rw [hm2, fd, fd]
    unfold shr
    rw [if_pos h1]
    obtain ⟨n, hn⟩ : ∃ n, s.toNat = n + 1 := ⟨s.toNat - 1, by omega⟩
    rw [hn, Nat.add_sub_cancel, Int.pow_succ]
    have hp := two_pow_pos n
    generalize (2 : Int) ^ n = p at *
    have d1 : 0 ≤ q / p := Int.ediv_nonneg hq.1 (by omega)
    have d2 : q / p ≤ q := Int.ediv_le_self _ hq.1
    have d3 : 0 ≤ q / (p * 2) := Int.ediv_nonneg hq.1 (by omega)
    have d4 : q / (p * 2) ≤ q := Int.ediv_le_self _ hq.1
    rw [and_one ⟨d1, by omega⟩, wrapU64_in (by omega) (by omega)]
    exact shr_step hq.1 hp
  · rw [fd]
    refine fin _ ?_
    have : s.toNat = 0 := by omega
    unfold shr
    rw [if_neg h1, this]
    simp
theorem scale_bd {y m : Int} (hy : 0 ≤ y ∧ y ≤ 4294967296) (hm : 1 ≤ m ∧ m ≤ 2147483647) : 0 ≤ y * m ∧ y * m ≤ 9223372032559808512 :=
  ⟨Int.mul_nonneg hy.1 (by omega), Int.le_trans (Int.mul_le_mul hy.2 hm.2 (by omega) (by omega)) (by omega)⟩
theorem g_fixq_Apply_ok {x m s : Int} (hs : scaleOK m s) (hx : -4294967296 ≤ x ∧ x ≤ 4294967296) {R : Int × Int → Prop} (h : R (scaleS x m s, 0)) : (g_fixq_Apply x m s).run R := by
  unfold g_fixq_Apply
  refine W.bindI (g_fixq_Valid_v m s ?_)
  unfold scaleOK at hs
  refine W.iteF (by rw [decide_eq_true (show scaleOK m s from hs)]; rfl) ?_
  refine W.bindI (g_fixq_magnitude_ok (by omega) ?_)
  obtain ⟨y, hy⟩ : ∃ y, y = if x < 0 then -x else x := ⟨_, rfl⟩
  rw [← hy]
  have hyb : 0 ≤ y ∧ y ≤ 4294967296 := by rw [hy]; split <;> omega
  have hb := scale_bd hyb ⟨hs.1, hs.2.1⟩
  dsimp only
  refine W.iteF (decide_eq_false (by omega)) ?_
  rw [wrapU64_in (x := m) (by omega) (by omega), wrapU64_in (x := y * m) (by omega) (by omega), wrap64_in (x := y * m) (by omega) (by omega)]
  refine W.bindI (g_fixq_Shift_ok (by omega) hs.2.2 ?_)
  have h1 := shr_nonneg (s := s) hb.1
  have h2 := shr_le (s := s) hb.1
  dsimp only
  rw [wrapU64_in (by omega) (by omega)]
  refine W.bindI (g_fixq_signed_ok (by omega) (W.retI ?_))
  have e : (if decide (x < 0) = true then -shr (y * m) s else shr (y * m) s) = scaleS x m s := by
    unfold scaleS
    by_cases hx0 : x < 0
    · rw [if_pos hx0, if_pos (decide_eq_true hx0), hy, if_pos hx0]
    · rw [if_neg hx0, if_neg (by simpa using hx0), hy, if_neg hx0]
  rw [e]; exact h
theorem g_fixq_Mean_ok {x n : Int} (hx : -1099511627776 ≤ x ∧ x ≤ 1099511627776) (hn : 1 ≤ n ∧ n ≤ 1099511627776) {R : Int × Int → Prop} (h : R (meanS x n, 0)) : (g_fixq_Mean x n).run R := by
  unfold g_fixq_Mean
  refine W.iteF (decide_eq_false (by omega)) ?_
  refine W.bindI (g_fixq_magnitude_ok (by omega) ?_)
  obtain ⟨y, hy⟩ : ∃ y, y = if x < 0 then -x else x := ⟨_, rfl⟩
  rw [← hy]
  have hyb : 0 ≤ y ∧ y ≤ 1099511627776 := by rw [hy]; split <;> omega
  dsimp only
  refine W.bindI (g_math_bits_Mul64_ok (by omega) (by omega) ?_)
  have e1 : y * 2 / 18446744073709551616 = 0 := by omega
  have e2 : y * 2 % 18446744073709551616 = y * 2 := by omega
  rw [e1, e2]
  dsimp only
  rw [wrapU64_in (x := n) (by omega) (by omega)]
  refine W.bindI ?_
  unfold g_math_bits_Add64
  refine W.needI (by omega) (W.retI ?_)
  have e3 : (y * 2 + n + 0) % 18446744073709551616 = 2 * y + n := by omega
  have e4 : (y * 2 + n + 0) / 18446744073709551616 = 0 := by omega
  rw [e3, e4]
  dsimp only
  rw [wrapU64_in (x := 0 + 0) (by omega) (by omega)]
  refine W.needI (by omega) (W.bindI ?_)
  unfold g_math_bits_Div64
  have e5 : ((0 : Int) + 0).tmod n = 0 := by simp
  rw [e5]
  refine W.iteF (by simp; omega) (W.iteF (decide_eq_false (by omega)) (W.iteT rfl (W.needI (by omega) (W.needI (by omega) (W.retI ?_)))))
  dsimp only
  have e6 : (2 * y + n).tdiv n = (2 * y + n) / n := Int.tdiv_eq_ediv_of_nonneg (by omega)
  have d1 : 0 ≤ (2 * y + n) / n := Int.ediv_nonneg (by omega) (by omega)
  have d2 : (2 * y + n) / n ≤ 2 * y + n := Int.ediv_le_self _ (by omega)
  rw [e6, wrapU64_in (x := (2 * y + n) / n) (by omega) (by omega)]
  have e7 : ((2 * y + n) / n).tdiv 2 = (2 * y + n) / n / 2 := Int.tdiv_eq_ediv_of_nonneg (by omega)
  rw [e7, wrapU64_in (by omega) (by omega)]
  refine W.iteF (decide_eq_false (by omega)) (W.bindI (g_fixq_signed_ok (by omega) (W.retI ?_)))
  have e : (if decide (x < 0) = true then -((2 * y + n) / n / 2) else (2 * y + n) / n / 2) = meanS x n := by
    unfold meanS
    by_cases hx0 : x < 0
    · rw [if_pos hx0, if_pos (decide_eq_true hx0), hy, if_pos hx0]
    · rw [if_neg hx0, if_neg (by simpa using hx0), hy, if_neg hx0]
  rw [e]; exact h
theorem wrap_i16 (x : Int) : IntKind.i16.wrap x = (x + 32768) % 65536 - 32768 := by
  unfold IntKind.wrap; simp only [IntKind.bits, IntKind.signed, Bool.true_and, decide_eq_true_eq]; split <;> simp_all <;> omega
theorem wrap_i8 (x : Int) : IntKind.i8.wrap x = (x + 128) % 256 - 128 := by
  unfold IntKind.wrap; simp only [IntKind.bits, IntKind.signed, Bool.true_and, decide_eq_true_eq]; split <;> simp_all <;> omega
theorem g_num_Sat_int16_ok {v : Int} {R : Int → Prop} (h : R (sat16 v)) : (g_num_Sat_int16_ v).run R := by
  unfold g_num_Sat_int16_ g_num_Fits_int16_
  refine W.bindI (W.retI ?_)
  rw [wrap_i16, wrap64_in (by omega) (by omega)]
  unfold sat16 at h
  refine W.iteC (-32768 ≤ v ∧ v ≤ 32767) (by rw [Bool.eq_iff_iff]; simp only [beq_iff_eq, decide_eq_true_eq]; omega) (fun h1 => W.retI ?_) (fun h1 => W.iteC (v < 0) rfl (fun h2 => W.retI ?_) (fun h2 => W.retI ?_))
  · rw [if_neg (by omega), if_neg (by omega)] at h
    rw [show (v + 32768) % 65536 - 32768 = v by omega]; exact h
  · rw [if_pos (by omega)] at h; exact h
  · rw [if_neg (by omega), if_pos (by omega)] at h; exact h
theorem g_num_Clamp_ok {v lo hi : Int} {R : Int → Prop} (h : R (clampS v lo hi)) : (g_num_Clamp v lo hi).run R := by
  unfold g_num_Clamp
  unfold clampS at h
  refine W.iteC (hi < v) rfl (fun h1 => W.retI (by rw [if_pos h1] at h; exact h)) (fun h1 => W.iteC (v < lo) rfl (fun h2 => W.retI (by rw [if_neg h1, if_pos h2] at h; exact h)) (fun h2 => W.retI (by rw [if_neg h1, if_neg h2] at h; exact h)))
theorem sat16_rng (v : Int) : -32768 ≤ sat16 v ∧ sat16 v ≤ 32767 := by unfold sat16; split <;> (try split) <;> omega
theorem g_fixq_Finish_ok {v zero lo hi : Int} (hz : -128 ≤ zero ∧ zero ≤ 127) (hl : -128 ≤ lo ∧ lo ≤ hi ∧ hi ≤ 127) {R : Int × Int → Prop} (h : R (finS v zero lo hi, 0)) : (g_fixq_Finish v zero lo hi).run R := by
  unfold g_fixq_Finish g_num_Fits_int8_
  refine W.bindI (W.iteF (by rw [decide_eq_false (show ¬ lo < -128 by omega), decide_eq_false (show ¬ 127 < hi by omega), decide_eq_false (show ¬ hi < lo by omega)]; rfl) (W.bindI (W.retI (W.retI ?_))))
  rw [wrap_i8, wrap64_in (by omega) (by omega), show (zero + 128) % 256 - 128 = zero by omega]
  refine W.iteF (by simp) (W.bindI (g_num_Sat_int16_ok ?_))
  have := sat16_rng v
  rw [wrap64_in (x := sat16 v) (by omega) (by omega), wrap64_in (by omega) (by omega)]
  exact W.bindI (g_num_Clamp_ok (W.retI h))
def SpOK (n : Int) (a : Int × Int) : Prop := -n ≤ a.1 ∧ a.1 ≤ a.2 ∧ a.2 ≤ n
theorem mul_bnd {x k M K : Int} (hx : -M ≤ x ∧ x ≤ M) (hk : -K ≤ k ∧ k ≤ K) (hM : 0 ≤ M) (hK : 0 ≤ K) : -(M * K) ≤ x * k ∧ x * k ≤ M * K := by
  have key : ∀ u v : Int, 0 ≤ u → u ≤ M → 0 ≤ v → v ≤ K → 0 ≤ u * v ∧ u * v ≤ M * K := fun u v h1 h2 h3 h4 => ⟨Int.mul_nonneg h1 h3, Int.mul_le_mul h2 h4 h3 hM⟩
  by_cases h1 : 0 ≤ x <;> by_cases h2 : 0 ≤ k
  · have := key x k h1 hx.2 h2 hk.2; omega
  · have := key x (-k) h1 hx.2 (by omega) (by omega); rw [Int.mul_neg] at this; omega
  · have := key (-x) k (by omega) (by omega) h2 hk.2; rw [Int.neg_mul] at this; omega
  · have := key (-x) (-k) (by omega) (by omega) (by omega) (by omega); rw [Int.neg_mul_neg] at this; omega
theorem imin_t (a b : Int) : imin true a b = max a b := by unfold imin; simp only [cond_true]; split <;> omega
theorem scaleS_bd {x m s : Int} (hs : scaleOK m s) (hx : -128 ≤ x ∧ x ≤ 128) : -274877906817 ≤ scaleS x m s ∧ scaleS x m s ≤ 274877906817 := by
  unfold scaleOK at hs
  have key : ∀ y : Int, 0 ≤ y → y ≤ 128 → 0 ≤ shr (y * m) s ∧ shr (y * m) s ≤ 274877906817 := fun y h1 h2 => by
    have hb : y * m ≤ 128 * 2147483647 := Int.mul_le_mul h2 hs.2.1 (by omega) (by omega)
    have h0 := Int.mul_nonneg h1 (show 0 ≤ m by omega)
    have a := shr_nonneg (s := s) h0
    have b := shr_le (s := s) h0
    omega
  unfold scaleS
  split
  · have := key (-x) (by omega) (by omega); omega
  · have := key x (by omega) (by omega); omega
structure OF (o : Opr) (s t : Shp) : Prop where
  kind : 1 ≤ o.kind ∧ o.kind ≤ 8
  sok : s.ok
  tok : t.ok
  mks : (o.mk1 s).2 = 0 ∧ t = (o.mk1 s).1
  len : reduces o.kind → o.len s ≤ 512
  ws : (o.ws.length : Int) = (o.lists s).1
  bs : (o.bs.length : Int) = (o.lists s).2
  sc : scales o.kind → scaleOK o.sam o.sas
  sb : o.kind = 6 → scaleOK o.sbm o.sbs
  v : (val o.lo ∧ val o.hi ∧ o.lo ≤ o.hi) ∧ val o.zero ∧ val o.pad
  m : o.kind ≤ 2 → 1 ≤ o.m ∧ o.m ≤ 1024
theorem one_all {o : Opr} {S : List Shp} (h : (o.one S).2 = 0) (hS : (S.getD o.a.toNat default).ok) : OF o (S.getD o.a.toNat default) (o.one S).1 ∧ (0 ≤ o.a ∧ o.a < S.length) ∧ (o.kind = 6 → 0 ≤ o.b ∧ o.b < S.length) := by
  have h0 := h
  unfold Opr.one at h
  repeat' split at h
  all_goals try (exfalso; simp at h; done)
  · rename_i h5; exact absurd h h5
  · rename_i h1 h2 h3 h4 h5 h6 h7 h8 h9 h10
    have e : (o.one S).1 = (o.mk1 (S.getD o.a.toNat default)).1 := (one_at h0).2
    have h5 := Classical.not_not.1 h5
    simp only [not_or, not_and, Classical.not_not, Int.not_lt] at h2 h4 h6 h7 h8 h9 h10
    exact ⟨⟨by omega, hS, by rw [e]; exact h6.2, ⟨h5, e⟩, fun hr => h7 hr, h8.1, h8.2, fun hs => h9.1 hs, fun hk => h9.2 hk, ⟨⟨h10.1, h10.2.1, h10.2.2.1⟩, h10.2.2.2.1, h10.2.2.2.2⟩, fun hk => h4 hk⟩, by omega, fun hk => by have := h2.2 hk; omega⟩
structure MF (s : Shp) (lo hi : Int) (l : List Opr) (S : List Shp) : Prop where
  n : S.length = l.length + 1
  s0 : S[0]? = some s
  sok : ∀ i, i ≤ l.length → (S.getD i default).ok
  v : val lo ∧ val hi ∧ lo ≤ hi
  n64 : l.length ≤ 64
  op : ∀ (j : Nat) (o : Opr), l[j]? = some o → OF o (S.getD o.a.toNat default) (S.getD (j + 1) default) ∧ (0 ≤ o.a ∧ o.a ≤ j) ∧ (o.kind = 6 → 0 ≤ o.b ∧ o.b ≤ j)
theorem look8_MF {s : Shp} {lo hi : Int} {l : List Opr} {out : Int} (he : (look8 s lo hi l out).err = 0) : MF s lo hi l (look8 s lo hi l out).S := by
  have hf := (look8_facts s lo hi l out).1 he
  obtain ⟨h0, hat⟩ := look8_at s lo hi l out he
  have hg : s.ok ∧ (val lo ∧ val hi ∧ lo ≤ hi) ∧ l.length ≤ 64 := by
    unfold look8 at he
    repeat' split at he
    all_goals try (exfalso; simp at he; done)
    rename_i h1 h2 h3 h4
    simp only [not_or, Classical.not_not, Int.not_lt] at h1 h2
    exact ⟨h1, by omega, by omega⟩
  generalize (look8 s lo hi l out).S = S at *
  have hok : ∀ i, i ≤ l.length → (S.getD i default).ok := fun i hi => by
    cases i with
    | zero => rw [List.getD_eq_getElem?_getD, h0]; exact hg.1
    | succ i =>
      have hj : l[i]? = some l[i] := List.getElem?_eq_getElem (by omega)
      obtain ⟨q1, q2⟩ := hat i _ hj
      exact (at_ok q1 (by rw [hf.2]; omega) q2).2.1
  refine ⟨hf.2, h0, hok, hg.2.1, hg.2.2, fun j o hj => ?_⟩
  have hjl : j < l.length := (List.getElem?_eq_some_iff.1 hj).1
  obtain ⟨q1, q2⟩ := hat j o hj
  obtain ⟨a1, _, _, _⟩ := at_ok q1 (by rw [hf.2]; omega) q2
  have hl : (S.take (1 + j)).length = 1 + j := by simp; omega
  have et : ∀ i : Nat, i < 1 + j → (S.take (1 + j)).getD i default = S.getD i default := fun i hi => by
    rw [List.getD_eq_getElem?_getD, List.getD_eq_getElem?_getD, List.getElem?_take, if_pos hi]
  have ea := et o.a.toNat (by omega)
  obtain ⟨b1, b2, b3⟩ := one_all q1 (by rw [ea]; exact hok _ (by omega))
  rw [ea] at b1
  have e2 : S.getD (j + 1) default = (o.one (S.take (1 + j))).1 := by rw [List.getD_eq_getElem?_getD, Nat.add_comm j 1, q2]; rfl
  rw [hl] at b2 b3
  exact ⟨by rw [e2]; exact b1, by omega, fun h6 => by have := b3 h6; omega⟩
namespace OF
variable {o : Opr} {s t : Shp} (H : OF o s t)
include H
theorem dense (h : o.kind = 1) : t = ⟨1, 1, o.m⟩ := by
  have := H.mks.2
  unfold Opr.mk1 at this
  rw [if_pos h] at this; exact this
theorem slide (h : slides o.kind) : o.win.ok ∧ t.h = places (s.h + o.win.top + o.win.bottom) o.win.kh o.win.sh ∧ t.w = places (s.w + o.win.left + o.win.right) o.win.kw o.win.sw ∧ 1 ≤ t.h ∧ 1 ≤ t.w ∧ t.c = (if o.kind = 2 then o.m else s.c) ∧ wout s o.win = (t.h, t.w, 0) := by
  obtain ⟨h1, h2⟩ := H.mks
  have hk : o.kind ≠ 1 := by unfold slides at h; omega
  unfold Opr.mk1 at h1 h2
  rw [if_neg hk, if_pos h] at h1 h2
  by_cases hw : (wout s o.win).2.2 ≠ 0
  · rw [if_pos hw] at h1; exact absurd h1 hw
  · rw [if_neg hw] at h2
    have hw0 := Classical.not_not.1 hw
    have tok := H.tok
    obtain ⟨_, wok⟩ := wout_win hw0
    have hwe : wout s o.win = (if places (s.h + o.win.top + o.win.bottom) o.win.kh o.win.sh = 0 ∨ places (s.w + o.win.left + o.win.right) o.win.kw o.win.sw = 0 then (0, 0, 60) else (places (s.h + o.win.top + o.win.bottom) o.win.kh o.win.sh, places (s.w + o.win.left + o.win.right) o.win.kw o.win.sw, 0)) := by
      unfold wout
      rw [if_neg (Classical.not_not.2 H.sok), if_neg (Classical.not_not.2 wok)]
    rw [hwe] at hw0 h2 ⊢
    split at hw0
    · simp at hw0
    · rename_i hp
      rw [if_neg hp] at h2 ⊢
      subst h2
      unfold Shp.ok at tok
      exact ⟨wok, rfl, rfl, tok.1.1, tok.2.1.1, rfl, rfl⟩
theorem tc : t.c = (if o.kind = 1 ∨ o.kind = 2 then o.m else s.c) := by
  by_cases h1 : o.kind = 1
  · rw [H.dense h1, if_pos (.inl h1)]
  · by_cases h2 : slides o.kind
    · rw [(H.slide h2).2.2.2.2.2.1]
      by_cases h3 : o.kind = 2
      · rw [if_pos h3, if_pos (.inr h3)]
      · rw [if_neg h3, if_neg (by omega)]
    · have := H.mks.2
      unfold Opr.mk1 at this
      rw [if_neg h1, if_neg h2] at this
      unfold slides at h2
      rw [this, if_neg (by omega)]
theorem lenp (h : reduces o.kind) : 1 ≤ o.len s ∧ o.len s ≤ 512 := by
  refine ⟨?_, H.len h⟩
  have hs := H.sok
  unfold Shp.ok at hs
  have p : ∀ a b : Int, 1 ≤ a → 1 ≤ b → 1 ≤ a * b := fun a b ha hb => by
    have := Int.mul_pos (show 0 < a by omega) (show 0 < b by omega); omega
  unfold Opr.len
  split
  · exact p _ _ (p _ _ hs.1.1 hs.2.1.1) hs.2.2.1.1
  · have hw := (H.slide (by unfold slides; unfold reduces at h; omega)).1
    unfold Win.ok sideOK at hw
    split
    · exact p _ _ (p _ _ hw.1.1.1 hw.2.1.1) hs.2.2.1.1
    · exact p _ _ hw.1.1.1 hw.2.1.1
theorem pos : 1 ≤ t.h * t.w ∧ t.h * t.w ≤ 16384 ∧ 1 ≤ t.c ∧ t.c ≤ 1024 ∧ t.h ≤ 1024 ∧ t.w ≤ 1024 ∧ 1 ≤ t.h ∧ 1 ≤ t.w := by
  have ht := H.tok
  unfold Shp.ok at ht
  have h1 := Int.mul_pos (show 0 < t.h by omega) (show 0 < t.w by omega)
  have h2 : t.h * t.w * 1 ≤ t.h * t.w * t.c := Int.mul_le_mul_of_nonneg_left (by omega) (by omega)
  omega
end OF
set_option linter.unusedVariables false
set_option maxHeartbeats 1000000
theorem W.loop_for {σ ε : Type} {f : σ → W (σ ⊕ ε)} {R : ε → Prop} (n : Nat) (J : Nat → σ → Prop) (h : ∀ i s, i < n → J i s → (f s).run (W.on (J (i + 1)) R)) (hend : ∀ s, J n s → (f s).run (W.on (fun _ => False) R)) {s : σ} (h0 : J 0 s) : (W.loop f s).run R := by
  have key : ∀ k i s, n - i = k → i ≤ n → J i s → (W.loop f s).run R := by
    intro k
    induction k with
    | zero =>
      intro i s hk hi hJ
      have : i = n := by omega
      subst this
      exact W.loop_unroll ((f s).mono (W.on_mono (fun _ q => q.elim) fun _ => id) (hend s hJ))
    | succ k ih =>
      intro i s hk hi hJ
      exact W.loop_unroll ((f s).mono (W.on_mono (fun s' q => ih (i + 1) s' (by omega) (by omega) q) fun _ => id) (h i s (by omega) hJ))
  exact key n 0 s (by omega) (by omega) h0
theorem W.each_range {τ σ : Type} {B : τ → σ → W σ} {row : Nat → W τ} {N : Nat} {s : σ} {R : σ → Prop} (Inv : Nat → σ → Prop) (h0 : Inv 0 s) (step : ∀ k s, k < N → Inv k s → (row k).run fun t => (B t s).run (Inv (k + 1))) (fin : ∀ s, Inv N s → R s) :
    (W.each B ((List.range N).map row) s).run R := by
  have key : ∀ n k s, k + n = N → Inv k s → (W.each B ((List.range' k n).map row) s).run R := by
    intro n
    induction n with
    | zero => intro k s hk hi; rw [Nat.add_zero] at hk; subst hk; exact fin s hi
    | succ n ih =>
      intro k s hk hi
      rw [List.range'_succ, List.map_cons]
      exact (row k).mono (fun t ht => W.mono (B t s) (fun s' hs' => ih (k + 1) s' (by omega) hs') ht) (step k s (by omega) hi)
  rw [List.range_eq_range']
  exact key N 0 s (by omega) h0
def tapAt (s : Shp) (w : Win) (cols at' k : Int) : Int :=
  if (0 ≤ at' / cols * w.sh - w.top + k / w.kw ∧ at' / cols * w.sh - w.top + k / w.kw ≤ s.h - 1) ∧ (0 ≤ at' % cols * w.sw - w.left + k % w.kw ∧ at' % cols * w.sw - w.left + k % w.kw ≤ s.w - 1)
  then (at' / cols * w.sh - w.top + k / w.kw) * s.w + (at' % cols * w.sw - w.left + k % w.kw) else -1
def placeS (o : Opr) (s t : Shp) (ch at' : Int) (i : Nat) : Int :=
  if o.kind = 1 then i
  else if tapAt s o.win t.w at' (if o.kind = 2 then (i : Int) / s.c else i) < 0 then -1
  else tapAt s o.win t.w at' (if o.kind = 2 then (i : Int) / s.c else i) * s.c + (if o.kind = 2 then (i : Int) % s.c else ch - 1)
def rowsJ (f : Nat → Int) (n : Nat) : Rws := (List.range n).map fun i => [I (f i)]
theorem rowsJ_succ (f : Nat → Int) (n : Nat) : rowsJ f (n + 1) = rowsJ f n ++ [[I (f n)]] := by unfold rowsJ; rw [List.range_succ, List.map_append]; rfl
theorem rowsJ_len (f : Nat → Int) (n : Nat) : (rowsJ f n).length = n := by simp [rowsJ]
theorem rowsJ_ri (f : Nat → Int) (n i : Nat) (h : i < n) : ri (rowsJ f n) i 0 = f i := by
  simp only [ri, cellOf, List.getD_eq_getElem?_getD, rowsJ, List.getElem?_map, List.getElem?_range h]; rfl
section
variable {o : Opr} {s t : Shp}
theorem tap_bd {w : Win} {cols at' k : Int} (hs : s.ok) : -1 ≤ tapAt s w cols at' k ∧ tapAt s w cols at' k < s.h * s.w := by
  unfold tapAt
  unfold Shp.ok at hs
  have h1 := Int.mul_pos (show 0 < s.h by omega) (show 0 < s.w by omega)
  split
  · rename_i h
    generalize at' / cols * w.sh - w.top + k / w.kw = y at h ⊢
    generalize at' % cols * w.sw - w.left + k % w.kw = x at h ⊢
    have a := Int.mul_nonneg (show 0 ≤ y by omega) (show 0 ≤ s.w by omega)
    have b := Int.mul_le_mul_of_nonneg_right (show y ≤ s.h - 1 by omega) (show 0 ≤ s.w by omega)
    rw [Int.sub_mul] at b
    omega
  · omega
theorem win_bd (h : o.win.ok) : (1 ≤ o.win.kh ∧ o.win.kh ≤ 32) ∧ (1 ≤ o.win.kw ∧ o.win.kw ≤ 32) ∧ (1 ≤ o.win.kh * o.win.kw ∧ o.win.kh * o.win.kw ≤ 1024) := by
  unfold Win.ok sideOK at h
  have h1 := Int.mul_pos (show 0 < o.win.kh by omega) (show 0 < o.win.kw by omega)
  have h2 := Int.mul_le_mul (show o.win.kh ≤ 32 by omega) (show o.win.kw ≤ 32 by omega) (by omega) (by omega)
  omega
theorem corner_bd {cols n st pad at' : Int} (hc : 1 ≤ cols) (hn : n ≤ 1024) (h : 0 ≤ at' ∧ at' < n * cols) (hs : 1 ≤ st ∧ st ≤ 32) (hp : 0 ≤ pad ∧ pad ≤ 31) : (0 ≤ at' / cols ∧ at' / cols < n) ∧ (-31 ≤ at' / cols * st - pad ∧ at' / cols * st - pad ≤ 32768) := by
  have h1 : 0 ≤ at' / cols := Int.ediv_nonneg h.1 (by omega)
  have h2 : at' / cols < n := Int.ediv_lt_of_lt_mul (by omega) h.2
  have h3 := Int.mul_nonneg h1 (show 0 ≤ st by omega)
  have h4 := Int.mul_le_mul (show at' / cols ≤ 1024 by omega) hs.2 (by omega) (by omega)
  omega
theorem corner2_bd {cols st pad at' : Int} (hc : 1 ≤ cols ∧ cols ≤ 1024) (hs : 1 ≤ st ∧ st ≤ 32) (hp : 0 ≤ pad ∧ pad ≤ 31) : -31 ≤ at' % cols * st - pad ∧ at' % cols * st - pad ≤ 32768 := by
  have h1 : 0 ≤ at' % cols := Int.emod_nonneg _ (by omega)
  have h2 : at' % cols < cols := Int.emod_lt_of_pos _ (by omega)
  have h3 := Int.mul_nonneg h1 (show 0 ≤ st by omega)
  have h4 := Int.mul_le_mul (show at' % cols ≤ 1024 by omega) hs.2 (by omega) (by omega)
  omega
theorem g_window_Taps_ok (H : OF o s t) (hk : slides o.kind) {at' : Int} (hat : 0 ≤ at' ∧ at' < t.h * t.w) {R : Unit ⊕ (Int × Int × Int × Int × Int × Int × Int × Int × Int × Int × Int × Int × Int) → Prop}
    (h : R (Sum.inr (o.win.kh, o.win.kw, o.win.sh, o.win.sw, o.win.top, o.win.left, o.win.bottom, o.win.right, at' / t.w * o.win.sh - o.win.top, at' % t.w * o.win.sw - o.win.left, s.h, s.w, s.c))) :
    (g_window_Taps s.h s.w s.c o.win.kh o.win.kw o.win.sh o.win.sw o.win.top o.win.left o.win.bottom o.win.right at').run R := by
  obtain ⟨wok, _, _, h1, h2, _, hw⟩ := H.slide hk
  have hp := H.pos
  unfold g_window_Taps
  refine W.bindI (g_window_Out_ok s o.win ?_)
  rw [hw]
  dsimp only
  rw [wrap64_in (x := t.h * t.w) (by omega) (by omega)]
  refine W.iteF (by rw [decide_eq_false (show ¬ at' < 0 by omega), decide_eq_false (show ¬ t.h * t.w ≤ at' by omega)]; rfl) (W.needI (by omega) (W.needI (by omega) (W.retI ?_)))
  unfold Win.ok sideOK at wok
  rw [Int.tdiv_eq_ediv_of_nonneg hat.1, Int.tmod_eq_emod_of_nonneg hat.1]
  have c1 := corner_bd (cols := t.w) (n := t.h) (st := o.win.sh) (pad := o.win.top) (by omega) (by omega) hat (by omega) (by omega)
  have c2 := corner2_bd (cols := t.w) (st := o.win.sw) (pad := o.win.left) (at' := at') (by omega) (by omega) (by omega)
  have c3 := Int.ediv_le_self (a := at') t.w hat.1
  have c4 := Int.emod_lt_of_pos at' (show 0 < t.w by omega)
  have c5 := Int.emod_nonneg at' (show t.w ≠ 0 by omega)
  rw [wrap64_in (x := at' / t.w) (by omega) (by omega), wrap64_in (x := at' / t.w * o.win.sh) (by omega) (by omega), wrap64_in (x := at' / t.w * o.win.sh - o.win.top) (by omega) (by omega), wrap64_in (x := at' % t.w * o.win.sw) (by omega) (by omega), wrap64_in (x := at' % t.w * o.win.sw - o.win.left) (by omega) (by omega)]
  exact h
theorem g_window_Taps_2_ok (H : OF o s t) (hk : slides o.kind) {at' : Int} (hat : 0 ≤ at' ∧ at' < t.h * t.w) {k : Nat} (hkk : (k : Int) < o.win.kh * o.win.kw) {R : Int × Int → Prop} (h : R ((k : Int), tapAt s o.win t.w at' k)) :
    (g_window_Taps_2 (k : Int) o.win.kh o.win.kw o.win.sh o.win.sw o.win.top o.win.left o.win.bottom o.win.right (at' / t.w * o.win.sh - o.win.top) (at' % t.w * o.win.sw - o.win.left) s.h s.w s.c).run R := by
  obtain ⟨wok, _, _, h1, h2, _, hw⟩ := H.slide hk
  have hp := H.pos
  have wb := win_bd wok
  unfold g_window_Taps_2
  unfold Win.ok sideOK at wok
  have sok := H.sok
  have tb := tap_bd (w := o.win) (cols := t.w) (at' := at') (k := (k : Int)) sok
  unfold tapAt at h tb
  unfold Shp.ok at sok
  have c1 := corner_bd (cols := t.w) (n := t.h) (st := o.win.sh) (pad := o.win.top) (by omega) (by omega) hat (by omega) (by omega)
  have c2 := corner2_bd (cols := t.w) (st := o.win.sw) (pad := o.win.left) (at' := at') (by omega) (by omega) (by omega)
  have k0 : (0 : Int) ≤ k := by omega
  have d1 : 0 ≤ (k : Int) / o.win.kw := Int.ediv_nonneg k0 (by omega)
  have d2 := Int.ediv_le_self (a := (k : Int)) o.win.kw k0
  have d3 := Int.emod_nonneg (k : Int) (show o.win.kw ≠ 0 by omega)
  have d4 := Int.emod_lt_of_pos (k : Int) (show 0 < o.win.kw by omega)
  rw [Int.tdiv_eq_ediv_of_nonneg k0, Int.tmod_eq_emod_of_nonneg k0, wrap64_in (x := (k : Int) / o.win.kw) (by omega) (by omega)]
  obtain ⟨Y, hY⟩ : ∃ Y, Y = at' / t.w * o.win.sh - o.win.top + (k : Int) / o.win.kw := ⟨_, rfl⟩
  obtain ⟨X, hX⟩ : ∃ X, X = at' % t.w * o.win.sw - o.win.left + (k : Int) % o.win.kw := ⟨_, rfl⟩
  rw [← hY, ← hX] at h ⊢
  have bY : -31 ≤ Y ∧ Y ≤ 40000 := by omega
  have bX : -31 ≤ X ∧ X ≤ 40000 := by omega
  have bp := mul_bnd (x := Y) (k := s.w) (M := 40000) (K := 1024) (by omega) (by omega) (by omega) (by omega)
  rw [wrap64_in (x := Y) (by omega) (by omega), wrap64_in (x := X) (by omega) (by omega), wrap64_in (x := s.h - 1) (by omega) (by omega), wrap64_in (x := s.w - 1) (by omega) (by omega), wrap64_in (x := Y * s.w) (by omega) (by omega), wrap64_in (x := Y * s.w + X) (by omega) (by omega)]
  refine W.needI (by omega) (W.needI (by omega) (W.bindI (W.bindI (g_window_within_ok _ _ _ ?_))))
  refine W.iteC (0 ≤ Y ∧ Y ≤ s.h - 1) rfl (fun hy => W.bindI (g_window_within_ok _ _ _ (W.retI ?_))) (fun hy => W.retI ?_)
  · refine W.iteC (0 ≤ X ∧ X ≤ s.w - 1) rfl (fun hx => W.retI ?_) (fun hx => W.retI ?_)
    · rw [if_pos ⟨hy, hx⟩] at h; exact h
    · rw [if_neg (fun q => hx q.2)] at h; exact h
  · rw [if_neg (fun q => hy q.1)] at h
    exact W.iteF rfl (W.retI h)
theorem div_step {k c j : Nat} (hc : 0 < c) (hj : j < c) : ((k * c + j : Nat) : Int) / (c : Int) = k ∧ ((k * c + j : Nat) : Int) % (c : Int) = j := by
  have h1 : (k * c + j) / c = k := by rw [Nat.add_comm, Nat.add_mul_div_right _ _ hc, Nat.div_eq_of_lt hj]; omega
  have h2 : (k * c + j) % c = j := by rw [Nat.add_comm, Nat.add_mul_mod_self_right, Nat.mod_eq_of_lt hj]
  rw [← Int.natCast_ediv, ← Int.natCast_emod, h1, h2]
  exact ⟨rfl, rfl⟩
theorem g_places_ok (H : OF o s t) (hr : reduces o.kind) {ch at' : Int} (hch : 1 ≤ ch ∧ ch ≤ t.c) (hat : 0 ≤ at' ∧ at' < t.h * t.w) {R : Bool × Rws → Prop} (h : ∀ b, R (b, rowsJ (placeS o s t ch at') (o.len s).toNat)) :
    (g__terms_site__places o.kind o.a o.b o.m o.win.kh o.win.kw o.win.sh o.win.sw o.win.top o.win.left o.win.bottom o.win.right o.wn o.ws o.bn o.bs o.sam o.sas o.sbm o.sbs o.zero o.pad o.lo o.hi s.h s.w s.c t.h t.w t.c (o.len s) ch at').run R := by
  have hl := H.lenp hr
  have hp := H.pos
  have sok := H.sok
  unfold Shp.ok at sok
  unfold g__terms_site__places
  refine W.iteC (o.kind = 1) (by rw [Bool.eq_iff_iff]; simp) (fun h1 => ?_) (fun h1 => ?_)
  · refine W.bindI (W.loop_for (o.len s).toNat (fun i v => ∃ b, v = ((i : Int), b, rowsJ (placeS o s t ch at') i)) ?_ ?_ ⟨true, rfl⟩)
    · rintro i _ hi ⟨b, rfl⟩
      dsimp only
      refine W.iteT (decide_eq_true (by omega)) (W.needI (by rw [rowsJ_len]; omega) (W.retI ⟨b && false, ?_⟩))
      rw [wrap64_in (by omega) (by omega), rowsJ_succ]
      have e : placeS o s t ch at' i = (i : Int) := by unfold placeS; rw [if_pos h1]
      rw [e]; rfl
    · rintro _ ⟨b, rfl⟩
      dsimp only
      exact W.iteF (decide_eq_false (by omega)) (W.retI (W.retI (h b)))
  · have hk : slides o.kind := by unfold slides; unfold reduces at hr; omega
    obtain ⟨wok, _, _, _, _, _, hw⟩ := H.slide hk
    have wb := win_bd wok
    obtain ⟨cnt, first, hcf, hcn⟩ : ∃ (cnt : Nat) (first : Int), (first = (if o.kind = 2 then 0 else ch - 1)) ∧ (cnt : Int) = (if o.kind = 2 then s.c else 1) := ⟨(if o.kind = 2 then s.c else 1).toNat, _, rfl, by split <;> omega⟩
    have hcnt : 1 ≤ cnt := by split at hcn <;> omega
    have hlen : (o.len s).toNat = (o.win.kh * o.win.kw).toNat * cnt := by
      have e : o.len s = o.win.kh * o.win.kw * (cnt : Int) := by
        unfold Opr.len
        rw [if_neg h1, hcn]
        by_cases h2 : o.kind = 2
        · rw [if_pos h2, if_pos h2]
        · rw [if_neg h2, if_neg h2, Int.mul_one]
      rw [e, Int.toNat_mul (by omega) (by omega), Int.toNat_natCast]
    have hf : 0 ≤ first ∧ first + cnt ≤ 1024 := by rw [hcf, hcn]; split <;> omega
    refine W.bindI (W.mono _ (R := fun v => v = (first, first + (cnt : Int) - 1)) ?_ ?_)
    rotate_left
    · refine W.iteC (o.kind = 2) (by rw [Bool.eq_iff_iff]; simp) (fun h2 => W.retI ?_) (fun h2 => W.retI ?_)
      · rw [if_pos h2] at hcf hcn
        rw [wrap64_in (by omega) (by omega), hcf, hcn, Int.zero_add]
      · rw [if_neg h2] at hcf hcn
        rw [wrap64_in (by omega) (by omega), hcf, hcn, Int.add_sub_cancel]
    rintro _ rfl
    refine W.bindI (W.bindI (g_window_Taps_ok H hk hat ?_))
    have hn : ∀ a2 a3 a4 a5 a6 a7 a8 a9 a10 a11 a12, g_window_Taps_2_n o.win.kh o.win.kw a2 a3 a4 a5 a6 a7 a8 a9 a10 a11 a12 = o.win.kh * o.win.kw := fun a2 a3 a4 a5 a6 a7 a8 a9 a10 a11 a12 => wrap64_in (by omega) (by omega)
    show (W.need _ _).run _
    rw [hn]
    refine W.needI (by omega) (W.bindI (W.each_range (fun k v => ∃ b, v = (b, rowsJ (placeS o s t ch at') (k * cnt))) ⟨true, by rw [Nat.zero_mul]; rfl⟩ ?_ ?_))
    · rintro k _ hkk ⟨b, rfl⟩
      refine g_window_Taps_2_ok H hk hat (by omega) ?_
      have hkc : (k + 1) * cnt ≤ (o.win.kh * o.win.kw).toNat * cnt := Nat.mul_le_mul_right cnt (by omega)
      have tb := tap_bd (w := o.win) (cols := t.w) (at' := at') (k := (k : Int)) H.sok
      have hpl : ∀ j, j < cnt → placeS o s t ch at' (k * cnt + j) = if tapAt s o.win t.w at' k < 0 then -1 else tapAt s o.win t.w at' k * s.c + (first + j) := fun j hj => by
        unfold placeS
        rw [if_neg h1]
        by_cases h2 : o.kind = 2
        · rw [if_pos h2] at hcf hcn
          obtain ⟨e1, e2⟩ := div_step (k := k) (c := cnt) (j := j) (by omega) hj
          rw [hcn] at e1 e2
          rw [if_pos h2, if_pos h2, e1, e2, hcf, Int.zero_add]
        · rw [if_neg h2] at hcf hcn
          have : cnt = 1 := by omega
          subst this
          have : j = 0 := by omega
          subst this
          rw [if_neg h2, if_neg h2, hcf]
          simp
      generalize tapAt s o.win t.w at' k = p at *
      have pb := Int.mul_le_mul_of_nonneg_right (show p ≤ s.h * s.w - 1 by omega) (show 0 ≤ s.c by omega)
      have pc := Int.mul_le_mul_of_nonneg_right (show -1 ≤ p by omega) (show 0 ≤ s.c by omega)
      rw [Int.sub_mul] at pb
      rw [Nat.succ_mul] at hkc
      refine W.bindI (W.loop_for cnt (fun j v => ∃ b, v = (first + (j : Int), b, rowsJ (placeS o s t ch at') (k * cnt + j))) ?_ ?_ ⟨b, by simp⟩)
      · rintro j _ hj ⟨b, rfl⟩
        dsimp only
        refine W.iteT (decide_eq_true (by omega)) (W.bindI ?_)
        have hsz : ((rowsJ (placeS o s t ch at') (k * cnt + j)).length + 1) * 8 ≤ 140737488355328 := by rw [rowsJ_len]; omega
        refine W.iteC (p < 0) rfl (fun hp0 => W.needI hsz (W.retI (W.retI ⟨b && false, ?_⟩))) (fun hp0 => W.needI hsz (W.retI (W.retI ⟨b && false, ?_⟩)))
        · rw [← Nat.add_assoc, rowsJ_succ, hpl j hj, if_pos hp0, wrap64_in (by omega) (by omega)]
          simp only [Prod.mk.injEq, and_true, true_and]; omega
        · rw [← Nat.add_assoc, rowsJ_succ, hpl j hj, if_neg hp0, wrap64_in (x := first + (j : Int) + 1) (by omega) (by omega), wrap64_in (x := p * s.c) (by omega) (by omega), wrap64_in (by omega) (by omega)]
          simp only [Prod.mk.injEq, and_true, true_and]; omega
      · rintro _ ⟨b, rfl⟩
        dsimp only
        refine W.iteF (decide_eq_false (by omega)) (W.retI (W.retI ⟨b, ?_⟩))
        rw [Nat.succ_mul]
    · rintro _ ⟨b, rfl⟩
      refine W.retI (W.retI ?_)
      rw [← hlen]
      exact h b
end
def fillF (f g : Nat → List AV) (n i : Nat) : Rws := (List.range n).map fun k => if k < i then f k else g k
theorem fillF_zero (f g : Nat → List AV) (n : Nat) : fillF f g n 0 = (List.range n).map g := by unfold fillF; simp
theorem fillF_end (f g : Nat → List AV) (n : Nat) : fillF f g n n = (List.range n).map f := by
  unfold fillF
  exact List.map_congr_left fun k hk => if_pos (List.mem_range.1 hk)
theorem fillF_len (f g : Nat → List AV) (n i : Nat) : (fillF f g n i).length = n := by simp [fillF]
theorem fillF_set (f g : Nat → List AV) (n i : Nat) : (fillF f g n i).set i (f i) = fillF f g n (i + 1) := by
  refine List.ext_getElem? fun k => ?_
  rw [List.getElem?_set]
  by_cases hk : k < n
  · by_cases e : i = k
    · subst e
      rw [if_pos rfl, if_pos (by rw [fillF_len]; exact hk)]
      simp [fillF, List.getElem?_range hk]
    · rw [if_neg e]
      simp only [fillF, List.getElem?_map, List.getElem?_range hk, Option.map_some]
      by_cases h2 : k < i
      · rw [if_pos h2, if_pos (by omega)]
      · rw [if_neg h2, if_neg (by omega)]
  · have h1 : (fillF f g n i)[k]? = none := List.getElem?_eq_none (by rw [fillF_len]; omega)
    have h2 : (fillF f g n (i + 1))[k]? = none := List.getElem?_eq_none (by rw [fillF_len]; omega)
    by_cases e : i = k
    · subst e
      rw [if_pos rfl, if_neg (by rw [fillF_len]; exact hk), h2]
    · rw [if_neg e, h1, h2]
theorem fillF_ri (f g : Nat → List AV) (n i k j : Nat) (hk : k < n) (hi : i ≤ k) : ri (fillF f g n i) k j = cI (g k) j := by
  simp only [ri_eq, List.getD_eq_getElem?_getD, fillF, List.getElem?_map, List.getElem?_range hk, Option.map_some, Option.getD_some]
  rw [if_neg (by omega)]
theorem rep_map {n : Nat} {z : List AV} : List.replicate n z = (List.range n).map fun _ => z := by
  refine List.ext_getElem? fun k => ?_
  by_cases hk : k < n
  · rw [List.getElem?_replicate, if_pos hk, List.getElem?_map, List.getElem?_range hk]; rfl
  · rw [List.getElem?_eq_none (by simp; omega), List.getElem?_eq_none (by simp; omega)]
def Opr.nums (o : Opr) : Prop := (∀ i, -32768 ≤ ri o.ws i 0 ∧ ri o.ws i 0 ≤ 32767) ∧ ∀ i, -2147483648 ≤ ri o.bs i 0 ∧ ri o.bs i 0 ≤ 2147483647
def wtS (o : Opr) (s : Shp) (ch : Int) (i : Nat) : Int := if o.kind = 4 then 1 else ri o.ws (((ch - 1) * o.len s).toNat + i) 0
def biasS (o : Opr) (ch : Int) : Int := if o.kind = 4 then 0 else ri o.bs (ch - 1).toNat 0
def termR (o : Opr) (s t : Shp) (ch at' : Int) (i : Nat) : List AV := [I (wtS o s ch i), I (placeS o s t ch at' i)]
def termsR (o : Opr) (s t : Shp) (ch at' : Int) : Rws := (List.range (o.len s).toNat).map (termR o s t ch at')
theorem termsR_len (o : Opr) (s t : Shp) (ch at' : Int) : (termsR o s t ch at').length = (o.len s).toNat := by simp [termsR]
theorem wt_rng {o : Opr} (h : o.nums) (s : Shp) (ch : Int) (i : Nat) : -32768 ≤ wtS o s ch i ∧ wtS o s ch i ≤ 32767 := by
  unfold wtS; split
  · omega
  · exact h.1 _
theorem bias_rng {o : Opr} (h : o.nums) (ch : Int) : -2147483648 ≤ biasS o ch ∧ biasS o ch ≤ 2147483647 := by
  unfold biasS; split
  · omega
  · exact h.2 _
section
variable {s0 : Shp} {lo hi out : Int} {nl : Bool} {l : Rws} {S : List Shp}
structure MD (s0 : Shp) (lo hi out : Int) (l : Rws) (S : List Shp) : Prop where
  hl : l.length ≤ 676622540150
  sh : short l
  e : (look8 s0 lo hi (oprs l) out).err = 0
  S : S = (look8 s0 lo hi (oprs l) out).S
  nums : ∀ r ∈ l, (Opr.of r).nums
theorem MD.mf (M : MD s0 lo hi out l S) : MF s0 lo hi (oprs l) S := by rw [M.S]; exact look8_MF M.e
theorem MD.n64 (M : MD s0 lo hi out l S) : l.length ≤ 64 := by have := M.mf.n64; simpa [oprs] using this
theorem MD.n (M : MD s0 lo hi out l S) : S.length = l.length + 1 := by have := M.mf.n; simpa [oprs] using this
theorem MD.of (M : MD s0 lo hi out l S) {j : Nat} (hj : j < l.length) : OF (Opr.of (l.getD j [])) (S.getD (Opr.of (l.getD j [])).a.toNat default) (S.getD (j + 1) default) ∧ (0 ≤ (Opr.of (l.getD j [])).a ∧ (Opr.of (l.getD j [])).a ≤ j) ∧ ((Opr.of (l.getD j [])).kind = 6 → 0 ≤ (Opr.of (l.getD j [])).b ∧ (Opr.of (l.getD j [])).b ≤ j) :=
  M.mf.op j _ (row_opr l j hj)
theorem MD.num (M : MD s0 lo hi out l S) {j : Nat} (hj : j < l.length) : (Opr.of (l.getD j [])).nums := by
  refine M.nums _ ?_
  rw [List.getD_eq_getElem?_getD, List.getElem?_eq_getElem hj]
  exact List.getElem_mem hj
abbrev Site := Int × Int × Int × Int × Int × Int × Int × Int × Int × Int × Int × Int × Bool × Rws × Bool × Rws × Int × Int × Int × Int × Int × Int × Int × Int × Int × Int × Int × Int × Int × Int × Int × Int
def siteT (o : Opr) (s t : Shp) : Site := (o.kind, o.a, o.b, o.m, o.win.kh, o.win.kw, o.win.sh, o.win.sw, o.win.top, o.win.left, o.win.bottom, o.win.right, o.wn, o.ws, o.bn, o.bs, o.sam, o.sas, o.sbm, o.sbs, o.zero, o.pad, o.lo, o.hi, s.h, s.w, s.c, t.h, t.w, t.c, o.len s, 0)
theorem g_terms_find_ok (M : MD s0 lo hi out l S) {j : Nat} (hj : j < l.length) (hr : reduces (Opr.of (l.getD j [])).kind) {R : Site → Prop}
    (h : R (siteT (Opr.of (l.getD j [])) (S.getD (Opr.of (l.getD j [])).a.toNat default) (S.getD (j + 1) default))) :
    (g_terms_find s0.h s0.w s0.c lo hi nl l out ((j : Int) + 1)).run R := by
  obtain ⟨H, ha, _⟩ := M.of hj
  have hn := M.n
  have h64 := M.n64
  have hlp := H.lenp hr
  have sok := H.sok
  unfold Shp.ok at sok
  unfold g_terms_find
  refine W.bindI (g_model_Shapes_ok s0 lo hi nl l out M.hl M.sh ?_)
  have e1 : (look8 s0 lo hi (oprs l) out).tup.2 = (0, (look8 s0 lo hi (oprs l) out).op, 0, false, S.map Shp.enc) := by
    rw [M.S]; unfold Ans8.tup; rw [M.e]; rfl
  rw [e1]
  have ej : (IntKind.i64.wrap ((j : Int) + 1 - 1)).toNat = j := by rw [wrap64_in (by omega) (by omega)]; omega
  have ejw : IntKind.i64.wrap ((j : Int) + 1 - 1) = j := by rw [wrap64_in (by omega) (by omega)]; omega
  have ej1 : ((j : Int) + 1).toNat = j + 1 := by omega
  dsimp only
  rw [ejw, Int.toNat_natCast, ej1]
  refine W.iteF rfl (W.iteF (by rw [decide_eq_false (show ¬ (j : Int) + 1 < 1 by omega), decide_eq_false (show ¬ (l.length : Int) < (j : Int) + 1 by omega)]; rfl) (W.needI (by omega) ?_))
  refine W.bindI (g_model_Reduces_ok _ (W.iteF (by rw [decide_eq_true (show reduces (ri l j 0) from hr)]; rfl) (W.needI (by omega) (W.needI (by simp; omega) ?_))))
  have ha' : 0 ≤ ri l j 1 ∧ ri l j 1 ≤ j := ha
  refine W.needI (by simp; omega) (W.bindI ?_)
  simp only [ri_shp0, ri_shp1, ri_shp2]
  unfold reduces at hr
  have k0 : ri l j 0 = (Opr.of (l.getD j [])).kind := rfl
  show ((W.ite (ri l j 0 == 1) (W.ret (IntKind.i64.wrap (IntKind.i64.wrap ((S.getD (Opr.of (l.getD j [])).a.toNat default).h * (S.getD (Opr.of (l.getD j [])).a.toNat default).w) * (S.getD (Opr.of (l.getD j [])).a.toNat default).c))) (W.ite (ri l j 0 == 2) (W.ret (IntKind.i64.wrap (IntKind.i64.wrap ((Opr.of (l.getD j [])).win.kh * (Opr.of (l.getD j [])).win.kw) * (S.getD (Opr.of (l.getD j [])).a.toNat default).c))) (W.ret (IntKind.i64.wrap ((Opr.of (l.getD j [])).win.kh * (Opr.of (l.getD j [])).win.kw))))) : W Int).run _
  refine W.mono (R := fun v => v = (Opr.of (l.getD j [])).len (S.getD (Opr.of (l.getD j [])).a.toNat default)) _ ?_ ?_
  · rintro _ rfl; exact W.retI h
  generalize S.getD (Opr.of (l.getD j [])).a.toNat default = s at *
  have p1 := Int.mul_pos (show 0 < s.h by omega) (show 0 < s.w by omega)
  have p2 := Int.mul_le_mul (show s.h ≤ 1024 by omega) (show s.w ≤ 1024 by omega) (by omega) (by omega)
  refine W.iteC ((Opr.of (l.getD j [])).kind = 1) (by rw [k0, Bool.eq_iff_iff]; simp) (fun h1 => W.retI ?_) (fun h1 => ?_)
  · unfold Opr.len at hlp ⊢; rw [if_pos h1] at hlp ⊢; rw [wrap64_in (x := s.h * s.w) (by omega) (by omega), wrap64_in (by omega) (by omega)]
  · have hk : slides (Opr.of (l.getD j [])).kind := by unfold slides; omega
    have wb := win_bd (H.slide hk).1
    refine W.iteC ((Opr.of (l.getD j [])).kind = 2) (by rw [k0, Bool.eq_iff_iff]; simp) (fun h2 => W.retI ?_) (fun h2 => W.retI ?_)
    · unfold Opr.len at hlp ⊢
      rw [if_neg h1, if_pos h2] at hlp ⊢
      rw [wrap64_in (x := (Opr.of (l.getD j [])).win.kh * (Opr.of (l.getD j [])).win.kw) (by omega) (by omega), wrap64_in (by omega) (by omega)]
    · unfold Opr.len; rw [if_neg h1, if_neg h2, wrap64_in (by omega) (by omega)]
theorem g_terms_Length_ok (M : MD s0 lo hi out l S) {j : Nat} (hj : j < l.length) (hr : reduces (Opr.of (l.getD j [])).kind) {R : Int × Int → Prop}
    (h : R ((Opr.of (l.getD j [])).len (S.getD (Opr.of (l.getD j [])).a.toNat default), 0)) : (g_terms_Length s0.h s0.w s0.c lo hi nl l out ((j : Int) + 1)).run R := by
  unfold g_terms_Length
  exact W.bindI (g_terms_find_ok M hj hr (W.retI h))
theorem g_terms_Channels_ok (M : MD s0 lo hi out l S) {j : Nat} (hj : j < l.length) (hr : reduces (Opr.of (l.getD j [])).kind) {R : Int × Int → Prop}
    (h : R ((S.getD (j + 1) default).c, 0)) : (g_terms_Channels s0.h s0.w s0.c lo hi nl l out ((j : Int) + 1)).run R := by
  unfold g_terms_Channels
  exact W.bindI (g_terms_find_ok M hj hr (W.retI h))
theorem g_terms_Positions_ok (M : MD s0 lo hi out l S) {j : Nat} (hj : j < l.length) (hr : reduces (Opr.of (l.getD j [])).kind) {R : Int × Int → Prop}
    (h : R ((S.getD (j + 1) default).h * (S.getD (j + 1) default).w, 0)) : (g_terms_Positions s0.h s0.w s0.c lo hi nl l out ((j : Int) + 1)).run R := by
  unfold g_terms_Positions
  refine W.bindI (g_terms_find_ok M hj hr (W.retI ?_))
  have := (M.of hj).1.pos
  show R (IntKind.i64.wrap ((S.getD (j + 1) default).h * (S.getD (j + 1) default).w), 0)
  rw [wrap64_in (by omega) (by omega)]; exact h
theorem ri_slice (ws : Rws) (a n i : Nat) (h : i < n) : ri (List.take n (List.drop a ws)) i 0 = ri ws (a + i) 0 := by
  simp only [ri_eq, List.getD_eq_getElem?_getD]
  rw [List.getElem?_take, if_pos h, List.getElem?_drop]
theorem g_terms_Of_ok (M : MD s0 lo hi out l S) {j : Nat} (hj : j < l.length) (hr : reduces (Opr.of (l.getD j [])).kind) {ch at' : Int} (hch : 1 ≤ ch ∧ ch ≤ (S.getD (j + 1) default).c) (hat : 0 ≤ at' ∧ at' < (S.getD (j + 1) default).h * (S.getD (j + 1) default).w) {R : Int × Int × Bool × Rws → Prop}
    (h : R (biasS (Opr.of (l.getD j [])) ch, 0, false, termsR (Opr.of (l.getD j [])) (S.getD (Opr.of (l.getD j [])).a.toNat default) (S.getD (j + 1) default) ch at')) :
    (g_terms_Of s0.h s0.w s0.c lo hi nl l out ((j : Int) + 1) ch at').run R := by
  unfold g_terms_Of
  refine W.bindI (g_terms_find_ok M hj hr ?_)
  obtain ⟨H, ha, _⟩ := M.of hj
  have hnum := M.num hj
  generalize Opr.of (l.getD j []) = o at *
  generalize S.getD o.a.toNat default = s at *
  generalize S.getD (j + 1) default = t at *
  have hp := H.pos
  have hlp := H.lenp hr
  dsimp only [siteT]
  have hwp : IntKind.i64.wrap (t.h * t.w) = t.h * t.w := wrap64_in (x := t.h * t.w) (by omega) (by omega)
  refine W.iteF rfl (W.iteF (by simp only [Bool.or_eq_false_iff, decide_eq_false_iff_not, hwp]; exact ⟨⟨⟨by omega, decide_eq_false (by omega)⟩, by omega⟩, by omega⟩) (W.needI (by omega) ?_))
  refine W.bindI (g_places_ok H hr hch hat fun b => ?_)
  dsimp only
  obtain ⟨n, hn⟩ : ∃ n : Nat, (n : Int) = o.len s := ⟨(o.len s).toNat, by omega⟩
  have hn' : (o.len s).toNat = n := by omega
  rw [hn', rowsJ_len]
  let f1 : Nat → List AV := fun i => [I 1, I (placeS o s t ch at' i)]
  let z : Nat → List AV := fun _ => [I 0, I 0]
  refine W.bindI (W.loop_for n (fun i v => v = ((i : Int), fillF f1 z n i)) ?_ ?_ (by rw [fillF_zero, rep_map]; rfl))
  · rintro i _ hi rfl
    dsimp only
    rw [fillF_len]
    refine W.iteT (decide_eq_true (by omega)) (W.needI (by omega) (W.needI (by omega) (W.retI ?_)))
    rw [Int.toNat_natCast, rowsJ_ri _ _ _ hi, wrap64_in (x := (i : Int) + 1) (by omega) (by omega)]
    show ((i : Int) + 1, (fillF f1 z n i).set i (f1 i)) = _
    rw [fillF_set]; rfl
  rintro _ rfl
  dsimp only
  refine W.iteF (decide_eq_false (by omega)) (W.retI ?_)
  have hR : (List.range n).map (termR o s t ch at') = termsR o s t ch at' := by unfold termsR; rw [hn']
  refine W.bindI (W.iteC (o.kind ≠ 4) (by rw [Bool.eq_iff_iff]; simp) (fun h4 => ?_) (fun h4 => W.retI (W.retI ?_)))
  · have hw : weighs o.kind := by unfold weighs; unfold reduces at hr; omega
    unfold weighs at hw
    have hls : (o.ws.length : Int) = t.c * o.len s ∧ (o.bs.length : Int) = t.c := by
      rw [H.ws, H.bs, H.tc]
      unfold Opr.lists
      by_cases h12 : o.kind = 1 ∨ o.kind = 2
      · rw [if_pos h12, if_pos h12]; exact ⟨rfl, rfl⟩
      · rw [if_neg h12, if_neg h12, if_pos (by omega)]; exact ⟨rfl, rfl⟩
    have m1 := Int.mul_le_mul_of_nonneg_right (show ch ≤ t.c by omega) (show 0 ≤ o.len s by omega)
    have m2 := Int.mul_le_mul (show t.c ≤ 1024 by omega) (show o.len s ≤ 512 by omega) (by omega) (by omega)
    have m3 := Int.mul_nonneg (show 0 ≤ ch - 1 by omega) (show 0 ≤ o.len s by omega)
    have m4 : ch * o.len s = (ch - 1) * o.len s + o.len s := by rw [Int.sub_mul]; omega
    have w1 : IntKind.i64.wrap (ch - 1) = ch - 1 := wrap64_in (by omega) (by omega)
    have w2 : IntKind.i64.wrap ((ch - 1) * o.len s) = (ch - 1) * o.len s := wrap64_in (by omega) (by omega)
    have w3 : IntKind.i64.wrap (ch * o.len s) = ch * o.len s := wrap64_in (by omega) (by omega)
    simp only [w1, w2, w3]
    have en : (ch * o.len s - (ch - 1) * o.len s).toNat = n := by omega
    simp only [en]
    obtain ⟨a, hA⟩ : ∃ a : Nat, a = ((ch - 1) * o.len s).toNat := ⟨_, rfl⟩
    simp only [← hA]
    have hsl : (List.take n (List.drop a o.ws)).length = n := by rw [List.length_take, List.length_drop]; omega
    simp only [hsl]
    refine W.needI (by omega) (W.needI (by omega) ?_)
    refine W.bindI (W.loop_for n (fun i v => v = ((i : Int), fillF (termR o s t ch at') f1 n i)) ?_ ?_ (by rw [fillF_zero, fillF_end]; rfl))
    · rintro i _ hi rfl
      dsimp only
      rw [fillF_len]
      refine W.iteT (decide_eq_true (by omega)) (W.needI (by omega) (W.needI (by omega) (W.retI ?_)))
      rw [Int.toNat_natCast, ri_slice _ _ _ _ hi, fillF_ri _ _ _ _ _ _ hi (Nat.le_refl _), wrap64_in (x := (i : Int) + 1) (by omega) (by omega)]
      have hwr := hnum.1 (a + i)
      rw [wrap64_in (x := ri o.ws (a + i) 0) (by omega) (by omega)]
      have e : [I (ri o.ws (a + i) 0), I (cI (f1 i) 1)] = termR o s t ch at' i := by
        unfold termR wtS
        rw [if_neg h4, ← hA]; rfl
      show ((i : Int) + 1, (fillF (termR o s t ch at') f1 n i).set i [I (ri o.ws (a + i) 0), I (cI (f1 i) 1)]) = _
      rw [e, fillF_set]; rfl
    · rintro _ rfl
      dsimp only
      refine W.iteF (decide_eq_false (by omega)) (W.retI (W.retI (W.retI ?_)))
      have hbr := hnum.2 (ch - 1).toNat
      rw [wrap64_in (x := ri o.bs (ch - 1).toNat 0) (by omega) (by omega), fillF_end, hR]
      unfold biasS at h
      rw [if_neg h4] at h
      exact h
  · have h4' : o.kind = 4 := Classical.not_not.1 h4
    rw [fillF_end]
    unfold biasS at h
    rw [if_pos h4'] at h
    have e : (List.range n).map f1 = termsR o s t ch at' := by
      rw [← hR]
      refine List.map_congr_left fun i _ => ?_
      unfold termR wtS
      rw [if_pos h4']
    dsimp only
    rw [e]; exact h
end
def sumN (f : Nat → Int) : Nat → Int
  | 0 => 0
  | n + 1 => sumN f n + f n
theorem sumN_bd {f : Nat → Int} {B : Int} (h : ∀ i, -B ≤ f i ∧ f i ≤ B) : ∀ n : Nat, -(B * n) ≤ sumN f n ∧ sumN f n ≤ B * n
  | 0 => by simp [sumN]
  | n + 1 => by
    have a := sumN_bd h n
    have b := h n
    have e : B * ((n + 1 : Nat) : Int) = B * n + B := by rw [Int.natCast_add, Int.mul_add]; simp
    rw [e]
    unfold sumN
    omega
section
variable {o : Opr} {s t : Shp} {a : Int × Int}
end
section
variable {s0 : Shp} {lo hi out : Int} {nl : Bool} {l : Rws} {S : List Shp}
end
section
variable {o : Opr} {s t : Shp} {a b : Int × Int}
end
def valsS (a : Int × Int) : Prop := -128 ≤ a.1 ∧ a.1 ≤ a.2 ∧ a.2 ≤ 127
instance (a : Int × Int) : Decidable (valsS a) := by unfold valsS; infer_instance
theorem valsS.sp {a : Int × Int} (h : valsS a) : SpOK 128 a := ⟨h.1, h.2.1, by have := h.2.2; omega⟩
section
variable {s0 : Shp} {lo hi out : Int} {nl : Bool} {l : Rws} {S : List Shp}
theorem beqI {a b : Int} : (a == b) = decide (a = b) := by rw [Bool.eq_iff_iff]; simp
end
theorem fm_sl {N : Nat} {fs : List FS} {b : Bool} {l : Rws} (h : fmF (.sl N fs) (.sl b 0 l)) : (b = true → l = []) ∧ l.length ≤ N ∧ ∀ r ∈ l, fmR fs r := by
  unfold fmF at h
  obtain ⟨b', l', e, h1, h2, h3⟩ := h
  injection e with e1 _ e2
  subst e1 e2
  exact ⟨h1, h2, h3⟩
theorem fm_cell {N : Nat} {fs fr : List FS} {r : List AV} {j : Nat} (h : fmR fr r) (hj : fr[j]? = some (.sl N fs)) : (cR r j).length ≤ N ∧ ∀ x ∈ cR r j, fmR fs x := by
  obtain ⟨x, hx, hf⟩ := fmR_get h hj
  have e : cR r j = x.toRows := by rw [cR, List.getD_eq_getElem?_getD, hx]; rfl
  unfold fmF at hf
  obtain ⟨b', l', rfl, _, h1, h2⟩ := hf
  rw [e]
  exact ⟨h1, h2⟩
theorem fm_ri {lo hi : Int} (h0 : lo ≤ 0 ∧ 0 ≤ hi) {l : Rws} (h : ∀ r ∈ l, fmR [.int lo hi] r) (i : Nat) : lo ≤ ri l i 0 ∧ ri l i 0 ≤ hi := by
  rw [ri_eq, List.getD_eq_getElem?_getD]
  cases hx : l[i]? with
  | none => exact h0
  | some r =>
    have := h r (List.mem_of_getElem? hx)
    match r, this with
    | [x], q =>
      unfold fmR fmF at q
      obtain ⟨⟨m, rfl, q1, q2⟩, _⟩ := q
      exact ⟨q1, q2⟩
    | [], q => unfold fmR at q; exact q.elim
    | _ :: _ :: _, q => unfold fmR fmR at q; exact q.2.elim
theorem fm_nums {n : Bool} {l : Rws} (h : fmF opsF (.sl n 0 l)) : l.length ≤ 676622540150 ∧ short l ∧ ∀ r ∈ l, (Opr.of r).nums := by
  obtain ⟨_, h2, h3⟩ := fm_sl h
  exact ⟨h2, fun r hr => ⟨(fm_cell (j := 12) (h3 r hr) rfl).1, (fm_cell (j := 13) (h3 r hr) rfl).1⟩,
    fun r hr => ⟨fm_ri (by omega) (fm_cell (j := 12) (h3 r hr) rfl).2, fm_ri (by omega) (fm_cell (j := 13) (h3 r hr) rfl).2⟩⟩
section
variable {s0 : Shp} {lo hi out : Int} {nl : Bool} {l : Rws} {S : List Shp}
end
def valT (o : Opr) (s t : Shp) (ch at' : Int) (T : Rws) (i : Nat) : Int := if placeS o s t ch at' i < 0 then o.pad else ri T (placeS o s t ch at' i).toNat 0
def sumV (o : Opr) (s t : Shp) (ch at' : Int) (T : Rws) : Int := biasS o ch + sumN (fun i => valT o s t ch at' T i * wtS o s ch i) (o.len s).toNat
def numT (T : Rws) : Prop := ∀ i, -128 ≤ ri T i 0 ∧ ri T i 0 ≤ 127
def elems (s : Shp) : Nat := (s.h * s.w * s.c).toNat
theorem sparesOf {o : Opr} {S : List Shp} (h : (o.one S).2 = 0) : o.spare := by
  unfold Opr.one at h
  repeat' split at h
  all_goals try (exfalso; simp at h; done)
  · rename_i h5; exact absurd h h5
  · rename_i h1 h2 h3 h4 h5 h6 h7 h8 h9 h10
    exact Classical.not_not.1 h3
section
variable {o : Opr} {s t : Shp} {T : Rws}
theorem placeS_lt (H : OF o s t) (hr : reduces o.kind) {ch at' : Int} (hch : 1 ≤ ch ∧ ch ≤ t.c) {i : Nat} (hi : (i : Int) < o.len s) : -1 ≤ placeS o s t ch at' i ∧ placeS o s t ch at' i < s.h * s.w * s.c := by
  have sok := H.sok
  have hlp := H.lenp hr
  unfold Shp.ok at sok
  unfold placeS
  by_cases h1 : o.kind = 1
  · rw [if_pos h1]
    unfold Opr.len at hi
    rw [if_pos h1] at hi
    omega
  · rw [if_neg h1]
    have tb := tap_bd (w := o.win) (cols := t.w) (at' := at') (k := (if o.kind = 2 then (i : Int) / s.c else i)) H.sok
    have hc : 0 ≤ (if o.kind = 2 then (i : Int) % s.c else ch - 1) ∧ (if o.kind = 2 then (i : Int) % s.c else ch - 1) < s.c := by
      by_cases h2 : o.kind = 2
      · rw [if_pos h2]
        exact ⟨Int.emod_nonneg _ (by omega), Int.emod_lt_of_pos _ (by omega)⟩
      · rw [if_neg h2]
        have := H.tc
        rw [if_neg (by omega)] at this
        omega
    generalize tapAt s o.win t.w at' (if o.kind = 2 then (i : Int) / s.c else i) = p at *
    generalize (if o.kind = 2 then (i : Int) % s.c else ch - 1) = c at *
    have p0 := Int.mul_pos (Int.mul_pos (show 0 < s.h by omega) (show 0 < s.w by omega)) (show 0 < s.c by omega)
    split
    · omega
    · have a := Int.mul_nonneg (show 0 ≤ p by omega) (show 0 ≤ s.c by omega)
      have b := Int.mul_le_mul_of_nonneg_right (show p ≤ s.h * s.w - 1 by omega) (show 0 ≤ s.c by omega)
      rw [Int.sub_mul] at b
      omega
theorem valT_bd (H : OF o s t) (hT : numT T) (ch at' : Int) (i : Nat) : -128 ≤ valT o s t ch at' T i ∧ valT o s t ch at' T i ≤ 127 := by
  have v := H.v.2.2
  unfold val at v
  unfold valT
  split
  · exact v
  · exact hT _
theorem prod_bd (H : OF o s t) (hn : o.nums) (hT : numT T) (ch at' : Int) (i : Nat) : -4194304 ≤ valT o s t ch at' T i * wtS o s ch i ∧ valT o s t ch at' T i * wtS o s ch i ≤ 4194304 := by
  have a := valT_bd H hT ch at' i
  have b := wt_rng hn s ch i
  have := mul_bnd (M := 128) (K := 32768) (x := valT o s t ch at' T i) (k := wtS o s ch i) (by omega) (by omega) (by omega) (by omega)
  omega
theorem sumV_bd (H : OF o s t) (hr : reduces o.kind) (hn : o.nums) (hT : numT T) (ch at' : Int) : -4294967296 ≤ sumV o s t ch at' T ∧ sumV o s t ch at' T ≤ 4294967296 := by
  have hl := H.lenp hr
  have hb := bias_rng hn ch
  have l1 := sumN_bd (B := 4194304) (fun i => prod_bd H hn hT ch at' i) (o.len s).toNat
  unfold sumV
  omega
def redV (o : Opr) (s t : Shp) (T : Rws) (i : Nat) : Int :=
  if o.kind ≤ 3 then scaleS (sumV o s t ((i : Int) % t.c + 1) ((i : Int) / t.c) T) o.sam o.sas else meanS (sumV o s t ((i : Int) % t.c + 1) ((i : Int) / t.c) T) (o.len s)
def maxN (f : Nat → Int) : Nat → Int
  | 0 => -128
  | n + 1 => max (maxN f n) (f n)
def greV (o : Opr) (s t : Shp) (T : Rws) (i : Nat) : Int := maxN (fun k => ri T (tapAt s o.win t.w ((i : Int) / s.c) k * s.c + (i : Int) % s.c).toNat 0) (o.win.kh * o.win.kw).toNat
def eacV (o : Opr) (Ta Tb : Rws) (i : Nat) : Int :=
  if o.kind = 6 then scaleS (ri Ta i 0) o.sam o.sas + scaleS (ri Tb i 0) o.sbm o.sbs else if o.kind = 7 then scaleS (ri Ta i 0) o.sam o.sas else ri Ta i 0
def opV (o : Opr) (s t : Shp) (Ta Tb : Rws) (i : Nat) : Int := if o.kind ≤ 4 then redV o s t Ta i else if o.kind = 5 then greV o s t Ta i else eacV o Ta Tb i
def makeS (o : Opr) (s t : Shp) (Ta Tb : Rws) : Rws := rowsJ (fun i => finS (opV o s t Ta Tb i) o.zero o.lo o.hi) (elems t)
theorem makeS_len (o : Opr) (s t : Shp) (Ta Tb : Rws) : (makeS o s t Ta Tb).length = elems t := rowsJ_len _ _
theorem rowsJ_num {f : Nat → Int} (h : ∀ i, -128 ≤ f i ∧ f i ≤ 127) (n : Nat) : numT (rowsJ f n) := fun i => by
  by_cases hi : i < n
  · rw [rowsJ_ri _ _ _ hi]; exact h i
  · have : ri (rowsJ f n) i 0 = 0 := by
      simp only [ri_eq, List.getD_eq_getElem?_getD]
      rw [List.getElem?_eq_none (by rw [rowsJ_len]; omega)]; rfl
    rw [this]; omega
theorem makeS_num (H : OF o s t) (Ta Tb : Rws) : numT (makeS o s t Ta Tb) := rowsJ_num (fun i => by
  have v := H.v.1
  unfold val at v
  have := finS_rng (v := opV o s t Ta Tb i) (zero := o.zero) v.2.2
  omega) _
theorem maxN_bd {f : Nat → Int} {a b : Int} (h : ∀ k, a ≤ f k ∧ f k ≤ b) (ha : -128 ≤ a) : ∀ n, 1 ≤ n → a ≤ maxN f n ∧ maxN f n ≤ b
  | 1, _ => by have := h 0; unfold maxN maxN; omega
  | n + 2, _ => by have := maxN_bd h ha (n + 1) (by omega); have := h (n + 1); unfold maxN; omega
theorem tap_in (H : OF o s t) (hk : slides o.kind) (hz : o.win.top = 0 ∧ o.win.left = 0 ∧ o.win.bottom = 0 ∧ o.win.right = 0) {at' : Int} (hat : 0 ≤ at' ∧ at' < t.h * t.w) {k : Nat} (hkk : (k : Int) < o.win.kh * o.win.kw) : 0 ≤ tapAt s o.win t.w at' k := by
  obtain ⟨wok, th, tw, h1, h2, _, hw⟩ := H.slide hk
  have wb := win_bd wok
  have hp := H.pos
  unfold Win.ok sideOK at wok
  have c1 := corner_bd (cols := t.w) (n := t.h) (st := o.win.sh) (pad := 0) (by omega) (by omega) hat (by omega) (by omega)
  have r0 := Int.emod_nonneg at' (show t.w ≠ 0 by omega)
  have r1 := Int.emod_lt_of_pos at' (show 0 < t.w by omega)
  have d1 : 0 ≤ (k : Int) / o.win.kw := Int.ediv_nonneg (by omega) (by omega)
  have d2 : (k : Int) / o.win.kw < o.win.kh := Int.ediv_lt_of_lt_mul (by omega) hkk
  have d3 := Int.emod_nonneg (k : Int) (show o.win.kw ≠ 0 by omega)
  have d4 := Int.emod_lt_of_pos (k : Int) (show 0 < o.win.kw by omega)
  have room : ∀ n kk st q m : Int, 1 ≤ st → m = places n kk st → 1 ≤ m → q < m → 0 ≤ q → q * st + kk ≤ n := fun n kk st q m hst hm hm1 hq hq0 => by
    unfold places at hm
    by_cases hneg : n - kk < 0
    · rw [if_pos hneg] at hm; omega
    · rw [if_neg hneg] at hm
      have hq' : q ≤ (n - kk) / st := by omega
      have := Int.mul_le_mul_of_nonneg_right hq' (show 0 ≤ st by omega)
      have := Int.ediv_mul_le (n - kk) (show st ≠ 0 by omega)
      omega
  rw [hz.1, hz.2.2.1] at th
  rw [hz.2.1, hz.2.2.2] at tw
  have q1 := room _ _ _ (at' / t.w) t.h (by omega) th h1 c1.1.2 c1.1.1
  have q2 := room _ _ _ (at' % t.w) t.w (by omega) tw h2 r1 r0
  have m1 := Int.mul_nonneg c1.1.1 (show 0 ≤ o.win.sh by omega)
  have m2 := Int.mul_nonneg r0 (show 0 ≤ o.win.sw by omega)
  have sok := H.sok
  unfold Shp.ok at sok
  unfold tapAt
  rw [hz.1, hz.2.1, if_pos (by omega)]
  have := Int.mul_nonneg (show 0 ≤ at' / t.w * o.win.sh - 0 + (k : Int) / o.win.kw by omega) (show 0 ≤ s.w by omega)
  omega
end
set_option linter.unusedSimpArgs false
theorem W.each_pos {σ : Type} {B : Int × Int → σ → W σ} {r c : Int} {s : σ} {R : σ → Prop} (Inv : Nat → σ → Prop) (h0 : Inv 0 s) (step : ∀ k p s, k < r.toNat * c.toNat → Inv k s → (B p s).run (Inv (k + 1))) (fin : ∀ s, Inv (r.toNat * c.toNat) s → R s) : (W.each B (posW r c) s).run R := by
  have key : ∀ (L : List (Int × Int)) k s, k + L.length = r.toNat * c.toNat → Inv k s → (W.each B (L.map W.ret) s).run R := by
    intro L
    induction L with
    | nil => intro k s hk hi; rw [List.length_nil, Nat.add_zero] at hk; subst hk; exact fin s hi
    | cons p L ih =>
      intro k s hk hi
      rw [List.length_cons] at hk
      rw [List.map_cons]
      exact W.mono (B p s) (fun s' hs' => ih (k + 1) s' (by omega) hs') (step k p s (by omega) hi)
  exact key _ 0 s (by rw [posL_len, Nat.zero_add]) h0
theorem look8_more {s : Shp} {lo hi : Int} {l : List Opr} {out : Int} (he : (look8 s lo hi l out).err = 0) : ∀ (j : Nat) (o : Opr), l[j]? = some o → o.spare ∧ (o.kind = 6 → (look8 s lo hi l out).S.getD o.b.toNat default = (look8 s lo hi l out).S.getD o.a.toNat default) := by
  have hf := (look8_facts s lo hi l out).1 he
  obtain ⟨h0, hat⟩ := look8_at s lo hi l out he
  have MM := look8_MF he
  generalize (look8 s lo hi l out).S = S at *
  intro j o hj
  have hjl : j < l.length := (List.getElem?_eq_some_iff.1 hj).1
  obtain ⟨q1, q2⟩ := hat j o hj
  obtain ⟨_, o2, o3⟩ := MM.op j o hj
  have et : ∀ i : Nat, i < 1 + j → (S.take (1 + j)).getD i default = S.getD i default := fun i hi => by
    rw [List.getD_eq_getElem?_getD, List.getD_eq_getElem?_getD, List.getElem?_take, if_pos hi]
  refine ⟨sparesOf q1, fun h6 => ?_⟩
  have ob := o3 h6
  rw [← et _ (show o.b.toNat < 1 + j by omega), ← et _ (show o.a.toNat < 1 + j by omega)]
  unfold Opr.one at q1
  repeat' split at q1
  all_goals try (exfalso; simp at q1; done)
  · rename_i h5; exact absurd q1 h5
  · rename_i h1 h2 h3 h4 h5 h7 h8 h9 h10 h11
    simp only [not_or, not_and, Classical.not_not] at h7
    exact h7.1 h6
theorem MD.more {s0 : Shp} {lo hi out : Int} {l : Rws} {S : List Shp} (M : MD s0 lo hi out l S) {j : Nat} (hj : j < l.length) : (Opr.of (l.getD j [])).spare ∧ ((Opr.of (l.getD j [])).kind = 6 → S.getD (Opr.of (l.getD j [])).b.toNat default = S.getD (Opr.of (l.getD j [])).a.toNat default) := by
  have e : (oprs l)[j]? = some (Opr.of (l.getD j [])) := by
    unfold oprs
    rw [List.getElem?_map, List.getD_eq_getElem?_getD, List.getElem?_eq_getElem hj]; rfl
  have := look8_more M.e j _ e
  rw [← M.S] at this
  exact this
section
variable {o : Opr} {s t : Shp} {T : Rws}
theorem termsR_ri0 {ch at' : Int} {i : Nat} (h : i < (o.len s).toNat) : ri (termsR o s t ch at') i 0 = wtS o s ch i := by
  simp only [ri, cellOf, List.getD_eq_getElem?_getD, termsR, List.getElem?_map, List.getElem?_range h]; rfl
theorem termsR_ri1 {ch at' : Int} {i : Nat} (h : i < (o.len s).toNat) : ri (termsR o s t ch at') i 1 = placeS o s t ch at' i := by
  simp only [ri, cellOf, List.getD_eq_getElem?_getD, termsR, List.getElem?_map, List.getElem?_range h]; rfl
theorem g_plain_sum_ok (H : OF o s t) (hr : reduces o.kind) (hn : o.nums) (hT : numT T) (hl : T.length = elems s) {ch at' : Int} (hch : 1 ≤ ch ∧ ch ≤ t.c) (b c : Bool) {R : Int → Prop} (h : R (sumV o s t ch at' T)) : (g_plain_sum (biasS o ch) b (termsR o s t ch at') c T o.pad).run R := by
  have hlp := H.lenp hr
  have hb := bias_rng hn ch
  unfold g_plain_sum
  refine W.bindI (W.loop_for (o.len s).toNat (fun i v => v = (biasS o ch + sumN (fun i => valT o s t ch at' T i * wtS o s ch i) i, (i : Int))) ?_ ?_ ?_)
  · rintro i _ hi rfl
    dsimp only
    have hlt : (i : Int) < ((termsR o s t ch at').length : Int) := by rw [termsR_len]; omega
    refine W.iteT (decide_eq_true hlt) (W.needI ⟨by omega, hlt⟩ (W.bindI ?_))
    rw [Int.toNat_natCast, termsR_ri0 hi, termsR_ri1 hi]
    have pl := placeS_lt H hr (at' := at') hch (i := i) (by omega)
    have pd := prod_bd H hn hT ch at' i
    have vb := valT_bd H hT ch at' i
    have l1 := sumN_bd (B := 4194304) (fun i => prod_bd H hn hT ch at' i) i
    refine W.mono _ (R := fun v => v = valT o s t ch at' T i) ?_ ?_
    rotate_left
    · refine W.iteC (0 ≤ placeS o s t ch at' i) rfl (fun h0 => W.needI ⟨h0, by rw [hl]; unfold elems; omega⟩ (W.retI ?_)) (fun h0 => W.retI ?_)
      · unfold valT at vb ⊢
        rw [if_neg (by omega)] at vb ⊢
        exact wrap64_in (by omega) (by omega)
      · unfold valT; rw [if_pos (by omega)]
    rintro _ rfl
    refine W.retI ?_
    show _ = _
    rw [Int.mul_comm (wtS o s ch i), wrap64_in (x := valT o s t ch at' T i * wtS o s ch i) (by omega) (by omega), wrap64_in (by omega) (by omega), wrap64_in (by omega) (by omega)]
    simp only [sumN, Prod.mk.injEq]
    omega
  · rintro i rfl
    dsimp only
    refine W.iteF (decide_eq_false (by rw [termsR_len]; omega)) (W.retI (W.retI h))
  · show _ = _
    simp [sumN]
def sumF (o : Opr) (s t : Shp) (T : Rws) (i : Nat) : Int := sumV o s t ((i : Int) % t.c + 1) ((i : Int) / t.c) T
theorem g_plain_home_ok (H : OF o s t) {v : Int} {a0 a1 a2 a3 a4 a5 a6 a7 a8 a9 a10 a11 a16 a17 a18 a19 a21 : Int} {a12 a14 : Bool} {a13 a15 : Rws} {R : Int → Prop} (h : R (finS v o.zero o.lo o.hi)) :
    (g_plain_home a0 a1 a2 a3 a4 a5 a6 a7 a8 a9 a10 a11 a12 a13 a14 a15 a16 a17 a18 a19 o.zero a21 o.lo o.hi v).run R := by
  unfold g_plain_home
  have hv := H.v
  unfold val at hv
  have fr := finS_rng (v := v) (zero := o.zero) hv.1.2.2
  refine W.bindI (g_fixq_Finish_ok (by omega) (by omega) (W.retE h ?_))
  dsimp only
  rw [wrap_i8]; omega
end
section
variable {s0 : Shp} {lo hi out : Int} {nl : Bool} {l : Rws} {S : List Shp}
theorem g_plain_sums_ok (M : MD s0 lo hi out l S) {j : Nat} (hj : j < l.length) (hr : reduces (Opr.of (l.getD j [])).kind) {T : Rws} (hT : numT T) (hl : T.length = elems (S.getD (Opr.of (l.getD j [])).a.toNat default)) (n : Bool) {R : Bool × Rws → Prop}
    (h : R (false, rowsJ (sumF (Opr.of (l.getD j [])) (S.getD (Opr.of (l.getD j [])).a.toNat default) (S.getD (j + 1) default) T) (elems (S.getD (j + 1) default)))) :
    (g_plain_sums s0.h s0.w s0.c lo hi nl l out ((j : Int) + 1) n T).run R := by
  have h64 := M.n64
  obtain ⟨H, _, _⟩ := M.of hj
  have hn := M.num hj
  have hOf := fun {ch at'} hch hat {R : Int × Int × Bool × Rws → Prop} => g_terms_Of_ok (nl := nl) M hj hr (ch := ch) (at' := at') hch hat (R := R)
  unfold g_plain_sums
  refine W.bindI (g_terms_Channels_ok M hj hr (W.bindI (g_terms_Positions_ok M hj hr ?_)))
  have ejw : (IntKind.i64.wrap ((j : Int) + 1 - 1)) = j := by rw [wrap64_in (by omega) (by omega)]; omega
  dsimp only
  rw [ejw, Int.toNat_natCast]
  have k19 : ri l j 19 = (Opr.of (l.getD j [])).pad := rfl
  rw [k19]
  generalize Opr.of (l.getD j []) = o at *
  generalize S.getD o.a.toNat default = s at *
  generalize S.getD (j + 1) default = t at *
  have hp := H.pos
  have tk := H.tok
  unfold Shp.ok at tk
  unfold elems at h
  obtain ⟨P, hP⟩ : ∃ P : Nat, t.h * t.w = P := ⟨(t.h * t.w).toNat, by omega⟩
  obtain ⟨C, hC⟩ : ∃ C : Nat, t.c = C := ⟨t.c.toNat, by omega⟩
  have hPC : t.h * t.w * t.c = ((P * C : Nat) : Int) := by rw [hP, hC, Int.natCast_mul]
  rw [hPC, Int.toNat_natCast] at h
  rw [hPC] at tk
  have w1 : IntKind.i64.wrap (t.h * t.w * t.c) = ((P * C : Nat) : Int) := by rw [hPC]; exact wrap64_in (by omega) (by omega)
  rw [w1, hP]
  rw [hC]
  refine W.needI (by omega) (W.bindI (W.loop_for P (fun k v => v = ((k : Int), rowsJ (sumF o s t T) (k * C))) ?_ ?_ ?_))
  · rintro k _ hk rfl
    dsimp only
    have hkc : (k + 1) * C ≤ P * C := Nat.mul_le_mul_right C (by omega)
    rw [Nat.succ_mul] at hkc
    refine W.iteT (decide_eq_true (by omega)) (W.bindI (W.loop_for C (fun i v => v = ((i : Int), rowsJ (sumF o s t T) (k * C + i))) ?_ ?_ rfl))
    · rintro i _ hi' rfl
      dsimp only
      rw [wrap64_in (x := (i : Int) + 1) (by omega) (by omega)]
      refine W.iteT (decide_eq_true (by omega)) (W.bindI (hOf (by omega) (by omega) (W.needI (by omega) (W.bindI (g_plain_sum_ok H hr hn hT hl (by omega) _ _ (W.needI ?_ (W.retI ?_)))))))
      · rw [rowsJ_len]; omega
      · show _ = _
        obtain ⟨e1, e2⟩ := div_step (k := k) (c := C) (j := i) (by omega) hi'
        have e3 : sumF o s t T (k * C + i) = sumV o s t ((i : Int) + 1) k T := by unfold sumF; rw [hC, e1, e2]
        rw [← Nat.add_assoc, rowsJ_succ, e3]
        rfl
    · rintro _ rfl
      dsimp only
      refine W.iteF (decide_eq_false (by omega)) (W.retI (W.retI ?_))
      show _ = _
      dsimp only
      rw [wrap64_in (by omega) (by omega), Nat.succ_mul]
      rfl
  · rintro _ rfl
    dsimp only
    exact W.iteF (decide_eq_false (by omega)) (W.retI (W.retI h))
  · show _ = _
    rw [Nat.zero_mul]; rfl
theorem g_plain_reduce_ok (M : MD s0 lo hi out l S) {j : Nat} (hj : j < l.length) (hr : reduces (Opr.of (l.getD j [])).kind) {T : Rws} (hT : numT T) (hl : T.length = elems (S.getD (Opr.of (l.getD j [])).a.toNat default)) (n : Bool) (Tb : Rws) {R : Bool × Rws → Prop}
    (h : R (false, makeS (Opr.of (l.getD j [])) (S.getD (Opr.of (l.getD j [])).a.toNat default) (S.getD (j + 1) default) T Tb)) :
    (g_plain_reduce s0.h s0.w s0.c lo hi nl l out ((j : Int) + 1) n T).run R := by
  have h64 := M.n64
  obtain ⟨H, _, _⟩ := M.of hj
  have hn := M.num hj
  have hsp := (M.more hj).1
  have hSums := fun {R : Bool × Rws → Prop} => g_plain_sums_ok (nl := nl) M hj hr hT hl n (R := R)
  have hLen := fun {R : Int × Int → Prop} => g_terms_Length_ok (nl := nl) M hj hr (R := R)
  unfold g_plain_reduce
  have ejw : (IntKind.i64.wrap ((j : Int) + 1 - 1)) = j := by rw [wrap64_in (by omega) (by omega)]; omega
  rw [ejw, Int.toNat_natCast]
  have k0 : ri l j 0 = (Opr.of (l.getD j [])).kind := rfl
  have k14 : ri l j 14 = (Opr.of (l.getD j [])).sam := rfl
  have k15 : ri l j 15 = (Opr.of (l.getD j [])).sas := rfl
  have k18 : ri l j 18 = (Opr.of (l.getD j [])).zero := rfl
  have k20 : ri l j 20 = (Opr.of (l.getD j [])).lo := rfl
  have k21 : ri l j 21 = (Opr.of (l.getD j [])).hi := rfl
  rw [k0, k14, k15, k18, k20, k21]
  refine W.needI (by omega) (W.bindI (hLen (W.bindI (hSums ?_))))
  generalize Opr.of (l.getD j []) = o at *
  generalize S.getD o.a.toNat default = s at *
  generalize S.getD (j + 1) default = t at *
  dsimp only
  rw [rowsJ_len]
  have tk := H.tok
  have hlp := H.lenp hr
  have hpos := H.pos
  unfold Shp.ok at tk
  have hN : elems t ≤ 16384 := by unfold elems; omega
  have het : (elems t : Int) = t.h * t.w * t.c := by unfold elems; have := Int.mul_pos (show 0 < t.h * t.w by omega) (show 0 < t.c by omega); omega
  rw [Int.toNat_natCast, rep_map]
  refine W.needI (by omega) (W.bindI (W.loop_for (elems t) (fun i v => v = ((i : Int), fillF (fun i => [I (finS (redV o s t T i) o.zero o.lo o.hi)]) (fun _ => [I 0]) (elems t) i)) ?_ ?_ ?_))
  · rintro i _ hi' rfl
    dsimp only
    rw [Int.toNat_natCast, rowsJ_ri _ _ _ hi']
    have sb := sumV_bd H hr hn hT ((i : Int) % t.c + 1) ((i : Int) / t.c)
    have ev : sumF o s t T i = sumV o s t ((i : Int) % t.c + 1) ((i : Int) / t.c) T := rfl
    refine W.iteT (decide_eq_true (by omega)) (W.needI (by omega) (W.bindI (W.mono _ (R := fun v => o.kind ≤ 3 → v.1 = scaleS (sumF o s t T i) o.sam o.sas) ?_ ?_)))
    rotate_left
    · by_cases h3 : o.kind ≤ 3
      · exact g_fixq_Apply_ok (H.sc (by unfold scales; unfold reduces at hr; omega)) (by omega) (fun _ => rfl)
      · have h4 : o.kind = 4 := by unfold reduces at hr; omega
        have h5 : o.sam = 0 := by
          unfold Opr.spare at hsp
          have := hsp.2.2.2.1
          unfold scales at this
          omega
        unfold g_fixq_Apply
        rw [h5]
        refine W.bindI (g_fixq_Valid_v _ _ (W.iteT ?_ (W.retI (fun q => absurd q h3))))
        rw [decide_eq_false (by unfold scaleOK; omega)]; rfl
    rintro v3 hv3
    refine W.bindI (W.mono _ (R := fun v => v = redV o s t T i) ?_ ?_)
    rotate_left
    · unfold redV
      refine W.iteC (o.kind = 4) beqI (fun h4 => W.bindI (g_fixq_Mean_ok (by omega) (by omega) (W.retI ?_))) (fun h4 => W.retI ?_)
      · rw [if_neg (by omega)]; rfl
      · have h3 : o.kind ≤ 3 := by unfold reduces at hr; omega
        rw [if_pos h3]; exact hv3 h3
    rintro _ rfl
    refine W.bindI (g_plain_home_ok H (W.needI (by rw [fillF_len]; omega) (W.retI ?_)))
    show _ = _
    rw [wrap64_in (by omega) (by omega)]
    refine Prod.ext rfl ?_
    exact fillF_set (fun i => [I (finS (redV o s t T i) o.zero o.lo o.hi)]) _ _ _
  · rintro _ rfl
    dsimp only
    refine W.iteF (decide_eq_false (by omega)) (W.retI (W.retI ?_))
    rw [fillF_end]
    have e : makeS o s t T Tb = (List.range (elems t)).map fun i => [I (finS (redV o s t T i) o.zero o.lo o.hi)] := by
      unfold makeS rowsJ
      refine List.map_congr_left fun i _ => ?_
      show [I (finS (opV o s t T Tb i) o.zero o.lo o.hi)] = _
      unfold opV
      rw [if_pos (by unfold reduces at hr; omega)]
    rw [e] at h
    exact h
  · show _ = _
    rw [fillF_zero]; rfl
end
section
variable {o : Opr} {s t : Shp}
theorem g_plain_greatest_ok (H : OF o s t) (hsp : o.spare) (hk : o.kind = 5) {T : Rws} (hT : numT T) (hl : T.length = elems s) (n1 n2 n3 : Bool) (Tb : Rws) {R : Bool × Rws → Prop} (h : ∀ b, R (b, makeS o s t T Tb)) :
    (g_plain_greatest o.kind o.a o.b o.m o.win.kh o.win.kw o.win.sh o.win.sw o.win.top o.win.left o.win.bottom o.win.right n1 o.ws n2 o.bs o.sam o.sas o.sbm o.sbs o.zero o.pad o.lo o.hi s.h s.w s.c n3 T).run R := by
  have hsl : slides o.kind := by unfold slides; omega
  obtain ⟨wok, th, tw, h1, h2, htc, hw⟩ := H.slide hsl
  have hz : o.win.top = 0 ∧ o.win.left = 0 ∧ o.win.bottom = 0 ∧ o.win.right = 0 := by
    unfold Opr.spare at hsp
    have := hsp.2.2.2.2.2.2
    omega
  rw [if_neg (by omega)] at htc
  have hp := H.pos
  have wb := win_bd wok
  have sok := H.sok
  have tk := H.tok
  unfold Shp.ok at tk sok
  unfold g_plain_greatest g_window_Positions
  refine W.bindI (W.bindI (g_window_Out_ok s o.win ?_))
  rw [hw]
  refine W.retI ?_
  dsimp only
  obtain ⟨P, hP⟩ : ∃ P : Nat, t.h * t.w = P := ⟨(t.h * t.w).toNat, by omega⟩
  obtain ⟨C, hC⟩ : ∃ C : Nat, s.c = C := ⟨s.c.toNat, by omega⟩
  have hPN : t.h.toNat * t.w.toNat = P := by
    have : ((t.h.toNat * t.w.toNat : Nat) : Int) = t.h * t.w := by rw [Int.natCast_mul]; rw [show ((t.h.toNat : Nat) : Int) = t.h by omega, show ((t.w.toNat : Nat) : Int) = t.w by omega]
    omega
  have hPC : t.h * t.w * t.c = ((P * C : Nat) : Int) := by rw [hP, htc, hC, Int.natCast_mul]
  have hel : elems t = P * C := by unfold elems; omega
  have hpc : P * C ≤ 16384 := by omega
  have het : (elems s : Int) = s.h * s.w * s.c := by unfold elems; have := Int.mul_pos (Int.mul_pos (show 0 < s.h by omega) (show 0 < s.w by omega)) (show 0 < s.c by omega); omega
  have hn : ∀ a2 a3 a4 a5 a6 a7 a8 a9 a10 a11 a12, g_window_Taps_2_n o.win.kh o.win.kw a2 a3 a4 a5 a6 a7 a8 a9 a10 a11 a12 = o.win.kh * o.win.kw := fun a2 a3 a4 a5 a6 a7 a8 a9 a10 a11 a12 => wrap64_in (by omega) (by omega)
  have em : ∀ b, R (b, rowsJ (fun i => finS (greV o s t T i) o.zero o.lo o.hi) (P * C)) := fun b => by
    have := h b
    unfold makeS at this
    rw [hel] at this
    have e : (fun i => finS (opV o s t T Tb i) o.zero o.lo o.hi) = fun i => finS (greV o s t T i) o.zero o.lo o.hi := funext fun i => by
      unfold opV; rw [if_neg (by omega), if_pos hk]
    rw [e] at this
    exact this
  refine W.needI (by unfold posOK; omega) (W.bindI (W.each_pos (fun k v => ∃ b, v = ((k : Int), b, rowsJ (fun i => finS (greV o s t T i) o.zero o.lo o.hi) (k * C))) ⟨true, by rw [Nat.zero_mul]; rfl⟩ ?_ ?_))
  · rintro k p _ hk' ⟨b, rfl⟩
    rw [hPN] at hk'
    have hkc : (k + 1) * C ≤ P * C := Nat.mul_le_mul_right C (by omega)
    rw [Nat.succ_mul] at hkc
    refine W.bindI (W.loop_for C (fun i v => ∃ b, v = ((i : Int), b, rowsJ (fun i => finS (greV o s t T i) o.zero o.lo o.hi) (k * C + i))) ?_ ?_ ⟨b, rfl⟩)
    · rintro i _ hi' ⟨b, rfl⟩
      dsimp only
      refine W.iteT (decide_eq_true (by omega)) (W.bindI (W.bindI (g_window_Taps_ok H hsl (by omega) ?_)))
      show (W.need _ _).run _
      rw [hn]
      obtain ⟨e1, e2⟩ := div_step (k := k) (c := C) (j := i) (by omega) hi'
      refine W.needI (by omega) (W.bindI (W.each_range (fun m v => v = maxN (fun q => ri T (tapAt s o.win t.w k q * s.c + i).toNat 0) m) rfl ?_ ?_))
      · rintro q _ hq rfl
        refine g_window_Taps_2_ok H hsl (by omega) (by omega) ?_
        have ti := tap_in H hsl hz (at' := (k : Int)) (by omega) (k := q) (by omega)
        have tb := tap_bd (w := o.win) (cols := t.w) (at' := (k : Int)) (k := (q : Int)) H.sok
        dsimp only
        generalize htap : tapAt s o.win t.w (k : Int) (q : Int) = z at *
        have pa := Int.mul_nonneg ti (show 0 ≤ s.c by omega)
        have pb := Int.mul_le_mul_of_nonneg_right (show z ≤ s.h * s.w - 1 by omega) (show 0 ≤ s.c by omega)
        rw [Int.sub_mul] at pb
        rw [wrap64_in (x := z * s.c) (by omega) (by omega), wrap64_in (x := z * s.c + i) (by omega) (by omega)]
        refine W.needI (by rw [hl]; omega) (W.retI ?_)
        rw [imin_t]
        show _ = max _ _
        dsimp only
        rw [htap]
      · rintro _ rfl
        refine W.retI ?_
        have mb := maxN_bd (f := fun q => ri T (tapAt s o.win t.w k q * s.c + i).toNat 0) (a := -128) (b := 127) (fun q => hT _) (by omega) (o.win.kh * o.win.kw).toNat (by omega)
        rw [wrap64_in (by omega) (by omega)]
        refine W.bindI (g_plain_home_ok H (W.needI (by rw [rowsJ_len]; omega) (W.retI ⟨b && false, ?_⟩)))
        have e3 : greV o s t T (k * C + i) = maxN (fun q => ri T (tapAt s o.win t.w k q * s.c + i).toNat 0) (o.win.kh * o.win.kw).toNat := by
          unfold greV
          have : s.c = (C : Int) := hC
          rw [this, e1, e2]
        rw [← Nat.add_assoc, rowsJ_succ, wrap64_in (by omega) (by omega), e3]
        rfl
    · rintro _ ⟨b, rfl⟩
      dsimp only
      refine W.iteF (decide_eq_false (by omega)) (W.retI (W.retI ⟨b, ?_⟩))
      dsimp only
      rw [wrap64_in (by omega) (by omega), Nat.succ_mul]
      rfl
  · rintro _ ⟨b, rfl⟩
    rw [hPN]
    exact W.retI (em _)
theorem g_plain_each_ok (H : OF o s t) (hk : 6 ≤ o.kind) {Ta Tb : Rws} (ha : numT Ta) (hb : numT Tb) (hla : Ta.length = elems s) (hlb : o.kind = 6 → Tb.length = elems s) (n1 n2 n3 n4 : Bool) {R : Bool × Rws → Prop} (h : R (false, makeS o s t Ta Tb)) :
    (g_plain_each o.kind o.a o.b o.m o.win.kh o.win.kw o.win.sh o.win.sw o.win.top o.win.left o.win.bottom o.win.right n1 o.ws n2 o.bs o.sam o.sas o.sbm o.sbs o.zero o.pad o.lo o.hi n3 Ta n4 Tb).run R := by
  have hkk := H.kind
  have hst : t = s := by
    have := H.mks.2
    unfold Opr.mk1 at this
    rw [if_neg (by omega), if_neg (by unfold slides; omega)] at this
    exact this
  have tk := H.tok
  unfold Shp.ok at tk
  have hN : elems s ≤ 16384 := by unfold elems; rw [← hst]; omega
  unfold g_plain_each
  rw [hla, Int.toNat_natCast, rep_map]
  refine W.needI (by omega) (W.bindI (W.loop_for (elems s) (fun i v => v = ((i : Int), fillF (fun i => [I (finS (eacV o Ta Tb i) o.zero o.lo o.hi)]) (fun _ => [I 0]) (elems s) i)) ?_ ?_ ?_))
  · rintro i _ hi' rfl
    dsimp only
    rw [Int.toNat_natCast]
    have xa := ha i
    have xb := hb i
    rw [wrap64_in (x := ri Ta i 0) (by omega) (by omega), wrap64_in (x := ri Tb i 0) (by omega) (by omega)]
    refine W.iteT (decide_eq_true (by omega)) (W.needI (by omega) (W.bindI (W.mono _ (R := fun v => v = if o.kind = 8 then ri Ta i 0 else scaleS (ri Ta i 0) o.sam o.sas) ?_ ?_)))
    rotate_left
    · refine W.iteC (o.kind ≠ 8) (by rw [Bool.eq_iff_iff]; simp) (fun h8 => W.bindI (g_fixq_Apply_ok (H.sc (by unfold scales; omega)) (by omega) (W.retI ?_))) (fun h8 => W.retI ?_)
      · rw [if_neg h8]
      · rw [if_pos (by omega)]
    rintro _ rfl
    refine W.bindI (W.mono _ (R := fun v => v = eacV o Ta Tb i) ?_ ?_)
    rotate_left
    · unfold eacV
      refine W.iteC (o.kind = 6) beqI (fun h6 => ?_) (fun h6 => W.retI ?_)
      · have hl2 := hlb h6
        refine W.needI (by omega) (W.bindI (g_fixq_Apply_ok (H.sb h6) (by omega) (W.retI ?_)))
        have b1 := scaleS_bd (H.sc (by unfold scales; omega)) (x := ri Ta i 0) (by omega)
        have b2 := scaleS_bd (H.sb h6) (x := ri Tb i 0) (by omega)
        rw [if_neg (by omega), if_pos h6, wrap64_in (by omega) (by omega)]
      · rw [if_neg h6]
        by_cases h8 : o.kind = 8
        · rw [if_pos h8, if_neg (by omega)]
        · rw [if_neg h8, if_pos (by omega)]
    rintro _ rfl
    refine W.bindI (g_plain_home_ok H (W.needI (by rw [fillF_len]; omega) (W.retI ?_)))
    show _ = _
    rw [wrap64_in (by omega) (by omega)]
    refine Prod.ext rfl ?_
    exact fillF_set (fun i => [I (finS (eacV o Ta Tb i) o.zero o.lo o.hi)]) _ _ _
  · rintro _ rfl
    dsimp only
    refine W.iteF (decide_eq_false (by omega)) (W.retI (W.retI ?_))
    rw [fillF_end]
    have e : makeS o s t Ta Tb = (List.range (elems s)).map fun i => [I (finS (eacV o Ta Tb i) o.zero o.lo o.hi)] := by
      unfold makeS rowsJ
      rw [hst]
      refine List.map_congr_left fun i _ => ?_
      show [I (finS (opV o s s Ta Tb i) o.zero o.lo o.hi)] = _
      unfold opV
      rw [if_neg (by omega), if_neg (by omega)]
    rw [e] at h
    exact h
  · show _ = _
    rw [fillF_zero]; rfl
end
def tensL (l : Rws) (S : List Shp) (T0 : Rws) : Nat → List Rws
  | 0 => [T0]
  | k + 1 => tensL l S T0 k ++ [makeS (Opr.of (l.getD k [])) (S.getD (Opr.of (l.getD k [])).a.toNat default) (S.getD (k + 1) default) ((tensL l S T0 k).getD (Opr.of (l.getD k [])).a.toNat []) ((tensL l S T0 k).getD (Opr.of (l.getD k [])).b.toNat [])]
theorem tensL_len (l : Rws) (S : List Shp) (T0 : Rws) : ∀ k, (tensL l S T0 k).length = k + 1
  | 0 => rfl
  | k + 1 => by unfold tensL; rw [List.length_append, tensL_len l S T0 k]; rfl
theorem getD_app {α : Type} (d : α) (q : List α) (x : α) (i : Nat) : (i < q.length → (q ++ [x]).getD i d = q.getD i d) ∧ (q ++ [x]).getD q.length d = x := by
  constructor
  · intro h
    rw [List.getD_eq_getElem?_getD, List.getD_eq_getElem?_getD, List.getElem?_append_left h]
  · rw [List.getD_eq_getElem?_getD, List.getElem?_append_right (Nat.le_refl _), Nat.sub_self]; rfl
def tensQ (Q : Rws) (L : List Rws) : Prop := Q.length = L.length ∧ ∀ i, i < L.length → rr Q i 0 = L.getD i []
theorem tensQ_add {Q : Rws} {L : List Rws} (h : tensQ Q L) (b : Bool) (X : Rws) : tensQ (Q ++ [[AV.sl b 0 X]]) (L ++ [X]) := by
  obtain ⟨h1, h2⟩ := h
  refine ⟨by simp [h1], fun i hi => ?_⟩
  rw [List.length_append, List.length_singleton] at hi
  rw [rr_eq]
  by_cases e : i = L.length
  · subst e
    rw [(getD_app [] L X 0).2, ← h1, (getD_app [] Q _ 0).2]; rfl
  · rw [(getD_app [] L X i).1 (by omega), (getD_app [] Q _ i).1 (by omega), ← rr_eq]
    exact h2 i (by omega)
section
variable {s0 : Shp} {lo hi out : Int} {nl : Bool} {l : Rws} {S : List Shp}
theorem MD.S0 (M : MD s0 lo hi out l S) : S.getD 0 default = s0 := by rw [List.getD_eq_getElem?_getD, M.mf.s0]; rfl
theorem tensL_ok (M : MD s0 lo hi out l S) {T : Rws} (hT : numT T) (hl : T.length = elems s0) : ∀ k, k ≤ l.length → ∀ i, i ≤ k → numT ((tensL l S T k).getD i []) ∧ ((tensL l S T k).getD i []).length = elems (S.getD i default)
  | 0, _, i, hi' => by
    have : i = 0 := by omega
    subst this
    rw [M.S0]
    exact ⟨hT, hl⟩
  | k + 1, hk, i, hi' => by
    have ih := tensL_ok M hT hl k (by omega)
    have hlen := tensL_len l S T k
    unfold tensL
    by_cases e : i = k + 1
    · subst e
      rw [← hlen, (getD_app [] _ _ 0).2, hlen]
      exact ⟨makeS_num (M.of (by omega)).1 _ _, makeS_len _ _ _ _ _⟩
    · rw [(getD_app [] _ _ i).1 (by omega)]
      exact ih i (by omega)
theorem g_IndexFunc_ok {T : Rws} (hT : numT T) (hlen : T.length ≤ 140737488355328) (b : Bool) (a2 a3 a4 : Int) (nl : Bool) (l : Rws) (out : Int) {R : Int → Prop} (h : ∀ r, (r < 0 ↔ ∀ i, i < T.length → lo ≤ ri T i 0 ∧ ri T i 0 ≤ hi) → R r) : (g_slices_IndexFunc___int8_int8___plain_Tensors_1 b T a2 a3 a4 lo hi nl l out).run R := by
  unfold g_slices_IndexFunc___int8_int8___plain_Tensors_1
  refine W.bindI (W.loop_for T.length (fun i v => v = (i : Int) ∧ ∀ k, k < i → lo ≤ ri T k 0 ∧ ri T k 0 ≤ hi) ?_ ?_ ⟨rfl, fun k hk => absurd hk (Nat.not_lt_zero k)⟩)
  · rintro i _ hi' ⟨rfl, hh⟩
    have xb := hT i
    refine W.iteT (decide_eq_true (by omega)) (W.needI (by omega) ?_)
    unfold g_plain_Tensors_1_p
    rw [Int.toNat_natCast, wrap64_in (by omega) (by omega)]
    refine W.bindI (W.retI ?_)
    refine W.iteC (ri T i 0 < lo ∨ hi < ri T i 0) (by rw [Bool.eq_iff_iff]; simp) (fun hb => W.retI ?_) (fun hb => W.retI ⟨wrap64_in (by omega) (by omega), fun k hk => ?_⟩)
    · exact W.retI (h _ ⟨fun q => absurd q (by omega), fun q => absurd (q i hi') (by omega)⟩)
    · by_cases e : k = i
      · subst e; omega
      · exact hh k (by omega)
  · rintro _ ⟨rfl, hh⟩
    exact W.iteF (decide_eq_false (by omega)) (W.retI (W.retI (h _ ⟨fun _ => hh, fun _ => by decide⟩)))
theorem g_plain_Tensors_ok (hl : l.length ≤ 676622540150) (hsh : short l) (hnum : ∀ r ∈ l, (Opr.of r).nums) {T : Rws} (hT : numT T) (hlT : T.length ≤ 140737488355328) {n : Bool} (hn : n = true → T = []) {R : Int × Int × Int × Bool × Rws → Prop}
    (h1 : (look8 s0 lo hi (oprs l) out).err ≠ 0 → R ((look8 s0 lo hi (oprs l) out).err, (look8 s0 lo hi (oprs l) out).op, 0, true, []))
    (h2 : (look8 s0 lo hi (oprs l) out).err = 0 → ¬ (T.length = elems s0 ∧ ∀ i, i < T.length → lo ≤ ri T i 0 ∧ ri T i 0 ≤ hi) → R (220, 0, 0, true, []))
    (h3 : (look8 s0 lo hi (oprs l) out).err = 0 → T.length = elems s0 → (∀ i, i < T.length → lo ≤ ri T i 0 ∧ ri T i 0 ≤ hi) → ∀ Q, tensQ Q (tensL l (look8 s0 lo hi (oprs l) out).S T l.length) → R (0, 0, 0, false, Q)) :
    (g_plain_Tensors s0.h s0.w s0.c lo hi nl l out n T).run R := by
  unfold g_plain_Tensors
  refine W.bindI (g_model_Shapes_ok s0 lo hi nl l out hl hsh ?_)
  unfold Ans8.tup
  dsimp only
  by_cases he : (look8 s0 lo hi (oprs l) out).err ≠ 0
  · exact W.iteT (by simpa using he) (W.retI (h1 he))
  · have he0 := Classical.not_not.1 he
    have M : MD s0 lo hi out l (look8 s0 lo hi (oprs l) out).S := ⟨hl, hsh, he0, rfl, hnum⟩
    have h64 := M.n64
    have hSn := M.n
    have sok : s0.ok := by have := M.mf.sok 0 (Nat.zero_le _); rw [M.S0] at this; exact this
    unfold Shp.ok at sok
    have p1 := mul_bd (a := s0.h) (b := s0.w) (A := 1024) (B := 1024) (by omega) (by omega) (by omega) (by omega)
    have p2 := Int.mul_pos (Int.mul_pos (show 0 < s0.h by omega) (show 0 < s0.w by omega)) (show 0 < s0.c by omega)
    have het : (elems s0 : Int) = s0.h * s0.w * s0.c := by unfold elems; omega
    refine W.iteF (by simp [he0]) ?_
    rw [wrap64_in (x := s0.h * s0.w) (by omega) (by omega), wrap64_in (x := s0.h * s0.w * s0.c) (by omega) (by omega)]
    refine W.bindI (W.mono _ (R := fun v => v = false ↔ (T.length = elems s0 ∧ ∀ i, i < T.length → lo ≤ ri T i 0 ∧ ri T i 0 ≤ hi)) ?_ ?_)
    rotate_left
    · refine W.iteC ((T.length : Int) ≠ s0.h * s0.w * s0.c) (by rw [Bool.eq_iff_iff]; simp) (fun q => W.retI ⟨fun e => (by cases e), fun e => absurd (show (T.length : Int) = s0.h * s0.w * s0.c by rw [← het, e.1]) q⟩) (fun q => ?_)
      unfold g_slices_ContainsFunc___int8_int8___plain_Tensors_1
      refine W.bindI (W.bindI (g_IndexFunc_ok hT hlT _ _ _ _ _ _ _ (fun r hr => W.retI (W.retI ⟨fun e => ⟨by omega, hr.1 (by have := of_decide_eq_false e; omega)⟩, fun e => decide_eq_false (by have := hr.2 e.2; omega)⟩))))
    rintro v2 hv2
    cases v2 with
    | true => exact W.iteT rfl (W.retI (h2 he0 (fun e => by have := hv2.2 e; cases this)))
    | false =>
    obtain ⟨hTl, hTr⟩ := hv2.1 rfl
    refine W.iteF rfl (W.bindI (W.mono _ (R := fun v => v.2 = T) ?_ ?_))
    rotate_left
    · unfold g_slices_Clone___int8_int8_
      cases n with
      | true => exact W.iteT rfl (W.retI (hn rfl).symm)
      | false => exact W.iteF rfl (W.needI (by omega) (W.retI rfl))
    rintro ⟨b3, T3⟩ hT3
    have hT3 : T3 = T := hT3
    subst hT3
    dsimp only
    have h3 := h3 he0 hTl hTr
    generalize (look8 s0 lo hi (oprs l) out).S = S at *
    have hok := tensL_ok M hT hTl
    refine W.bindI (W.loop_for l.length (fun i v => ∃ Q, v = ((i : Int), Q) ∧ tensQ Q (tensL l S T3 i)) ?_ ?_ ⟨_, rfl, ⟨rfl, fun i hi' => by
      have : i = 0 := by simp [tensL] at hi'; omega
      subst this; rfl⟩⟩)
    · rintro i _ hi' ⟨Q, rfl, hQ⟩
      dsimp only
      obtain ⟨H, ho, hb6⟩ := M.of hi'
      obtain ⟨hsp, hb2⟩ := M.more hi'
      have hob : 0 ≤ (Opr.of (l.getD i [])).b ∧ (Opr.of (l.getD i [])).b ≤ i := by
        by_cases e6 : (Opr.of (l.getD i [])).kind = 6
        · exact hb6 e6
        · have := hsp.1
          omega
      have hQl : Q.length = i + 1 := by rw [hQ.1, tensL_len]
      have hQa := hQ.2 (Opr.of (l.getD i [])).a.toNat (by rw [tensL_len]; omega)
      have hQb := hQ.2 (Opr.of (l.getD i [])).b.toNat (by rw [tensL_len]; omega)
      have oka := hok i (by omega) (Opr.of (l.getD i [])).a.toNat (by omega)
      have okb := hok i (by omega) (Opr.of (l.getD i [])).b.toNat (by omega)
      rw [← hQa] at oka
      rw [← hQb] at okb
      have hRed := fun hr {R : Bool × Rws → Prop} n => g_plain_reduce_ok (nl := nl) M hi' hr oka.1 oka.2 n (rr Q (Opr.of (l.getD i [])).b.toNat 0) (R := R)
      have k0 : ri l i 0 = (Opr.of (l.getD i [])).kind := rfl
      have k1 : ri l i 1 = (Opr.of (l.getD i [])).a := rfl
      have k2 : ri l i 2 = (Opr.of (l.getD i [])).b := rfl
      have hlenS : (List.map Shp.enc S).length = l.length + 1 := by rw [List.length_map, hSn]
      refine W.iteT (decide_eq_true (by omega)) (W.needI (by omega) (W.bindI (W.mono _ (R := fun v => v.2.2.2 = makeS (Opr.of (l.getD i [])) (S.getD (Opr.of (l.getD i [])).a.toNat default) (S.getD (i + 1) default) (rr Q (Opr.of (l.getD i [])).a.toNat 0) (rr Q (Opr.of (l.getD i [])).b.toNat 0)) ?_ ?_)))
      rotate_left
      · rw [Int.toNat_natCast, k0, k1, k2]
        refine W.bindI (g_model_Reduces_ok _ ?_)
        refine W.iteC (reduces (Opr.of (l.getD i [])).kind) rfl (fun hr => ?_) (fun hr => ?_)
        · rw [wrap64_in (by omega) (by omega)]
          exact W.needI (by omega) (W.bindI (hRed hr _ (W.retI rfl)))
        · have hk := H.kind
          refine W.iteC ((Opr.of (l.getD i [])).kind = 5) beqI (fun h5 => W.needI (by omega) (W.needI (by omega) (W.bindI ?_))) (fun h5 => W.needI (by omega) (W.needI (by omega) (W.bindI ?_)))
          · rw [ri_shp0, ri_shp1, ri_shp2]
            exact g_plain_greatest_ok H hsp h5 oka.1 oka.2 _ _ _ _ (fun b => W.retI rfl)
          · unfold reduces at hr
            exact g_plain_each_ok H (by omega) oka.1 okb.1 oka.2 (fun h6 => by rw [okb.2, hb2 h6]) _ _ _ _ (W.retI rfl)
      rintro v9 hv9
      refine W.needI (by omega) (W.retI ⟨_, by rw [wrap64_in (by omega) (by omega)]; rfl, ?_⟩)
      unfold tensL
      rw [← hQa, ← hQb, ← hv9]
      exact tensQ_add hQ _ _
    · rintro _ ⟨Q, rfl, hQ⟩
      dsimp only
      exact W.iteF (decide_eq_false (by omega)) (W.retI (W.retI (h3 Q hQ)))
end
section
variable {s0 : Shp} {lo hi out : Int} {nl : Bool} {l : Rws} {S : List Shp}
end
theorem tensL_zero (l : Rws) (S : List Shp) (T : Rws) : ∀ k, (tensL l S T k).getD 0 [] = T
  | 0 => rfl
  | k + 1 => by
    have hlen := tensL_len l S T k
    unfold tensL
    rw [(getD_app [] _ _ 0).1 (by omega)]
    exact tensL_zero l S T k
theorem tensL_pre (l : Rws) (S : List Shp) (T : Rws) : ∀ n k i, i ≤ k → (tensL l S T (k + n)).getD i [] = (tensL l S T k).getD i []
  | 0, _, _, _ => rfl
  | n + 1, k, i, h => by
    have hlen := tensL_len l S T (k + n)
    show (tensL l S T (k + n) ++ _).getD i [] = _
    rw [(getD_app [] _ _ i).1 (by omega), tensL_pre l S T n k i h]
theorem tensL_get (l : Rws) (S : List Shp) (T : Rws) {k N : Nat} (hk : k < N) : (tensL l S T N).getD (k + 1) [] = makeS (Opr.of (l.getD k [])) (S.getD (Opr.of (l.getD k [])).a.toNat default) (S.getD (k + 1) default) ((tensL l S T k).getD (Opr.of (l.getD k [])).a.toNat []) ((tensL l S T k).getD (Opr.of (l.getD k [])).b.toNat []) := by
  obtain ⟨n, rfl⟩ : ∃ n, N = (k + 1) + n := ⟨N - (k + 1), by omega⟩
  rw [tensL_pre _ _ _ _ _ _ (Nat.le_refl _)]
  have hlen := tensL_len l S T k
  conv => lhs; unfold tensL
  rw [← hlen, (getD_app [] _ _ 0).2, hlen]
theorem makeS_b {o : Opr} (h : o.kind ≠ 6) (s t : Shp) (Ta Tb Tc : Rws) : makeS o s t Ta Tb = makeS o s t Ta Tc := by
  unfold makeS
  have : (fun i => finS (opV o s t Ta Tb i) o.zero o.lo o.hi) = fun i => finS (opV o s t Ta Tc i) o.zero o.lo o.hi := funext fun i => by
    unfold opV eacV
    rw [if_neg h, if_neg h]
  rw [this]
theorem makeS_rn (o : Opr) (bl : List Bool) (x y : Bool) (s t : Shp) (Ta Tb : Rws) : makeS ((o.rn bl).flags x y) s t Ta Tb = makeS o s t Ta Tb := rfl
theorem mk1_rn (o : Opr) (bl : List Bool) (x y : Bool) (s : Shp) : ((o.rn bl).flags x y).mk1 s = o.mk1 s := rfl
section
variable {s0 : Shp} {lo hi out out' : Int} {l l' : Rws} {S S' : List Shp} {bl : List Bool}
theorem tens_trs (M : MD s0 lo hi out l S) (M' : MD s0 lo hi out' l' S') (hw : wfT (oprs l)) (hb : isNeed (oprs l) out.toNat bl) (hs : sameOps (trs bl (oprs l) 0) (oprs l')) (T : Rws) :
    ∀ N n, n ≤ N → n ≤ l.length → (n = 0 ∨ bl.getD n false = true) → (rk bl n ≤ l'.length ∧ S'.getD (rk bl n) default = S.getD n default) ∧ (tensL l' S' T l'.length).getD (rk bl n) [] = (tensL l S T l.length).getD n []
  | _, 0, _, _, _ => by
    show (0 ≤ _ ∧ S'.getD 0 default = _) ∧ (tensL l' S' T l'.length).getD 0 [] = _
    rw [M.S0, M'.S0, tensL_zero, tensL_zero]
    exact ⟨⟨Nat.zero_le _, rfl⟩, rfl⟩
  | 0, n + 1, h, _, _ => absurd h (by omega)
  | N + 1, k + 1, h, hk, hl => by
    have hlive : bl.getD (k + 1) false = true := hl.resolve_left (by omega)
    have ho : (oprs l)[k]? = some (Opr.of (l.getD k [])) := ops_at l (by omega)
    obtain ⟨⟨ca1, ca2⟩, cb⟩ := clB_need hw hb k _ ho (by rwa [Nat.zero_add])
    rw [Nat.zero_add] at ca1 cb
    have hg := trs_get bl (oprs l) 0 k _ ho (by rwa [Nat.zero_add])
    rw [Nat.zero_add, show rk bl 0 = 0 from rfl, Nat.sub_zero] at hg
    have hj : rk bl k < l'.length := by
      have h1 := (List.getElem?_eq_some_iff.1 hg).1
      have h2 := sameOps_len hs
      rw [oprs_len] at h2
      omega
    obtain ⟨x, y, hp2⟩ := sameOps_get hs hg (ops_at l' hj)
    have ia := tens_trs M M' hw hb hs T N (Opr.of (l.getD k [])).a.toNat (by omega) (by omega) ca2
    obtain ⟨H, oa, ob⟩ := M.of (show k < l.length by omega)
    obtain ⟨H', oa', ob'⟩ := M'.of hj
    rw [hp2] at H' oa' ob'
    have ea : ((((Opr.of (l.getD k [])).rn bl).flags x y).a).toNat = rk bl (Opr.of (l.getD k [])).a.toNat := Int.toNat_natCast _
    have hS : S'.getD (rk bl k + 1) default = S.getD (k + 1) default := by
      have e1 := H'.mks.2
      have e2 := H.mks.2
      rw [ea, mk1_rn, ia.1.2, ← e2] at e1
      exact e1
    rw [rk_live hlive]
    refine ⟨⟨by omega, hS⟩, ?_⟩
    rw [tensL_get l' S' T hj, tensL_get l S T (show k < l.length by omega), hp2, ea, makeS_rn, hS, ia.1.2]
    have pa : (tensL l' S' T (rk bl k)).getD (rk bl (Opr.of (l.getD k [])).a.toNat) [] = (tensL l S T k).getD (Opr.of (l.getD k [])).a.toNat [] := by
      have ra := rk_mono bl (show (Opr.of (l.getD k [])).a.toNat ≤ k by omega)
      obtain ⟨n1, e1⟩ : ∃ n, l'.length = rk bl k + n := ⟨l'.length - rk bl k, by omega⟩
      obtain ⟨n2, e2⟩ : ∃ n, l.length = k + n := ⟨l.length - k, by omega⟩
      have := ia.2
      rw [e1, e2, tensL_pre _ _ _ _ _ _ ra, tensL_pre _ _ _ _ _ _ (by omega)] at this
      exact this
    rw [pa]
    by_cases h6 : (Opr.of (l.getD k [])).kind = 6
    · obtain ⟨cb1, cb2⟩ := cb h6
      have ib := tens_trs M M' hw hb hs T N (Opr.of (l.getD k [])).b.toNat (by omega) (by omega) cb2
      have eb : ((((Opr.of (l.getD k [])).rn bl).flags x y).b).toNat = rk bl (Opr.of (l.getD k [])).b.toNat := by
        show (if (Opr.of (l.getD k [])).kind = 6 then ((rk bl (Opr.of (l.getD k [])).b.toNat : Nat) : Int) else _).toNat = _
        rw [if_pos h6]; exact Int.toNat_natCast _
      rw [eb]
      have pb : (tensL l' S' T (rk bl k)).getD (rk bl (Opr.of (l.getD k [])).b.toNat) [] = (tensL l S T k).getD (Opr.of (l.getD k [])).b.toNat [] := by
        have ra := rk_mono bl (show (Opr.of (l.getD k [])).b.toNat ≤ k by omega)
        obtain ⟨n1, e1⟩ : ∃ n, l'.length = rk bl k + n := ⟨l'.length - rk bl k, by omega⟩
        obtain ⟨n2, e2⟩ : ∃ n, l.length = k + n := ⟨l.length - k, by omega⟩
        have := ib.2
        rw [e1, e2, tensL_pre _ _ _ _ _ _ ra, tensL_pre _ _ _ _ _ _ (by omega)] at this
        exact this
      rw [pb]
    · exact makeS_b h6 _ _ _ _ _
end
theorem g_ref11_Same_ok {T : Rws} (hl : T.length ≤ 140737488355328) (b c : Bool) {R : Bool → Prop} (h : R true) : (g_ref11_Same b T c T).run R := by
  unfold g_ref11_Same
  refine W.iteF (by simp) (W.bindI (W.loop_for T.length (fun i v => v = (i : Int)) ?_ ?_ rfl))
  · rintro i _ hi rfl
    refine W.iteT (decide_eq_true (by omega)) (W.needI (by omega) (W.needI (by omega) (W.iteF (by simp) (W.retI (wrap64_in (by omega) (by omega))))))
  · rintro _ rfl
    exact W.iteF (decide_eq_false (by omega)) (W.retI (W.retI (W.retI h)))
section
variable {s0 : Shp} {lo hi out : Int} {nl : Bool} {l : Rws}
theorem g_plain_Eval_ok (hl : l.length ≤ 676622540150) (hsh : short l) (hnum : ∀ r ∈ l, (Opr.of r).nums) {T : Rws} (hT : numT T) (hlT : T.length ≤ 140737488355328) {n : Bool} (hn : n = true → T = []) {R : Bool × Rws × Int × Int × Int → Prop}
    (h1 : (look8 s0 lo hi (oprs l) out).err ≠ 0 → R (true, [], (look8 s0 lo hi (oprs l) out).err, (look8 s0 lo hi (oprs l) out).op, 0))
    (h2 : (look8 s0 lo hi (oprs l) out).err = 0 → ¬ (T.length = elems s0 ∧ ∀ i, i < T.length → lo ≤ ri T i 0 ∧ ri T i 0 ≤ hi) → R (true, [], 220, 0, 0))
    (h3 : (look8 s0 lo hi (oprs l) out).err = 0 → (T.length = elems s0 ∧ ∀ i, i < T.length → lo ≤ ri T i 0 ∧ ri T i 0 ≤ hi) → ∀ b, R (b, (tensL l (look8 s0 lo hi (oprs l) out).S T l.length).getD out.toNat [], 0, 0, 0)) :
    (g_plain_Eval s0.h s0.w s0.c lo hi nl l out n T).run R := by
  unfold g_plain_Eval
  refine W.bindI (g_plain_Tensors_ok hl hsh hnum hT hlT hn (fun he => ?_) (fun he hno => ?_) (fun he hTl hTr Q hQ => ?_))
  · exact W.iteT (by simpa using he) (W.retI (h1 he))
  · exact W.iteT (by simp) (W.retI (h2 he hno))
  · obtain ⟨_, ho, hw⟩ := look8_wf he
    rw [oprs_len] at ho
    have hq := hQ.1
    rw [tensL_len] at hq
    have hr := hQ.2 out.toNat (by rw [tensL_len]; omega)
    refine W.iteF rfl (W.needI (by dsimp only; omega) (W.retI ?_))
    dsimp only
    rw [hr]
    exact h3 he ⟨hTl, hTr⟩ _
end
theorem g_law24_TrimSame_ok {a b c lo hi out : Int} {nl n2 : Bool} {l T : Rws} (hl : l.length ≤ 676622540150) (hsh : short l) (hni : nilOK l) (hnum : ∀ r ∈ l, (Opr.of r).nums) (hT : numT T) (hlT : T.length ≤ 140737488355328) (hn2 : n2 = true → T = []) {R : Bool → Prop} (hR : R true) :
    (g_law24_TrimSame a b c lo hi nl l out n2 T).run R := by
  unfold g_law24_TrimSame
  refine W.bindI (g_law24_fixed_ok (W.iteF rfl (W.bindI ?_)))
  refine g_trim_Trim_ok a b c lo hi nl l out hl hsh hni (fun he => ?_) (fun he bl fl rows hb ht => ?_)
  · refine W.bindI (g_plain_Eval_ok (s0 := ⟨a, b, c⟩) (lo := lo) (hi := hi) (out := out) (nl := nl) hl hsh hnum hT hlT hn2 (fun _ => ?_) (fun e => absurd e he) (fun e => absurd e he))
    exact W.iteT (by simp [he]) (W.retE hR (by simp))
  · obtain ⟨hN, ho, hw⟩ := look8_wf he
    rw [oprs_len] at hN ho
    have M : MD ⟨a, b, c⟩ lo hi out l (look8 ⟨a, b, c⟩ lo hi (oprs l) out).S := ⟨hl, hsh, he, rfl, hnum⟩
    have hbll : bl.length = l.length + 1 := by have := hb.1; rwa [oprs_len] at this
    obtain ⟨t1, t2⟩ := trimT_trs bl (oprs l) 0 (List.replicate bl.length 0) [] (clB_need hw hb) rfl (by rw [oprs_len, List.length_replicate]; omega) (fun n hn _ => by
      have : n = 0 := by omega
      subst this
      rw [List.getD_eq_getElem?_getD, List.getElem?_replicate]; simp [rk]; split <;> rfl)
    simp only [List.nil_append] at t1
    rw [oprs_len, Nat.zero_add] at t2
    have hneed : bl.getD out.toNat false = true := (hb.2 _).2 (need_out _ _)
    have eo := t2 out.toNat (by omega) (.inr hneed)
    obtain ⟨hts, htr, htn, htl⟩ := ht
    rw [t1] at hts
    rw [eo]
    obtain ⟨hte, htw⟩ := look8_trs he hb
    have hte' : (look8 ⟨a, b, c⟩ lo hi (oprs rows) (rk bl out.toNat)).err = 0 := by rw [look8_same hts]; exact hte
    have hnum' : ∀ r ∈ rows, (Opr.of r).nums := by
      intro r hr
      obtain ⟨j, hj, rfl⟩ := List.getElem_of_mem hr
      have e1 : (oprs rows)[j]? = some (Opr.of rows[j]) := by unfold oprs; rw [List.getElem?_map, List.getElem?_eq_getElem hj]; rfl
      have hjl : j < (trs bl (oprs l) 0).length := by have := sameOps_len hts; rw [oprs_len] at this; omega
      have e2 : (trs bl (oprs l) 0)[j]? = some ((trs bl (oprs l) 0)[j]) := List.getElem?_eq_getElem hjl
      obtain ⟨x, y, e3⟩ := sameOps_get hts e2 e1
      obtain ⟨k, o, e4, _, e5⟩ := trs_of bl (oprs l) 0 j _ e2
      rw [e3, e5]
      have hk : k < l.length := by have := (List.getElem?_eq_some_iff.1 e4).1; rwa [oprs_len] at this
      have e6 := ops_at l hk
      rw [e4] at e6
      rw [Option.some.inj e6]
      exact M.num hk
    have hrl : rows.length ≤ 676622540150 := by omega
    have M' : MD ⟨a, b, c⟩ lo hi (rk bl out.toNat) rows (look8 ⟨a, b, c⟩ lo hi (oprs rows) (rk bl out.toNat)).S := ⟨hrl, htr, hte', rfl, hnum'⟩
    have key := tens_trs M M' hw hb hts T out.toNat out.toNat (Nat.le_refl _) (by omega) (.inr hneed)
    have hE2 := fun {R : Bool × Rws × Int × Int × Int → Prop} => g_plain_Eval_ok (s0 := ⟨a, b, c⟩) (lo := lo) (hi := hi) (out := (rk bl out.toNat : Int)) (nl := fl) (l := rows) hrl htr hnum' hT hlT hn2 (R := R)
    refine W.bindI (g_plain_Eval_ok (s0 := ⟨a, b, c⟩) (lo := lo) (hi := hi) (out := out) (nl := nl) hl hsh hnum hT hlT hn2 (fun e => absurd he e) (fun _ hno => ?_) (fun _ hyes bb => ?_))
    · refine W.iteF rfl (W.bindI (hE2 (fun e => absurd hte' e) (fun _ _ => ?_) (fun _ hyes => absurd hyes hno)))
      exact W.bindI (W.iteT rfl (W.bindI (g_ref11_Same_ok (by simp) _ _ (W.retI (W.retI hR)))))
    · refine W.iteF rfl (W.bindI (hE2 (fun e => absurd hte' e) (fun _ hno => absurd hyes hno) (fun _ _ b2 => ?_)))
      rw [Int.toNat_natCast, key.2]
      refine W.bindI (W.iteT rfl (W.bindI (g_ref11_Same_ok ?_ _ _ (W.retI (W.retI hR)))))
      have tl := (tensL_ok M hT hyes.1 l.length (Nat.le_refl _) out.toNat (by omega)).2
      have sk := M.mf.sok out.toNat (by rw [oprs_len]; omega)
      unfold Shp.ok at sk
      dsimp only
      rw [tl]
      unfold elems
      omega
theorem fm_cellN {N : Nat} {fs fr : List FS} {r : List AV} {j : Nat} (h : fmR fr r) (hj : fr[j]? = some (.sl N fs)) : cN r j = true → cR r j = [] := by
  obtain ⟨x, hx, hf⟩ := fmR_get h hj
  have e : cR r j = x.toRows := by rw [cR, List.getD_eq_getElem?_getD, hx]; rfl
  have e2 : cN r j = x.toNil := by rw [cN, List.getD_eq_getElem?_getD, hx]; rfl
  unfold fmF at hf
  obtain ⟨b', l', rfl, h0, _, _⟩ := hf
  rw [e, e2]
  exact h0
theorem fm_nil {n : Bool} {l : Rws} (h : fmF opsF (.sl n 0 l)) : nilOK l := fun r hr => ⟨fm_cellN (j := 12) ((fm_sl h).2.2 r hr) rfl, fm_cellN (j := 13) ((fm_sl h).2.2 r hr) rfl⟩
end Go.Proofs.Ytalchibbmkhkpaa.VX
