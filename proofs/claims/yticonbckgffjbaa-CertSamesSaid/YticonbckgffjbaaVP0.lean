/- Layer 8's functions in plain form: shapes and windows. -/
import Derived.Test.YticonbckgffjbaaVS
import Derived.IntWalk
import Derived.WalkKit
import Derived.Test.YticonbckgffjbaaVX2
set_option linter.unusedVariables false
set_option linter.unusedSimpArgs false
set_option linter.unusedVariables false
namespace Go.Proofs.Yticonbckgffjbaa.VX
/-- A cell of a row. -/
def cI (r : List AV) (j : Nat) : Int := (r.getD j .dead).toInt
def cN (r : List AV) (j : Nat) : Bool := (r.getD j .dead).toNil
def cR (r : List AV) (j : Nat) : Rws := (r.getD j .dead).toRows
theorem ri_eq (l : Rws) (i j : Nat) : ri l i j = cI (l.getD i []) j := rfl
theorem rn_eq (l : Rws) (i j : Nat) : rn l i j = cN (l.getD i []) j := rfl
theorem rr_eq (l : Rws) (i j : Nat) : rr l i j = cR (l.getD i []) j := rfl

theorem wrap64_in {x : Int} (h : -9223372036854775808 ≤ x) (h' : x ≤ 9223372036854775807) : IntKind.i64.wrap x = x := by
  rw [IntKind.wrap_i64]; omega
theorem W.bindI {α β : Type} {x : W α} {f : α → W β} {R : β → Prop} (h : x.run fun a => (f a).run R) : (W.bind x f).run R := h
structure Shp where
  h : Int
  w : Int
  c : Int
  deriving DecidableEq, Inhabited
def Shp.ok (s : Shp) : Prop := (1 ≤ s.h ∧ s.h ≤ 1024) ∧ (1 ≤ s.w ∧ s.w ≤ 1024) ∧ (1 ≤ s.c ∧ s.c ≤ 1024) ∧ s.h * s.w * s.c ≤ 16384
instance (s : Shp) : Decidable s.ok := by unfold Shp.ok; infer_instance
theorem mul_bd {a b A B : Int} (ha : 0 ≤ a) (hA : a ≤ A) (hb : 0 ≤ b) (hB : b ≤ B) : 0 ≤ a * b ∧ a * b ≤ A * B :=
  ⟨Int.mul_nonneg ha hb, Int.mul_le_mul hA hB hb (Int.le_trans ha hA)⟩
theorem prod3 {a b c : Int} (ha : 1 ≤ a ∧ a ≤ 1024) (hb : 1 ≤ b ∧ b ≤ 1024) (hc : 1 ≤ c ∧ c ≤ 1024) : 0 ≤ a * b ∧ a * b ≤ 1048576 ∧ 0 ≤ a * b * c ∧ a * b * c ≤ 1073741824 := by
  have h1 := mul_bd (A := 1024) (B := 1024) (by omega : 0 ≤ a) (by omega) (by omega : 0 ≤ b) (by omega)
  have h2 := mul_bd (A := 1048576) (B := 1024) h1.1 (by omega) (by omega : 0 ≤ c) (by omega)
  exact ⟨h1.1, by omega, h2.1, by omega⟩

theorem g_shape_Elems_ok (a b c : Int) {R : Int × Int → Prop} (h : R (if Shp.ok ⟨a, b, c⟩ then (a * b * c, 0) else (0, 50))) : (g_shape_Elems a b c).run R := by
  unfold g_shape_Elems
  simp only [W.run_ite, W.run_ret, Bool.or_eq_true, decide_eq_true_eq]
  by_cases h1 : 1 ≤ a ∧ a ≤ 1024
  · by_cases h2 : 1 ≤ b ∧ b ≤ 1024
    · by_cases h3 : 1 ≤ c ∧ c ≤ 1024
      · obtain ⟨q1, q2, q3, q4⟩ := prod3 h1 h2 h3
        rw [if_neg (by omega), if_neg (by omega), if_neg (by omega), Int.one_mul, wrap64_in (x := a) (by omega) (by omega), wrap64_in (x := a * b) (by omega) (by omega), wrap64_in (x := a * b * c) (by omega) (by omega)]
        split
        · rwa [if_neg (by simp only [Shp.ok]; omega)] at h
        · rwa [if_pos (by simp only [Shp.ok]; omega)] at h
      · rw [if_neg (by omega), if_neg (by omega), if_pos (by omega)]
        rwa [if_neg (by simp [Shp.ok, h3])] at h
    · rw [if_neg (by omega), if_pos (by omega)]
      rwa [if_neg (by simp [Shp.ok, h2])] at h
  · rw [if_pos (by omega)]
    rwa [if_neg (by simp [Shp.ok, h1])] at h
end Go.Proofs.Yticonbckgffjbaa.VX

set_option linter.unusedVariables false
namespace Go.Proofs.Yticonbckgffjbaa.VX
theorem W.iteT {α : Type} {b : Bool} {x y : W α} {R : α → Prop} (hb : b = true) (h : x.run R) : (W.ite b x y).run R := ⟨fun _ => h, fun e => (by rw [hb] at e; cases e)⟩
theorem W.iteF {α : Type} {b : Bool} {x y : W α} {R : α → Prop} (hb : b = false) (h : y.run R) : (W.ite b x y).run R := ⟨fun e => (by rw [hb] at e; cases e), fun _ => h⟩
theorem W.needI {α : Type} {c : Prop} {x : W α} {R : α → Prop} (hc : c) (h : x.run R) : (W.need c x).run R := ⟨hc, h⟩
theorem W.retI {α : Type} {a : α} {R : α → Prop} (h : R a) : (W.ret a).run R := h
theorem W.retE {α : Type} {a b : α} {R : α → Prop} (h : R b) (e : a = b) : (W.ret a).run R := e ▸ h
/-- By cases of a condition. -/
theorem W.iteC {α : Type} {b : Bool} {x y : W α} {R : α → Prop} (c : Prop) [Decidable c] (hb : b = decide c) (hx : c → x.run R) (hy : ¬ c → y.run R) : (W.ite b x y).run R :=
  ⟨fun e => hx (by rw [hb] at e; simpa using e), fun e => hy (by rw [hb] at e; simpa using e)⟩

structure Win where
  kh : Int
  kw : Int
  sh : Int
  sw : Int
  top : Int
  left : Int
  bottom : Int
  right : Int
  deriving DecidableEq
def sideOK (k s t b : Int) : Prop := (1 ≤ k ∧ k ≤ 32) ∧ (1 ≤ s ∧ s ≤ 32) ∧ (0 ≤ t ∧ t ≤ k - 1) ∧ (0 ≤ b ∧ b ≤ k - 1)
instance (k s t b : Int) : Decidable (sideOK k s t b) := by unfold sideOK; infer_instance
def Win.ok (w : Win) : Prop := sideOK w.kh w.sh w.top w.bottom ∧ sideOK w.kw w.sw w.left w.right
instance (w : Win) : Decidable w.ok := by unfold Win.ok; infer_instance
/-- How many places a window of k has on n in steps of s. -/
def places (n k s : Int) : Int := if n - k < 0 then 0 else (n - k) / s + 1
def wout (s : Shp) (w : Win) : Int × Int × Int :=
  if ¬ s.ok then (0, 0, 50) else if ¬ w.ok then (0, 0, 60)
  else if places (s.h + w.top + w.bottom) w.kh w.sh = 0 ∨ places (s.w + w.left + w.right) w.kw w.sw = 0 then (0, 0, 60)
  else (places (s.h + w.top + w.bottom) w.kh w.sh, places (s.w + w.left + w.right) w.kw w.sw, 0)

theorem places_zero {n k s : Int} (hs : 1 ≤ s) : places n k s = 0 ↔ n - k < 0 := by
  unfold places
  split
  · simp [*]
  · rename_i h
    have := Int.ediv_nonneg (a := n - k) (b := s) (by omega) (by omega)
    omega
theorem places_bd {n k s : Int} (hs : 1 ≤ s) (hk : 1 ≤ k) : 0 ≤ places n k s ∧ (0 ≤ n → places n k s ≤ n) := by
  unfold places
  split
  · exact ⟨Int.le_refl _, fun h => h⟩
  · rename_i h
    have h1 := Int.ediv_nonneg (a := n - k) (b := s) (by omega) (by omega)
    have h2 := Int.ediv_le_self (a := n - k) s (by omega)
    omega

theorem g_window_within_ok (a b c : Int) {R : Bool → Prop} (h : R (decide (b ≤ a ∧ a ≤ c))) : (g_window_within a b c).run R := by
  unfold g_window_within
  simpa using h
theorem g_window_side_ok (k s t b : Int) {R : Bool → Prop} (h : R (decide (sideOK k s t b))) : (g_window_side k s t b).run R := by
  unfold g_window_side
  refine W.bindI (W.bindI (g_window_within_ok _ _ _ (W.iteC _ rfl (fun h1 => ?_) fun h1 => ?_)))
  · refine W.bindI (g_window_within_ok _ _ _ (W.iteC _ rfl (fun h2 => ?_) fun h2 => ?_))
    · rw [wrap64_in (x := k - 1) (by omega) (by omega)]
      refine W.bindI (g_window_within_ok _ _ _ (W.iteC _ rfl (fun h3 => ?_) fun h3 => ?_))
      · refine W.bindI (g_window_within_ok _ _ _ ?_)
        simpa [sideOK, h1, h2, h3] using h
      · simpa [sideOK, h1, h2, h3] using h
    · simpa [sideOK, h1, h2] using h
  · simpa [sideOK, h1] using h
theorem g_window_Valid_ok (w : Win) {R : Bool → Prop} (h : R (decide w.ok)) : (g_window_Valid w.kh w.kw w.sh w.sw w.top w.left w.bottom w.right).run R := by
  unfold g_window_Valid
  refine W.bindI (W.bindI (g_window_side_ok _ _ _ _ (W.iteC _ rfl (fun h1 => ?_) fun h1 => ?_)))
  · refine W.bindI (g_window_side_ok _ _ _ _ ?_)
    simpa [Win.ok, h1] using h
  · simpa [Win.ok, h1] using h
theorem g_window_Out_ok (s : Shp) (w : Win) {R : Int × Int × Int → Prop} (h : R (wout s w)) : (g_window_Out s.h s.w s.c w.kh w.kw w.sh w.sw w.top w.left w.bottom w.right).run R := by
  unfold g_window_Out
  refine W.bindI (g_shape_Elems_ok _ _ _ (W.iteC (¬ s.ok) (by split <;> simp_all) (fun h1 => ?_) fun h1 => ?_))
  · rw [if_neg h1]
    simpa [wout, h1] using h
  · refine W.bindI (g_window_Valid_ok _ (W.iteC (¬ w.ok) (by simp) (fun h2 => ?_) fun h2 => ?_))
    · have h1 : s.ok := by simpa using h1
      simpa [wout, h1, h2] using h
    · have h1 : s.ok := by simpa using h1
      have h2 : w.ok := by simpa using h2
      have g1 := h1
      have g2 := h2
      unfold Shp.ok at g1
      unfold Win.ok sideOK at g2
      rw [wrap64_in (x := s.h + w.top) (by omega) (by omega), wrap64_in (x := s.h + w.top + w.bottom) (by omega) (by omega), wrap64_in (x := s.w + w.left) (by omega) (by omega), wrap64_in (x := s.w + w.left + w.right) (by omega) (by omega),
        wrap64_in (x := s.h + w.top + w.bottom - w.kh) (by omega) (by omega), wrap64_in (x := s.w + w.left + w.right - w.kw) (by omega) (by omega)]
      have z1 := places_zero (n := s.h + w.top + w.bottom) (k := w.kh) (s := w.sh) (by omega)
      have z2 := places_zero (n := s.w + w.left + w.right) (k := w.kw) (s := w.sw) (by omega)
      refine W.iteC (places (s.h + w.top + w.bottom) w.kh w.sh = 0 ∨ places (s.w + w.left + w.right) w.kw w.sw = 0) (by rw [← Bool.decide_or, decide_eq_decide, z1, z2]) (fun h3 => ?_) fun h3 => ?_
      · simpa [wout, h1, h2, h3] using h
      · refine W.needI (by omega) (W.needI (by omega) (W.retE h ?_))
        simp only [wout, h1, h2, not_true, if_false]
        rw [if_neg h3]
        rw [not_or, z1, z2] at h3
        have b1 := Int.ediv_nonneg (a := s.h + w.top + w.bottom - w.kh) (b := w.sh) (by omega) (by omega)
        have b2 := Int.ediv_nonneg (a := s.w + w.left + w.right - w.kw) (b := w.sw) (by omega) (by omega)
        have b3 := Int.ediv_le_self (a := s.h + w.top + w.bottom - w.kh) w.sh (by omega)
        have b4 := Int.ediv_le_self (a := s.w + w.left + w.right - w.kw) w.sw (by omega)
        rw [Int.tdiv_eq_ediv_of_nonneg (by omega), Int.tdiv_eq_ediv_of_nonneg (by omega)]
        rw [wrap64_in (x := (s.h + w.top + w.bottom - w.kh) / w.sh) (by omega) (by omega), wrap64_in (x := (s.w + w.left + w.right - w.kw) / w.sw) (by omega) (by omega),
          wrap64_in (x := (s.h + w.top + w.bottom - w.kh) / w.sh + 1) (by omega) (by omega), wrap64_in (x := (s.w + w.left + w.right - w.kw) / w.sw + 1) (by omega) (by omega)]
        simp only [places]
        rw [if_neg h3.1, if_neg h3.2]
end Go.Proofs.Yticonbckgffjbaa.VX

set_option linter.unusedVariables false
namespace Go.Proofs.Yticonbckgffjbaa.VX
structure Opr where
  kind : Int
  a : Int
  b : Int
  m : Int
  win : Win
  wn : Bool
  ws : Rws
  bn : Bool
  bs : Rws
  sam : Int
  sas : Int
  sbm : Int
  sbs : Int
  zero : Int
  pad : Int
  lo : Int
  hi : Int
/-- An op out of a row. -/
def Opr.of (r : List AV) : Opr :=
  ⟨cI r 0, cI r 1, cI r 2, cI r 3, ⟨cI r 4, cI r 5, cI r 6, cI r 7, cI r 8, cI r 9, cI r 10, cI r 11⟩, cN r 12, cR r 12, cN r 13, cR r 13, cI r 14, cI r 15, cI r 16, cI r 17, cI r 18, cI r 19, cI r 20, cI r 21⟩
def Shp.enc (s : Shp) : List AV := [I s.h, I s.w, I s.c]
theorem ri_shp0 (S : List Shp) (i : Nat) : ri (S.map Shp.enc) i 0 = (S.getD i default).h := by
  simp only [ri, cellOf, List.getD, List.getElem?_map]
  cases S[i]? <;> rfl
theorem ri_shp1 (S : List Shp) (i : Nat) : ri (S.map Shp.enc) i 1 = (S.getD i default).w := by
  simp only [ri, cellOf, List.getD, List.getElem?_map]
  cases S[i]? <;> rfl
theorem ri_shp2 (S : List Shp) (i : Nat) : ri (S.map Shp.enc) i 2 = (S.getD i default).c := by
  simp only [ri, cellOf, List.getD, List.getElem?_map]
  cases S[i]? <;> rfl

def slides (k : Int) : Prop := 2 ≤ k ∧ k ≤ 5
def weighs (k : Int) : Prop := 1 ≤ k ∧ k ≤ 3
def scales (k : Int) : Prop := (1 ≤ k ∧ k ≤ 3) ∨ k = 6 ∨ k = 7
def reduces (k : Int) : Prop := 1 ≤ k ∧ k ≤ 4
def scaleOK (m s : Int) : Prop := 1 ≤ m ∧ m ≤ 2147483647 ∧ 0 ≤ s ∧ s ≤ 62
def val (n : Int) : Prop := -128 ≤ n ∧ n ≤ 127
instance (k : Int) : Decidable (slides k) := by unfold slides; infer_instance
instance (k : Int) : Decidable (weighs k) := by unfold weighs; infer_instance
instance (k : Int) : Decidable (scales k) := by unfold scales; infer_instance
instance (k : Int) : Decidable (reduces k) := by unfold reduces; infer_instance
instance (m s : Int) : Decidable (scaleOK m s) := by unfold scaleOK; infer_instance
instance (n : Int) : Decidable (val n) := by unfold val; infer_instance
namespace Opr
def spare (o : Opr) : Prop :=
  (o.kind = 6 ∨ (o.b = 0 ∧ o.sbm = 0 ∧ o.sbs = 0)) ∧ (o.kind ≤ 2 ∨ o.m = 0) ∧ (weighs o.kind ∨ (o.ws.length = 0 ∧ o.bs.length = 0)) ∧ (scales o.kind ∨ (o.sam = 0 ∧ o.sas = 0 ∧ o.zero = 0)) ∧
  (slides o.kind ∨ o.win = ⟨0, 0, 0, 0, 0, 0, 0, 0⟩) ∧ (o.kind = 2 ∨ o.kind = 3 ∨ o.pad = 0) ∧ ((o.kind ≠ 4 ∧ o.kind ≠ 5) ∨ (o.win.top = 0 ∧ o.win.left = 0 ∧ o.win.bottom = 0 ∧ o.win.right = 0))
instance (o : Opr) : Decidable o.spare := by unfold spare; infer_instance
def len (o : Opr) (s : Shp) : Int := if o.kind = 1 then s.h * s.w * s.c else if o.kind = 2 then o.win.kh * o.win.kw * s.c else o.win.kh * o.win.kw
def mk1 (o : Opr) (s : Shp) : Shp × Int :=
  if o.kind = 1 then (⟨1, 1, o.m⟩, 0)
  else if slides o.kind then (if (wout s o.win).2.2 ≠ 0 then (⟨0, 0, 0⟩, (wout s o.win).2.2) else (⟨(wout s o.win).1, (wout s o.win).2.1, if o.kind = 2 then o.m else s.c⟩, 0))
  else (s, 0)
def lists (o : Opr) (s : Shp) : Int × Int := if o.kind = 1 ∨ o.kind = 2 then (o.m * o.len s, o.m) else if o.kind = 3 then (s.c * o.len s, s.c) else (0, 0)
def labour (o : Opr) (s t : Shp) : Int := if reduces o.kind then t.h * t.w * t.c * o.len s else if o.kind = 5 then t.h * t.w * t.c * o.win.kh * o.win.kw else t.h * t.w * t.c
/-- What is wrong with an op over shapes, and the shape that it makes. -/
def one (o : Opr) (S : List Shp) : Shp × Int :=
  if o.kind < 1 ∨ 8 < o.kind then (⟨0, 0, 0⟩, 81)
  else if (o.a < 0 ∨ S.length ≤ o.a) ∨ o.kind = 6 ∧ (o.b < 0 ∨ S.length ≤ o.b) then (⟨0, 0, 0⟩, 82)
  else if ¬ o.spare then (⟨0, 0, 0⟩, 83)
  else if o.kind ≤ 2 ∧ (o.m < 1 ∨ 1024 < o.m) then (⟨0, 0, 0⟩, 2)
  else if (o.mk1 (S.getD o.a.toNat default)).2 ≠ 0 then (⟨0, 0, 0⟩, (o.mk1 (S.getD o.a.toNat default)).2)
  else if (o.kind = 6 ∧ S.getD o.b.toNat default ≠ S.getD o.a.toNat default) ∨ ¬ (o.mk1 (S.getD o.a.toNat default)).1.ok then (⟨0, 0, 0⟩, 50)
  else if reduces o.kind ∧ 512 < o.len (S.getD o.a.toNat default) then (⟨0, 0, 0⟩, 84)
  else if (o.ws.length : Int) ≠ (o.lists (S.getD o.a.toNat default)).1 ∨ (o.bs.length : Int) ≠ (o.lists (S.getD o.a.toNat default)).2 then (⟨0, 0, 0⟩, 70)
  else if scales o.kind ∧ ¬ scaleOK o.sam o.sas ∨ o.kind = 6 ∧ ¬ scaleOK o.sbm o.sbs then (⟨0, 0, 0⟩, 20)
  else if ¬ val o.lo ∨ ¬ val o.hi ∨ o.hi < o.lo ∨ ¬ val o.zero ∨ ¬ val o.pad then (⟨0, 0, 0⟩, 85)
  else ((o.mk1 (S.getD o.a.toNat default)).1, 0)
end Opr

end Go.Proofs.Yticonbckgffjbaa.VX

set_option linter.unusedVariables false
namespace Go.Proofs.Yticonbckgffjbaa.VX
theorem wout_win {s : Shp} {w : Win} (h : (wout s w).2.2 = 0) : s.ok ∧ w.ok := by
  unfold wout at h
  split at h
  · simp at h
  · split at h
    · simp at h
    · rename_i h1 h2; exact ⟨by simpa using h1, by simpa using h2⟩
def Win.dims (w : Win) : Prop := (0 ≤ w.kh ∧ w.kh ≤ 32) ∧ (0 ≤ w.kw ∧ w.kw ≤ 32)
theorem Win.ok.dims {w : Win} (h : w.ok) : w.dims := by unfold Win.ok sideOK at h; unfold Win.dims; omega
theorem len_bd (o : Opr) (s : Shp) (hs : s.ok) (hw : o.kind ≠ 1 → o.win.dims) : 0 ≤ o.len s ∧ o.len s ≤ 1048576 := by
  unfold Shp.ok at hs
  unfold Opr.len
  obtain ⟨p1, p2, p3, p4⟩ := prod3 hs.1 hs.2.1 hs.2.2.1
  by_cases h1 : o.kind = 1
  · rw [if_pos h1]; omega
  · rw [if_neg h1]
    have hw := hw h1
    unfold Win.dims at hw
    have q := mul_bd (A := 32) (B := 32) hw.1.1 hw.1.2 hw.2.1 hw.2.2
    have q2 := mul_bd (A := 1024) (B := 1024) q.1 (by omega) (by omega : 0 ≤ s.c) (by omega)
    split <;> omega
theorem labour_bd (o : Opr) (s t : Shp) (hs : s.ok) (ht : t.ok) (hw : slides o.kind → o.win.dims) : 0 ≤ o.labour s t ∧ o.labour s t ≤ 17179869184 := by
  have ht' := ht
  unfold Shp.ok at ht'
  obtain ⟨p1, p2, p3, p4⟩ := prod3 ht'.1 ht'.2.1 ht'.2.2.1
  unfold Opr.labour
  split
  · rename_i h1
    have q := len_bd o s hs (fun h2 => hw (by unfold reduces at h1; unfold slides; omega))
    have := mul_bd (A := 16384) (B := 1048576) p3 ht'.2.2.2 q.1 q.2
    omega
  · split
    · rename_i h2
      have hw := hw (by unfold slides; omega)
      unfold Win.dims at hw
      have q := mul_bd (A := 16384) (B := 32) p3 ht'.2.2.2 hw.1.1 hw.1.2
      have q2 := mul_bd (A := 524288) (B := 32) q.1 (by omega) hw.2.1 hw.2.2
      omega
    · omega
theorem mk1_dims {o : Opr} {s : Shp} (h : (o.mk1 s).2 = 0) : slides o.kind → o.win.dims := fun hs => by
  unfold Opr.mk1 at h
  rw [if_neg (by unfold slides at hs; omega), if_pos hs] at h
  split at h
  · rename_i h1; exact absurd h h1
  · rename_i h1
    exact (wout_win (by simpa using h1)).2.dims

end Go.Proofs.Yticonbckgffjbaa.VX

set_option linter.unusedVariables false
namespace Go.Proofs.Yticonbckgffjbaa.VX
/-- Work, error, op, shapes. -/
structure Ans8 where
  work : Int
  err : Int
  op : Int
  S : List Shp
def walk8 : List Opr → Int → Int → List Shp → Ans8
  | [], _, w, S => ⟨w, 0, 0, S⟩
  | o :: r, i, w, S =>
    if (o.one S).2 ≠ 0 then ⟨0, (o.one S).2, i + 1, []⟩
    else if 131072 < w + o.labour (S.getD o.a.toNat default) (o.one S).1 then ⟨0, 86, i + 1, []⟩
    else walk8 r (i + 1) (w + o.labour (S.getD o.a.toNat default) (o.one S).1) (S ++ [(o.one S).1])
def look8 (s : Shp) (lo hi : Int) (ops : List Opr) (out : Int) : Ans8 :=
  if ¬ s.ok then ⟨0, 50, 0, []⟩
  else if ¬ val lo ∨ ¬ val hi ∨ hi < lo then ⟨0, 85, 0, []⟩
  else if 64 < ops.length then ⟨0, 80, 0, []⟩
  else if out < 0 ∨ ops.length < out then ⟨0, 3, 0, []⟩
  else walk8 ops 0 0 [s]
/-- As the functions answer it. -/
def Ans8.tup (a : Ans8) : Int × Int × Int × Int × Bool × Rws := (a.work, a.err, a.op, 0, decide (a.err ≠ 0), a.S.map Shp.enc)
def oprs (l : Rws) : List Opr := l.map Opr.of
/-- No list of an op is longer than this. -/
def short (l : Rws) : Prop := ∀ r ∈ l, (Opr.of r).ws.length ≤ 70368744175616 ∧ (Opr.of r).bs.length ≤ 35184372087808

theorem one_ok {o : Opr} {S : List Shp} (h : (o.one S).2 = 0) : (0 ≤ o.a ∧ o.a < S.length) ∧ (o.one S).1.ok ∧ (slides o.kind → o.win.dims) ∧ (o.mk1 (S.getD o.a.toNat default)).2 = 0 := by
  unfold Opr.one at h ⊢
  repeat' split at h
  all_goals try (exfalso; simp at h; done)
  · rename_i h5; exact absurd h h5
  · rename_i h1 h2 h3 h4 h5 h6 h7 h8 h9 h10
    rw [if_neg h1, if_neg h2, if_neg h3, if_neg h4, if_neg h5, if_neg h6, if_neg h7, if_neg h8, if_neg h9, if_neg h10]
    rw [not_or] at h6
    have h5' : (o.mk1 (S.getD o.a.toNat default)).2 = 0 := by simpa using h5
    exact ⟨by omega, Classical.not_not.1 h6.2, mk1_dims h5', h5'⟩
theorem getD_mem {S : List Shp} {i : Nat} (h : i < S.length) : S.getD i default ∈ S := by
  rw [List.getD_eq_getElem?_getD, List.getElem?_eq_getElem h]; exact List.getElem_mem h

theorem row_opr (l : Rws) (k : Nat) (h : k < l.length) : (oprs l)[k]? = some (Opr.of (l.getD k [])) := by
  unfold oprs
  rw [List.getElem?_map, List.getD_eq_getElem?_getD, List.getElem?_eq_getElem h]; rfl
theorem drop_opr (l : Rws) (k : Nat) (h : k < l.length) : (oprs l).drop k = Opr.of (l.getD k []) :: (oprs l).drop (k + 1) := by
  have h' : k < (oprs l).length := by simpa [oprs] using h
  rw [List.drop_eq_getElem_cons h']
  congr 1
  have := row_opr l k h
  rw [List.getElem?_eq_getElem h'] at this
  exact Option.some.inj this

end Go.Proofs.Yticonbckgffjbaa.VX

set_option linter.unusedVariables false
namespace Go.Proofs.Yticonbckgffjbaa.VX
theorem W.iteR {α : Type} {b : Bool} {x y : α} {R : α → Prop} (h : R (bif b then x else y)) : (W.ite b (W.ret x) (W.ret y)).run R := by
  cases b
  · exact W.iteF rfl h
  · exact W.iteT rfl h
structure Uses where
  b : Bool
  m : Bool
  win : Bool
  pads : Bool
  weights : Bool
  sa : Bool
  sb : Bool
  pad : Bool
def usesOf (k : Int) : Uses := ⟨decide (k = 6), decide (k ≤ 2), decide (slides k), decide (k = 2 ∨ k = 3), decide (weighs k), decide (scales k), decide (k = 6), decide (k = 2 ∨ k = 3)⟩
theorem kind_cases {k : Int} (h : ¬ (k < 1 ∨ 8 < k)) : k = 1 ∨ k = 2 ∨ k = 3 ∨ k = 4 ∨ k = 5 ∨ k = 6 ∨ k = 7 ∨ k = 8 := by omega
theorem g_model_of_ok (k : Int) (h : ¬ (k < 1 ∨ 8 < k)) {R : Bool × Bool × Bool × Bool × Bool × Bool × Bool × Bool × Bool → Prop}
    (hR : R ((usesOf k).b, (usesOf k).m, (usesOf k).win, (usesOf k).pads, (usesOf k).weights, (usesOf k).sa, (usesOf k).sb, (usesOf k).pad, true)) : (g_model_of k).run R := by
  unfold g_model_of
  rcases kind_cases h with rfl | rfl | rfl | rfl | rfl | rfl | rfl | rfl
  · exact W.iteT rfl (W.retE hR rfl)
  · exact W.iteF rfl (W.iteT rfl (W.retE hR rfl))
  · exact W.iteF rfl (W.iteF rfl (W.iteT rfl (W.retE hR rfl)))
  · exact W.iteF rfl (W.iteF rfl (W.iteF rfl (W.bindI (W.iteT rfl (W.retI (W.iteT rfl (W.retE hR rfl)))))))
  · exact W.iteF rfl (W.iteF rfl (W.iteF rfl (W.bindI (W.iteF rfl (W.retI (W.iteT rfl (W.retE hR rfl)))))))
  · exact W.iteF rfl (W.iteF rfl (W.iteF rfl (W.bindI (W.iteF rfl (W.retI (W.iteF rfl (W.iteT rfl (W.retE hR rfl))))))))
  · exact W.iteF rfl (W.iteF rfl (W.iteF rfl (W.bindI (W.iteF rfl (W.retI (W.iteF rfl (W.iteF rfl (W.iteT rfl (W.retE hR rfl)))))))))
  · exact W.iteF rfl (W.iteF rfl (W.iteF rfl (W.bindI (W.iteF rfl (W.retI (W.iteF rfl (W.iteF rfl (W.iteF rfl (W.iteT rfl (W.retE hR rfl))))))))))
theorem g_model_of_bad (k : Int) (h : k < 1 ∨ 8 < k) {R : Bool × Bool × Bool × Bool × Bool × Bool × Bool × Bool × Bool → Prop} (hR : R (false, false, false, false, false, false, false, false, false)) : (g_model_of k).run R := by
  have ne : ∀ n : Int, 1 ≤ n → n ≤ 8 → (k == n) = false := fun n h1 h2 => by simp; omega
  unfold g_model_of
  exact W.iteF (ne 1 (by omega) (by omega)) (W.iteF (ne 2 (by omega) (by omega)) (W.iteF (ne 3 (by omega) (by omega)) (W.bindI (W.iteF (ne 4 (by omega) (by omega)) (W.retI (W.iteF (ne 5 (by omega) (by omega)) (W.iteF (ne 6 (by omega) (by omega)) (W.iteF (ne 7 (by omega) (by omega)) (W.iteF (ne 8 (by omega) (by omega)) (W.retI hR))))))))))

/-- Is all zero that isn't used? -/
def restB (o : Opr) (u : Uses) : Bool :=
  (bif u.b then 0 else o.b) == 0 && (bif u.m then 0 else o.m) == 0 &&
  (bif u.pads then true else (bif u.win then true else o.win.kh == 0 && o.win.kw == 0 && o.win.sh == 0 && o.win.sw == 0) && (o.win.top == 0 && o.win.left == 0 && o.win.bottom == 0 && o.win.right == 0)) &&
  (bif u.weights then true else o.ws.isEmpty && o.bs.isEmpty) && (bif u.sa then true else o.sam == 0 && o.sas == 0 && o.zero == 0) && (bif u.sb then true else o.sbm == 0 && o.sbs == 0) && (bif u.pad then true else o.pad == 0)
theorem nil_len (l : Rws) : ((l.length : Int) == 0) = l.isEmpty := by cases l <;> simp <;> omega
theorem bare_empty_ok (o : Opr) (u : Uses) {R : Bool → Prop} (h : R (restB o u)) :
    (W.bind (g_model_bare o.kind o.a o.b o.m o.win.kh o.win.kw o.win.sh o.win.sw o.win.top o.win.left o.win.bottom o.win.right o.wn o.ws o.bn o.bs o.sam o.sas o.sbm o.sbs o.zero o.pad o.lo o.hi u.b u.m u.win u.pads u.weights u.sa u.sb u.pad) fun v1 =>
      g_model_empty (v1.fst) (v1.snd.fst) (v1.snd.snd.fst) (v1.snd.snd.snd.fst) (v1.snd.snd.snd.snd.fst) (v1.snd.snd.snd.snd.snd.fst) (v1.snd.snd.snd.snd.snd.snd.fst) (v1.snd.snd.snd.snd.snd.snd.snd.fst) (v1.snd.snd.snd.snd.snd.snd.snd.snd.fst) (v1.snd.snd.snd.snd.snd.snd.snd.snd.snd.fst) (v1.snd.snd.snd.snd.snd.snd.snd.snd.snd.snd.fst) (v1.snd.snd.snd.snd.snd.snd.snd.snd.snd.snd.snd.fst) (v1.snd.snd.snd.snd.snd.snd.snd.snd.snd.snd.snd.snd.fst) (v1.snd.snd.snd.snd.snd.snd.snd.snd.snd.snd.snd.snd.snd.fst) (v1.snd.snd.snd.snd.snd.snd.snd.snd.snd.snd.snd.snd.snd.snd.fst) (v1.snd.snd.snd.snd.snd.snd.snd.snd.snd.snd.snd.snd.snd.snd.snd.fst) (v1.snd.snd.snd.snd.snd.snd.snd.snd.snd.snd.snd.snd.snd.snd.snd.snd.fst) (v1.snd.snd.snd.snd.snd.snd.snd.snd.snd.snd.snd.snd.snd.snd.snd.snd.snd.fst) (v1.snd.snd.snd.snd.snd.snd.snd.snd.snd.snd.snd.snd.snd.snd.snd.snd.snd.snd.fst) (v1.snd.snd.snd.snd.snd.snd.snd.snd.snd.snd.snd.snd.snd.snd.snd.snd.snd.snd.snd.fst) (v1.snd.snd.snd.snd.snd.snd.snd.snd.snd.snd.snd.snd.snd.snd.snd.snd.snd.snd.snd.snd.fst) (v1.snd.snd.snd.snd.snd.snd.snd.snd.snd.snd.snd.snd.snd.snd.snd.snd.snd.snd.snd.snd.snd.fst) (v1.snd.snd.snd.snd.snd.snd.snd.snd.snd.snd.snd.snd.snd.snd.snd.snd.snd.snd.snd.snd.snd.snd.fst) (v1.snd.snd.snd.snd.snd.snd.snd.snd.snd.snd.snd.snd.snd.snd.snd.snd.snd.snd.snd.snd.snd.snd.snd)).run R := by
  unfold g_model_bare g_model_empty
  refine W.bindI (W.bindI ?_)
  iterate 7 (refine W.iteR ?_; refine W.bindI ?_)
  refine W.iteR ?_
  refine W.retI ?_
  refine W.retE h ?_
  obtain ⟨ub, um, uwin, upads, uw, usa, usb, upad⟩ := u
  dsimp only
  simp only [restB, nil_len]
  cases ub <;> cases um <;> cases uwin <;> cases upads <;> cases uw <;> cases usa <;> cases usb <;> cases upad <;> simp only [cond_true, cond_false] <;> simp <;> ac_rfl
end Go.Proofs.Yticonbckgffjbaa.VX

set_option linter.unusedVariables false
namespace Go.Proofs.Yticonbckgffjbaa.VX
theorem restB_eq (o : Opr) (h : ¬ (o.kind < 1 ∨ 8 < o.kind)) : restB o (usesOf o.kind) = decide o.spare := by
  obtain ⟨k, a, b, m, ⟨kh, kw, sh, sw, tp, lf, bt, rt⟩, wn, ws, bn, bs, sam, sas, sbm, sbs, zero, pad, lo, hi⟩ := o
  dsimp only at h ⊢
  rw [Bool.eq_iff_iff, decide_eq_true_eq]
  rcases kind_cases h with rfl | rfl | rfl | rfl | rfl | rfl | rfl | rfl <;> simp [restB, usesOf, Opr.spare, slides, weighs, scales, List.isEmpty_iff, List.length_eq_zero_iff, Win.mk.injEq] <;> (constructor <;> intro q <;> simp_all)

theorem g_model_makes_ok (o : Opr) (s : Shp) (hk : ¬ (o.kind < 1 ∨ 8 < o.kind)) (hs : s.ok) (hm : o.kind ≤ 2 → 1 ≤ o.m ∧ o.m ≤ 1024) {R : Int × Int × Int × Int × Int × Int → Prop}
    (h : R (if (o.mk1 s).2 ≠ 0 then (0, 0, 0, 0, 0, (o.mk1 s).2) else ((o.mk1 s).1.h, (o.mk1 s).1.w, (o.mk1 s).1.c, if reduces o.kind then o.len s else 0, o.labour s (o.mk1 s).1, 0))) :
    (g_model_makes o.kind o.a o.b o.m o.win.kh o.win.kw o.win.sh o.win.sw o.win.top o.win.left o.win.bottom o.win.right o.wn o.ws o.bn o.bs o.sam o.sas o.sbm o.sbs o.zero o.pad o.lo o.hi s.h s.w s.c).run R := by
  have hs' := hs
  unfold Shp.ok at hs'
  obtain ⟨p1, p2, p3, p4⟩ := prod3 hs'.1 hs'.2.1 hs'.2.2.1
  unfold g_model_makes
  refine W.bindI (g_model_of_ok _ hk (W.bindI (W.iteC (slides o.kind) rfl (fun h1 => ?_) fun h1 => ?_)))
  · -- a window
    have hk1 : o.kind ≠ 1 := by unfold slides at h1; omega
    refine W.bindI (g_window_Out_ok s o.win (W.iteC ((wout s o.win).2.2 ≠ 0) (by first | (simp; done) | (simp; rfl)) (fun he => W.retI (W.retE h ?_)) fun he => W.retI ?_))
    · have e : (o.mk1 s).2 ≠ 0 := by unfold Opr.mk1; rw [if_neg hk1, if_pos h1, if_pos he]; exact he
      rw [if_pos e]
      unfold Opr.mk1; rw [if_neg hk1, if_pos h1, if_pos he]
    · have he' : (wout s o.win).2.2 = 0 := by simpa using he
      have hd := (wout_win he').2
      have hd2 := hd.dims
      unfold Win.dims at hd2
      have q := mul_bd (A := 32) (B := 32) hd2.1.1 hd2.1.2 hd2.2.1 hd2.2.2
      have q2 := mul_bd (A := 1024) (B := 1024) q.1 (by omega) (by omega : 0 ≤ s.c) (by omega)
      have hmk : o.mk1 s = (⟨(wout s o.win).1, (wout s o.win).2.1, if o.kind = 2 then o.m else s.c⟩, 0) := by unfold Opr.mk1; rw [if_neg hk1, if_pos h1, if_neg he]
      rw [hmk] at h
      dsimp only at h
      rw [if_neg (by simp)] at h
      -- its dims
      have hwo : (0 ≤ (wout s o.win).1 ∧ (wout s o.win).1 ≤ 2000) ∧ (0 ≤ (wout s o.win).2.1 ∧ (wout s o.win).2.1 ≤ 2000) := by
        have hd3 := hd
        unfold Win.ok sideOK at hd3
        unfold wout
        rw [if_neg (by simpa using hs), if_neg (by simpa using hd)]
        have b1 := places_bd (n := s.h + o.win.top + o.win.bottom) (k := o.win.kh) (s := o.win.sh) (by omega) (by omega)
        have b2 := places_bd (n := s.w + o.win.left + o.win.right) (k := o.win.kw) (s := o.win.sw) (by omega) (by omega)
        split
        · simp
        · dsimp only; omega
      have w1 := mul_bd (A := 2000) (B := 2000) hwo.1.1 hwo.1.2 hwo.2.1 hwo.2.2
      have w2 : ∀ c : Int, 0 ≤ c → c ≤ 1024 → 0 ≤ (wout s o.win).1 * (wout s o.win).2.1 * c ∧ (wout s o.win).1 * (wout s o.win).2.1 * c ≤ 4096000000 := fun c h0 h1 => by
        have := mul_bd (A := 4000000) (B := 1024) w1.1 (by omega) h0 h1; omega
      have w3 : ∀ c t : Int, 0 ≤ c → c ≤ 1024 → 0 ≤ t → t ≤ 1048576 → 0 ≤ (wout s o.win).1 * (wout s o.win).2.1 * c * t ∧ (wout s o.win).1 * (wout s o.win).2.1 * c * t ≤ 4294967296000000 := fun c t h0 h1 h2 h3 => by
        have := mul_bd (A := 4096000000) (B := 1048576) (w2 c h0 h1).1 (w2 c h0 h1).2 h2 h3; omega
      rw [wrap64_in (x := o.win.kh * o.win.kw) (by omega) (by omega)]
      refine W.bindI (W.iteF (by simp [hk1]) (W.iteC (o.kind = 2) rfl (fun h2 => W.retI (W.retE h ?_)) fun h2 => W.bindI ?_))
      · have e1 := w2 o.m (by omega) (by omega)
        have e2 := w3 o.m (o.win.kh * o.win.kw * s.c) (by omega) (by omega) q2.1 (by omega)
        dsimp only
        rw [wrap64_in (x := o.win.kh * o.win.kw * s.c) (by omega) (by omega), wrap64_in (x := (wout s o.win).1 * (wout s o.win).2.1) (by omega) (by omega), wrap64_in (x := (wout s o.win).1 * (wout s o.win).2.1 * o.m) (by omega) (by omega), wrap64_in (by omega) (by omega)]
        have hr : reduces o.kind := by unfold reduces; omega
        rw [if_pos h2, if_pos hr]
        simp only [Opr.labour, Opr.len]
        rw [if_pos hr, if_neg hk1, if_pos h2]
      · have e1 := w2 s.c (by omega) (by omega)
        have e2 := w3 s.c (o.win.kh * o.win.kw) (by omega) (by omega) q.1 (by omega)
        rw [if_neg h2] at h
        have key : ∀ b : Bool, b = decide (o.kind = 3 ∨ o.kind = 4) → (W.ite b (W.ret (o.win.kh * o.win.kw, o.win.kh * o.win.kw, (wout s o.win).1, (wout s o.win).2.1, s.c)) (W.ret (o.win.kh * o.win.kw, 0, (wout s o.win).1, (wout s o.win).2.1, s.c))).run fun v4 =>
            (W.ret (v4.snd.snd.fst, v4.snd.snd.snd.fst, v4.snd.snd.snd.snd, v4.snd.fst, IntKind.i64.wrap (IntKind.i64.wrap (IntKind.i64.wrap (v4.snd.snd.fst * v4.snd.snd.snd.fst) * v4.snd.snd.snd.snd) * v4.fst), (0 : Int))).run R := fun b hb => by
          have hlab : o.labour s ⟨(wout s o.win).1, (wout s o.win).2.1, s.c⟩ = (wout s o.win).1 * (wout s o.win).2.1 * s.c * (o.win.kh * o.win.kw) := by
            unfold Opr.labour Opr.len
            dsimp only
            by_cases hr : reduces o.kind
            · rw [if_pos hr, if_neg hk1, if_neg h2]
            · rw [if_neg hr, if_pos (by unfold reduces at hr; unfold slides at h1; omega)]
              rw [Int.mul_assoc ((wout s o.win).1 * (wout s o.win).2.1 * s.c)]
          have hlen : o.len s = o.win.kh * o.win.kw := by unfold Opr.len; rw [if_neg hk1, if_neg h2]
          rw [hlab, hlen] at h
          refine W.iteC _ hb (fun h3 => W.retI (W.retE h ?_)) fun h3 => W.retI (W.retE h ?_)
          · rw [if_pos (by unfold reduces; omega)]
            dsimp only
            rw [wrap64_in (x := (wout s o.win).1 * (wout s o.win).2.1) (by omega) (by omega), wrap64_in (x := (wout s o.win).1 * (wout s o.win).2.1 * s.c) (by omega) (by omega), wrap64_in (by omega) (by omega)]
          · rw [if_neg (by unfold reduces; unfold slides at h1; omega)]
            dsimp only
            rw [wrap64_in (x := (wout s o.win).1 * (wout s o.win).2.1) (by omega) (by omega), wrap64_in (x := (wout s o.win).1 * (wout s o.win).2.1 * s.c) (by omega) (by omega), wrap64_in (by omega) (by omega)]
        refine (W.iteC (o.kind = 3) rfl (fun h3 => W.retI (key (o.kind == 3) (by simp [h3]))) fun h3 => W.retI (key (o.kind == 4) (by rw [Bool.eq_iff_iff]; simp [h3])))
  · refine W.retI (W.bindI (W.iteC (o.kind = 1) rfl (fun h2 => W.retI ?_) fun h2 => W.iteF (by simp; unfold slides at h1; omega) (W.bindI (W.iteF (by simp; unfold slides at h1; omega) (W.retI (W.iteF (by simp; unfold slides at h1; omega) (W.retI ?_)))))))
    · have hmk : o.mk1 s = (⟨1, 1, o.m⟩, 0) := by unfold Opr.mk1; rw [if_pos h2]
      have hr : reduces o.kind := by unfold reduces; omega
      have hm := hm (by omega)
      have q := mul_bd (A := 1024) (B := 16384) (by omega : 0 ≤ o.m) hm.2 p3 hs'.2.2.2
      have hlen : o.len s = s.h * s.w * s.c := by unfold Opr.len; rw [if_pos h2]
      have hlab : o.labour s ⟨1, 1, o.m⟩ = o.m * (s.h * s.w * s.c) := by
        unfold Opr.labour; rw [if_pos hr, hlen]; simp only [Int.one_mul]
      rw [hmk] at h
      dsimp only at h
      rw [if_neg (by simp : ¬ ((0 : Int) ≠ 0)), if_pos hr, hlen, hlab] at h
      refine W.retE h ?_
      dsimp only
      rw [wrap64_in (x := s.h * s.w) (by omega) (by omega), wrap64_in (x := s.h * s.w * s.c) (by omega) (by omega), wrap64_in (x := (1 : Int) * 1) (by omega) (by omega)]
      simp only [Int.one_mul]
      rw [wrap64_in (x := o.m) (by omega) (by omega), wrap64_in (by omega) (by omega)]
    · have hmk : o.mk1 s = (s, 0) := by unfold Opr.mk1; rw [if_neg h2, if_neg h1]
      have hr : ¬ reduces o.kind := by unfold reduces; unfold slides at h1; omega
      have hlab : o.labour s s = s.h * s.w * s.c := by
        unfold Opr.labour; rw [if_neg hr, if_neg (by unfold slides at h1; omega)]
      rw [hmk] at h
      dsimp only at h
      rw [if_neg (by simp : ¬ ((0 : Int) ≠ 0)), if_neg hr, hlab] at h
      refine W.retE h ?_
      dsimp only
      rw [wrap64_in (x := s.h * s.w) (by omega) (by omega), wrap64_in (x := s.h * s.w * s.c) (by omega) (by omega), Int.mul_one, wrap64_in (by omega) (by omega)]
theorem g_fixq_Valid_ok (a b : Int) {R : Bool → Prop} (h : R (decide (scaleOK a b))) : (g_fixq_Valid a b).run R := by
  unfold g_fixq_Valid
  exact W.retE h (by rw [Bool.eq_iff_iff, decide_eq_true_eq]; simp [scaleOK, and_assoc]; omega)
end Go.Proofs.Yticonbckgffjbaa.VX

set_option linter.unusedVariables false
namespace Go.Proofs.Yticonbckgffjbaa.VX
theorem W.assoc {α β γ : Type} {x : W α} {f : α → W β} {g : β → W γ} {R : γ → Prop} (h : (W.bind (W.bind x f) g).run R) : (W.bind x fun a => W.bind (f a) g).run R := h
def intRows (l : List Int) : Rws := l.map fun n => [I n]
theorem ri_ints (l : List Int) (i : Nat) : ri (intRows l) i 0 = l.getD i 0 := by
  simp only [ri, cellOf, intRows, List.getD_eq_getElem?_getD, List.getElem?_map]
  cases l[i]? <;> rfl
theorem g_model_byte8_ok (nl : Bool) (l : List Int) (hl : l.length ≤ 70368744175616) {R : Bool → Prop} (h : R (decide (∀ n ∈ l, val n))) : (g_model_byte8 nl (intRows l)).run R := by
  have hlen : (intRows l).length = l.length := by simp [intRows]
  unfold g_model_byte8
  refine W.bindI (W.loop_inv (fun v : Int => ∃ k : Nat, v = k ∧ k ≤ l.length ∧ ∀ n ∈ l.take k, val n) (fun v => l.length - v.toNat) ?_ ⟨0, rfl, Nat.zero_le _, by simp⟩)
  rintro _ ⟨k, rfl, hk, hv⟩
  rw [hlen]
  refine W.iteC (k < l.length) (by rw [decide_eq_decide]; omega) (fun hlt => W.needI (by omega) ?_) fun hge => ?_
  · rw [Int.toNat_natCast, ri_ints]
    have hg : l.getD k 0 = l[k] := by rw [List.getD_eq_getElem?_getD, List.getElem?_eq_getElem hlt]; rfl
    rw [hg]
    refine W.iteC (¬ val l[k]) (by rw [Bool.eq_iff_iff, decide_eq_true_eq]; simp [val]; omega) (fun h1 => W.retI (W.retE h ?_)) fun h1 => W.retI ?_
    · have : ¬ ∀ n ∈ l, val n := fun q => h1 (q _ (List.getElem_mem hlt))
      simp [this]
    · rw [wrap64_in (by omega) (by omega)]
      refine ⟨⟨k + 1, by omega, hlt, fun n hn => ?_⟩, by omega⟩
      rw [List.take_succ_eq_append_getElem hlt] at hn
      rcases List.mem_append.1 hn with hn | hn
      · exact hv n hn
      · simp at hn; subst hn; exact Classical.not_not.1 h1
  · refine W.retI (W.retE h ?_)
    have e : k = l.length := by omega
    subst e
    rw [List.take_length] at hv
    exact (decide_eq_true hv).symm

theorem g_model_op_ok (o : Opr) (S : List Shp) (nl : Bool) (hS : ∀ s ∈ S, s.ok) (hw : o.ws.length ≤ 70368744175616) (hb : o.bs.length ≤ 35184372087808) {R : Int × Int × Int × Int × Int → Prop}
    (h : R (if (o.one S).2 ≠ 0 then (0, 0, 0, 0, (o.one S).2) else ((o.one S).1.h, (o.one S).1.w, (o.one S).1.c, o.labour (S.getD o.a.toNat default) (o.one S).1, 0))) :
    (g_model_op o.kind o.a o.b o.m o.win.kh o.win.kw o.win.sh o.win.sw o.win.top o.win.left o.win.bottom o.win.right o.wn o.ws o.bn o.bs o.sam o.sas o.sbm o.sbs o.zero o.pad o.lo o.hi nl (S.map Shp.enc)).run R := by
  have fail : ∀ e : Int, o.one S = (⟨0, 0, 0⟩, e) → e ≠ 0 → R (0, 0, 0, 0, e) := fun e h1 h2 => by rw [h1] at h; dsimp only at h; rwa [if_pos h2] at h
  unfold g_model_op
  refine W.bindI ?_
  by_cases h1 : o.kind < 1 ∨ 8 < o.kind
  · exact g_model_of_bad _ h1 (W.iteT rfl (W.retI (fail 81 (by simp only [Opr.one]; rw [if_pos h1]) (by decide))))
  refine g_model_of_ok _ h1 (W.iteF rfl ?_)
  rw [List.length_map]
  refine W.iteC ((o.a < 0 ∨ S.length ≤ o.a) ∨ o.kind = 6 ∧ (o.b < 0 ∨ S.length ≤ o.b)) (by simp [usesOf]) (fun h2 => W.retI (fail 82 (by simp only [Opr.one]; rw [if_neg h1, if_pos h2]) (by decide))) fun h2 => ?_
  refine W.assoc (W.bindI (bare_empty_ok o (usesOf o.kind) ?_))
  rw [restB_eq o h1]
  refine W.iteC (¬ o.spare) (by simp) (fun h3 => W.retI (fail 83 (by simp only [Opr.one]; rw [if_neg h1, if_neg h2, if_pos h3]) (by decide))) fun h3 => ?_
  refine W.iteC (o.kind ≤ 2 ∧ (o.m < 1 ∨ 1024 < o.m)) (by simp [usesOf]) (fun h4 => W.retI (fail 2 (by simp only [Opr.one]; rw [if_neg h1, if_neg h2, if_neg h3, if_pos h4]) (by decide))) fun h4 => ?_
  refine W.needI (by omega) ?_
  have hsa : (S.getD o.a.toNat default).ok := hS _ (getD_mem (by omega))
  rw [ri_shp0, ri_shp1, ri_shp2]
  refine W.bindI (g_model_makes_ok o _ h1 hsa (by omega) ?_)
  by_cases h5 : (o.mk1 (S.getD o.a.toNat default)).2 ≠ 0
  · rw [if_pos h5]
    exact W.iteT (by simpa using h5) (W.retI (fail _ (by simp only [Opr.one]; rw [if_neg h1, if_neg h2, if_neg h3, if_neg h4, if_pos h5]) h5))
  rw [if_neg h5]
  have h5' : (o.mk1 (S.getD o.a.toNat default)).2 = 0 := Classical.not_not.1 h5
  have hd := mk1_dims h5'
  refine W.iteF rfl ?_
  dsimp only
  refine W.bindI (g_shape_Elems_ok _ _ _ ?_)
  have hel : ∀ b : Int × Int, b = (if Shp.ok ⟨(o.mk1 (S.getD o.a.toNat default)).1.h, (o.mk1 (S.getD o.a.toNat default)).1.w, (o.mk1 (S.getD o.a.toNat default)).1.c⟩ then ((o.mk1 (S.getD o.a.toNat default)).1.h * (o.mk1 (S.getD o.a.toNat default)).1.w * (o.mk1 (S.getD o.a.toNat default)).1.c, 0) else (0, 50)) →
      (b.2 != 0) = decide (¬ (o.mk1 (S.getD o.a.toNat default)).1.ok) := fun b hb => by
    subst hb
    generalize o.mk1 (S.getD o.a.toNat default) = t
    obtain ⟨⟨x, y, z⟩, e⟩ := t
    dsimp only
    split <;> simp_all
  generalize hq : (if Shp.ok ⟨(o.mk1 (S.getD o.a.toNat default)).1.h, (o.mk1 (S.getD o.a.toNat default)).1.w, (o.mk1 (S.getD o.a.toNat default)).1.c⟩ then ((o.mk1 (S.getD o.a.toNat default)).1.h * (o.mk1 (S.getD o.a.toNat default)).1.w * (o.mk1 (S.getD o.a.toNat default)).1.c, (0 : Int)) else (0, 50)) = q
  rw [hel q hq.symm]
  refine W.needI (fun e => by have : o.kind = 6 := by simpa [usesOf] using e.1
                              omega) ?_
  rw [ri_shp0, ri_shp1, ri_shp2]
  refine W.iteC ((o.kind = 6 ∧ S.getD o.b.toNat default ≠ S.getD o.a.toNat default) ∨ ¬ (o.mk1 (S.getD o.a.toNat default)).1.ok) ?_
    (fun h6 => W.retI (fail 50 (by simp only [Opr.one]; rw [if_neg h1, if_neg h2, if_neg h3, if_neg h4, if_neg h5, if_pos h6]) (by decide))) fun h6 => ?_
  · rw [Bool.eq_iff_iff, decide_eq_true_eq]
    generalize S.getD o.b.toNat default = x
    generalize o.mk1 (S.getD o.a.toNat default) = t
    generalize S.getD o.a.toNat default = y
    obtain ⟨x1, x2, x3⟩ := x
    obtain ⟨y1, y2, y3⟩ := y
    by_cases hk6 : o.kind = 6 <;> simp [usesOf, hk6]
    by_cases ht : t.1.ok <;> simp [ht]
    omega
  have hout : (o.mk1 (S.getD o.a.toNat default)).1.ok := by
    rw [not_or] at h6; exact Classical.not_not.1 h6.2
  have hdl : reduces o.kind → o.kind ≠ 1 → o.win.dims := fun hr hk => hd (by unfold reduces at hr; unfold slides; omega)
  have hlists : o.lists (S.getD o.a.toNat default) = ((if weighs o.kind then (o.mk1 (S.getD o.a.toNat default)).1.c else 0) * (if reduces o.kind then o.len (S.getD o.a.toNat default) else 0), (if weighs o.kind then (o.mk1 (S.getD o.a.toNat default)).1.c else 0)) := by
    unfold Opr.lists
    by_cases k12 : o.kind = 1 ∨ o.kind = 2
    · have hc : (o.mk1 (S.getD o.a.toNat default)).1.c = o.m := by
        unfold Opr.mk1
        rcases k12 with k | k
        · rw [if_pos k]
        · rw [if_neg (by omega), if_pos (by unfold slides; omega)]
          unfold Opr.mk1 at h5'
          rw [if_neg (by omega), if_pos (by unfold slides; omega)] at h5'
          split at h5'
          · rename_i q; exact absurd h5' q
          · rename_i q; rw [if_neg q, if_pos k]
      rw [if_pos k12, if_pos (by unfold weighs; omega), if_pos (by unfold reduces; omega), hc]
    · rw [if_neg k12]
      by_cases k3 : o.kind = 3
      · have hc : (o.mk1 (S.getD o.a.toNat default)).1.c = (S.getD o.a.toNat default).c := by
          unfold Opr.mk1
          rw [if_neg (by omega), if_pos (by unfold slides; omega)]
          unfold Opr.mk1 at h5'
          rw [if_neg (by omega), if_pos (by unfold slides; omega)] at h5'
          split at h5'
          · rename_i q; exact absurd h5' q
          · rename_i q; rw [if_neg q, if_neg (by omega)]
        rw [if_pos k3, if_pos (by unfold weighs; omega), if_pos (by unfold reduces; omega), hc]
      · rw [if_neg k3, if_neg (by unfold weighs; omega), Int.zero_mul]
  refine W.bindI (W.iteR ?_)
  have hrows : (bif (usesOf o.kind).weights then (o.mk1 (S.getD o.a.toNat default)).1.c else 0) = (if weighs o.kind then (o.mk1 (S.getD o.a.toNat default)).1.c else 0) := by
    unfold usesOf; dsimp only; by_cases hh : weighs o.kind <;> simp [hh]
  rw [hrows]
  refine W.iteC (reduces o.kind ∧ 512 < o.len (S.getD o.a.toNat default)) ?_
    (fun h7 => W.retI (fail 84 (by simp only [Opr.one]; rw [if_neg h1, if_neg h2, if_neg h3, if_neg h4, if_neg h5, if_neg h6, if_pos h7]) (by decide))) fun h7 => ?_
  · rw [decide_eq_decide]
    by_cases hr : reduces o.kind <;> simp [hr]
  have hlb : 0 ≤ (if reduces o.kind then o.len (S.getD o.a.toNat default) else 0) ∧ (if reduces o.kind then o.len (S.getD o.a.toNat default) else 0) ≤ 512 := by
    by_cases hr : reduces o.kind
    · rw [if_pos hr]
      have := len_bd o _ hsa (hdl hr)
      have h7' : ¬ 512 < o.len (S.getD o.a.toNat default) := fun q => h7 ⟨hr, q⟩
      omega
    · rw [if_neg hr]; omega
  have hrb : 0 ≤ (if weighs o.kind then (o.mk1 (S.getD o.a.toNat default)).1.c else 0) ∧ (if weighs o.kind then (o.mk1 (S.getD o.a.toNat default)).1.c else 0) ≤ 1024 := by
    unfold Shp.ok at hout
    split <;> omega
  have hm := mul_bd (A := 1024) (B := 512) hrb.1 hrb.2 hlb.1 hlb.2
  rw [wrap64_in (by omega) (by omega)]
  refine W.iteC ((o.ws.length : Int) ≠ (o.lists (S.getD o.a.toNat default)).1 ∨ (o.bs.length : Int) ≠ (o.lists (S.getD o.a.toNat default)).2) (by rw [hlists]; first | (simp; done) | (simp; rfl))
    (fun h8 => W.retI (fail 70 (by simp only [Opr.one]; rw [if_neg h1, if_neg h2, if_neg h3, if_neg h4, if_neg h5, if_neg h6, if_neg h7, if_pos h8]) (by decide))) fun h8 => ?_
  have key9 : ∀ {Q : Bool → Prop}, Q (decide (scales o.kind ∧ ¬ scaleOK o.sam o.sas ∨ o.kind = 6 ∧ ¬ scaleOK o.sbm o.sbs)) →
      (W.ite (usesOf o.kind).sa (W.bind (g_fixq_Valid o.sam o.sas) fun v6 => W.ite (!v6) (W.ret true) (W.ite (usesOf o.kind).sb (W.bind (g_fixq_Valid o.sbm o.sbs) fun v7 => W.ret !v7) (W.ret false)))
        (W.ite (usesOf o.kind).sb (W.bind (g_fixq_Valid o.sbm o.sbs) fun v8 => W.ret !v8) (W.ret false))).run Q := fun {Q} hq => by
    have tail : ∀ {Q : Bool → Prop}, Q (decide (o.kind = 6 ∧ ¬ scaleOK o.sbm o.sbs)) → (W.ite (usesOf o.kind).sb (W.bind (g_fixq_Valid o.sbm o.sbs) fun v11 => W.ret !v11) (W.ret false)).run Q := fun {Q} hq =>
      W.iteC (o.kind = 6) rfl (fun q => W.bindI (g_fixq_Valid_ok _ _ (W.retE hq (by simp [q])))) fun q => W.retE hq (by simp [q])
    refine W.iteC (scales o.kind) rfl (fun q1 => W.bindI (g_fixq_Valid_ok _ _ (W.iteC (¬ scaleOK o.sam o.sas) (by simp) (fun q2 => W.retE hq (by simp [q1, q2])) fun q2 => tail ?_))) fun q1 => tail ?_
    · simpa [q1, q2] using hq
    · simpa [q1] using hq
  refine W.bindI (key9 ?_)
  refine W.iteC _ rfl (fun h9 => W.retI (fail 20 (by simp only [Opr.one]; rw [if_neg h1, if_neg h2, if_neg h3, if_neg h4, if_neg h5, if_neg h6, if_neg h7, if_neg h8, if_pos h9]) (by decide))) fun h9 => ?_
  refine W.bindI (g_model_byte8_ok false [o.lo, o.hi, o.zero, o.pad] (by simp) ?_)
  refine W.iteC (¬ val o.lo ∨ ¬ val o.hi ∨ o.hi < o.lo ∨ ¬ val o.zero ∨ ¬ val o.pad) (by rw [Bool.eq_iff_iff, decide_eq_true_eq]; by_cases a : val o.lo <;> by_cases b : val o.hi <;> by_cases c : val o.zero <;> by_cases d : val o.pad <;> simp [a, b, c, d])
    (fun h10 => W.retI (fail 85 (by simp only [Opr.one]; rw [if_neg h1, if_neg h2, if_neg h3, if_neg h4, if_neg h5, if_neg h6, if_neg h7, if_neg h8, if_neg h9, if_pos h10]) (by decide))) fun h10 => ?_
  have hone : o.one S = ((o.mk1 (S.getD o.a.toNat default)).1, 0) := by
    simp only [Opr.one]; rw [if_neg h1, if_neg h2, if_neg h3, if_neg h4, if_neg h5, if_neg h6, if_neg h7, if_neg h8, if_neg h9, if_neg h10]
  rw [hone] at h
  dsimp only at h
  rw [if_neg (by simp : ¬ ((0 : Int) ≠ 0))] at h
  exact W.retI h
end Go.Proofs.Yticonbckgffjbaa.VX

set_option linter.unusedVariables false
namespace Go.Proofs.Yticonbckgffjbaa.VX
theorem g_model_op_row (l : Rws) (k : Nat) (S : List Shp) (nl : Bool) (hS : ∀ s ∈ S, s.ok) (hw : (Opr.of (l.getD k [])).ws.length ≤ 70368744175616) (hb : (Opr.of (l.getD k [])).bs.length ≤ 35184372087808) {R : Int × Int × Int × Int × Int → Prop}
    (h : R (if ((Opr.of (l.getD k [])).one S).2 ≠ 0 then (0, 0, 0, 0, ((Opr.of (l.getD k [])).one S).2) else (((Opr.of (l.getD k [])).one S).1.h, ((Opr.of (l.getD k [])).one S).1.w, ((Opr.of (l.getD k [])).one S).1.c, (Opr.of (l.getD k [])).labour (S.getD (Opr.of (l.getD k [])).a.toNat default) ((Opr.of (l.getD k [])).one S).1, 0))) :
    (g_model_op (ri l k 0) (ri l k 1) (ri l k 2) (ri l k 3) (ri l k 4) (ri l k 5) (ri l k 6) (ri l k 7) (ri l k 8) (ri l k 9) (ri l k 10) (ri l k 11) (rn l k 12) (rr l k 12) (rn l k 13) (rr l k 13) (ri l k 14) (ri l k 15) (ri l k 16) (ri l k 17) (ri l k 18) (ri l k 19) (ri l k 20) (ri l k 21) nl (S.map Shp.enc)).run R :=
  by have q := g_model_op_ok (R := R) (Opr.of (l.getD k [])) S nl hS hw hb h
     refine (congrArg (fun x : W _ => x.run R) ?_).mp q
     congr 1
theorem g_model_whole_ok (s : Shp) (lo hi : Int) (nl : Bool) (l : Rws) (out : Int) (hl : l.length ≤ 676622540150) (hsh : short l) {R : Int × Int × Int × Int × Bool × Rws → Prop} (h : R (look8 s lo hi (oprs l) out).tup) :
    (g_model_whole s.h s.w s.c lo hi nl l out).run R := by
  have hlen : (oprs l).length = l.length := by simp [oprs]
  unfold g_model_whole
  unfold look8 at h
  rw [hlen] at h
  refine W.bindI (g_shape_Elems_ok _ _ _ (W.iteC (¬ s.ok) (by split <;> simp_all) (fun h1 => ?_) fun h1 => ?_))
  · rw [if_neg h1]
    rw [if_pos h1] at h
    exact W.retE h rfl
  rw [if_neg h1] at h
  refine W.bindI (g_model_byte8_ok false [lo, hi] (by simp) (W.iteC (¬ val lo ∨ ¬ val hi ∨ hi < lo) ?_ (fun h2 => ?_) fun h2 => ?_))
  · rw [Bool.eq_iff_iff, decide_eq_true_eq]; by_cases a : val lo <;> by_cases b : val hi <;> simp [a, b]
  · rw [if_pos h2] at h; exact W.retE h rfl
  rw [if_neg h2] at h
  refine W.iteC (64 < l.length) (by rw [decide_eq_decide]; omega) (fun h3 => ?_) fun h3 => ?_
  · rw [if_pos h3] at h; exact W.retE h rfl
  rw [if_neg h3] at h
  refine W.iteC (out < 0 ∨ l.length < out) (by rw [Bool.decide_or]) (fun h4 => ?_) fun h4 => ?_
  · rw [if_pos h4] at h; exact W.retE h rfl
  rw [if_neg h4] at h
  refine W.bindI (W.loop_inv (fun v : Int × Int × Rws => ∃ (k : Nat) (S : List Shp), v.2.1 = k ∧ k ≤ l.length ∧ v.2.2 = S.map Shp.enc ∧ S.length = k + 1 ∧ (∀ s ∈ S, s.ok) ∧ 0 ≤ v.1 ∧ v.1 ≤ 131072 ∧ R (walk8 ((oprs l).drop k) k v.1 S).tup)
    (fun v => l.length - v.2.1.toNat) ?_ ⟨0, [s], rfl, Nat.zero_le _, rfl, rfl, by simpa using h1, by dsimp only; omega, by dsimp only; omega, h⟩)
  rintro ⟨w, i, rows⟩ ⟨k, S, rfl, hk, rfl, hSl, hS, hw0, hw1, hR⟩
  dsimp only at hw0 hw1 hR ⊢
  refine W.iteC (k < l.length) (by rw [decide_eq_decide]; omega) (fun hlt => W.needI (by omega) ?_) fun hge => ?_
  · rw [Int.toNat_natCast, wrap64_in (x := (k : Int) + 1) (by omega) (by omega)]
    have hmem : l.getD k [] ∈ l := by rw [List.getD_eq_getElem?_getD, List.getElem?_eq_getElem hlt]; exact List.getElem_mem hlt
    obtain ⟨s1, s2⟩ := hsh _ hmem
    rw [drop_opr l k hlt] at hR
    refine W.bindI (g_model_op_row l k S false hS s1 s2 ?_)
    unfold walk8 at hR
    by_cases h5 : ((Opr.of (l.getD k [])).one S).2 ≠ 0
    · rw [if_pos h5] at hR ⊢
      dsimp only
      rw [Int.add_zero, wrap64_in (by omega) (by omega)]
      refine W.bindI (W.iteF (by simp [h5, -List.getD_eq_getElem?_getD]) (W.retI (W.iteT (by simp [h5, -List.getD_eq_getElem?_getD]) (W.retI (W.retE hR ?_)))))
      simp only [Ans8.tup]
      simp [h5, -List.getD_eq_getElem?_getD]
    · rw [if_neg h5] at hR ⊢
      have h5' : ((Opr.of (l.getD k [])).one S).2 = 0 := Classical.not_not.1 h5
      obtain ⟨q1, q2, q3, q4⟩ := one_ok h5'
      have hsa := hS _ (getD_mem (S := S) (i := (Opr.of (l.getD k [])).a.toNat) (by omega))
      have bd := labour_bd (Opr.of (l.getD k [])) _ _ hsa q2 q3
      dsimp only
      rw [wrap64_in (by omega) (by omega)]
      refine W.bindI (W.iteC (131072 < w + (Opr.of (l.getD k [])).labour (S.getD (Opr.of (l.getD k [])).a.toNat default) ((Opr.of (l.getD k [])).one S).1) (by simp) (fun h6 => W.retI (W.iteT rfl (W.retI ?_))) fun h6 => W.retI (W.iteF rfl ?_))
      · rw [if_pos h6] at hR
        exact W.retE hR rfl
      · rw [if_neg h6] at hR
        rw [List.length_map]
        refine W.needI (by omega) (W.retI ⟨⟨k + 1, S ++ [((Opr.of (l.getD k [])).one S).1], rfl, hlt, by simp [Shp.enc], by simp [hSl], ?_, by dsimp only; omega, by dsimp only; omega, ?_⟩, ?_⟩)
        · intro x hx
          rcases List.mem_append.1 hx with hx | hx
          · exact hS x hx
          · simp at hx; subst hx; exact q2
        · simpa using hR
        · dsimp only; omega
  · have e : k = l.length := by omega
    subst e
    rw [List.drop_eq_nil_of_le (by omega)] at hR
    exact W.retI (W.retE hR (by simp [walk8, Ans8.tup]))
theorem g_model_Shapes_ok (s : Shp) (lo hi : Int) (nl : Bool) (l : Rws) (out : Int) (hl : l.length ≤ 676622540150) (hsh : short l) {R : Int × Int × Int × Bool × Rws → Prop} (h : R (look8 s lo hi (oprs l) out).tup.2) : (g_model_Shapes s.h s.w s.c lo hi nl l out).run R := by
  unfold g_model_Shapes
  exact W.bindI (g_model_whole_ok s lo hi nl l out hl hsh (W.retI h))
theorem g_model_Shapes_v (a b c : Int) (lo hi : Int) (nl : Bool) (l : Rws) (out : Int) (hl : l.length ≤ 676622540150) (hsh : short l) {R : Int × Int × Int × Bool × Rws → Prop} (h : R (look8 ⟨a, b, c⟩ lo hi (oprs l) out).tup.2) : (g_model_Shapes a b c lo hi nl l out).run R := g_model_Shapes_ok ⟨a, b, c⟩ lo hi nl l out hl hsh h
theorem g_model_Reduces_ok (k : Int) {R : Bool → Prop} (h : R (decide (reduces k))) : (g_model_Reduces k).run R := by
  unfold g_model_Reduces
  have e : ∀ b : Bool, b = decide (reduces k) → (W.ite b (W.ret true) (W.ret false)).run R := fun b hb => by
    subst hb; exact W.iteC _ rfl (fun q => W.retE h (by simp [q])) fun q => W.retE h (by simp [q])
  refine W.bindI (W.iteC (k = 1) rfl (fun h1 => W.retI (e _ (by simp [h1, reduces]))) fun h1 => W.iteC (k = 2) rfl (fun h2 => W.retI (e _ (by simp [h2, reduces]))) fun h2 => W.iteC (k = 3) rfl (fun h3 => W.retI (e _ (by simp [h3, reduces]))) fun h3 => W.retI (e _ ?_))
  rw [Bool.eq_iff_iff, decide_eq_true_eq]
  unfold reduces
  simp; omega

/-! ### Comparing -/
end Go.Proofs.Yticonbckgffjbaa.VX

set_option linter.unusedVariables false
namespace Go.Proofs.Yticonbckgffjbaa.VX
def Opr.flags (o : Opr) (a b : Bool) : Opr := { o with wn := a, bn := b }
theorem one_flags (o : Opr) (a b : Bool) (S : List Shp) : (o.flags a b).one S = o.one S := rfl
theorem labour_flags (o : Opr) (a b : Bool) (s t : Shp) : (o.flags a b).labour s t = o.labour s t := rfl
/-- The same ops but for what is nil. -/
def sameOps : List Opr → List Opr → Prop
  | [], [] => True
  | o :: r, p :: q => (∃ a b, p = o.flags a b) ∧ sameOps r q
  | _, _ => False
theorem sameOps_len : ∀ {l m : List Opr}, sameOps l m → l.length = m.length
  | [], [], _ => rfl
  | _ :: _, _ :: _, h => by simp [sameOps_len h.2]
  | [], _ :: _, h => h.elim
  | _ :: _, [], h => h.elim
theorem sameOps_get : ∀ {l m : List Opr}, sameOps l m → ∀ {k : Nat} {o p : Opr}, l[k]? = some o → m[k]? = some p → ∃ a b, p = o.flags a b
  | _ :: _, _ :: _, h, 0, o, p, h1, h2 => by simp at h1 h2; subst h1 h2; exact h.1
  | _ :: _, _ :: _, h, k + 1, o, p, h1, h2 => sameOps_get h.2 (by simpa using h1) (by simpa using h2)
  | [], _, _, _, _, _, h1, _ => by simp at h1
  | _ :: _, [], h, _, _, _, _, _ => h.elim
theorem walk8_same : ∀ {l m : List Opr}, sameOps l m → ∀ i w S, walk8 m i w S = walk8 l i w S
  | [], [], _, i, w, S => rfl
  | o :: r, p :: q, h, i, w, S => by
    obtain ⟨⟨a, b, rfl⟩, h2⟩ := h
    simp only [walk8, one_flags, labour_flags]
    rw [walk8_same h2]; rfl
  | [], _ :: _, h, _, _, _ => h.elim
  | _ :: _, [], h, _, _, _ => h.elim
theorem look8_same {l m : List Opr} (h : sameOps l m) (s : Shp) (lo hi out : Int) : look8 s lo hi m out = look8 s lo hi l out := by
  unfold look8
  rw [sameOps_len h, walk8_same h]

/-- A row of a copy. -/
def cpRow (r : List AV) : List AV :=
  [I (cI r 0), I (cI r 1), I (cI r 2), I (cI r 3), I (cI r 4), I (cI r 5), I (cI r 6), I (cI r 7), I (cI r 8), I (cI r 9), I (cI r 10), I (cI r 11), .sl false 0 (cR r 12), .sl false 0 (cR r 13), I (cI r 14), I (cI r 15), I (cI r 16), I (cI r 17), I (cI r 18), I (cI r 19), I (cI r 20), I (cI r 21)]
theorem of_cpRow (r : List AV) : Opr.of (cpRow r) = (Opr.of r).flags false false := rfl
theorem sameOps_cp : ∀ l : Rws, sameOps (oprs l) (oprs (l.map cpRow))
  | [] => trivial
  | r :: l => ⟨⟨false, false, of_cpRow r⟩, sameOps_cp l⟩
theorem short_cp {l : Rws} (h : short l) : short (l.map cpRow) := by
  intro r hr
  obtain ⟨r', h1, rfl⟩ := List.mem_map.1 hr
  exact h r' h1
theorem listsLoop (a b : Rws) (hab : a = b) (hl : a.length ≤ 140737488351232) {R : Unit ⊕ Unit → Prop} (h : R (.inr ())) :
    (W.loop (σ := Int) (ε := Unit ⊕ Unit) (fun v0 => W.ite (decide (v0 < (↑(List.length a) : Int))) (W.need (0 ≤ v0 ∧ v0 < (↑(List.length a) : Int)) <| W.need (0 ≤ v0 ∧ v0 < (↑(List.length b) : Int)) <|
      W.ite (ri a v0.toNat 0 != ri b v0.toNat 0) (W.ret (Sum.inr (Sum.inl ()))) (W.ret (Sum.inl (IntKind.i64.wrap (v0 + 1))))) (W.ret (Sum.inr (Sum.inr ())))) 0).run R := by
  subst hab
  refine W.loop_inv (fun v : Int => ∃ k : Nat, v = k ∧ k ≤ a.length) (fun v => a.length - v.toNat) ?_ ⟨0, rfl, Nat.zero_le _⟩
  rintro _ ⟨k, rfl, hk⟩
  refine W.iteC (k < a.length) (by rw [decide_eq_decide]; omega) (fun hlt => W.needI (by omega) (W.needI (by omega) (W.iteF (by simp) (W.retI ?_)))) fun hge => W.retI h
  rw [wrap64_in (by omega) (by omega)]
  exact ⟨⟨k + 1, by omega, hlt⟩, by omega⟩
deriving instance DecidableEq for Ans8
def plainRow (a : Int) : List AV := [I 1, I a, I 0, I 1, I 0, I 0, I 0, I 0, I 0, I 0, I 0, I 0, AV.sl false 0 [[I 3], [I (-2)]], AV.sl false 0 [[I 1]], I 1, I 0, I 0, I 0, I 0, I 0, I (-128), I 127]
theorem plain_look : look8 ⟨1, 1, 2⟩ (-128) 127 (oprs [plainRow 0]) 1 = ⟨2, 0, 0, [⟨1, 1, 2⟩, ⟨1, 1, 1⟩]⟩ := by decide +kernel
theorem plain_look1 : look8 ⟨1, 1, 2⟩ (-128) 127 (oprs [plainRow 1]) 1 = ⟨0, 82, 1, []⟩ := by decide +kernel
theorem short_plain (a : Int) : short [plainRow a] := by
  intro r hr
  simp at hr
  subst hr
  exact ⟨Nat.le_of_ble_eq_true rfl, Nat.le_of_ble_eq_true rfl⟩
theorem plain_set : List.set [plainRow 0] 0 [I (ri [plainRow 0] 0 0), I 1, I (ri [plainRow 0] 0 2), I (ri [plainRow 0] 0 3), I (ri [plainRow 0] 0 4), I (ri [plainRow 0] 0 5), I (ri [plainRow 0] 0 6), I (ri [plainRow 0] 0 7), I (ri [plainRow 0] 0 8), I (ri [plainRow 0] 0 9), I (ri [plainRow 0] 0 10), I (ri [plainRow 0] 0 11), .sl (rn [plainRow 0] 0 12) 0 (rr [plainRow 0] 0 12), .sl (rn [plainRow 0] 0 13) 0 (rr [plainRow 0] 0 13), I (ri [plainRow 0] 0 14), I (ri [plainRow 0] 0 15), I (ri [plainRow 0] 0 16), I (ri [plainRow 0] 0 17), I (ri [plainRow 0] 0 18), I (ri [plainRow 0] 0 19), I (ri [plainRow 0] 0 20), I (ri [plainRow 0] 0 21)] = [plainRow 1] := rfl
theorem walk8_len : ∀ (l : List Opr) (i w : Int) (S : List Shp), (walk8 l i w S).S.length ≤ S.length + l.length
  | [], i, w, S => by simp [walk8]
  | o :: r, i, w, S => by
    unfold walk8
    split
    · simp
    · split
      · simp
      · have := walk8_len r (i + 1) (w + o.labour (S.getD o.a.toNat default) (o.one S).1) (S ++ [(o.one S).1])
        simp at this ⊢; omega
theorem look8_len (s : Shp) (lo hi : Int) (l : List Opr) (out : Int) : (look8 s lo hi l out).S.length ≤ 65 := by
  unfold look8
  repeat' split
  all_goals try (simp; done)
  have := walk8_len l 0 0 [s]
  simp at this
  omega
end Go.Proofs.Yticonbckgffjbaa.VX

namespace Go.Proofs.Yticonbckgffjbaa.VX
set_option linter.unusedVariables false
theorem walk8_facts : ∀ (l : List Opr) (i w : Int) (S : List Shp), ((walk8 l i w S).err = 0 → (walk8 l i w S).op = 0 ∧ (walk8 l i w S).S.length = S.length + l.length) ∧
    ((walk8 l i w S).err ≠ 0 → (walk8 l i w S).S = [] ∧ (walk8 l i w S).work = 0 ∧ i < (walk8 l i w S).op ∧ (walk8 l i w S).op ≤ i + l.length)
  | [], i, w, S => by simp [walk8]
  | o :: r, i, w, S => by
    unfold walk8
    split
    · rename_i h
      exact ⟨fun e => absurd e h, fun _ => ⟨rfl, rfl, by simp; omega, by simp; omega⟩⟩
    · split
      · exact ⟨fun e => by simp at e, fun _ => ⟨rfl, rfl, by simp; omega, by simp; omega⟩⟩
      · have := walk8_facts r (i + 1) (w + o.labour (S.getD o.a.toNat default) (o.one S).1) (S ++ [(o.one S).1])
        refine ⟨fun e => ?_, fun e => ?_⟩
        · have q := this.1 e
          refine ⟨q.1, ?_⟩
          rw [q.2]; simp; omega
        · have q := this.2 e
          refine ⟨q.1, q.2.1, by omega, ?_⟩
          have := q.2.2.2
          simp at this ⊢; omega
theorem step_ok {o : Opr} {S : List Shp} (hS : ∀ s ∈ S, s.ok) (h : ¬ (o.one S).2 ≠ 0) : 0 ≤ o.labour (S.getD o.a.toNat default) (o.one S).1 ∧ ∀ s ∈ S ++ [(o.one S).1], s.ok := by
  obtain ⟨h1, h2, h3, _⟩ := one_ok (Classical.not_not.1 h)
  refine ⟨(labour_bd o _ _ (hS _ (getD_mem (by omega))) h2 h3).1, fun s hs => ?_⟩
  rcases List.mem_append.1 hs with hs | hs
  · exact hS s hs
  · simp at hs; subst hs; exact h2
theorem walk8_mono : ∀ (l : List Opr) (i w : Int) (S : List Shp), (∀ s ∈ S, s.ok) → (walk8 l i w S).err = 0 → w ≤ (walk8 l i w S).work ∧ (walk8 l i w S).S.take S.length = S
  | [], i, w, S, _, _ => by simp [walk8]
  | o :: r, i, w, S, hS, he => by
    unfold walk8 at he ⊢
    split at he
    · rename_i h; exact absurd he h
    · rename_i h
      rw [if_neg h]
      split at he
      · simp at he
      · rename_i h2
        rw [if_neg h2]
        obtain ⟨q1, q2⟩ := step_ok hS h
        have := walk8_mono r _ _ _ q2 he
        refine ⟨by omega, ?_⟩
        have t := congrArg (List.take S.length) this.2
        rw [List.take_take, List.length_append] at t
        simpa using t
theorem walk8_take : ∀ (l : List Opr) (k : Nat) (i w : Int) (S : List Shp), (∀ s ∈ S, s.ok) → k ≤ l.length → ((walk8 l i w S).err = 0 ∨ i + k < (walk8 l i w S).op) →
    (walk8 (l.take k) i w S).err = 0 ∧ w ≤ (walk8 (l.take k) i w S).work ∧ ((walk8 l i w S).err = 0 → (walk8 (l.take k) i w S).work ≤ (walk8 l i w S).work ∧ (walk8 (l.take k) i w S).S = (walk8 l i w S).S.take (S.length + k))
  | l, 0, i, w, S, hS, _, h => by
    rw [List.take_zero]
    refine ⟨rfl, Int.le_refl _, fun e => ?_⟩
    have := walk8_mono l i w S hS e
    exact ⟨this.1, this.2.symm⟩
  | [], k + 1, i, w, S, _, hk, _ => by simp at hk
  | o :: r, k + 1, i, w, S, hS, hk, h => by
    rw [List.take_succ_cons]
    unfold walk8 at h ⊢
    by_cases h1 : (o.one S).2 ≠ 0
    · rw [if_pos h1] at h
      rcases h with h | h
      · exact absurd h h1
      · simp at h; omega
    · rw [if_neg h1] at h
      rw [if_neg h1, if_neg h1]
      by_cases h2 : 131072 < w + o.labour (S.getD o.a.toNat default) (o.one S).1
      · rw [if_pos h2] at h
        rcases h with h | h
        · simp at h
        · simp at h; omega
      · rw [if_neg h2] at h
        rw [if_neg h2, if_neg h2]
        obtain ⟨q1, q2⟩ := step_ok hS h1
        have := walk8_take r k (i + 1) _ _ q2 (by simpa using hk) (by
          rcases h with h | h
          · exact .inl h
          · exact .inr (by omega))
        refine ⟨this.1, by omega, fun e => ?_⟩
        have q := this.2.2 e
        refine ⟨q.1, ?_⟩
        rw [q.2]
        congr 1
        simp; omega
theorem look8_facts (s : Shp) (lo hi : Int) (l : List Opr) (out : Int) : ((look8 s lo hi l out).err = 0 → (look8 s lo hi l out).op = 0 ∧ (look8 s lo hi l out).S.length = l.length + 1) ∧
    ((look8 s lo hi l out).err ≠ 0 → (look8 s lo hi l out).S = [] ∧ (look8 s lo hi l out).work = 0 ∧ 0 ≤ (look8 s lo hi l out).op ∧ (look8 s lo hi l out).op ≤ l.length) := by
  unfold look8
  repeat' split
  all_goals try (exact ⟨fun e => by simp at e, fun _ => ⟨rfl, rfl, by simp, by simp⟩⟩)
  have := walk8_facts l 0 0 [s]
  refine ⟨fun e => ?_, fun e => ?_⟩
  · have q := this.1 e
    exact ⟨q.1, by rw [q.2]; simp; omega⟩
  · have q := this.2 e
    exact ⟨q.1, q.2.1, by omega, by have := q.2.2.2; omega⟩
theorem look8_take (s : Shp) (lo hi : Int) (l : List Opr) (out : Int) (k : Nat) (hk : k ≤ l.length) (h : (look8 s lo hi l out).err = 0 ∨ (k : Int) < (look8 s lo hi l out).op) :
    (look8 s lo hi (l.take k) k).err = 0 ∧ (look8 s lo hi (l.take k) k).op = 0 ∧ 0 ≤ (look8 s lo hi (l.take k) k).work ∧
    ((look8 s lo hi l out).err = 0 → (look8 s lo hi (l.take k) k).work ≤ (look8 s lo hi l out).work ∧ (look8 s lo hi (l.take k) k).S = (look8 s lo hi l out).S.take (k + 1)) := by
  have hf := look8_facts s lo hi (l.take k) k
  suffices q : (look8 s lo hi (l.take k) k).err = 0 ∧ 0 ≤ (look8 s lo hi (l.take k) k).work ∧
    ((look8 s lo hi l out).err = 0 → (look8 s lo hi (l.take k) k).work ≤ (look8 s lo hi l out).work ∧ (look8 s lo hi (l.take k) k).S = (look8 s lo hi l out).S.take (k + 1)) from ⟨q.1, (hf.1 q.1).1, q.2⟩
  clear hf
  by_cases h1 : ¬ s.ok
  · unfold look8 at h; rw [if_pos h1] at h; rcases h with h | h <;> simp at h; omega
  by_cases h2 : ¬ val lo ∨ ¬ val hi ∨ hi < lo
  · unfold look8 at h; rw [if_neg h1, if_pos h2] at h; rcases h with h | h <;> simp at h; omega
  by_cases h3 : 64 < l.length
  · unfold look8 at h; rw [if_neg h1, if_neg h2, if_pos h3] at h; rcases h with h | h <;> simp at h; omega
  by_cases h4 : out < 0 ∨ l.length < out
  · unfold look8 at h; rw [if_neg h1, if_neg h2, if_neg h3, if_pos h4] at h; rcases h with h | h <;> simp at h; omega
  have e1 : look8 s lo hi l out = walk8 l 0 0 [s] := by unfold look8; rw [if_neg h1, if_neg h2, if_neg h3, if_neg h4]
  have e2 : look8 s lo hi (l.take k) k = walk8 (l.take k) 0 0 [s] := by
    have hl : (l.take k).length = k := by simp; omega
    unfold look8; rw [if_neg h1, if_neg h2, if_neg (by omega), if_neg (by omega)]
  rw [e1] at h ⊢
  rw [e2]
  have q := walk8_take l k 0 0 [s] (by intro t ht; simp at ht; subst ht; exact Classical.not_not.1 h1) hk (by simpa using h)
  refine ⟨q.1, q.2.1, fun e => ?_⟩
  have := q.2.2 e
  exact ⟨this.1, by rw [this.2]; congr 1; simp; omega⟩
theorem wrapU64_eq (x : Int) : IntKind.u64.wrap x = x % 18446744073709551616 := by
  simp [IntKind.wrap, IntKind.signed, IntKind.bits]
theorem wrapU64_in {x : Int} (h : 0 ≤ x) (h' : x < 18446744073709551616) : IntKind.u64.wrap x = x := by rw [wrapU64_eq]; omega
theorem wrapU64_rng (x : Int) : 0 ≤ IntKind.u64.wrap x ∧ IntKind.u64.wrap x < 18446744073709551616 := by rw [wrapU64_eq]; omega
theorem short_take {l : Rws} (h : short l) (k : Nat) : short (l.take k) := fun r hr => h r (List.mem_of_mem_take hr)
theorem oprs_take (l : Rws) (k : Nat) : oprs (l.take k) = (oprs l).take k := by unfold oprs; rw [List.map_take]
end Go.Proofs.Yticonbckgffjbaa.VX

set_option linter.unusedVariables false
set_option linter.unusedSimpArgs false
namespace Go.Proofs.Yticonbckgffjbaa.VX
/-- A loop that goes through n places, and ends at the first that fails. -/
theorem W.loop_all {f : Int → W (Int ⊕ (Unit ⊕ Unit))} (n : Nat) (p : Nat → Prop) [DecidablePred p] (hstep : ∀ k : Nat, k < n → ∀ Q : Int ⊕ (Unit ⊕ Unit) → Prop, (p k → Q (.inl ((k + 1 : Nat) : Int))) → (¬ p k → Q (.inr (.inl ()))) → (f k).run Q)
    (hend : ∀ Q : Int ⊕ (Unit ⊕ Unit) → Prop, Q (.inr (.inr ())) → (f (n : Int)).run Q) {R : Unit ⊕ Unit → Prop} (h : R (if ∀ k, k < n → p k then .inr () else .inl ())) : (W.loop f 0).run R := by
  refine W.loop_inv (fun v : Int => ∃ k : Nat, v = k ∧ k ≤ n ∧ ∀ j, j < k → p j) (fun v => n - v.toNat) ?_ ⟨0, rfl, Nat.zero_le _, fun _ h => by omega⟩
  rintro _ ⟨k, rfl, hk, hp⟩
  by_cases hlt : k < n
  · refine hstep k hlt _ (fun q => ?_) (fun q => ?_)
    · refine ⟨⟨k + 1, rfl, hlt, fun j hj => ?_⟩, by omega⟩
      by_cases e : j = k
      · subst e; exact q
      · exact hp j (by omega)
    · rw [if_neg (fun h' => q (h' k hlt))] at h; exact h
  · have e : k = n := by omega
    subst e
    refine hend _ ?_
    rw [if_pos hp] at h; exact h
theorem XSplit.tt' {b : Bool} {x y : Prop} (h : b = true) (h' : x) : XSplit b x y := ⟨fun _ => h', fun e => by rw [h] at e; cases e⟩
theorem XSplit.ff' {b : Bool} {x y : Prop} (h : b = false) (h' : y) : XSplit b x y := ⟨fun e => (by rw [h] at e; cases e), fun _ => h'⟩
theorem loop_go {σ ε : Type} {f : σ → W (σ ⊕ ε)} {s : σ} {R : ε → Prop} (h : (f s).run (W.on (fun s' => (W.loop f s').run R) R)) : (W.loop f s).pr R := W.loop_unroll h
section
set_option maxRecDepth 100000
set_option maxHeartbeats 0
attribute [local irreducible] W.loop
theorem fixed15 : g_law15_fixed.run (fun b => b = true) := by
  iterate 6000 (all_goals ((conv => whnf); first | with_reducible exact rfl | with_reducible refine XNeed.mk (of_decide_eq_true (by decide +kernel)) ?_ | with_reducible refine XSplit.tt' (by decide +kernel) ?_ | with_reducible refine XSplit.ff' (by decide +kernel) ?_ | refine loop_go ?_ | decide +kernel))
end
theorem g_law15_fixed_ok {R : Bool → Prop} (h : R true) : g_law15_fixed.run R := g_law15_fixed.mono (fun b e => by rw [e]; exact h) fixed15

/-! ### Blocks -/
def blocks (L d : Int) : Int × Int := if d < 1 ∨ L < d then (0, 151) else ((L - 1) / d + 1, 0)
theorem div_bd {L d : Int} (hd : 1 ≤ d) (hL : d ≤ L) : 0 ≤ (L - 1) / d ∧ (L - 1) / d ≤ L - 1 := by
  have h1 := Int.ediv_nonneg (a := L - 1) (b := d) (by omega) (by omega)
  have h2 := Int.ediv_le_self (a := L - 1) d (by omega)
  exact ⟨h1, h2⟩
theorem g_cert_Blocks_ok (L d : Int) (hL : L ≤ 9223372036854775807) {R : Int × Int → Prop} (h : R (blocks L d)) : (g_cert_Blocks L d).run R := by
  unfold g_cert_Blocks
  unfold blocks at h
  refine W.iteC (d < 1 ∨ L < d) (by rw [Bool.decide_or]) (fun e => W.retI (by rwa [if_pos e] at h)) fun e => W.needI (by omega) (W.retI ?_)
  rw [if_neg e] at h
  have hb := div_bd (L := L) (d := d) (by omega) (by omega)
  rw [wrap64_in (x := L - 1) (by omega) (by omega), Int.tdiv_eq_ediv_of_nonneg (by omega), wrap64_in (x := (L - 1) / d) (by omega) (by omega), wrap64_in (by omega) (by omega)]
  exact h
theorem ceil_eq {L d : Int} (hd : 1 ≤ d) (hL : 1 ≤ L) : (L - 1) / d + 1 = if 0 < L % d then L / d + 1 else L / d := by
  have h1 := Int.mul_ediv_add_emod L d
  have h2 := Int.emod_nonneg L (by omega : d ≠ 0)
  have h3 := Int.emod_lt_of_pos L (by omega : 0 < d)
  have key : ∀ q r : Int, L - 1 = d * q + r → 0 ≤ r → r < d → (L - 1) / d = q := fun q r e r0 r1 => by
    rw [e, Int.add_comm, Int.add_mul_ediv_left _ _ (by omega), Int.ediv_eq_zero_of_lt r0 r1]; omega
  split
  · rename_i h
    rw [key (L / d) (L % d - 1) (by omega) (by omega) (by omega)]
  · have e0 : L % d = 0 := by omega
    rw [key (L / d - 1) (d - 1) (by rw [Int.mul_sub]; omega) (by omega) (by omega)]
    omega
theorem g_ref15_Blocks_ok (L d : Int) (hL : L ≤ 9223372036854775807) {R : Int × Int → Prop} (h : R (blocks L d)) : (g_ref15_Blocks L d).run R := by
  unfold g_ref15_Blocks
  unfold blocks at h
  refine W.iteC (d < 1 ∨ L < d) (by rw [Bool.decide_or]) (fun e => W.retI (by rwa [if_pos e] at h)) fun e => W.needI (by omega) (W.bindI (W.needI (by omega) ?_))
  rw [if_neg e, ceil_eq (by omega) (by omega)] at h
  have h1 := Int.ediv_nonneg (a := L) (b := d) (by omega) (by omega)
  have h2 := Int.ediv_le_self (a := L) d (by omega)
  rw [Int.tdiv_eq_ediv_of_nonneg (by omega), Int.tmod_eq_emod_of_nonneg (by omega), wrap64_in (x := L / d) (by omega) (by omega)]
  refine W.iteC (0 < L % d) rfl (fun e2 => W.retI (W.retI ?_)) fun e2 => W.retI (W.retI ?_)
  · rw [if_pos e2] at h
    have hb := div_bd (L := L) (d := d) (by omega) (by omega)
    have := ceil_eq (L := L) (d := d) (by omega) (by omega)
    rw [if_pos e2] at this
    rw [wrap64_in (by omega) (by omega)]
    exact h
  · rw [if_neg e2] at h; exact h
theorem g_law15_CertBlocks_ok (L d : Int) (hL : L ≤ 9223372036854775807) {R : Bool → Prop} (h : R true) : (g_law15_CertBlocks L d).run R := by
  unfold g_law15_CertBlocks
  refine W.bindI (g_cert_Blocks_ok L d hL (W.bindI (g_ref15_Blocks_ok L d hL (W.bindI (g_law15_fixed_ok (W.iteF (by simp) ?_))))))
  refine W.iteC ((blocks L d).2 ≠ 0 ∨ 1073741824 < L) (by rw [Bool.decide_or]; simp; rfl) (fun _ => W.retI h) fun e => W.retE h ?_
  have e1 : ¬ (d < 1 ∨ L < d) := fun q => e (.inl (by unfold blocks; rw [if_pos q]; decide))
  have eb : (blocks L d).1 = (L - 1) / d + 1 := by unfold blocks; rw [if_neg e1]
  rw [eb]
  have hb := div_bd (L := L) (d := d) (by omega) (by omega)
  have h1 := Int.mul_ediv_add_emod (L - 1) d
  have h2 := Int.emod_nonneg (L - 1) (by omega : d ≠ 0)
  have h3 := Int.emod_lt_of_pos (L - 1) (by omega : 0 < d)
  have h4 : (L - 1) / d * d = d * ((L - 1) / d) := Int.mul_comm _ _
  have h5 : ((L - 1) / d + 1) * d = d * ((L - 1) / d) + d := by rw [Int.add_mul, h4, Int.one_mul]
  rw [show (L - 1) / d + 1 - 1 = (L - 1) / d from by omega, wrap64_in (x := (L - 1) / d) (by omega) (by omega), h4, h5, wrap64_in (by omega) (by omega), wrap64_in (by omega) (by omega)]
  simp
  omega

/-! ### Same -/
def eqS (a b : Rws) : Prop := a.length = b.length ∧ ∀ k, k < a.length → ri a k 0 = ri b k 0 ∧ ri a k 1 = ri b k 1
def eqC (a b : Rws) : Prop := a.length = b.length ∧ ∀ k, k < a.length → ri a k 0 = ri b k 0 ∧ ri a k 1 = ri b k 1 ∧ ri a k 2 = ri b k 2 ∧ ri a k 3 = ri b k 3 ∧ ri a k 4 = ri b k 4 ∧ ri a k 5 = ri b k 5
def eqP (a b : Rws) : Prop := a.length = b.length ∧ ∀ k, k < a.length → eqC (rr a k 0) (rr b k 0)
noncomputable instance (a b : Rws) : Decidable (eqS a b) := Classical.propDecidable _
noncomputable instance (a b : Rws) : Decidable (eqC a b) := Classical.propDecidable _
noncomputable instance (a b : Rws) : Decidable (eqP a b) := Classical.propDecidable _
/-- Lists of lists, all short. -/
def shortP (a : Rws) : Prop := a.length ≤ 140737488355328 ∧ ∀ k, (rr a k 0).length ≤ 2932031007402
theorem g_EqualS_ok (n1 n2 : Bool) (a b : Rws) (ha : a.length ≤ 140737488355328) {R : Bool → Prop} (h : R (decide (eqS a b))) : (g_slices_Equal___api_Span_api_Span_ n1 a n2 b).run R := by
  unfold g_slices_Equal___api_Span_api_Span_
  refine W.iteC (a.length ≠ b.length) (by rw [Bool.eq_iff_iff, bne_iff_ne, decide_eq_true_eq]; omega) (fun e => W.retE h (by simp [eqS, e])) fun e => ?_
  have e : a.length = b.length := Classical.not_not.1 e
  classical
  refine W.bindI (W.loop_all a.length (fun k => ri a k 0 = ri b k 0 ∧ ri a k 1 = ri b k 1) (fun k hk Q h1 h2 => ?_) (fun Q hq => W.iteF (by simp) (W.retI hq)) ?_)
  · refine W.iteT (by simp; omega) (W.needI (by omega) (W.needI (by omega) ?_))
    rw [Int.toNat_natCast, wrap64_in (by omega) (by omega)]
    refine W.iteC (¬ (ri a k 0 = ri b k 0 ∧ ri a k 1 = ri b k 1)) (by rw [Bool.eq_iff_iff, decide_eq_true_eq]; simp; omega) (fun q => W.retI (h2 q)) fun q => W.retI (h1 (Classical.not_not.1 q))
  · split
    · rename_i q; exact W.retE h (by simp [eqS, e]; rw [← e]; exact q)
    · rename_i q; exact W.retE h (by simp only [eqS, e, true_and, Bool.false_eq, decide_eq_false_iff_not]; rw [← e]; exact q)
theorem g_EqualC_ok (n1 n2 : Bool) (a b : Rws) (ha : a.length ≤ 140737488355328) {R : Bool → Prop} (h : R (decide (eqC a b))) : (g_slices_Equal___api_Chan_api_Chan_ n1 a n2 b).run R := by
  unfold g_slices_Equal___api_Chan_api_Chan_
  refine W.iteC (a.length ≠ b.length) (by rw [Bool.eq_iff_iff, bne_iff_ne, decide_eq_true_eq]; omega) (fun e => W.retE h (by simp [eqC, e])) fun e => ?_
  have e : a.length = b.length := Classical.not_not.1 e
  classical
  refine W.bindI (W.loop_all a.length (fun k => ri a k 0 = ri b k 0 ∧ ri a k 1 = ri b k 1 ∧ ri a k 2 = ri b k 2 ∧ ri a k 3 = ri b k 3 ∧ ri a k 4 = ri b k 4 ∧ ri a k 5 = ri b k 5) (fun k hk Q h1 h2 => ?_) (fun Q hq => W.iteF (by simp) (W.retI hq)) ?_)
  · refine W.iteT (by simp; omega) (W.needI (by omega) (W.needI (by omega) ?_))
    rw [Int.toNat_natCast, wrap64_in (by omega) (by omega)]
    refine W.iteC (¬ (ri a k 0 = ri b k 0 ∧ ri a k 1 = ri b k 1 ∧ ri a k 2 = ri b k 2 ∧ ri a k 3 = ri b k 3 ∧ ri a k 4 = ri b k 4 ∧ ri a k 5 = ri b k 5)) (by rw [Bool.eq_iff_iff, decide_eq_true_eq]; simp; omega) (fun q => W.retI (h2 q)) fun q => W.retI (h1 (Classical.not_not.1 q))
  · split
    · rename_i q; exact W.retE h (by simp [eqC, e]; rw [← e]; exact q)
    · rename_i q; exact W.retE h (by simp only [eqC, e, true_and, Bool.false_eq, decide_eq_false_iff_not]; rw [← e]; exact q)
theorem g_EqualP_ok (n1 n2 : Bool) (a b : Rws) (ha : shortP a) {R : Bool → Prop} (h : R (decide (eqP a b))) : (g_slices_EqualFunc_____api_Chan_____api_Chan___api_Chan___api_Chan___slices_Equal___api_Chan_api_Chan_ n1 a n2 b).run R := by
  obtain ⟨ha, hs⟩ := ha
  unfold g_slices_EqualFunc_____api_Chan_____api_Chan___api_Chan___api_Chan___slices_Equal___api_Chan_api_Chan_
  refine W.iteC (a.length ≠ b.length) (by rw [Bool.eq_iff_iff, bne_iff_ne, decide_eq_true_eq]; omega) (fun e => W.retE h (by simp [eqP, e])) fun e => ?_
  have e : a.length = b.length := Classical.not_not.1 e
  classical
  refine W.bindI (W.loop_all a.length (fun k => eqC (rr a k 0) (rr b k 0)) (fun k hk Q h1 h2 => ?_) (fun Q hq => W.iteF (by simp) (W.retI hq)) ?_)
  · refine W.iteT (by simp; omega) (W.needI (by omega) (W.needI (by omega) ?_))
    rw [Int.toNat_natCast, wrap64_in (by omega) (by omega)]
    refine W.bindI (g_EqualC_ok _ _ _ _ (by have := hs k; omega) ?_)
    refine W.iteC (¬ eqC (rr a k 0) (rr b k 0)) (by rw [decide_not]) (fun q => W.retI (h2 q)) fun q => W.retI (h1 (Classical.not_not.1 q))
  · split
    · rename_i q; exact W.retE h (by symm; rw [decide_eq_true_eq]; exact ⟨e, q⟩)
    · rename_i q; exact W.retE h (by symm; rw [decide_eq_false_iff_not]; exact fun q' => q q'.2)
theorem g_cert_Same_ok (n1 n2 n3 n4 : Bool) (a p b q : Rws) (ha : a.length ≤ 140737488355328) (hp : shortP p) {R : Bool → Prop} (h : R (decide (eqS a b ∧ eqP p q))) : (g_cert_Same n1 a n2 p n3 b n4 q).run R := by
  unfold g_cert_Same
  refine W.bindI (W.bindI (g_EqualS_ok _ _ _ _ ha (W.iteC (eqS a b) rfl (fun e => W.bindI (g_EqualP_ok _ _ _ _ hp (W.retI (W.retE h ?_)))) fun e => W.retI (W.retE h ?_))))
  · simp [e]
  · simp [e]
theorem g_ref15_Same_ok (n1 n2 n3 n4 : Bool) (a p b q : Rws) (ha : a.length ≤ 140737488355328) (hp : shortP p) {R : Bool → Prop} (h : R (decide (eqS a b ∧ eqP p q))) : (g_ref15_Same n1 a n2 p n3 b n4 q).run R := by
  obtain ⟨hp, hs⟩ := hp
  unfold g_ref15_Same
  refine W.iteC (a.length ≠ b.length ∨ p.length ≠ q.length) (by rw [Bool.eq_iff_iff, decide_eq_true_eq, Bool.or_eq_true, bne_iff_ne, bne_iff_ne]; omega) (fun e => W.retE h ?_) fun e => ?_
  · symm; rw [decide_eq_false_iff_not]; rintro ⟨⟨h1, _⟩, h2, _⟩; omega
  have e1 : a.length = b.length := by omega
  have e2 : p.length = q.length := by omega
  classical
  refine W.bindI (W.loop_all a.length (fun k => ri a k 0 = ri b k 0 ∧ ri a k 1 = ri b k 1) (fun k hk Q h1 h2 => ?_) (fun Q hq => W.iteF (by simp) (W.retI hq)) ?_)
  · refine W.iteT (by simp; omega) (W.needI (by omega) (W.needI (by omega) ?_))
    rw [Int.toNat_natCast, wrap64_in (by omega) (by omega)]
    refine W.iteC (¬ (ri a k 0 = ri b k 0 ∧ ri a k 1 = ri b k 1)) (by rw [Bool.eq_iff_iff, decide_eq_true_eq]; simp; omega) (fun q => W.retI (h2 q)) fun q => W.retI (h1 (Classical.not_not.1 q))
  split
  case isFalse => rename_i z; exact W.retE h (by symm; rw [decide_eq_false_iff_not]; exact fun z' => z z'.1.2)
  rename_i hS
  refine W.bindI (W.loop_all p.length (fun k => eqC (rr p k 0) (rr q k 0)) (fun k hk Q h1 h2 => ?_) (fun Q hq => W.iteF (by simp) (W.retI hq)) ?_)
  · refine W.iteT (by simp; omega) (W.needI (by omega) (W.needI (by omega) ?_))
    rw [Int.toNat_natCast, wrap64_in (x := (k : Int) + 1) (by omega) (by omega)]
    refine W.iteC ((rr p k 0).length ≠ (rr q k 0).length) (by rw [Bool.eq_iff_iff, decide_eq_true_eq, bne_iff_ne]; omega) (fun z => W.retI (h2 fun z' => z z'.1)) fun z => W.needI (by omega) ?_
    have z : (rr p k 0).length = (rr q k 0).length := Classical.not_not.1 z
    have hk2 := hs k
    refine W.bindI (W.loop_inv (fun v : Int => ∃ j : Nat, v = j ∧ j ≤ (rr p k 0).length ∧ ∀ i, i < j → ri (rr p k 0) i 0 = ri (rr q k 0) i 0 ∧ ri (rr p k 0) i 1 = ri (rr q k 0) i 1 ∧ ri (rr p k 0) i 2 = ri (rr q k 0) i 2 ∧ ri (rr p k 0) i 3 = ri (rr q k 0) i 3 ∧ ri (rr p k 0) i 4 = ri (rr q k 0) i 4 ∧ ri (rr p k 0) i 5 = ri (rr q k 0) i 5)
      (fun v => (rr p k 0).length - v.toNat) ?_ ⟨0, rfl, Nat.zero_le _, fun _ h => by omega⟩)
    rintro _ ⟨j, rfl, hj, hpre⟩
    refine W.iteC (j < (rr p k 0).length) (by rw [decide_eq_decide]; omega) (fun hlt => W.needI (by omega) (W.needI (by omega) (W.needI (by omega) (W.needI (by omega) ?_)))) fun hge => ?_
    · rw [Int.toNat_natCast, wrap64_in (x := (j : Int) + 1) (by omega) (by omega)]
      refine W.iteC (¬ (ri (rr p k 0) j 0 = ri (rr q k 0) j 0 ∧ ri (rr p k 0) j 1 = ri (rr q k 0) j 1 ∧ ri (rr p k 0) j 2 = ri (rr q k 0) j 2 ∧ ri (rr p k 0) j 3 = ri (rr q k 0) j 3 ∧ ri (rr p k 0) j 4 = ri (rr q k 0) j 4 ∧ ri (rr p k 0) j 5 = ri (rr q k 0) j 5)) (by rw [Bool.eq_iff_iff, decide_eq_true_eq]; simp; omega) (fun y => W.retI (W.retI (h2 fun y' => y (y'.2 j hlt)))) fun y => W.retI ⟨⟨j + 1, rfl, hlt, fun i hi => ?_⟩, ?_⟩
      · by_cases ei : i = j
        · subst ei; exact Classical.not_not.1 y
        · exact hpre i (by omega)
      · show (rr p k 0).length - ((j : Int) + 1).toNat < (rr p k 0).length - (j : Int).toNat; omega
    · have ej : j = (rr p k 0).length := by omega
      subst ej
      exact W.retI (W.retI (h1 ⟨z, hpre⟩))
  · split
    · rename_i y; exact W.retE h (by symm; rw [decide_eq_true_eq]; exact ⟨⟨e1, hS⟩, e2, y⟩)
    · rename_i y; exact W.retE h (by symm; rw [decide_eq_false_iff_not]; exact fun y' => y y'.2.2)
theorem eqS_symm {a b : Rws} (h : eqS a b) : eqS b a := ⟨h.1.symm, fun k hk => by have := h.2 k (by rw [h.1]; exact hk); exact ⟨this.1.symm, this.2.symm⟩⟩
theorem eqC_symm {a b : Rws} (h : eqC a b) : eqC b a := ⟨h.1.symm, fun k hk => by have := h.2 k (by rw [h.1]; exact hk); exact ⟨this.1.symm, this.2.1.symm, this.2.2.1.symm, this.2.2.2.1.symm, this.2.2.2.2.1.symm, this.2.2.2.2.2.symm⟩⟩
theorem eqP_symm {a b : Rws} (h : eqP a b) : eqP b a := ⟨h.1.symm, fun k hk => eqC_symm (h.2 k (by rw [h.1]; exact hk))⟩
theorem eqS_refl (a : Rws) : eqS a a := ⟨rfl, fun _ _ => ⟨rfl, rfl⟩⟩
theorem eqC_refl (a : Rws) : eqC a a := ⟨rfl, fun _ _ => ⟨rfl, rfl, rfl, rfl, rfl, rfl⟩⟩
/-- A list of a copy. -/
def cpP (r : List AV) : List AV := [.sl false 0 (cR r 0)]
theorem rr_cpP (p : Rws) (k : Nat) (h : k < p.length) : rr (p.map cpP) k 0 = rr p k 0 := by
  rw [rr_eq, rr_eq, List.getD_eq_getElem?_getD, List.getElem?_map, List.getElem?_eq_getElem h]
  rw [List.getD_eq_getElem?_getD, List.getElem?_eq_getElem h]; rfl
theorem eqP_cp (p : Rws) : eqP p (p.map cpP) := ⟨by simp, fun k hk => by rw [rr_cpP p k hk]; exact eqC_refl _⟩
theorem shortP_cp {p : Rws} (h : shortP p) : shortP (p.map cpP) := ⟨by simpa using h.1, fun k => by
  by_cases hk : k < p.length
  · rw [rr_cpP p k hk]; exact h.2 k
  · rw [rr_eq, List.getD_eq_getElem?_getD, List.getElem?_eq_none (by simpa using hk)]; simp [cR, AV.toRows]⟩
theorem g_ref15_Copy_ok (n1 n2 : Bool) (a p : Rws) (ha : a.length ≤ 8796093022208) (hp : shortP p) (hp2 : p.length ≤ 5864062014805) {R : Bool × Rws × Bool × Rws → Prop} (h : ∀ b, R (false, a, b, p.map cpP)) : (g_ref15_Copy n1 a n2 p).run R := by
  unfold g_ref15_Copy
  refine W.bindI (W.loop_inv (fun v : Int × Bool × Rws => ∃ k : Nat, v.1 = k ∧ k ≤ p.length ∧ v.2.2 = (p.take k).map cpP) (fun v => p.length - v.1.toNat) ?_ ⟨0, rfl, Nat.zero_le _, by simp⟩)
  rintro ⟨_, b, _⟩ ⟨k, rfl, hk, rfl⟩
  dsimp only
  refine W.iteC (k < p.length) (by rw [decide_eq_decide]; omega) (fun hlt => W.needI (by omega) ?_) fun hge => ?_
  · rw [Int.toNat_natCast, wrap64_in (by omega) (by omega)]
    have hk2 := hp.2 k
    refine W.needI (by omega) (W.needI (by simp; omega) (W.retI ⟨⟨k + 1, rfl, hlt, ?_⟩, ?_⟩))
    · rw [List.take_add_one, List.getElem?_eq_getElem hlt, List.map_append]
      congr 1
      simp only [Option.toList_some, List.map_cons, List.map_nil, cpP, rr_eq, List.getD_eq_getElem?_getD, List.getElem?_eq_getElem hlt, Option.getD_some]
    · show p.length - ((k : Int) + 1).toNat < p.length - (k : Int).toNat; omega
  · have e : k = p.length := by omega
    subst e
    rw [List.take_length]
    exact W.retI (W.needI (by omega) (W.retI (h b)))
theorem g_law15_CertSames_ok (n1 n2 n3 n4 : Bool) (a p b q : Rws) (ha : a.length ≤ 8796093022208) (hb : b.length ≤ 8796093022208) (hp : shortP p) (hp2 : p.length ≤ 5864062014805) (hq : shortP q) {R : Bool → Prop} (h : R true) : (g_law15_CertSames n1 a n2 p n3 b n4 q).run R := by
  unfold g_law15_CertSames
  have esym : decide (eqS b a ∧ eqP q p) = decide (eqS a b ∧ eqP p q) := by
    rw [decide_eq_decide]; exact ⟨fun z => ⟨eqS_symm z.1, eqP_symm z.2⟩, fun z => ⟨eqS_symm z.1, eqP_symm z.2⟩⟩
  refine W.bindI (W.bindI (g_law15_fixed_ok (W.iteT rfl (W.bindI (g_cert_Same_ok _ _ _ _ _ _ _ _ (by omega) hp (W.bindI (g_ref15_Same_ok _ _ _ _ _ _ _ _ (by omega) hp (W.iteT (by simp) (W.bindI (g_cert_Same_ok _ _ _ _ _ _ _ _ (by omega) hq (W.bindI (g_cert_Same_ok _ _ _ _ _ _ _ _ (by omega) hp (W.iteT ?_ ?_)))))))))))))
  · rw [esym]; simp
  · refine W.bindI (g_ref15_Copy_ok _ _ _ _ ha hp hp2 fun z => W.bindI (g_cert_Same_ok _ _ _ _ _ _ _ _ (by omega) hp (W.retI (W.retE h ?_))))
    rw [decide_eq_true_eq]
    exact ⟨eqS_refl a, eqP_cp p⟩
end Go.Proofs.Yticonbckgffjbaa.VX

set_option linter.unusedVariables false
set_option linter.unusedSimpArgs false
namespace Go.Proofs.Yticonbckgffjbaa.VX
theorem fm_sl {N : Nat} {fs : List FS} {b : Bool} {l : Rws} (h : fmF (.sl N fs) (.sl b 0 l)) : (b = true → l = []) ∧ l.length ≤ N ∧ ∀ r ∈ l, fmR fs r := by
  unfold fmF at h
  obtain ⟨b', l', e, h1, h2, h3⟩ := h
  injection e with e1 _ e2
  subst e1 e2
  exact ⟨h1, h2, h3⟩
theorem fm_row {fs : List FS} {l : Rws} (h : ∀ r ∈ l, fmR fs r) {k : Nat} (hk : k < l.length) : fmR fs (l.getD k []) := by
  rw [List.getD_eq_getElem?_getD, List.getElem?_eq_getElem hk]; exact h _ (List.getElem_mem hk)
theorem fm_shortP {b : Bool} {p : Rws} (h : fmF plansF (.sl b 0 p)) : shortP p ∧ p.length ≤ 5864062014805 := by
  obtain ⟨_, h2, h3⟩ := fm_sl h
  refine ⟨⟨by omega, fun k => ?_⟩, h2⟩
  by_cases hk : k < p.length
  · obtain ⟨x, hx, hf⟩ := fmR_get (fm_row h3 hk) (j := 0) rfl
    have e : rr p k 0 = x.toRows := by
      rw [rr_eq, cR, List.getD_eq_getElem?_getD, hx]; rfl
    unfold fmF at hf
    obtain ⟨b', l', rfl, _, hl, _⟩ := hf
    rw [e]
    exact hl
  · rw [rr_eq, List.getD_eq_getElem?_getD, List.getElem?_eq_none (by omega)]; simp [cR, AV.toRows]
theorem g_law15_CertSames_ok' {n1 n2 n3 n4 : Bool} {a p b q : Rws} (ha : fmF spansF (.sl n1 0 a)) (hp : fmF plansF (.sl n2 0 p)) (hb : fmF spansF (.sl n3 0 b)) (hq : fmF plansF (.sl n4 0 q)) {R : Bool → Prop} (h : R true) : (g_law15_CertSames n1 a n2 p n3 b n4 q).run R :=
  g_law15_CertSames_ok n1 n2 n3 n4 a p b q (fm_sl ha).2.1 (fm_sl hb).2.1 (fm_shortP hp).1 (fm_shortP hp).2 (fm_shortP hq).1 h
end Go.Proofs.Yticonbckgffjbaa.VX
