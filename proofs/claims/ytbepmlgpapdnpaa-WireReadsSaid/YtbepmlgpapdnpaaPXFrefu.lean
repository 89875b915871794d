-- by this session's xprint.py over the kit's print
import Derived.Test.YtbepmlgpapdnpaaPX0
import Derived.Test.YtbepmlgpapdnpaaPXFvplain
import Derived.Test.YtbepmlgpapdnpaaPXFvgetok
import Derived.Test.YtbepmlgpapdnpaaPXFreaderus
import Derived.Test.YtbepmlgpapdnpaaPXFreadern
import Derived.Test.YtbepmlgpapdnpaaPXFspillwayref04Get
import Derived.Test.YtbepmlgpapdnpaaPXFrefget
import Derived.Test.YtbepmlgpapdnpaaPXFspillwayref04Unfold
import Derived.Test.YtbepmlgpapdnpaaPXFspillwaylaw04WireForms
namespace Go.Proofs.Ytbepmlgpapdnpaa.PX
open Go.RowKit Go.Proofs.YtbepmlgpapdnpaaW.PrintWords Go.Proofs.YtbepmlgpapdnpaaW.PrintLast Go.Proofs.YtbepmlgpapdnpaaW.PrintMore
attribute [local go_sem] max2_int min2_int max_two min_two max_three min_three max_four min_four   -- for this text's walks alone
set_option linter.unusedVariables false
set_option linter.unusedSimpArgs false

/-! ### refu: function 30 -/
set_option maxHeartbeats 8000000 in
set_option maxRecDepth 100000 in
theorem refU_calls (w : World) (q b2 : Nat) (A : Option Addr) (c : Nat) (bs : List Int) (at_ : Nat) (bad : Int) (R : RF w q b2 A c (bs.drop at_) bad) :
    Calls Try.prog 30 #[.pointer (some ⟨q, 0, none⟩)] w fun e w' => e = .returned (.int .u64 (rU bs at_ bad).1) ∧ (∃ A' c', RF w' q b2 A' c' (bs.drop (rU bs at_ bad).2.1) (rU bs at_ bad).2.2) ∧ KP q q w w' := by
  have hc0 := blk_cell R.hq 0
  have hc1 := blk_cell R.hq 1
  have hf0 := blk_frozen R.hq 0
  have hf1 := blk_frozen R.hq 1
  simp only [List.getElem?_toArray, List.getElem?_cons_zero, List.getElem?_cons_succ] at hc0 hc1
  by_cases hb : bad = 0
  · subst hb
    obtain ⟨ok1, ok2⟩ := vget_ok (bs.drop at_) (fun v hv => R.hb v hv)
    have er := vgo_err (bs.drop at_) 0 0
    change (vget (bs.drop at_)).2.2 ≠ 0 → (vget (bs.drop at_)).1 = 0 ∧ (vget (bs.drop at_)).2.1 = 0 at er
    have GT := fun r1 r2 r3 (h : vget (bs.drop at_) = (r1, r2, r3)) => spillwayref04_Get.calls 30 A c (bs.drop at_) r1 r2 r3 w R.hr R.hc (by rw [get_f R.hlen R.hb, h])
    have hrt : rU bs at_ 0 = if (vget (bs.drop at_)).2.2 ≠ 0 then (0, at_, (vget (bs.drop at_)).2.2) else if (vget (bs.drop at_)).1 > 18446744073709551615 then (0, at_, 42) else ((vget (bs.drop at_)).1, at_ + (vget (bs.drop at_)).2.1.toNat, 0) := by rw [rU, rtake, if_neg (by simp)]
    rw [hrt]
    have hld : (bs.drop at_).length = bs.length - at_ := List.length_drop
    generalize vget (bs.drop at_) = t3 at ok1 ok2 er GT ⊢
    obtain ⟨x, n, e⟩ := t3
    replace GT := GT x n e rfl
    simp only at ok1 ok2 er GT ⊢
    replace GT := Aside0.mk GT
    have hlen := R.hlen
    have hcc := R.hc
    have RR := Aside0.mk R
    clear R hrt hld
    by_cases he : e = 0
    · subst he
      obtain ⟨m, rfl, m1, m2, x0, x1⟩ := ok1 rfl
      clear ok1 ok2 er
      obtain ⟨A', hk1, hk2, hk3⟩ := cut_u8 A c (bs.drop at_) m m2 hcc
      rw [if_neg (by simp), if_neg (by omega)]
      have hcut := Aside0.mk ((RR.out.bad_ 0).cut (hk2 _ (RR.out.bad_ 0).hr) hk3)
      clear hk2 hk3
      obtain ⟨zs, hzs⟩ : ∃ zs, zs = bs.drop at_ := ⟨_, rfl⟩
      rw [← hzs] at hk1 hc0 m2 hlen hcc GT hcut
      have hdd : zs.drop m = bs.drop (at_ + m) := by rw [hzs, List.drop_drop]
      have HDD := Aside0.mk hdd
      obtain ⟨L2, hL2⟩ : ∃ L, (zs.drop m).length = L := ⟨_, rfl⟩
      rw [hL2] at hk1 hcut
      replace hzs := Aside0.mk hzs
      replace hL2 := Aside0.mk hL2
      clear hdd
      go_enter Try.func30, Try.ntmps30
      go_wp2_with (go_at_call 35; (with_reducible refine GT.out.mono ?_); rintro e w1 ⟨rfl, ⟨⟨nq, rfl⟩⟩⟩)
      go_ret
      refine ⟨rfl, ⟨A', c - m, ?_⟩, ?_⟩
      · have h1 := hcut.out.drewN nq
        rw [HDD.out] at h1
        exact h1
      · exact (((KP.refl q q w).set_g _ _).set_g _ _).drewN nq
    · rw [if_pos he]
      obtain ⟨rfl, rfl⟩ := er he
      clear ok1 ok2 er
      obtain ⟨A', hk1, hk2, hk3⟩ := cut_u8 A c (bs.drop at_) 0 (Nat.zero_le _) hcc
      have hcut := Aside0.mk ((RR.out.bad_ e).cut (hk2 _ (RR.out.bad_ e).hr) hk3)
      clear hk2 hk3
      rw [List.drop_zero] at hk1 hcut
      rw [Int.natCast_zero] at hk1
      replace he := Aside0.mk he
      generalize bs.drop at_ = zs at hk1 hc0 hlen hcc GT hcut ⊢
      clear RR
      go_enter Try.func30, Try.ntmps30
      go_wp2_with (go_at_call 35; (with_reducible refine GT.out.mono ?_); rintro e1 w1 ⟨rfl, ⟨⟨nq, rfl⟩⟩⟩)
      go_ret
      refine ⟨rfl, ⟨A', c - 0, hcut.out.drewN nq⟩, ?_⟩
      exact (((KP.refl q q w).set_g _ _).set_g _ _).drewN nq
  · have hr : rU bs at_ bad = (0, at_, bad) := by rw [rU, rtake, if_pos hb]
    rw [hr]
    have hb0 : (bad != 0) = true := bne_iff_ne.2 hb
    have RR := Aside0.mk R
    clear R hr
    go_enter Try.func30, Try.ntmps30
    go_wp2
    go_ret
    exact ⟨rfl, ⟨A, c, RR.out⟩, KP.refl _ _ _⟩
set_option maxHeartbeats 8000000 in
set_option maxRecDepth 100000 in
theorem refS_calls (w : World) (q b2 : Nat) (A : Option Addr) (c : Nat) (bs : List Int) (at_ : Nat) (bad : Int) (R : RF w q b2 A c (bs.drop at_) bad) (hr0 : 0 ≤ (rU bs at_ bad).1) (hr1 : (rU bs at_ bad).1 < 18446744073709551616) :
    Calls Try.prog 31 #[.pointer (some ⟨q, 0, none⟩)] w fun e w' => e = .returned (.int .i64 (sunfold (rU bs at_ bad).1)) ∧ (∃ A' c', RF w' q b2 A' c' (bs.drop (rU bs at_ bad).2.1) (rU bs at_ bad).2.2) ∧ KP q q w w' := by
  have CU := Aside0.mk (refU_calls w q b2 A c bs at_ bad R)
  generalize rU bs at_ bad = t3 at CU hr0 hr1 ⊢
  obtain ⟨x, a2, e2⟩ := t3
  simp only at CU hr0 hr1 ⊢
  have UF := Aside0.mk (fun W => spillwayref04_Unfold.calls x (sunfold x) W (unfold_f hr0 hr1))
  clear R hr0 hr1
  go_enter Try.func31, Try.ntmps31
  go_wp2_with fail
  refine CU.out.mono ?_
  rintro e w1 ⟨rfl, hR, hK⟩
  replace hR := Aside0.mk hR
  replace hK := Aside0.mk hK
  go_wp2_with fail
  refine (UF.out w1).mono ?_
  rintro e w2 ⟨rfl, ⟨⟨nq, rfl⟩⟩⟩
  go_wp2_with fail
  go_ret
  obtain ⟨A', c', h1⟩ := hR.out
  exact ⟨rfl, ⟨A', c', h1.drewN nq⟩, hK.out.drewN nq⟩
def fEnd (zs : List Int) (bad : Int) : Int := if bad = 0 ∧ 0 < zs.length then 43 else bad
set_option maxHeartbeats 8000000 in
set_option maxRecDepth 100000 in
theorem refEnd_calls (w : World) (q b2 : Nat) (A : Option Addr) (c : Nat) (zs : List Int) (bad : Int) (R : RF w q b2 A c zs bad) :
    Calls Try.prog 22 #[.pointer (some ⟨q, 0, none⟩)] w fun e w' => e = .returned (.int .i64 (fEnd zs bad)) ∧ Drawn0 w w' := by
  have hc0 := blk_cell R.hq 0
  have hc1 := blk_cell R.hq 1
  simp only [List.getElem?_toArray, List.getElem?_cons_zero, List.getElem?_cons_succ] at hc0 hc1
  have hlen := R.hlen
  unfold fEnd
  clear R
  by_cases hb : bad = 0
  · subst hb
    by_cases hl : 0 < zs.length
    · rw [if_pos ⟨rfl, hl⟩]
      have h1 : decide ((0 : Int) < (zs.length : Int)) = true := decide_eq_true (by omega)
      go_enter Try.func22, Try.ntmps22
      go_wp2
      repeat (go_quiet (fail); try go_wp2)
      go_ret
      exact ⟨rfl, by repeat (first | exact Drawn0.refl _ | apply Drawn0.step)⟩
    · rw [if_neg (fun h => hl h.2)]
      have h1 : decide ((0 : Int) < (zs.length : Int)) = false := decide_eq_false (by omega)
      go_enter Try.func22, Try.ntmps22
      go_wp2
      repeat (go_quiet (fail); try go_wp2)
      go_ret
      exact ⟨rfl, by repeat (first | exact Drawn0.refl _ | apply Drawn0.step)⟩
  · rw [if_neg (fun h => hb h.1)]
    have hb1 : (bad == 0) = false := beq_eq_false_iff_ne.2 hb
    go_enter Try.func22, Try.ntmps22
    go_wp2
    repeat (go_quiet (fail); try go_wp2)
    go_ret
    exact ⟨rfl, by repeat (first | exact Drawn0.refl _ | apply Drawn0.step)⟩
set_option maxHeartbeats 8000000 in
set_option maxRecDepth 100000 in
theorem refN_calls (w : World) (q b2 : Nat) (A : Option Addr) (c : Nat) (bs : List Int) (at_ : Nat) (bad most : Int) (R : RF w q b2 A c (bs.drop at_) bad) (hm0 : -9223372036854775808 ≤ most) (hm : most ≤ 9223372036854775807) :
    Calls Try.prog 32 #[.pointer (some ⟨q, 0, none⟩), .int .i64 most] w fun e w' => e = .returned (.int .i64 (rN bs at_ bad most).1) ∧ (∃ A' c', RF w' q b2 A' c' (bs.drop (rN bs at_ bad most).2.1) (rN bs at_ bad most).2.2) ∧ KP q q w w' := by
  have hc0 := blk_cell R.hq 0
  have hc1 := blk_cell R.hq 1
  have hf0 := blk_frozen R.hq 0
  have hf1 := blk_frozen R.hq 1
  simp only [List.getElem?_toArray, List.getElem?_cons_zero, List.getElem?_cons_succ] at hc0 hc1
  by_cases hb : bad = 0
  · subst hb
    obtain ⟨ok1, ok2⟩ := vget_ok (bs.drop at_) (fun v hv => R.hb v hv)
    have er := vgo_err (bs.drop at_) 0 0
    change (vget (bs.drop at_)).2.2 ≠ 0 → (vget (bs.drop at_)).1 = 0 ∧ (vget (bs.drop at_)).2.1 = 0 at er
    have GT := fun r1 r2 r3 (h : vget (bs.drop at_) = (r1, r2, r3)) => spillwayref04_Get.calls 30 A c (bs.drop at_) r1 r2 r3 w R.hr R.hc (by rw [get_f R.hlen R.hb, h])
    have hrt : ∀ top, rtake bs at_ 0 top = if (vget (bs.drop at_)).2.2 ≠ 0 then (0, at_, (vget (bs.drop at_)).2.2) else if (vget (bs.drop at_)).1 > top then (0, at_, 42) else ((vget (bs.drop at_)).1, at_ + (vget (bs.drop at_)).2.1.toNat, 0) := fun top => by rw [rtake, if_neg (by simp)]
    rw [rN, hrt, hrt]
    clear hrt
    have hld : (bs.drop at_).length = bs.length - at_ := List.length_drop
    generalize vget (bs.drop at_) = t3 at ok1 ok2 er GT ⊢
    obtain ⟨x, n, e⟩ := t3
    replace GT := GT x n e rfl
    simp only at ok1 ok2 er GT ⊢
    replace GT := Aside0.mk GT
    have hlen := R.hlen
    have hcc := R.hc
    have RR := Aside0.mk R
    clear R hld
    by_cases he : e = 0
    · subst he
      obtain ⟨m, rfl, m1, m2, x0, x1⟩ := ok1 rfl
      clear ok1 ok2 er
      by_cases h0 : 0 ≤ most
      · rw [if_pos h0]
        by_cases ht : x > most
        · rw [if_neg (by simp), if_pos ht]
          have RB := Aside0.mk (RR.out.bad_ 42)
          generalize bs.drop at_ = zs at hc0 hlen hcc GT RB ⊢
          have hd : decide (most < x) = true := decide_eq_true ht
          have hd2 : decide (most < 0) = false := decide_eq_false (by omega)
          clear RR
          go_enter Try.func32, Try.ntmps32
          go_wp2_with (go_at_call 35; (with_reducible refine GT.out.mono ?_); rintro e1 w1 ⟨rfl, ⟨⟨nq, rfl⟩⟩⟩)
          go_ret
          exact ⟨rfl, ⟨A, c, RB.out.drewN nq⟩, ((KP.refl q q w).set_g _ _).drewN nq⟩
        · rw [if_neg (by simp), if_neg ht]
          obtain ⟨A', hk1, hk2, hk3⟩ := cut_u8 A c (bs.drop at_) m m2 hcc
          have hcut := Aside0.mk ((RR.out.bad_ 0).cut (hk2 _ (RR.out.bad_ 0).hr) hk3)
          clear hk2 hk3
          obtain ⟨zs, hzs⟩ : ∃ zs, zs = bs.drop at_ := ⟨_, rfl⟩
          rw [← hzs] at hk1 hc0 m2 hlen hcc GT hcut
          have HDD := Aside0.mk (show zs.drop m = bs.drop (at_ + m) by rw [hzs, List.drop_drop])
          obtain ⟨L2, hL2⟩ : ∃ L, (zs.drop m).length = L := ⟨_, rfl⟩
          rw [hL2] at hk1 hcut
          replace hzs := Aside0.mk hzs
          replace hL2 := Aside0.mk hL2
          have hd : decide (most < x) = false := decide_eq_false (by omega)
          have hd2 : decide (most < 0) = false := decide_eq_false (by omega)
          have hxm : x ≤ 9223372036854775807 := by omega
          clear ht RR
          go_enter Try.func32, Try.ntmps32
          go_wp2_with (go_at_call 35; (with_reducible refine GT.out.mono ?_); rintro e1 w1 ⟨rfl, ⟨⟨nq, rfl⟩⟩⟩)
          go_ret
          refine ⟨rfl, ⟨A', c - m, ?_⟩, (((KP.refl q q w).set_g _ _).set_g _ _).drewN nq⟩
          have h1 := hcut.out.drewN nq
          rw [HDD.out] at h1
          exact h1
      · rw [if_neg h0, if_neg (by simp), if_pos (by omega)]
        have RB := Aside0.mk (RR.out.bad_ 42)
        generalize bs.drop at_ = zs at hc0 hlen hcc GT RB ⊢
        have hd2 : decide (most < 0) = true := decide_eq_true (by omega)
        clear RR
        go_enter Try.func32, Try.ntmps32
        go_wp2_with (go_at_call 35; (with_reducible refine GT.out.mono ?_); rintro e1 w1 ⟨rfl, ⟨⟨nq, rfl⟩⟩⟩)
        go_ret
        exact ⟨rfl, ⟨A, c, RB.out.drewN nq⟩, ((KP.refl q q w).set_g _ _).drewN nq⟩
    · rw [if_pos he, if_pos he]
      have hE : (if 0 ≤ most then ((0 : Int), at_, e) else (0, at_, e)) = (0, at_, e) := by split <;> rfl
      rw [hE]
      obtain ⟨rfl, rfl⟩ := er he
      have he1 : (e == 0) = false := beq_eq_false_iff_ne.2 he
      have he2 : (e != 0) = true := bne_iff_ne.2 he
      have RB := Aside0.mk (RR.out.bad_ e)
      clear ok1 ok2 er hE
      replace he := Aside0.mk he
      generalize bs.drop at_ = zs at hc0 hlen hcc GT RB ⊢
      clear RR
      go_enter Try.func32, Try.ntmps32
      go_wp2_with (go_at_call 35; (with_reducible refine GT.out.mono ?_); rintro e1 w1 ⟨rfl, ⟨⟨nq, rfl⟩⟩⟩)
      go_ret
      exact ⟨rfl, ⟨A, c, RB.out.drewN nq⟩, ((KP.refl q q w).set_g _ _).drewN nq⟩
  · have hr : rN bs at_ bad most = (0, at_, bad) := by unfold rN; split <;> rw [rtake_bad hb]
    rw [hr]
    have hb0 : (bad != 0) = true := bne_iff_ne.2 hb
    have RR := Aside0.mk R
    clear R hr
    go_enter Try.func32, Try.ntmps32
    go_wp2
    go_ret
    exact ⟨rfl, ⟨A, c, RR.out⟩, KP.refl _ _ _⟩

end Go.Proofs.Ytbepmlgpapdnpaa.PX
