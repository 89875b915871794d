-- by this session's xprint.py over the kit's print
import Derived.Test.YtbepmlgpapdnpaaPX0
import Derived.Test.YtbepmlgpapdnpaaPXFgroww
import Derived.Test.YtbepmlgpapdnpaaPXFwirePutU
import Derived.Test.YtbepmlgpapdnpaaPXFvplain
import Derived.Test.YtbepmlgpapdnpaaPXFrdstate
import Derived.Test.YtbepmlgpapdnpaaPXFvgetok
import Derived.Test.YtbepmlgpapdnpaaPXFtake
import Derived.Test.YtbepmlgpapdnpaaPXFreaderus
import Derived.Test.YtbepmlgpapdnpaaPXFreadern
import Derived.Test.YtbepmlgpapdnpaaPXFreaderend
import Derived.Test.YtbepmlgpapdnpaaPXFreadernew
import Derived.Test.YtbepmlgpapdnpaaPXFspillwaylaw04fixed
namespace Go.Proofs.Ytbepmlgpapdnpaa.PX
open Go.RowKit Go.Proofs.YtbepmlgpapdnpaaW.PrintWords Go.Proofs.YtbepmlgpapdnpaaW.PrintLast Go.Proofs.YtbepmlgpapdnpaaW.PrintMore
attribute [local go_sem] max2_int min2_int max_two min_two max_three min_three max_four min_four   -- for this text's walks alone
set_option linter.unusedVariables false
set_option linter.unusedSimpArgs false

/-! ### spillwaylaw04_WireForms: function 6 -/
theorem pow128_pos (n : Nat) : (0 : Int) < 128 ^ n := Int.pow_pos (by decide)
/-- What a taken number's bytes are: its form. -/
theorem vgo_form : ∀ (l : List Int) (n : Nat) (x : Int), (∀ v ∈ l, 0 ≤ v ∧ v < 256) → (vgo l n x).2.2 = 0 → ∃ y m : Nat, (vgo l n x).1 = x + (y : Int) * 128 ^ n ∧ (vgo l n x).2.1 = (n : Int) + m ∧ 1 ≤ m ∧ m ≤ l.length ∧ uform y = l.take m ∧ (0 < n → 0 < y)
  | [], n, x, _, h => by simp [vgo] at h
  | v :: r, n, x, hv, h => by
    obtain ⟨v0, v1⟩ := hv v List.mem_cons_self
    rw [vgo] at h ⊢
    by_cases a : n = 9 ∧ 1 < v
    · rw [if_pos a] at h; exact absurd h (by decide)
    · rw [if_neg a] at h ⊢
      obtain ⟨k, rfl⟩ := Int.eq_ofNat_of_zero_le v0
      by_cases b : (k : Int) < 128
      · rw [if_pos b] at h ⊢
        by_cases c : 0 < n ∧ (k : Int) = 0
        · rw [if_pos c] at h; exact absurd h (by decide)
        · rw [if_neg c] at h ⊢
          exact ⟨k, 1, rfl, rfl, by omega, by simp, by rw [uform_lt (by omega)]; rfl, fun hn => by omega⟩
      · rw [if_neg b] at h ⊢
        obtain ⟨y, m, e1, e2, e3, e4, e5, e6⟩ := vgo_form r (n + 1) _ (fun u hu => hv u (List.mem_cons_of_mem _ hu)) h
        have hy := e6 (by omega)
        refine ⟨(k - 128) + 128 * y, m + 1, ?_, by rw [e2]; omega, by omega, by simp; omega, ?_, fun _ => by omega⟩
        · rw [e1, Int.pow_succ]
          have h1 : ((k - 128 + 128 * y : Nat) : Int) = ((k : Int) - 128) + 128 * y := by omega
          rw [h1, Int.add_mul, Int.mul_comm (128 ^ n : Int) 128, ← Int.mul_assoc, Int.mul_comm (y : Int) 128]
          omega
        · rw [uform_ge (by omega), show (k - 128 + 128 * y) / 128 = y by omega, e5, List.take_succ_cons]
          congr 1
          omega
theorem vget_form (l : List Int) (hv : ∀ v ∈ l, 0 ≤ v ∧ v < 256) (h : (vget l).2.2 = 0) : ∃ y m : Nat, (vget l).1 = y ∧ (vget l).2.1 = m ∧ 1 ≤ m ∧ m ≤ l.length ∧ uform y = l.take m := by
  obtain ⟨y, m, e1, e2, e3, e4, e5, _⟩ := vgo_form l 0 0 hv h
  refine ⟨y, m, by rw [vget, e1]; simp, by rw [vget, e2]; simp, e3, e4, e5⟩
/-- A form is taken again, whatever stands behind it. -/
theorem vgo_back : ∀ (y : Nat) (n : Nat) (x : Int) (rest : List Int), n ≤ 9 → (y : Int) * 128 ^ n < 18446744073709551616 → (0 < n → 0 < y) → vgo (uform y ++ rest) n x = (x + (y : Int) * 128 ^ n, (n : Int) + (uform y).length, 0) := by
  intro y
  induction y using Nat.strongRecOn with
  | _ y ih =>
    intro n x rest hn hlt hpos
    have n9 : n = 9 → y ≤ 1 := by
      intro e
      subst e
      rw [show (128 : Int) ^ 9 = 9223372036854775808 by decide] at hlt
      omega
    by_cases hy : y < 128
    · rw [uform_lt hy, List.singleton_append, vgo, if_neg (by intro h; have := n9 h.1; omega), if_pos (by omega), if_neg (by intro h; have := hpos h.1; omega)]
      simp
    · have h8 : n ≤ 8 := by
        rcases Nat.lt_or_ge n 9 with h | h
        · omega
        · have := n9 (by omega); omega
      rw [uform_ge hy, List.cons_append, vgo, if_neg (by omega), if_neg (by omega)]
      have hd : (y : Int) = ((y % 128 : Nat) : Int) + 128 * ((y / 128 : Nat) : Int) := by omega
      have hm : (y : Int) * 128 ^ n = ((y % 128 : Nat) : Int) * 128 ^ n + ((y / 128 : Nat) : Int) * 128 ^ (n + 1) := by
        rw [Int.pow_succ, Int.mul_comm (128 ^ n : Int) 128, ← Int.mul_assoc, Int.mul_comm ((y / 128 : Nat) : Int) 128, ← Int.add_mul, ← hd]
      have hp : 0 ≤ ((y % 128 : Nat) : Int) * 128 ^ n := Int.mul_nonneg (by omega) (Int.le_of_lt (pow128_pos n))
      rw [ih (y / 128) (by omega) (n + 1) _ rest (by omega) (by omega) (fun _ => by omega)]
      simp only [Prod.mk.injEq, List.length_cons, and_true]
      refine ⟨?_, by omega⟩
      rw [hm, show ((y % 128 + 128 : Nat) : Int) - 128 = ((y % 128 : Nat) : Int) by omega]
      omega
theorem vget_back (y : Nat) (rest : List Int) (h : y < 18446744073709551616) : vget (uform y ++ rest) = ((y : Int), ((uform y).length : Int), (0 : Int)) := by
  rw [vget, vgo_back y 0 0 rest (by omega) (by rw [Int.pow_zero, Int.mul_one]; omega) (fun h => by omega)]
  simp
/-- A form cut short. -/
theorem vgo_short : ∀ (y : Nat) (n : Nat) (x : Int), n ≤ 9 → (y : Int) * 128 ^ n < 18446744073709551616 → vgo (uform y).dropLast n x = (0, 0, 40) := by
  intro y
  induction y using Nat.strongRecOn with
  | _ y ih =>
    intro n x hn hlt
    by_cases hy : y < 128
    · rw [uform_lt hy]; rfl
    · have h8 : n ≤ 8 := by
        rcases Nat.lt_or_ge n 9 with h | h
        · omega
        · have e : n = 9 := by omega
          subst e
          rw [show (128 : Int) ^ 9 = 9223372036854775808 by decide] at hlt
          omega
      have hne : uform (y / 128) ≠ [] := fun h => by have := uform_pos (y / 128); rw [h] at this; simp at this
      rw [uform_ge hy, List.dropLast_cons_of_ne_nil hne, vgo, if_neg (by omega), if_neg (by omega)]
      have hd : (y : Int) = ((y % 128 : Nat) : Int) + 128 * ((y / 128 : Nat) : Int) := by omega
      have hm : (y : Int) * 128 ^ n = ((y % 128 : Nat) : Int) * 128 ^ n + ((y / 128 : Nat) : Int) * 128 ^ (n + 1) := by
        rw [Int.pow_succ, Int.mul_comm (128 ^ n : Int) 128, ← Int.mul_assoc, Int.mul_comm ((y / 128 : Nat) : Int) 128, ← Int.add_mul, ← hd]
      have hp : 0 ≤ ((y % 128 : Nat) : Int) * 128 ^ n := Int.mul_nonneg (by omega) (Int.le_of_lt (pow128_pos n))
      exact ih (y / 128) (by omega) (n + 1) _ (by omega) (by omega)
theorem vget_short (y : Nat) (h : y < 18446744073709551616) : vget (uform y).dropLast = (0, 0, 40) := by
  rw [vget, vgo_short y 0 0 (by omega) (by rw [Int.pow_zero, Int.mul_one]; omega)]
theorem uform_bytes : ∀ (y : Nat), ∀ v ∈ uform y, 0 ≤ v ∧ v < 256 := by
  intro y
  induction y using Nat.strongRecOn with
  | _ y ih =>
    by_cases hy : y < 128
    · rw [uform_lt hy]; intro v hv; rw [List.mem_singleton.1 hv]; omega
    · rw [uform_ge hy]
      intro v hv
      rcases List.mem_cons.1 hv with rfl | hv
      · omega
      · exact ih (y / 128) (by omega) v hv
theorem rtake_err {bs : List Int} {at_ : Nat} {bad top : Int} (h : (rtake bs at_ bad top).2.2 ≠ 0) : (rtake bs at_ bad top).1 = 0 ∧ (rtake bs at_ bad top).2.1 = at_ := by
  unfold rtake at h ⊢
  split
  · exact ⟨rfl, rfl⟩
  · rename_i h1
    rw [if_neg h1] at h
    split
    · exact ⟨rfl, rfl⟩
    · rename_i h2
      rw [if_neg h2] at h
      split
      · exact ⟨rfl, rfl⟩
      · rename_i h3
        rw [if_neg h3] at h
        exact absurd rfl h
theorem rtake_ok {bs : List Int} {at_ : Nat} {top : Int} (hv : ∀ v ∈ bs, 0 ≤ v ∧ v < 256) (h : (rtake bs at_ 0 top).2.2 = 0) : ∃ y m : Nat, (rtake bs at_ 0 top).1 = y ∧ (rtake bs at_ 0 top).2.1 = at_ + m ∧ 1 ≤ m ∧ m ≤ bs.length - at_ ∧ uform y = (bs.drop at_).take m := by
  unfold rtake at h ⊢
  rw [if_neg (by simp)] at h ⊢
  by_cases h2 : (vget (bs.drop at_)).2.2 = 0
  · rw [if_neg (not_not_intro h2)] at h ⊢
    by_cases h3 : (vget (bs.drop at_)).1 > top
    · rw [if_pos h3] at h; exact absurd (show (42 : Int) = 0 from h) (by decide)
    · rw [if_neg h3]
      obtain ⟨y, m, e1, e2, e3, e4, e5⟩ := vget_form (bs.drop at_) (fun v hv2 => hv v (List.mem_of_mem_drop hv2)) h2
      exact ⟨y, m, e1, by show at_ + (vget (bs.drop at_)).2.1.toNat = _; rw [e2]; rfl, e3, by rw [List.length_drop] at e4; exact e4, e5⟩
  · rw [if_pos h2] at h
    exact absurd h h2
theorem rtake_bad {bs : List Int} {at_ : Nat} {bad top : Int} (h : bad ≠ 0) : rtake bs at_ bad top = (0, at_, bad) := by rw [rtake, if_pos h]
theorem mid_cut (A0 : Option Addr) (c0 : Nat) (l0 : List Int) (at_ at2 m : Nat) (h2 : at2 = at_ + m) (hl : at2 ≤ l0.length) (hc : l0.length ≤ c0) : ∃ A' : Option Addr, (∀ W : World, (Instr.slice 22 (.slice A0 l0.length c0) (some (.int .i64 (at_ : Int))) (some (.int .i64 (at2 : Int))) none).run Try.prog W = .ok (.slice A' m (c0 - at_)) W) ∧ (∀ w : World, Kd.C (Kd.int .u8) w A0 l0.length l0 → Kd.C (Kd.int .u8) w A' ((l0.drop at_).take m).length ((l0.drop at_).take m)) ∧ ((l0.drop at_).take m).length ≤ c0 - at_ ∧ m = ((l0.drop at_).take m).length := by
  obtain ⟨i0, hi0, hi1⟩ := Option.map_eq_some_iff.1 info5
  have hi2 : i0.size = 1 := by simp only [Prod.mk.injEq] at hi1; exact hi1.2.1
  obtain ⟨A', h3, h4, h5⟩ := print_mid_int (P := Try.prog) (k := .u8) 22 5 Try.underlying22 hi0 hi2 A0 c0 l0 at_ at2 (by omega) (by omega) (by omega) hc
  have e : (l0.take (at2 : Int).toNat).drop (at_ : Int).toNat = (l0.drop at_).take m := by
    rw [Int.toNat_natCast, Int.toNat_natCast, h2, List.drop_take]; congr 1; omega
  have hm : m = ((l0.drop at_).take m).length := by rw [List.length_take, List.length_drop]; omega
  rw [e] at h3 h4 h5
  refine ⟨A', fun W => by rw [h3 W, ← hm]; rfl, fun w hw => Kd.C_of_reads (d := (0 : Int)) (h4 w (Kd.reads_of_C (d := (0 : Int)) hw)), h5, hm⟩
def spillwaylaw04_WireForms.f (l0 : List Int) (a1 : Int) : Option Bool := if l0.length < 140737488355328 ∧ (∀ x ∈ l0, 0 ≤ x ∧ x < 256) ∧ 0 ≤ a1 ∧ a1 < 18446744073709551616 then some true else none
set_option maxHeartbeats 8000000 in
set_option maxRecDepth 100000 in
theorem spillwaylaw04_WireForms.calls (A0 : Option Addr) (c0 : Nat) (l0 : List Int) (a1 : Int) (r : Bool) (w : World) (hr0 : Kd.C (Kd.int .u8) w A0 l0.length l0) (hc0 : l0.length ≤ c0) (h : spillwaylaw04_WireForms.f l0 a1 = some r) :
    Calls Try.prog 6 #[.slice A0 l0.length c0, .int .u64 a1] w fun e w' => e = .returned (.bool r) ∧ Below w.heap.size w w' := by
  unfold spillwaylaw04_WireForms.f at h
  split at h
  case isFalse => cases h
  rename_i hh
  obtain ⟨hL, hV, hx0, hx1⟩ := hh
  obtain rfl := Option.some.inj h
  clear h
  obtain ⟨x, rfl⟩ := Int.eq_ofNat_of_zero_le hx0
  have hpn := fun (W : World) (p : Option Addr) => ptr_nil W p
  have hpm := fun (W : World) (p : Option Addr) => ptr_nnil W p
  have HR0 := Aside0.mk hr0
  have HV := Aside0.mk hV
  have NEW := Aside0.mk (readerNew_calls w A0 c0 l0 hr0 hc0 hL hV)
  obtain ⟨i0, hi0, hi1⟩ := Option.map_eq_some_iff.1 info5
  have hi2 : i0.size = 1 := by simp only [Prod.mk.injEq] at hi1; exact hi1.2.1
  replace hi0 := Aside0.mk hi0
  replace hi2 := Aside0.mk hi2
  clear hr0 hV hi1
  have hlen : l0.length ≤ 9223372036854775807 := by omega
  have HX0 := Aside0.mk hx0
  have HX1 := Aside0.mk hx1
  clear hx0 hx1
  go_enter Try.func6, Try.ntmps6
  go_wp2_with fail
  refine NEW.out.mono ?_
  rintro e w1 ⟨g, h, A, c, rfl, hRD, hB1, hg, hh, _⟩
  have R1 := Aside0.mk hRD
  have B1 := Aside0.mk hB1
  have S1 := Aside0.mk hg
  have S2 := Aside0.mk hh
  clear hRD hB1 hg hh NEW
  go_wp2_with fail
  refine (spillwaylaw04_fixed.calls true w1 rfl).mono ?_
  rintro e w2 ⟨rfl, hB2⟩
  have R2 := Aside0.mk (R1.out.keep (fun i hi => hB2.block i hi))
  have B2 := Aside0.mk (below_two B1.out hB2)
  clear hB2 R1 B1
  go_wp2_with fail
  go_loopw [6] (fun iv w3 => ∃ (i at_ : Nat), iv = .int .i64 i ∧ i ≤ 50 ∧ Aside0 (RD w3 g h A c l0 at_ 0) ∧ Aside0 (Below w.heap.size w w3)) (fun iv _ => 50 - (intOf iv).toNat)
  case atStart => exact ⟨0, 0, rfl, by omega, R2, B2⟩
  case round =>
    obtain ⟨i, at_, rfl, hi, RR, BB⟩ := hrel
    by_cases hlt : i < 50
    · have hat := RR.out.hat
      go_wp2_with fail
      refine (readerLeft_calls _ g h A c l0 at_ 0 RR.out).mono ?_
      rintro e w4 ⟨rfl, ⟨⟨n4, rfl⟩⟩⟩
      go_wp2_with fail
      have hE1 : (l0.length : Int) - ((l0.length : Int) - (at_ : Int)) = at_ := by omega
      rw [hE1]
      have R4 := RR.out.drewN n4
      have KU := readerU_calls (wr.drewN n4) g h A c l0 at_ 0 R4
      have ok := rtake_ok (bs := l0) (at_ := at_) (top := 18446744073709551615) HV.out
      have er := rtake_err (bs := l0) (at_ := at_) (bad := 0) (top := 18446744073709551615)
      have rg := rtake_range R4 18446744073709551615 (by omega)
      unfold rU at KU
      generalize rtake l0 at_ 0 18446744073709551615 = t3 at KU ok er rg
      obtain ⟨u, at2, bad2⟩ := t3
      simp only at KU ok er rg
      refine KU.mono ?_
      rintro e w5 ⟨rfl, hR5, hK5⟩
      have B5 := Aside0.mk (KP.below_ (pw_below_drewN BB.out n4) hK5 S1.out S2.out)
      clear KU R4 hK5 BB RR
      by_cases hb2 : bad2 = 0
      · subst hb2
        clear er
        obtain ⟨y, m, rfl, hat2, hm1, hm2, hfm⟩ := ok rfl
        obtain ⟨_, hy1, _, hat3, _⟩ := rg
        obtain ⟨A', hc1, hc2, hc3, hc4⟩ := mid_cut A0 c0 l0 at_ at2 m hat2 hat3 hc0
        rw [← hfm] at hc2 hc3 hc4
        have hE2 : (l0.length : Int) - ((l0.length : Int) - (at2 : Int)) = at2 := by omega
        have hlt2 : (at_ : Int) < at2 := by omega
        have R5 := Aside0.mk hR5
        have HC2 := Aside0.mk hc2
        have HC3 := Aside0.mk hc3
        have HC4 := Aside0.mk hc4
        have y0 := Aside0.mk (show (0 : Int) ≤ (y : Int) by omega)
        have y1 := Aside0.mk hy1
        clear hy1
        clear ok hR5 hc2 hc3 hc4 hat2 hfm hE1
        go_wp2_with fail
        refine (readerErr_calls w5 g h A c l0 at2 0 R5.out).mono ?_
        rintro e w6 ⟨rfl, rfl⟩
        go_wp2_with fail
        refine (readerLeft_calls w5 g h A c l0 at2 0 R5.out).mono ?_
        rintro e w6 ⟨rfl, ⟨⟨n6, rfl⟩⟩⟩
        go_wp2_with fail
        refine (readerLeft_calls _ g h A c l0 at2 0 (R5.out.drewN n6)).mono ?_
        rintro e w6 ⟨rfl, ⟨⟨n7, rfl⟩⟩⟩
        go_wp2_with fail
        refine (putU_n none 0 0 [] y _ rfl (C_nil0 _) (by decide) y0.out y1.out (by decide)).mono ?_
        rintro e w8 ⟨v8, rfl, hR8, hB8⟩
        rw [List.nil_append, Int.toNat_natCast] at hR8
        obtain ⟨A8, c8, rfl, hc8⟩ := own_slice' hR8
        have B8 := Aside0.mk (below_two (pw_below_drewN B5.out (n6 + n7)) hB8)
        have R9 := Aside0.mk ((R5.out.drewN (n6 + n7)).keep (fun i hi => hB8.block i hi))
        have R8 := Aside0.mk hR8
        clear hR8 hB8 R5 B5
        go_wp2_with fail
        refine (readerLeft_calls _ g h A c l0 at2 0 R9.out).mono ?_
        rintro e w9 ⟨rfl, ⟨⟨n9, rfl⟩⟩⟩
        go_wp2_with fail
        refine (same_calls_refl A8 c8 (uform y) A' _ _ _ _ rfl HC4.out (Kd.C_below (Kd.R_reads_row R8.out hc8) (pw_below_drewN (Below.refl _ _) _)) hc8 (HC2.out _ (Kd.C_below HR0.out (pw_below_drewN B8.out _))) HC3.out).mono ?_
        rintro e w9 ⟨rfl, ⟨⟨n10, rfl⟩⟩⟩
        go_wp2_with fail
        go_roundw
        case rel => exact ⟨i + 1, at2, by go_num, by omega, ⟨R9.out.drewN (n9 + n10)⟩, ⟨pw_below_drewN B8.out (n9 + n10)⟩⟩
        case measure => simp [intOf]; omega
      · obtain ⟨rfl, rfl⟩ := er hb2
        have hb3 : (bad2 != 0) = true := bne_iff_ne.2 hb2
        have R5 := Aside0.mk hR5
        have hb4 := Aside0.mk hb2
        clear ok er rg hb2 hR5
        go_wp2_with fail
        refine (readerErr_calls w5 g h A c l0 at2 bad2 R5.out).mono ?_
        rintro e w6 ⟨rfl, rfl⟩
        go_wp2_with fail
        refine (readerLeft_calls w5 g h A c l0 at2 bad2 R5.out).mono ?_
        rintro e w6 ⟨rfl, ⟨⟨n6, rfl⟩⟩⟩
        go_wp2_with fail
        refine (readerU_calls _ g h A c l0 at2 bad2 (R5.out.drewN n6)).mono ?_
        rw [show rU l0 at2 bad2 = (0, at2, bad2) from rtake_bad hb4.out]
        rintro e w7 ⟨rfl, hR7, hK7⟩
        have R7 := Aside0.mk hR7
        have B7 := Aside0.mk (KP.below_ (pw_below_drewN B5.out n6) hK7 S1.out S2.out)
        clear hR7 hK7 R5 B5
        go_wp2_with fail
        refine (readerS_calls _ g h A c l0 at2 bad2 R7.out).mono ?_
        rw [show rU l0 at2 bad2 = (0, at2, bad2) from rtake_bad hb4.out, show sunfold ((0, at2, bad2) : Int × Nat × Int).1 = 0 from rfl]
        rintro e w8 ⟨rfl, hR8, hK8⟩
        have R8 := Aside0.mk hR8
        have B8 := Aside0.mk (KP.below_ B7.out hK8 S1.out S2.out)
        clear hR8 hK8 R7 B7
        go_wp2_with fail
        refine (readerN_calls _ g h A c l0 at2 bad2 9 R8.out (by decide)).mono ?_
        rw [show rN l0 at2 bad2 9 = (0, at2, bad2) by unfold rN; rw [if_pos (by decide)]; exact rtake_bad hb4.out]
        rintro e w9 ⟨rfl, hR9, hK9⟩
        have BX := Aside0.mk (KP.below_ B8.out hK9 S1.out S2.out)
        clear hR9 hK9 R8 B8
        go_wp2_with fail
        refine (putU_n none 0 0 [] x _ rfl (C_nil0 _) (by decide) HX0.out HX1.out (by decide)).mono ?_
        rintro e wa ⟨va, rfl, hRa, hBa⟩
        rw [List.nil_append, Int.toNat_natCast] at hRa
        obtain ⟨Aa, ca, rfl, hca⟩ := own_slice' hRa
        have Ra := Aside0.mk hRa
        have Ba := Aside0.mk (below_two BX.out hBa)
        have hup := uform_pos x
        have hup2 := uform_len64 (x := x) (by have := HX1.out; omega)
        obtain ⟨hk1, hk2, hk3⟩ := print_take_int (P := Try.prog) (k := .u8) 22 5 Try.underlying22 hi0.out hi2.out Aa ca (uform x) (((uform x).length : Int) - 1) (by omega) (by omega) hca
        have hdl : (uform x).take (((uform x).length : Int) - 1).toNat = (uform x).dropLast := by rw [List.dropLast_eq_take]; congr 1; omega
        rw [hdl] at hk1 hk2 hk3
        have hk4 := Kd.C_of_reads (d := (0 : Int)) (h1 := fun _ => rfl) (hk2 wa (Kd.reads_of_C (d := (0 : Int)) (Kd.R_reads_row Ra.out hca)))
        have hk5 : ((uform x).dropLast.length : Int) = ((uform x).length : Int) - 1 := by rw [List.length_dropLast]; omega
        have hvs := vget_short x (by have := HX1.out; omega)
        have hbd := fun v (hv : v ∈ (uform x).dropLast) => uform_bytes x v (List.mem_of_mem_take (by rwa [List.dropLast_eq_take] at hv))
        have HK4 := Aside0.mk hk4
        have HK3 := Aside0.mk hk3
        have HVS := Aside0.mk hvs
        have HBD := Aside0.mk hbd
        generalize (uform x).dropLast = dl at hk1 hk5 HK4 HK3 HVS HBD
        have hdl0 : (dl.length : Int) - ((0 : Nat) : Int) = ((uform x).length : Int) - 1 := by omega
        have hdl1 : dl.length < 140737488355328 := by omega
        obtain ⟨L, hLL⟩ : ∃ L, (uform x).length = L := ⟨_, rfl⟩
        rw [hLL] at hk1 hup hup2 hdl0
        rw [hLL]
        have hk6 : ((L : Int) == 0) = false := beq_eq_false_iff_ne.2 (by omega)
        replace hdl0 := Aside0.mk hdl0
        clear hRa hBa hdl hk2 hk3 hk4 hk5 hvs hbd Ra
        go_wp2_with fail
        refine (readerNew_n wa Aa dl.length ca dl rfl HK4.out HK3.out hdl1 HBD.out).mono ?_
        rintro e wb ⟨gb, hb_, Ab, cb, rfl, hRb, hBb, hgb, hhb, _⟩
        have Bb := Aside0.mk (below_two Ba.out hBb)
        have Rb := Aside0.mk hRb
        have Sb1 := Aside0.mk (Nat.le_trans Ba.out.size hgb)
        have Sb2 := Aside0.mk (Nat.le_trans Ba.out.size hhb)
        clear hRb hBb hgb hhb
        go_wp2_with fail
        refine (readerU_calls wb gb hb_ Ab cb dl 0 0 Rb.out).mono ?_
        rw [show rU dl 0 0 = (0, 0, 40) by unfold rU rtake; rw [if_neg (by simp), List.drop_zero, HVS.out, if_pos (by decide)]]
        rintro e wc ⟨rfl, hRc, hKc⟩
        have Rc := Aside0.mk hRc
        have Bc := Aside0.mk (KP.below_ Bb.out hKc Sb1.out Sb2.out)
        clear hRc hKc Rb Bb
        go_wp2_with fail
        refine (readerErr_calls wc gb hb_ Ab cb dl 0 40 Rc.out).mono ?_
        rintro e wd ⟨rfl, rfl⟩
        go_wp2_with fail
        refine (readerLeft_calls wc gb hb_ Ab cb dl 0 40 Rc.out).mono ?_
        rw [hdl0.out]
        rintro e wd ⟨rfl, ⟨⟨nd, rfl⟩⟩⟩
        go_wp2_with fail
        go_ret
        exact ⟨by first | rfl | (refine ret_bool ?_; simp), pw_below_drewN Bc.out _⟩
    · have BX := BB
      clear BB RR
      go_wp2_with fail
      refine (putU_n none 0 0 [] x _ rfl (C_nil0 _) (by decide) HX0.out HX1.out (by decide)).mono ?_
      rintro e wa ⟨va, rfl, hRa, hBa⟩
      rw [List.nil_append, Int.toNat_natCast] at hRa
      obtain ⟨Aa, ca, rfl, hca⟩ := own_slice' hRa
      have Ra := Aside0.mk hRa
      have Ba := Aside0.mk (below_two BX.out hBa)
      have hup := uform_pos x
      have hup2 := uform_len64 (x := x) (by have := HX1.out; omega)
      obtain ⟨hk1, hk2, hk3⟩ := print_take_int (P := Try.prog) (k := .u8) 22 5 Try.underlying22 hi0.out hi2.out Aa ca (uform x) (((uform x).length : Int) - 1) (by omega) (by omega) hca
      have hdl : (uform x).take (((uform x).length : Int) - 1).toNat = (uform x).dropLast := by rw [List.dropLast_eq_take]; congr 1; omega
      rw [hdl] at hk1 hk2 hk3
      have hk4 := Kd.C_of_reads (d := (0 : Int)) (h1 := fun _ => rfl) (hk2 wa (Kd.reads_of_C (d := (0 : Int)) (Kd.R_reads_row Ra.out hca)))
      have hk5 : ((uform x).dropLast.length : Int) = ((uform x).length : Int) - 1 := by rw [List.length_dropLast]; omega
      have hvs := vget_short x (by have := HX1.out; omega)
      have hbd := fun v (hv : v ∈ (uform x).dropLast) => uform_bytes x v (List.mem_of_mem_take (by rwa [List.dropLast_eq_take] at hv))
      have HK4 := Aside0.mk hk4
      have HK3 := Aside0.mk hk3
      have HVS := Aside0.mk hvs
      have HBD := Aside0.mk hbd
      generalize (uform x).dropLast = dl at hk1 hk5 HK4 HK3 HVS HBD
      have hdl0 : (dl.length : Int) - ((0 : Nat) : Int) = ((uform x).length : Int) - 1 := by omega
      have hdl1 : dl.length < 140737488355328 := by omega
      obtain ⟨L, hLL⟩ : ∃ L, (uform x).length = L := ⟨_, rfl⟩
      rw [hLL] at hk1 hup hup2 hdl0
      rw [hLL]
      have hk6 : ((L : Int) == 0) = false := beq_eq_false_iff_ne.2 (by omega)
      replace hdl0 := Aside0.mk hdl0
      clear hRa hBa hdl hk2 hk3 hk4 hk5 hvs hbd Ra
      go_wp2_with fail
      refine (readerNew_n wa Aa dl.length ca dl rfl HK4.out HK3.out hdl1 HBD.out).mono ?_
      rintro e wb ⟨gb, hb_, Ab, cb, rfl, hRb, hBb, hgb, hhb, _⟩
      have Bb := Aside0.mk (below_two Ba.out hBb)
      have Rb := Aside0.mk hRb
      have Sb1 := Aside0.mk (Nat.le_trans Ba.out.size hgb)
      have Sb2 := Aside0.mk (Nat.le_trans Ba.out.size hhb)
      clear hRb hBb hgb hhb
      go_wp2_with fail
      refine (readerU_calls wb gb hb_ Ab cb dl 0 0 Rb.out).mono ?_
      rw [show rU dl 0 0 = (0, 0, 40) by unfold rU rtake; rw [if_neg (by simp), List.drop_zero, HVS.out, if_pos (by decide)]]
      rintro e wc ⟨rfl, hRc, hKc⟩
      have Rc := Aside0.mk hRc
      have Bc := Aside0.mk (KP.below_ Bb.out hKc Sb1.out Sb2.out)
      clear hRc hKc Rb Bb
      go_wp2_with fail
      refine (readerErr_calls wc gb hb_ Ab cb dl 0 40 Rc.out).mono ?_
      rintro e wd ⟨rfl, rfl⟩
      go_wp2_with fail
      refine (readerLeft_calls wc gb hb_ Ab cb dl 0 40 Rc.out).mono ?_
      rw [hdl0.out]
      rintro e wd ⟨rfl, ⟨⟨nd, rfl⟩⟩⟩
      go_wp2_with fail
      go_ret
      exact ⟨by first | rfl | (refine ret_bool ?_; simp), pw_below_drewN Bc.out _⟩

/-- THE ONE PURE STATEMENT of spillwaylaw04_WireForms: yours. -/
def spillwaylaw04_WireForms.Pure : Prop := ∀ (l0 : List Int) (a1 : Int), l0.length ≤ maxLen → l0.length * 1 ≤ 140737488351232 → (∀ x ∈ l0, (Lit.int .u8 x).wf = true) → (Lit.int .u64 a1).wf = true → spillwaylaw04_WireForms.f l0 a1 = some true
theorem spillwaylaw04_WireForms.walk (P : spillwaylaw04_WireForms.Pure) (a0 : Option Addr) (len0 cap0 : Nat) (z0 : List Int) (a1 : Int) (w : World) (w0 : (a0 = none ∧ len0 = 0 ∧ cap0 = 0 ∧ z0 = []) ∨ ∃ x, a0 = some x ∧ len0 ≤ cap0 ∧ cap0 ≤ maxLen ∧ z0.length = cap0 ∧ (∀ i, i < z0.length → w.cell? (x.add i) = some (.int .u8 (z0.getD i 0))) ∧ ∀ n ∈ z0, (Lit.int .u8 n).wf = true) (y0 : len0 * 1 ≤ 140737488351232) (w1 : (Lit.int .u64 a1).wf = true) :
    Calls Try.prog 6 #[.slice a0 len0 cap0, .int .u64 a1] w fun e w' => e = .returned (.bool true) ∧ Below w.heap.size w w' := by
  obtain ⟨l0, rfl, hr0, hm0, hw0, hc0⟩ := ReadsInt.ofRowC w0
  have h := P l0 a1 hm0 y0 hw0 w1
  refine (spillwaylaw04_WireForms.calls _ _ l0 a1 true w (Kd.C_of_reads (d := (0 : Int)) (h1 := fun _ => rfl) hr0) hc0 h).mono ?_
  rintro e w' ⟨rfl, hd⟩
  exact ⟨rfl, hd⟩

end Go.Proofs.Ytbepmlgpapdnpaa.PX
