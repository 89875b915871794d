-- by this session's xprint.py over the kit's print
import Derived.Test.YtbepmlgpapdnpaaPX0
import Derived.Test.YtbepmlgpapdnpaaPXFvplain
import Derived.Test.YtbepmlgpapdnpaaPXFrotl
import Derived.Test.YtbepmlgpapdnpaaPXFrdstate
namespace Go.Proofs.Ytbepmlgpapdnpaa.PX
open Go.RowKit Go.Proofs.YtbepmlgpapdnpaaW.PrintWords Go.Proofs.YtbepmlgpapdnpaaW.PrintLast Go.Proofs.YtbepmlgpapdnpaaW.PrintMore
attribute [local go_sem] max2_int min2_int max_two min_two max_three min_three max_four min_four   -- for this text's walks alone
set_option linter.unusedVariables false
set_option linter.unusedSimpArgs false

/-! ### peek: function 28 -/
set_option maxHeartbeats 8000000 in
set_option maxRecDepth 100000 in
theorem peek_calls (w : World) (g h : Nat) (A : Option Addr) (c : Nat) (bs : List Int) (at_ : Nat) (bad : Int) (R : RD w g h A c bs at_ bad) :
    Calls Try.prog 34 #[.pointer (some ⟨h, 0, none⟩)] w fun e w' => e = .returned (.tuple #[.int .u64 (vget (bs.drop at_)).1, .int .i64 (vget (bs.drop at_)).2.1, .int .i64 (vget (bs.drop at_)).2.2]) ∧ Drawn0 w w' := by
  obtain ⟨i0, hi0, hi1⟩ := Option.map_eq_some_iff.1 info5
  have hi2 : i0.size = 1 := by simp only [Prod.mk.injEq] at hi1; exact hi1.2.1
  obtain ⟨A1, hcut, hC1⟩ := print_cut (P := Try.prog) 22 5 .i64 Try.underlying22 hi0 hi2 A bs.length c at_ R.hat
  have hc0 := blk_cell R.hh 0
  have hc1 := blk_cell R.hh 1
  simp only [List.getElem?_toArray, List.getElem?_cons_zero, List.getElem?_cons_succ] at hc0 hc1
  have hlen := R.hlen
  have hat := R.hat
  have RR := Aside0.mk R
  replace hC1 := Aside0.mk hC1
  clear R hi1 hi0 hi2
  go_enter Try.func34, Try.ntmps34
  go_wp2
  go_quiet (fail)
  go_wp2
  have hL := Aside0.mk (show bs.length - at_ = (bs.drop at_).length by rw [List.length_drop])
  go_loop [5, 18] (fun v5 i => ∃ (n : Nat) (x : Int), i = .int .i64 n ∧ v5 = .int .u64 x ∧ n ≤ bs.length - at_ ∧ n ≤ 9 ∧ 0 ≤ x ∧ Aside0 (x < 128 ^ n) ∧ Aside0 (vgo ((bs.drop at_).drop n) n x = vget (bs.drop at_))) (fun _ i => (bs.length - at_) - (intOf i).toNat)
  case atStart => exact ⟨0, 0, rfl, rfl, Nat.zero_le _, by omega, by omega, ⟨by decide⟩, ⟨rfl⟩⟩
  case round =>
    obtain ⟨n, x, rfl, rfl, hn, hn9, hx0, hx, hv⟩ := hrel
    by_cases hlt : n < bs.length - at_
    · obtain ⟨ad, rfl, hcell⟩ := (hC1.out w .u8 bs RR.out.hc (Kd.reads_of_C (d := (0 : Int)) RR.out.hr)).at_ n (by omega) (by omega)
      rw [Int.toNat_natCast] at hcell
      have hnl : n < (bs.drop at_).length := by have := hL.out; omega
      have hd : (bs.drop at_).drop n = rd (bs.drop at_) n :: (bs.drop at_).drop (n + 1) := by
        rw [List.drop_eq_getElem_cons hnl, rd, Int.toNat_natCast]; simp [List.getD, List.getElem?_eq_getElem hnl]
      have hvb : 0 ≤ rd (bs.drop at_) n ∧ rd (bs.drop at_) n < 256 := by
        refine RR.out.hb _ (List.mem_of_mem_drop (i := at_) (List.mem_of_mem_drop (i := n) ?_))
        rw [hd]; exact List.mem_cons_self
      obtain ⟨v, hvv⟩ : ∃ v, rd (bs.drop at_) n = v := ⟨_, rfl⟩
      rw [hvv] at hcell hd hvb
      clear hvv
      have hv2 := hv.out
      rw [hd, vgo] at hv2
      obtain ⟨hv0, hv1⟩ := hvb
      clear hd hv hnl
      by_cases h9 : n = 9 ∧ 1 < v
      · rw [if_pos h9] at hv2
        obtain ⟨h90, h91⟩ := h9
        have hb9 : ((n : Int) == 9) = true := beq_iff_eq.2 (by omega)
        replace hv2 := Aside0.mk hv2
        replace h90 := Aside0.mk h90
        clear hx hC1
        go_wp2
        go_ret3
        exact ⟨by rw [← hv2.out]; rfl, by repeat (first | exact Drawn0.refl _ | apply Drawn0.step)⟩
      · rw [if_neg h9] at hv2
        obtain ⟨y, hy⟩ : ∃ y, y = v % 128 := ⟨_, rfl⟩
        have hy0 : 0 ≤ y := by omega
        have hy1 : y ≤ 127 := by omega
        have hA := and127 hv0 hv1
        rw [← hy] at hA
        have hp1 : (1 : Int) ≤ 128 ^ n := by have := Int.pow_pos (n := 128) (m := n) (by decide); omega
        have hyp : y * 128 ^ n < 18446744073709551616 := by
          by_cases h99 : n = 9
          · subst h99
            have : y ≤ 1 := by omega
            have h5 : (128 : Int) ^ 9 = 9223372036854775808 := by decide
            rw [h5]; omega
          · have h6 : (128 : Int) ^ n ≤ 128 ^ 8 := pow128_le (by omega)
            have h5 : (128 : Int) ^ 8 = 72057594037927936 := by decide
            rw [h5] at h6
            have h7 : y * 128 ^ n ≤ 127 * 72057594037927936 := Int.le_trans (Int.mul_le_mul_of_nonneg_right hy1 (by omega)) (Int.mul_le_mul_of_nonneg_left h6 (by omega))
            omega
        have hyq : 0 ≤ y * 128 ^ n := Int.mul_nonneg hy0 (by omega)
        have hO := or64 hn9 hx0 hx.out hy0 hyp
        have hR := Aside0.mk (rotl_calls n hn9 y hy0 hy1 hyp)
        obtain ⟨q, hq⟩ : ∃ q, q = y * 128 ^ n := ⟨_, rfl⟩
        rw [← hq] at hO hyp hyq hR
        obtain ⟨x2, hx2⟩ : ∃ x2, x2 = x + q := ⟨_, rfl⟩
        rw [← hx2] at hO
        have hx20 : 0 ≤ x2 := by omega
        replace hq := Aside0.mk hq
        replace hx2 := Aside0.mk hx2
        replace hy := Aside0.mk hy
        clear hp1 hC1
        by_cases hv8 : v < 128
        · rw [if_pos hv8] at hv2
          have hyv : y = v := by have := hy.out; omega
          by_cases hz : 0 < n ∧ v = 0
          · rw [if_pos hz] at hv2
            replace hv2 := Aside0.mk hv2
            obtain ⟨hz0, rfl⟩ := hz
            replace hyv := Aside0.mk hyv
            replace h9 := Aside0.mk h9
            have hb9 : ((n : Int) == 9) = true ∨ ((n : Int) == 9) = false := by cases ((n : Int) == 9) <;> simp
            rcases hb9 with hb9 | hb9
            all_goals go_wp2_with (go_at_call 37; (with_reducible refine (hR.out _).mono ?_); rintro e w1 ⟨rfl, rfl⟩)
            all_goals
              go_ret3
              exact ⟨by rw [← hv2.out]; rfl, by repeat (first | exact Drawn0.refl _ | apply Drawn0.step)⟩
          · rw [if_neg hz] at hv2
            have hres : (x2, ((n : Int) + 1), (0 : Int)) = vget (bs.drop at_) := by rw [← hv2, hx2.out, hq.out, hyv]
            replace hres := Aside0.mk hres
            replace hyv := Aside0.mk hyv
            replace h9 : ((n : Int) == 9) = false ∨ (((n : Int) == 9) = true ∧ v ≤ 1) := by
              by_cases h99 : n = 9
              · exact .inr ⟨beq_iff_eq.2 (by omega), by omega⟩
              · exact .inl (beq_eq_false_iff_ne.2 (by omega))
            replace hz : (n : Int) ≤ 0 ∨ (0 < (n : Int) ∧ 0 < v) := by omega
            clear hv2
            rcases hz with hz1 | ⟨hz1, hz2⟩ <;> rcases h9 with h9 | ⟨h9, h91⟩
            all_goals
              go_wp2_with (go_at_call 37; (with_reducible refine (hR.out _).mono ?_); rintro e w1 ⟨rfl, rfl⟩)
              all_goals
                go_ret3
                exact ⟨by rw [← hres.out]; rfl, by repeat (first | exact Drawn0.refl _ | apply Drawn0.step)⟩
        · rw [if_neg hv8] at hv2
          have hn8 : n ≤ 8 := by omega
          have hyv : y = v - 128 := by have := hy.out; omega
          rw [← hyv, ← hq.out, ← hx2.out] at hv2
          have hx2b : x2 < 128 ^ (n + 1) := by
            have h1 := hx.out
            have h2 : q ≤ 127 * 128 ^ n := by rw [hq.out]; exact Int.mul_le_mul_of_nonneg_right hy1 (Int.le_of_lt (Int.pow_pos (by decide)))
            have h3 := hx2.out
            rw [Int.pow_succ]
            omega
          replace hv2 := Aside0.mk hv2
          replace hx2b := Aside0.mk hx2b
          replace hyv := Aside0.mk hyv
          replace h9 := Aside0.mk h9
          have hb9 : ((n : Int) == 9) = false := beq_eq_false_iff_ne.2 (by omega)
          have hge : 128 ≤ v := by omega
          go_wp2_with (go_at_call 37; (with_reducible refine (hR.out _).mono ?_); rintro e w1 ⟨rfl, rfl⟩)
          go_round
          case rel => exact ⟨n + 1, x2, by go_num, rfl, by omega, by omega, hx20, hx2b, hv2⟩
          case measure => simp [intOf]; omega
    · obtain rfl : n = bs.length - at_ := by omega
      have hv2 := hv.out
      rw [hL.out, List.drop_length, vgo] at hv2
      replace hv2 := Aside0.mk hv2
      clear hC1
      go_wp2
      go_ret3
      exact ⟨by rw [← hv2.out]; rfl, by repeat (first | exact Drawn0.refl _ | apply Drawn0.step)⟩

end Go.Proofs.Ytbepmlgpapdnpaa.PX
