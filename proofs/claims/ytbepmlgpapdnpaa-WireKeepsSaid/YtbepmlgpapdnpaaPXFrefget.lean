-- by this session's xprint.py over the kit's print
import Derived.Test.YtbepmlgpapdnpaaPX0
import Derived.Test.YtbepmlgpapdnpaaPXFvplain
import Derived.Test.YtbepmlgpapdnpaaPXFrdstate
import Derived.Test.YtbepmlgpapdnpaaPXFreaderus
import Derived.Test.YtbepmlgpapdnpaaPXFspillwayref04Get
import Derived.Test.YtbepmlgpapdnpaaPXFspillwayref04Unfold
namespace Go.Proofs.Ytbepmlgpapdnpaa.PX
open Go.RowKit Go.Proofs.YtbepmlgpapdnpaaW.PrintWords Go.Proofs.YtbepmlgpapdnpaaW.PrintLast Go.Proofs.YtbepmlgpapdnpaaW.PrintMore
attribute [local go_sem] max2_int min2_int max_two min_two max_three min_three max_four min_four   -- for this text's walks alone
set_option linter.unusedVariables false
set_option linter.unusedSimpArgs false

/-! ### refget: function 30 -/
theorem vgo_err : ∀ (l : List Int) (n : Nat) (x : Int), (vgo l n x).2.2 ≠ 0 → (vgo l n x).1 = 0 ∧ (vgo l n x).2.1 = 0
  | [], n, x, _ => by simp [vgo]
  | v :: r, n, x, h => by
    rw [vgo] at h ⊢
    by_cases a : n = 9 ∧ 1 < v
    · rw [if_pos a]; exact ⟨rfl, rfl⟩
    · rw [if_neg a] at h ⊢
      by_cases b : v < 128
      · rw [if_pos b] at h ⊢
        by_cases c : 0 < n ∧ v = 0
        · rw [if_pos c]; exact ⟨rfl, rfl⟩
        · rw [if_neg c] at h; exact absurd rfl h
      · rw [if_neg b] at h ⊢
        exact vgo_err r (n + 1) _ h
theorem shl7 {y : Int} {n : Nat} (hn : n ≤ 9) (h0 : 0 ≤ y) (h1 : y * 128 ^ n < 18446744073709551616) : shl .u64 y (7 * (n : Int)) = y * 128 ^ n := by
  have e : (128 : Int) ^ n = 2 ^ (7 * n) := by rw [Int.pow_mul]; rfl
  unfold shl
  rw [show (7 * (n : Int)).toNat = 7 * n by omega, Nat.min_eq_left (show 7 * n ≤ IntKind.u64.bits by show 7 * n ≤ 64; omega), ← e]
  exact IntWalk.u64_in _ ⟨Int.mul_nonneg h0 (Int.le_of_lt (Int.pow_pos (by decide))), by omega⟩
theorem get_l0 : ∀ (d n : Nat) (x : Int) (bs : List Int), n + d = 9 → n ≤ bs.length → bs.length ≤ 9223372036854775807 → 0 ≤ x → x < 128 ^ n → (∀ v ∈ bs, 0 ≤ v ∧ v < 256) → spillwayref04_Get.l0 (3 * d + 3) bs x n = some (vgo (bs.drop n) n x) := by
  intro d
  induction d with
  | zero =>
    intro n x bs hd hn hL hx0 hx hv
    obtain rfl : n = 9 := by omega
    show spillwayref04_Get.l0 (2 + 1) bs x ((9 : Nat) : Int) = _
    by_cases hlt : 9 < bs.length
    · have hd9 : bs.drop 9 = rd bs (9 : Nat) :: bs.drop (9 + 1) := drop_cons_rd hlt
      have hb := hv _ (rd_in hlt)
      rw [hd9, vgo]
      simp only [spillwayref04_Get.l0, spillwayref04_Get.j1, spillwayref04_Get.j2]
      rw [if_pos (by omega), if_pos (by simp), if_pos (by omega), if_pos (by omega), if_pos (by omega)]
      rw [wrap64_of (x := 7 * ((9 : Nat) : Int)) (by omega) (by omega), IntWalk.u64_in (7 * ((9 : Nat) : Int)) (by omega), wrap64_of (x := ((9 : Nat) : Int) + 1) (by omega) (by omega)]
      generalize rd bs ((9 : Nat) : Int) = v at hb ⊢
      rw [IntWalk.u64_in v (by omega), Int.tmod_eq_emod_of_nonneg hb.1]
      by_cases h1 : 1 < v
      · rw [if_pos (by simpa using h1), if_pos (show True ∧ 1 < v from ⟨trivial, h1⟩)]
      · rw [if_neg (by simpa using h1), if_neg (show ¬ (True ∧ 1 < v) from fun h => h1 h.2), if_pos (show (0 : Int) ≤ 7 * ((9 : Nat) : Int) by omega), if_pos (show v < 128 by omega), if_pos (show v < 128 by omega), show v % 128 = v by omega]
        have h5 : (128 : Int) ^ 9 = 9223372036854775808 := by decide
        rw [shl7 (by omega) hb.1 (by rw [h5]; omega), or64 (by omega) hx0 hx hb.1 (by rw [h5]; omega)]
        by_cases hv0 : v = 0
        · rw [if_pos hv0, if_pos (by omega), if_pos ⟨by omega, hv0⟩]
        · rw [if_neg hv0, if_neg (show ¬ (0 < 9 ∧ v = 0) from fun h => hv0 h.2)]
    · rw [List.drop_of_length_le (by omega), vgo]
      simp only [spillwayref04_Get.l0, spillwayref04_Get.j1]
      rw [if_neg (by omega), if_neg (by simp)]
  | succ d ih =>
    intro n x bs hd hn hL hx0 hx hv
    show spillwayref04_Get.l0 (3 * d + 3 + 2 + 1) bs x (n : Int) = _
    by_cases hlt : n < bs.length
    · have hdn : bs.drop n = rd bs n :: bs.drop (n + 1) := drop_cons_rd hlt
      have hb := hv _ (rd_in hlt)
      rw [hdn, vgo, if_neg (by omega)]
      simp only [spillwayref04_Get.l0, spillwayref04_Get.j1, spillwayref04_Get.j2]
      rw [if_pos (by omega), if_pos (by simp; omega), if_pos (by omega), if_pos (by omega), if_neg (by omega), if_neg (by simp)]
      rw [wrap64_of (x := 7 * (n : Int)) (by omega) (by omega), IntWalk.u64_in (7 * (n : Int)) (by omega), if_pos (by omega), wrap64_of (x := (n : Int) + 1) (by omega) (by omega)]
      generalize rd bs (n : Int) = v at hb ⊢
      rw [IntWalk.u64_in v (by omega), Int.tmod_eq_emod_of_nonneg hb.1]
      have hp1 : (0 : Int) < 128 ^ n := Int.pow_pos (by decide)
      have h6 : (128 : Int) ^ n ≤ 128 ^ 8 := pow128_le (by omega)
      have h5 : (128 : Int) ^ 8 = 72057594037927936 := by decide
      rw [h5] at h6
      have hy0 : 0 ≤ v % 128 := by omega
      have h7 : v % 128 * 128 ^ n ≤ 127 * 72057594037927936 := Int.le_trans (Int.mul_le_mul_of_nonneg_right (show v % 128 ≤ 127 by omega) (by omega)) (Int.mul_le_mul_of_nonneg_left h6 (by omega))
      rw [shl7 (by omega) hy0 (by omega), or64 (by omega) hx0 hx hy0 (by omega)]
      by_cases h128 : v < 128
      · rw [if_pos h128, if_pos h128, show v % 128 = v by omega]
        by_cases hv0 : v = 0
        · rw [if_pos hv0]
          by_cases hn0 : 0 < n
          · rw [if_pos (by omega), if_pos ⟨hn0, hv0⟩]
          · rw [if_neg (by omega), if_neg (by omega)]
        · rw [if_neg hv0, if_neg (by omega)]
      · rw [if_neg h128, if_neg h128, show v % 128 = v - 128 by omega]
        have hyq : 0 ≤ (v - 128) * 128 ^ n := Int.mul_nonneg (by omega) (by omega)
        have hyr : (v - 128) * 128 ^ n ≤ 127 * 128 ^ n := Int.mul_le_mul_of_nonneg_right (by omega) (by omega)
        have := ih (n + 1) (x + (v - 128) * 128 ^ n) bs (by omega) (by omega) hL (by omega) (by rw [Int.pow_succ]; omega) hv
        rw [Int.natCast_add] at this
        exact this
    · rw [List.drop_of_length_le (by omega), vgo]
      simp only [spillwayref04_Get.l0, spillwayref04_Get.j1]
      rw [if_neg (by omega), if_neg (by simp)]
theorem get_f {bs : List Int} (hL : bs.length ≤ 9223372036854775807) (hv : ∀ v ∈ bs, 0 ≤ v ∧ v < 256) : spillwayref04_Get.f 30 bs = some (vget bs) := by
  have h := get_l0 9 0 0 bs rfl (Nat.zero_le _) hL (by omega) (by decide) hv
  rw [List.drop_zero] at h
  exact h
theorem unfold_f {u : Int} (h0 : 0 ≤ u) (h1 : u < 18446744073709551616) : spillwayref04_Unfold.f u = some (sunfold u) := by
  unfold spillwayref04_Unfold.f sunfold
  rw [Int.tmod_eq_emod_of_nonneg h0, Int.tdiv_eq_ediv_of_nonneg h0, IntWalk.u64_in (u / 2) (by omega), wrap64_of (x := u / 2) (by omega) (by omega), wrap64_of (x := -(u / 2)) (by omega) (by omega), wrap64_of (x := -(u / 2) - 1) (by omega) (by omega)]
  split <;> rfl
structure RF (w : World) (q b2 : Nat) (A : Option Addr) (c : Nat) (zs : List Int) (bad : Int) : Prop where
  hq : w.heap[q]? = some (.cells #[.slice A zs.length c, .int .i64 bad] 47 (0, 0))
  hc : zs.length ≤ c
  hr : (Kd.int .u8).C w A zs.length zs
  ha : ∀ ad, A = some ad → 0 < zs.length → ad.block = b2
  hne : b2 ≠ q
  hb : ∀ x ∈ zs, 0 ≤ x ∧ x < 256
theorem RF.hlen {w : World} {q b2 : Nat} {A : Option Addr} {c : Nat} {zs : List Int} {bad : Int} (r : RF w q b2 A c zs bad) : zs.length ≤ 9223372036854775807 := r.hr.2.1
theorem C_blk_lt {w : World} {A : Option Addr} {zs : List Int} (h : (Kd.int .u8).C w A zs.length zs) : ∀ ad, A = some ad → 0 < zs.length → ad.block < w.heap.size := by
  intro ad e hn
  obtain ⟨ad', e', hc⟩ := h.2.2 hn
  obtain rfl : ad = ad' := by rw [e] at e'; injection e'
  obtain ⟨cs, h3, h4, h5⟩ := hc 0 zs[0] (List.getElem?_eq_getElem hn)
  have h6 := h5 0 _ (by rw [h4]; rfl)
  have h7 := World.block_lt_of_cell? w _ h6
  rwa [show (ad.add (0 * (Kd.int .u8).sz + 0)).block = ad.block from by unfold Addr.add; split <;> rfl] at h7
theorem RF.keep {w w' : World} {q b2 : Nat} {A : Option Addr} {c : Nat} {zs : List Int} {bad : Int} (r : RF w q b2 A c zs bad) (hq : w'.heap[q]? = w.heap[q]?) (hk : ∀ i, i < w.heap.size → i = b2 → w'.heap[i]? = w.heap[i]?) : RF w' q b2 A c zs bad :=
  ⟨hq.trans r.hq, r.hc, C_block_same r.hr (fun ad e hn => hk _ (C_blk_lt r.hr ad e hn) (r.ha ad e hn)), r.ha, r.hne, r.hb⟩
theorem RF.drewN {w : World} {q b2 : Nat} {A : Option Addr} {c : Nat} {zs : List Int} {bad : Int} (r : RF w q b2 A c zs bad) (n : Nat) : RF (w.drewN n) q b2 A c zs bad := r.keep rfl (fun _ _ _ => rfl)
theorem RF.bad_ {w : World} {q b2 : Nat} {A : Option Addr} {c : Nat} {zs : List Int} {bad : Int} (r : RF w q b2 A c zs bad) (bad' : Int) : RF (w.setCell ⟨q, 1, none⟩ (.int .i64 bad')) q b2 A c zs bad' :=
  ⟨by have := blk_set r.hq 1 (.int .i64 bad'); simpa using this, r.hc, C_block_same r.hr (fun ad e hn => Below.heap_setCell _ _ _ _ (fun h => r.hne ((r.ha ad e hn).symm.trans h))), r.ha, r.hne, r.hb⟩
theorem cut_u8 (A : Option Addr) (c : Nat) (zs : List Int) (m : Nat) (hm : m ≤ zs.length) (hc : zs.length ≤ c) : ∃ A' : Option Addr, (∀ W : World, (Instr.slice 22 (.slice A zs.length c) (some (.int .i64 (m : Int))) none none).run Try.prog W = .ok (.slice A' (zs.drop m).length (c - m)) W) ∧ (∀ w : World, (Kd.int .u8).C w A zs.length zs → (Kd.int .u8).C w A' (zs.drop m).length (zs.drop m)) ∧ (∀ ad, A' = some ad → ∃ a0, A = some a0 ∧ ad.block = a0.block) := by
  obtain ⟨i0, hi0, hi1⟩ := Option.map_eq_some_iff.1 info5
  have hi2 : i0.size = 1 := by simp only [Prod.mk.injEq] at hi1; exact hi1.2.1
  have hel : Try.prog.elem 22 = 5 := by simp [Program.elem, Try.underlying22]
  have hu : Try.prog.underlying 22 = some (.slice (Try.prog.elem 22)) := by rw [hel]; exact Try.underlying22
  refine ⟨if c = m then A else A.map (·.add m), fun W => ?_, fun w h => ?_, fun ad e => ?_⟩
  · rw [run_slice_l W 22 A zs.length c hu .i64 (m : Int) (Int.natCast_nonneg _) (by omega), hel, List.length_drop]
    simp [sizeOf, typeInfo, hi0, hi2, sliced, Result.andThen]
  · have h2 := (Kd.reads_of_C (d := (0 : Int)) h).drop_ m hm hc
    rw [← List.length_drop] at h2
    exact Kd.C_of_reads (d := (0 : Int)) (h1 := fun _ => rfl) h2
  · split at e
    · exact ⟨ad, e, rfl⟩
    · obtain ⟨a0, e1, e2⟩ := Option.map_eq_some_iff.1 e
      exact ⟨a0, e1, by rw [← e2]; unfold Addr.add; split <;> rfl⟩
theorem RF.cut {w : World} {q b2 : Nat} {A A' : Option Addr} {c m : Nat} {zs : List Int} {bad : Int} (r : RF w q b2 A c zs bad) (hC : (Kd.int .u8).C w A' (zs.drop m).length (zs.drop m)) (hA : ∀ ad, A' = some ad → ∃ a0, A = some a0 ∧ ad.block = a0.block) : RF (w.setCell ⟨q, 0, none⟩ (.slice A' (zs.drop m).length (c - m))) q b2 A' (c - m) (zs.drop m) bad := by
  have ha : ∀ ad, A' = some ad → 0 < (zs.drop m).length → ad.block = b2 := fun ad e hn => by
    obtain ⟨a0, e1, e2⟩ := hA ad e
    rw [e2]
    exact r.ha a0 e1 (by rw [List.length_drop] at hn; omega)
  refine ⟨by have := blk_set r.hq 0 (.slice A' (zs.drop m).length (c - m)); simpa using this, by rw [List.length_drop]; have := r.hc; omega, C_block_same hC (fun ad e hn => Below.heap_setCell _ _ _ _ (fun h => r.hne ((ha ad e hn).symm.trans h))), ha, r.hne, fun x hx => r.hb x (List.mem_of_mem_drop hx)⟩

end Go.Proofs.Ytbepmlgpapdnpaa.PX
