-- by this session's xprint.py over the kit's print
import Derived.Test.YtbepmlgpapdnpaaPX0
import Derived.Test.YtbepmlgpapdnpaaPXFgroww
import Derived.Test.YtbepmlgpapdnpaaPXFslicesConcatbytebyte
namespace Go.Proofs.Ytbepmlgpapdnpaa.PX
open Go.RowKit Go.Proofs.YtbepmlgpapdnpaaW.PrintWords Go.Proofs.YtbepmlgpapdnpaaW.PrintLast Go.Proofs.YtbepmlgpapdnpaaW.PrintMore
attribute [local go_sem] max2_int min2_int max_two min_two max_three min_three max_four min_four   -- for this text's walks alone
set_option linter.unusedVariables false
set_option linter.unusedSimpArgs false

/-! ### wire_PutU: function 9 -/
def uform (x : Nat) : List Int := if x < 128 then [(x : Int)] else ((x % 128 + 128 : Nat) : Int) :: uform (x / 128)
termination_by x
decreasing_by omega
theorem uform_lt {x : Nat} (h : x < 128) : uform x = [(x : Int)] := by rw [uform, if_pos h]
theorem uform_ge {x : Nat} (h : ¬ x < 128) : uform x = ((x % 128 + 128 : Nat) : Int) :: uform (x / 128) := by rw [uform, if_neg h]
theorem uform_pos (x : Nat) : 1 ≤ (uform x).length := by
  by_cases h : x < 128
  · simp [uform_lt h]
  · simp [uform_ge h]
theorem uform_len (n : Nat) : ∀ x : Nat, x < 128 ^ (n + 1) → (uform x).length ≤ n + 1 := by
  induction n with
  | zero => intro x h; rw [uform_lt (by simpa using h)]; simp
  | succ n ih =>
    intro x h
    by_cases hx : x < 128
    · rw [uform_lt hx]; simp
    · rw [uform_ge hx]
      have := ih (x / 128) (by rw [Nat.div_lt_iff_lt_mul (by decide)]; rw [Nat.pow_succ] at h; exact h)
      simp; omega
theorem uform_len64 {x : Nat} (h : x < 18446744073709551616) : (uform x).length ≤ 10 := uform_len 9 x (by omega)
theorem or128 (y : Nat) (h : y < 256) : Go.bits .or .u8 (y : Int) 128 = ((y % 128 + 128 : Nat) : Int) := by
  have := (bits_nat .u8 8 (by decide) (fun n h0 h1 => by rw [IntKind.wrap_u8]; omega) y 128 (by omega) (by omega)).2
  rw [show (128 : Int) = ((128 : Nat) : Int) from rfl, this]
  congr 1
  have h2 : ∀ z, z < 256 → z ||| 128 = z % 128 + 128 := by decide +kernel
  exact h2 y h
theorem concat2 (g : Nat) (A0 : Option Addr) (c0 : Nat) (l0 : List Int) (A1 : Option Addr) (c1 : Nat) (w : World) (hb : w.heap[g]? = some (.cells #[.slice A0 l0.length c0, .slice A1 0 c1] 22 (0, 0))) (hr0 : Kd.C (Kd.int .u8) w A0 l0.length l0) (hc0 : l0.length ≤ c0) (hr1 : Kd.C (Kd.int .u8) w A1 0 []) (hL : l0.length < 140737488355328) :
    Calls Try.prog 25 #[.slice (some ⟨g, 0, none⟩) 2 2] w fun e w' => ∃ v0_ : Value, e = .returned (v0_) ∧ Kd.R (Kd.int .u8) 5 w' w.heap.size (fun _ => True) v0_ l0 ∧ Below w.heap.size w w' := by
  refine slices_Concat_byte_byte.calls (some ⟨g, 0, none⟩) 2 [l0, []] l0 w (C_of_block hb ?_ (by simp)) (by simp) ?_
  · exact Reps.snoc (Reps.snoc (Reps.none _ _) (show (Kd.slice 5 (Kd.int .u8)).K w l0 [.slice A0 l0.length c0] from ⟨A0, c0, rfl, hc0, hr0⟩) rfl) (show (Kd.slice 5 (Kd.int .u8)).K w [] [.slice A1 0 c1] from ⟨A1, c1, rfl, Nat.zero_le _, hr1⟩) rfl
  · unfold slices_Concat_byte_byte.f
    rw [if_pos ⟨by simp, by simpa using hL⟩]
    simp
theorem Kd.R_reads_nil {w : World} {e base : Nat} {ok : Nat → Prop} {A : Option Addr} {c : Nat} {d : Kd Int} (h : d.R e w base ok (.slice A 0 c) []) : d.C w A 0 [] := by
  obtain ⟨A', c', h1, _, h2⟩ := Kd.R_reads h
  injection h1 with ha _ _
  rw [ha]
  exact h2
def wire_PutU.f (l0 : List Int) (a1 : Int) : Option (List Int) := if 0 ≤ a1 ∧ a1 < 18446744073709551616 ∧ l0.length + 20 < 140737488355328 then some (l0 ++ uform a1.toNat) else none
set_option maxHeartbeats 8000000 in
set_option maxRecDepth 100000 in
theorem wire_PutU.calls (A0 : Option Addr) (c0 : Nat) (l0 : List Int) (a1 : Int) (r : List Int) (w : World) (hr0 : Kd.C (Kd.int .u8) w A0 l0.length l0) (hc0 : l0.length ≤ c0) (h : wire_PutU.f l0 a1 = some r) :
    Calls Try.prog 9 #[.slice A0 l0.length c0, .int .u64 a1] w fun e w' => ∃ v0_ : Value, e = .returned (v0_) ∧ Kd.R (Kd.int .u8) 5 w' w.heap.size (fun _ => True) v0_ r ∧ Below w.heap.size w w' := by
  unfold wire_PutU.f at h
  split at h
  case isFalse => cases h
  rename_i hh
  obtain ⟨h0, h1, hL⟩ := hh
  obtain rfl := Option.some.inj h
  clear h
  obtain ⟨x, rfl⟩ := Int.eq_ofNat_of_zero_le h0
  rw [Int.toNat_natCast]
  have hx : x < 18446744073709551616 := by omega
  clear h0 h1
  have HB := Aside0.mk (Below.refl w.heap.size w)
  have HR0 := Aside0.mk hr0
  have HL := Aside0.mk hL
  have HX := Aside0.mk hx
  clear hr0 hL
  go_enter Try.func9, Try.ntmps9
  go_wp2_with (((with_reducible refine gate_dst (N := 7) rfl ?_); refine wpList_make0 (Kd.int .u8) (w0 := w) w.heap.size 5 rfl 22 _ _ rfl 10 rfl rfl Try.underlying22 (.int .u8 0) 1 info5 rfl (by omega) (by omega) (by decide) HB.out (Nat.le_refl _) ?_; intro v7 w7 ho hb hb2; obtain ⟨A7, c7, rfl, hc7⟩ := own_slice' ho; replace ho := Aside0.mk ho; replace hb := Aside0.mk hb; replace hb2 := Aside0.mk hb2))
  refine (concat2 _ A0 c0 l0 A7 c7 _ (blk_new' rfl _) (Kd.C_below HR0.out (below_alloc hb.out _)) hc0 (Kd.C_below (Kd.R_reads_nil ho.out) (below_alloc (Below.refl _ _) _)) (by have := HL.out; omega)).mono ?_
  rintro e w8 ⟨v8, rfl, hR8, hB8⟩
  have HO := Aside0.mk (Kd.R_lower hR8 (Nat.le_trans hb.out.size (by simp)))
  have HB8 := Aside0.mk (below_two (below_alloc hb.out _) hB8)
  clear hR8 hB8 ho hb hb2 HB
  go_wp2_with fail
  go_loopw [1, 5] (fun xv v w2 => ∃ (y : Nat) (ys : List Int), xv = .int .u64 y ∧ Aside0 (y < 18446744073709551616) ∧ Aside0 (Kd.R (Kd.int .u8) 5 w2 w.heap.size (fun _ => True) v ys) ∧ Aside0 (Below w.heap.size w w2) ∧ Aside0 (ys ++ uform y = l0 ++ uform x)) (fun xv _ _ => (intOf xv).toNat)
  case atStart => exact ⟨x, l0, rfl, HX, HO, HB8, ⟨rfl⟩⟩
  case round =>
    obtain ⟨y, ys, rfl, hy, hR, hB, hE⟩ := hrel
    have hlen : Aside0 (ys.length + (uform y).length ≤ l0.length + 10) := by
      have h1 := congrArg List.length hE.out
      simp only [List.length_append] at h1
      have h2 := uform_len64 HX.out
      exact ⟨by omega⟩
    have hlen2 : Aside0 (ys.length < 140737488355320) := ⟨by have := hlen.out; have := HL.out; have := uform_pos y; omega⟩
    replace hlen := hlen2
    clear hlen2
    by_cases hlt : y < 128
    · have hlt2 : (y : Int) < 128 := by omega
      go_wp2_with ((with_reducible refine gate_builtin (b := .append) (xs := #[.tmp 20, .tmp 23]) rfl ?_); at_builtin; (refine Kd.R_append (Kd.int .u8) (w0 := w) w.heap.size rfl (.tmp 20) (.tmp 23) 22 5 (.int .u8 0) 1 rfl Try.underlying22 info5 rfl (by decide) (by omega) u5 ys (y : Int) [.int .u8 (y : Int)] (fun _ => True) (fun _ => False) rfl rfl ?aP (fun _ hk => hk.elim) ?aF ?aO ?aB ?aS ?aL ?_); (case aP => exact rfl); (case aF => exact fun _ _ => trivial); (case aO => exact hR.out); (case aB => exact hB.out); (case aS => exact hB.out.size); (case aL => have := hlen.out; omega); intro v1 w3 ho hb hg hat; replace ho := Aside0.mk ho; replace hb := Aside0.mk hb; clear hg hat)
      go_ret
      exact ⟨_, rfl, by have := ho.out; rw [← hE.out, uform_lt hlt]; exact this, hb.out⟩
    · have hge : 128 ≤ (y : Int) := by omega
      go_wp2_with ((with_reducible refine gate_builtin (b := .append) (xs := #[.tmp 14, .tmp 18]) rfl ?_); at_builtin; (refine Kd.R_append (Kd.int .u8) (w0 := w) w.heap.size rfl (.tmp 14) (.tmp 18) 22 5 (.int .u8 0) 1 rfl Try.underlying22 info5 rfl (by decide) (by omega) u5 ys (Go.bits .or .u8 ((y : Int) % 256) 128) [.int .u8 (Go.bits .or .u8 ((y : Int) % 256) 128)] (fun _ => True) (fun _ => False) rfl rfl ?bP (fun _ hk => hk.elim) ?bF ?bO ?bB ?bS ?bL ?_); (case bP => exact rfl); (case bF => exact fun _ _ => trivial); (case bO => exact hR.out); (case bB => exact hB.out); (case bS => exact hB.out.size); (case bL => have := hlen.out; omega); intro v1 w3 ho hb hg hat; replace ho := Aside0.mk ho; replace hb := Aside0.mk hb; clear hg hat)
      go_roundw
      case rel =>
        refine ⟨y / 128, ys ++ [((y % 128 + 128 : Nat) : Int)], by go_num, ⟨by have := hy.out; omega⟩, ⟨?_⟩, hb, ⟨?_⟩⟩
        · have h1 := ho.out
          rw [show ((y : Int) % 256) = ((y % 256 : Nat) : Int) by omega, or128 _ (by omega), show y % 256 % 128 = y % 128 by omega] at h1
          exact h1
        · rw [← hE.out, uform_ge hlt]; simp
      case measure => simp [intOf]; omega

end Go.Proofs.Ytbepmlgpapdnpaa.PX
