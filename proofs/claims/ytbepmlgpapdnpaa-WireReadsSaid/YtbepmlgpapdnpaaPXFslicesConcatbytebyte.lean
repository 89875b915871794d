-- by this session's xprint.py over the kit's print
import Derived.Test.YtbepmlgpapdnpaaPX0
import Derived.Test.YtbepmlgpapdnpaaPXFgroww
namespace Go.Proofs.Ytbepmlgpapdnpaa.PX
open Go.RowKit Go.Proofs.YtbepmlgpapdnpaaW.PrintWords Go.Proofs.YtbepmlgpapdnpaaW.PrintLast Go.Proofs.YtbepmlgpapdnpaaW.PrintMore
attribute [local go_sem] max2_int min2_int max_two min_two max_three min_three max_four min_four   -- for this text's walks alone
set_option linter.unusedVariables false
set_option linter.unusedSimpArgs false

/-! ### slices_Concat_byte_byte: function 25 -/
def rd_L (xs : List (List Int)) (i : Int) : (List Int) := xs.getD i.toNat ([] : List Int)
theorem at_L {e : Nat} {w : World} {A : Option Addr} {n : Nat} {xs : List (List Int)} (h : Kd.C (Kd.slice e (Kd.int .u8)) w A n xs) (i : Int) (h0 : 0 ≤ i) (h1 : i < n) : ∃ ad A0 c0, A = some ad ∧ w.cell? (ad.add i.toNat) = some (.slice A0 (rd_L xs i).length c0) ∧ (rd_L xs i).length ≤ c0 ∧ (Kd.int .u8).C w A0 (rd_L xs i).length (rd_L xs i) := by
  obtain ⟨ad, c, e, _, hK, hc0⟩ := Kd.C_get h ([] : List Int) i h0 h1
  have hc : ∀ j u, c[j]? = some u → w.cell? (ad.add (i.toNat * 1 + j)) = some u := hc0
  obtain ⟨A0, c0, rfl, l0, g0⟩ := hK
  exact ⟨ad, A0, c0, e, by have hq := hc 0 _ rfl; rwa [Nat.mul_one, Nat.add_zero] at hq, l0, g0⟩
def sumL (xs : List (List Int)) (k : Nat) : Nat := (xs.take k).flatten.length
theorem take_snocL (xs : List (List Int)) (k : Nat) (h : k < xs.length) : xs.take (k + 1) = xs.take k ++ [rd_L xs k] := by
  rw [List.take_succ_eq_append_getElem h, rd_L, Int.toNat_natCast]; simp [List.getD, List.getElem?_eq_getElem h]
theorem sumL_succ (xs : List (List Int)) (k : Nat) (h : k < xs.length) : sumL xs (k + 1) = sumL xs k + (rd_L xs k).length := by
  simp [sumL, take_snocL xs k h]
theorem flat_succ (xs : List (List Int)) (k : Nat) (h : k < xs.length) : (xs.take (k + 1)).flatten = (xs.take k).flatten ++ rd_L xs k := by
  simp [take_snocL xs k h]
theorem sumL_le (xs : List (List Int)) (k : Nat) : sumL xs k ≤ xs.flatten.length := by
  have h := congrArg List.length (congrArg List.flatten (List.take_append_drop k xs))
  rw [List.flatten_append, List.length_append] at h
  unfold sumL; omega
theorem C_len {α : Type} {d : Kd α} {w : World} {A : Option Addr} {n : Nat} {xs : List α} (h : d.C w A n xs) : xs.length = n := h.1

def slices_Concat_byte_byte.f (l0 : List (List Int)) : Option (List Int) := if l0.length ≤ 9223372036854775807 ∧ l0.flatten.length < 140737488355328 then some l0.flatten else none
set_option maxHeartbeats 8000000 in
set_option maxRecDepth 100000 in
theorem slices_Concat_byte_byte.calls (A0 : Option Addr) (c0 : Nat) (l0 : List (List Int)) (r : List Int) (w : World) (hr0 : Kd.C (Kd.slice 5 (Kd.int .u8)) w A0 l0.length l0) (hc0 : l0.length ≤ c0) (h : slices_Concat_byte_byte.f l0 = some r) :
    Calls Try.prog 25 #[.slice A0 l0.length c0] w fun e w' => ∃ v0_ : Value, e = .returned (v0_) ∧ Kd.R (Kd.int .u8) 5 w' w.heap.size (fun _ => True) v0_ r ∧ Below w.heap.size w w' := by
  unfold slices_Concat_byte_byte.f at h
  split at h
  case isFalse => cases h
  rename_i hh
  obtain ⟨hL, hT⟩ := hh
  obtain rfl := Option.some.inj h
  clear h
  have HT := Aside0.mk hT
  clear hT
  have HR0 := Aside0.mk hr0
  clear hr0
  have HB := Aside0.mk (Below.refl w.heap.size w)
  go_enter Try.func25, Try.ntmps25
  go_wp2_with fail
  go_loop [3, 11] (fun s i => ∃ k : Nat, k ≤ l0.length ∧ i = .int .i64 k ∧ s = .int .i64 (sumL l0 k)) (fun _ i => l0.length - (intOf i).toNat)
  case atStart => exact ⟨0, Nat.zero_le _, rfl, rfl⟩
  case round =>
    obtain ⟨k, hk, rfl, rfl⟩ := hrel
    by_cases hlt : k < l0.length
    · obtain ⟨ad, A1, c1, rfl, hcell, hle, _⟩ := at_L HR0.out k (by omega) (by omega)
      rw [Int.toNat_natCast] at hcell
      have hs := sumL_succ l0 k hlt
      have hs2 := sumL_le l0 (k + 1)
      have hT := HT.out
      have hs3 : sumL l0 k + (rd_L l0 k).length < 140737488355328 := by omega
      replace hs := Aside0.mk hs
      clear hs2 hT
      go_wp2
      go_round
      case rel => exact ⟨k + 1, by omega, by go_num, by rw [hs.out]; go_num⟩
      case measure => simp [intOf]; omega
    · obtain rfl : k = l0.length := by omega
      have hs3 := sumL_le l0 l0.length
      have hT := HT.out
      have hs4 : ((sumL l0 l0.length : Nat) : Int) ≤ 140737488355327 := by omega
      clear hs3 hT
      go_wp2_with (go_at_call 33; refine (grow0_u8 _ _ (by omega) hs4).mono ?_; rintro e w1 ⟨v, rfl, hR, hB⟩; replace hR := Aside0.mk hR; replace hB := Aside0.mk hB)
      go_loopw [6, 27] (fun v i w2 => ∃ k : Nat, k ≤ l0.length ∧ i = .int .i64 k ∧ Aside0 (Kd.R (Kd.int .u8) 5 w2 w.heap.size (fun _ => True) v (l0.take k).flatten) ∧ Aside0 (Below w.heap.size w w2)) (fun _ i _ => l0.length - (intOf i).toNat)
      case atStart => exact ⟨0, Nat.zero_le _, rfl, hR, hB⟩
      case round =>
        obtain ⟨k, hk, rfl, hRk, hBk⟩ := hrel
        by_cases hlt : k < l0.length
        · obtain ⟨ad, A1, c1, rfl, hcell, hle, hC1⟩ := at_L (Kd.C_below HR0.out hBk.out) k (by omega) (by omega)
          rw [Int.toNat_natCast] at hcell
          have hs := sumL_succ l0 k hlt
          have hs2 := sumL_le l0 (k + 1)
          have hT := HT.out
          have hs3 : sumL l0 k + (rd_L l0 k).length < 140737488355328 := by omega
          have hf := flat_succ l0 k hlt
          unfold sumL at hs3
          replace hs3 := Aside0.mk hs3
          replace hf := Aside0.mk hf
          replace hC1 := Aside0.mk hC1
          clear hs2 hT hs hs4
          go_wp2_with (at_builtin; refine Kd.R_append_rows (Kd.int .u8) (w0 := w) w.heap.size rfl (.tmp 31) (.tmp 32) 22 5 (.int .u8 0) 1 rfl Try.underlying22 info5 rfl (by decide) (by omega) u6 (l0.take k).flatten (rd_L l0 k) _ _ _ (fun _ => True) (fun _ => False) rfl rfl ?aO ?aR (fun _ _ h => h) (fun _ h => h.elim) ?aF ?aB ?aS ?aL ?_; (case aO => exact hRk.out); (case aR => exact hC1.out); (case aF => exact fun _ _ => trivial); (case aB => exact hBk.out); (case aS => exact hBk.out.size); (case aL => have := hs3.out; omega); intro v1 w2 ho hb hg hat; rw [← hf.out] at ho; replace ho := Aside0.mk ho; replace hb := Aside0.mk hb; clear hg hat)
          go_roundw
          case rel => exact ⟨k + 1, by omega, by go_num, ho, hb⟩
          case measure => simp [intOf]; omega
        · obtain rfl : k = l0.length := by omega
          go_wp2
          go_ret
          exact ⟨_, rfl, by have := hRk.out; rwa [List.take_length] at this, hBk.out⟩

end Go.Proofs.Ytbepmlgpapdnpaa.PX
