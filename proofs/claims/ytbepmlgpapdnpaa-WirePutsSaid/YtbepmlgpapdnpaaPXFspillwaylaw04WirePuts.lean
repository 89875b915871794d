-- by this session's xprint.py over the kit's print
import Derived.Test.YtbepmlgpapdnpaaPX0
import Derived.Test.YtbepmlgpapdnpaaPXFroomy
import Derived.Test.YtbepmlgpapdnpaaPXFgroww
import Derived.Test.YtbepmlgpapdnpaaPXFwirePutU
import Derived.Test.YtbepmlgpapdnpaaPXFwirePutS
import Derived.Test.YtbepmlgpapdnpaaPXFspillwaylaw04joined
import Derived.Test.YtbepmlgpapdnpaaPXFspillwayref04U
import Derived.Test.YtbepmlgpapdnpaaPXFspillwayref04Fold
import Derived.Test.YtbepmlgpapdnpaaPXFspillwayref04S
import Derived.Test.YtbepmlgpapdnpaaPXFreadernew
import Derived.Test.YtbepmlgpapdnpaaPXFspillwaylaw04fixed
import Derived.Test.YtbepmlgpapdnpaaPXFspillwaylaw04WireBack
namespace Go.Proofs.Ytbepmlgpapdnpaa.PX
open Go.RowKit Go.Proofs.YtbepmlgpapdnpaaW.PrintWords Go.Proofs.YtbepmlgpapdnpaaW.PrintLast Go.Proofs.YtbepmlgpapdnpaaW.PrintMore
attribute [local go_sem] max2_int min2_int max_two min_two max_three min_three max_four min_four   -- for this text's walks alone
set_option linter.unusedVariables false
set_option linter.unusedSimpArgs false

/-! ### spillwaylaw04_WirePuts: function 3 -/
theorem refU_go : ∀ (n x : Nat) (xs : List Int), (uform x).length ≤ n → x < 18446744073709551616 → xs.length + n < 140737488355328 → spillwayref04_U.l0 n (x : Int) xs = some (xs ++ uform x)
  | 0, x, xs, h, _, _ => by have := uform_pos x; omega
  | n + 1, x, xs, h, hx, hl => by
    simp only [spillwayref04_U.l0]
    by_cases h1 : x < 128
    · rw [if_neg (by omega), if_pos (by omega), uform_lt h1, show ((x : Int)) % 256 = x by omega]
    · rw [uform_ge h1, List.length_cons] at h
      have e1 : IntKind.u64.wrap (Int.tdiv (x : Int) 128) = ((x / 128 : Nat) : Int) := by
        rw [Int.tdiv_eq_ediv_of_nonneg (by omega), IntWalk.u64_in _ (by omega)]; omega
      have e2 : (IntKind.u64.wrap (Int.tmod (x : Int) 128 + 128)) % 256 = ((x % 128 + 128 : Nat) : Int) := by
        rw [Int.tmod_eq_emod_of_nonneg (by omega), IntWalk.u64_in _ (by omega)]; omega
      rw [if_pos (by omega), if_pos (by omega), e1, e2, refU_go n (x / 128) _ (by omega) (by omega) (by simp; omega), uform_ge h1]
      simp
theorem refU_f {x : Int} (h0 : 0 ≤ x) (h1 : x < 18446744073709551616) : spillwayref04_U.f 10 x = some (uform x.toNat) := by
  have h2 := refU_go 10 x.toNat [] (uform_len64 (by omega)) (by omega) (by simp)
  rw [Int.toNat_of_nonneg h0] at h2
  exact h2
theorem refFold_f {x : Int} (h0 : -9223372036854775808 ≤ x) (h1 : x ≤ 9223372036854775807) : spillwayref04_Fold.f x = some (sfold x) := by
  unfold spillwayref04_Fold.f sfold
  by_cases h : 0 ≤ x
  · rw [if_pos h, if_pos h, IntWalk.u64_in x (by omega), IntWalk.u64_in _ (by omega)]
  · rw [if_neg h, if_neg h, wrap64_of (x := x + 1) (by omega) (by omega), wrap64_of (x := -(x + 1)) (by omega) (by omega), IntWalk.u64_in (-(x + 1)) (by omega), IntWalk.u64_in (2 * -(x + 1)) (by omega), IntWalk.u64_in _ (by omega)]
    congr 1
    omega
theorem refS_f {x : Int} (h0 : -9223372036854775808 ≤ x) (h1 : x ≤ 9223372036854775807) : spillwayref04_S.f 10 x = some (uform (sfold x).toNat) := by
  have hs := sfold_range h0 h1
  unfold spillwayref04_S.f
  rw [refFold_f h0 h1, Option.bind_some, refU_f hs.1 hs.2, Option.bind_some]
theorem joined_f {l m : List Int} (h : l.length + m.length < 140737488355328) : spillwaylaw04_joined.f l m = some (l ++ m) := by
  unfold spillwaylaw04_joined.f
  rw [Option.bind_some, if_pos (by simp; omega), Option.bind_some, if_pos (by simp; omega)]
  simp
theorem joined_n (A0 : Option Addr) (n0 c0 : Nat) (l0 : List Int) (A1 : Option Addr) (n1 c1 : Nat) (l1 : List Int) (w : World) (e0 : n0 = l0.length) (e1 : n1 = l1.length) (hr0 : Kd.C (Kd.int .u8) w A0 l0.length l0) (hc0 : l0.length ≤ c0) (hr1 : Kd.C (Kd.int .u8) w A1 l1.length l1) (hc1 : l1.length ≤ c1) (h : l0.length + l1.length < 140737488355328) :
    Calls Try.prog 11 #[.slice A0 n0 c0, .slice A1 n1 c1] w fun e w' => ∃ v0_ : Value, e = .returned (v0_) ∧ Kd.R (Kd.int .u8) 5 w' w.heap.size (fun _ => True) v0_ (l0 ++ l1) ∧ Below w.heap.size w w' := by
  subst e0 e1
  exact spillwaylaw04_joined.calls A0 c0 l0 A1 c1 l1 _ w hr0 hc0 hr1 hc1 (joined_f h)
/-- A row of the call's own: block, address, length, room, bytes. -/
structure OB (w : World) (lo hi : Nat) (g n c : Nat) (xs : List Int) : Prop where
  r : Kd.R (Kd.int .u8) 5 w lo (fun _ => True) (.slice (some ⟨g, 0, none⟩) n c) xs
  plo : lo ≤ g
  phi : g < hi
  psz : hi ≤ w.heap.size
  pn : n = xs.length
  pc : xs.length ≤ c
theorem OB.C {w : World} {lo hi g n c : Nat} {xs : List Int} (h : OB w lo hi g n c xs) : Kd.C (Kd.int .u8) w (some ⟨g, 0, none⟩) xs.length xs := by
  have hr := h.r
  rw [h.pn] at hr
  exact Kd.R_reads_row hr h.pc
theorem OB.below {w w' : World} {lo hi g n c : Nat} {xs : List Int} (h : OB w lo hi g n c xs) (hb : Below w.heap.size w w') : OB w' lo hi g n c xs := ⟨Kd.R_below h.r hb, h.plo, h.phi, Nat.le_trans h.psz hb.size, h.pn, h.pc⟩
theorem OB.grown {w w' : World} {lo hi g n c k : Nat} {xs : List Int} (h : OB w lo hi g n c xs) (hg : w.grownBy w' (some k)) (hne : g ≠ k) : OB w' lo hi g n c xs :=
  ⟨Kd.R_grown2 h.r rfl hg (fun j e1 e2 => hne (by have e3 : some j = some g := e2; injection e1 with e1; injection e3 with e3; omega)), h.plo, h.phi, Nat.le_trans h.psz hg.size, h.pn, h.pc⟩
theorem OB.of {w : World} {lo : Nat} {v : Value} {xs : List Int} (h : Kd.R (Kd.int .u8) 5 w lo (fun _ => True) v xs) (hp : 0 < xs.length) : ∃ g c, v = .slice (some ⟨g, 0, none⟩) xs.length c ∧ OB w lo w.heap.size g xs.length c xs := by
  obtain ⟨A, c, rfl, hc⟩ := own_slice' h
  obtain ⟨g, rfl, h1, h2⟩ := R_addr h hp
  exact ⟨g, c, rfl, h, h1, h2, Nat.le_refl _, rfl, hc⟩
theorem R_addr1 {w : World} {e base n c g : Nat} {ok : Nat → Prop} {xs : List Int} (h : (Kd.int .u8).R e w base ok (.slice (some ⟨g, 0, none⟩) n c) xs) (hn : 0 < n) : base ≤ g ∧ g < w.heap.size := by
  obtain ⟨k, e1, h1, h2⟩ := R_addr h hn
  injection e1 with e1
  injection e1 with e1
  subst e1
  exact ⟨h1, h2⟩
theorem OB.cells {w : World} {lo hi g n c : Nat} {xs : List Int} (h : OB w lo hi g n c xs) : ∃ cur, w.heap[g]? = some (.cells cur 5 (0, 0)) := by
  obtain ⟨inner, ho⟩ := Kd.R_own h.r
  rcases ho.2 with ⟨h1, _⟩ | ⟨k, cap, cur, h1, _, h2, _⟩
  · cases h1
  · injection h1 with ha _ _
    injection ha with ha
    injection ha with ha
    subst ha
    exact ⟨cur, h2⟩
theorem OB.put {w : World} {lo hi g n c : Nat} {xs : List Int} (h : OB w lo hi g n c xs) (i : Nat) (x : Int) : OB (w.setCell ⟨g, i, none⟩ (.int .u8 x)) lo hi g n c (xs.set i x) ∧ w.grownBy (w.setCell ⟨g, i, none⟩ (.int .u8 x)) (some g) := by
  obtain ⟨h1, h2⟩ := Kd.R_putg h.r (i : Int) x
  rw [Int.toNat_natCast] at h1 h2
  exact ⟨⟨h1, h.plo, h.phi, Nat.le_trans h.psz h2.size, by rw [List.length_set]; exact h.pn, by rw [List.length_set]; exact h.pc⟩, h2⟩
theorem OB.at_ {w : World} {lo hi g n c : Nat} {xs : List Int} (h : OB w lo hi g n c xs) (i : Nat) (hi : i < n) : w.cell? ⟨g, i, none⟩ = some (.int .u8 (rd xs i)) ∧ w.frozen? ⟨g, i, none⟩ = false := by
  obtain ⟨ad, e, hc⟩ := Kd.at_int h.C (i : Int) (by omega) (by have := h.pn; omega)
  cases e
  rw [Int.toNat_natCast, add_plain] at hc
  obtain ⟨cur, hcur⟩ := h.cells
  exact ⟨hc, blk_frozen hcur i⟩
theorem below_grown {base : Nat} {w W W' : World} {g : Nat} (hb : Below base w W) (hg : W.grownBy W' (some g)) (h0 : base ≤ W.heap.size) (h : base ≤ g) : Below base w W' :=
  ⟨hg.os.trans hb.os, hg.tape.trans hb.tape, hg.output.trans hb.output, Nat.le_trans hb.size hg.size, fun k hk => (hg.block k (Nat.lt_of_lt_of_le hk h0) (fun e => by injection e with e; omega)).trans (hb.block k hk)⟩
def spillwaylaw04_WirePuts.f (l0 : List Int) (a1 a2 : Int) : Option Bool := if l0.length + 20 < 140737488355328 ∧ 0 ≤ a1 ∧ a1 < 18446744073709551616 ∧ -9223372036854775808 ≤ a2 ∧ a2 ≤ 9223372036854775807 then some true else none
set_option maxHeartbeats 8000000 in
set_option maxRecDepth 100000 in
theorem spillwaylaw04_WirePuts.calls (A0 : Option Addr) (c0 : Nat) (l0 : List Int) (a1 : Int) (a2 : Int) (r : Bool) (w : World) (hr0 : Kd.C (Kd.int .u8) w A0 l0.length l0) (hc0 : l0.length ≤ c0) (h : spillwaylaw04_WirePuts.f l0 a1 a2 = some r) :
    Calls Try.prog 3 #[.slice A0 l0.length c0, .int .u64 a1, .int .i64 a2] w fun e w' => e = .returned (.bool r) ∧ Below w.heap.size w w' := by
  unfold spillwaylaw04_WirePuts.f at h
  split at h
  case isFalse => cases h
  rename_i hh
  obtain ⟨hL, hx0, hx1, hy0, hy1⟩ := hh
  obtain rfl := Option.some.inj h
  clear h
  have HR0 := Aside0.mk hr0
  have HC0 := Aside0.mk hc0
  have HL := Aside0.mk hL
  have HX := Aside0.mk (And.intro hx0 hx1)
  have HY := Aside0.mk (And.intro hy0 hy1)
  have ROOM := Aside0.mk (fun (W : World) (hb : Below w.heap.size w W) => roomy_calls W A0 c0 l0 (Kd.C_below hr0 hb) hc0 (by omega))
  clear hr0 hc0 hL hx0 hx1 hy0 hy1
  go_enter Try.func3, Try.ntmps3
  go_wp2_with fail
  refine (ROOM.out w (Below.refl _ _)).mono ?_
  rintro e w1 ⟨g1, c1, rfl, hR1, hc1, hB1⟩
  have B1 := Aside0.mk hB1
  have R1 := Aside0.mk hR1
  have C1 := Aside0.mk hc1
  clear hR1 hc1 hB1
  go_wp2_with fail
  refine (ROOM.out w1 B1.out).mono ?_
  rintro e w2 ⟨g2, c2, rfl, hR2, hc2, hB2⟩
  have O1 := OB.mk (lo := w.heap.size) (hi := w1.heap.size) (g := g1) (n := l0.length + 12) (c := c1) (xs := l0 ++ marks) R1.out (R_addr1 R1.out (by omega)).1 (R_addr1 R1.out (by omega)).2 (Nat.le_refl _) (by simp [marks]) (by have := C1.out; simp [marks]; omega)
  have O2 := OB.mk (lo := w1.heap.size) (hi := w2.heap.size) (g := g2) (n := l0.length + 12) (c := c2) (xs := l0 ++ marks) hR2 (R_addr1 hR2 (by omega)).1 (R_addr1 hR2 (by omega)).2 (Nat.le_refl _) (by simp [marks]) (by simp [marks]; omega)
  replace O1 := Aside0.mk (O1.below hB2)
  have B2 := Aside0.mk (below_two B1.out hB2)
  replace O2 := Aside0.mk O2
  have Z1 := Aside0.mk (And.intro B1.out.size hB2.size)
  clear hR2 hB2 R1 B1
  obtain ⟨M, hM⟩ : ∃ M, M = l0 ++ marks := ⟨_, rfl⟩
  obtain ⟨P, hP⟩ : ∃ P, P = l0 ++ uform a1.toNat := ⟨_, rfl⟩
  obtain ⟨S, hS⟩ : ∃ S, S = l0 ++ uform (sfold a2).toNat := ⟨_, rfl⟩
  have hMl := Aside0.mk (show l0.length + 12 = M.length by rw [hM]; simp [marks])
  have PC := Aside0.mk (fun (W : World) (h : OB W w.heap.size w1.heap.size g1 (l0.length + 12) c1 M) => C_pre (m := marks) (hM ▸ h.C))
  rw [← hM] at O1 O2
  have hP1 := Aside0.mk (show 0 < P.length ∧ P.length + 10 ≤ 140737488355328 by
    have h1 := uform_pos a1.toNat
    have h2 := uform_len64 (x := a1.toNat) (by have := HX.out; omega)
    have h3 := HL.out
    rw [hP, List.length_append]; omega)
  have hS1 := Aside0.mk (show 0 < S.length ∧ S.length + 10 ≤ 140737488355328 by
    have h0 := sfold_range HY.out.1 HY.out.2
    have h1 := uform_pos (sfold a2).toNat
    have h2 := uform_len64 (x := (sfold a2).toNat) (by omega)
    have h3 := HL.out
    rw [hS, List.length_append]; omega)
  replace hP := Aside0.mk hP
  replace hS := Aside0.mk hS
  replace hM := Aside0.mk hM
  go_wp2_with fail
  refine (putU_n (some ⟨g1, 0, none⟩) l0.length c1 l0 a1 w2 rfl (PC.out _ O1.out) (by have := C1.out; omega) HX.out.1 HX.out.2 HL.out).mono ?_
  rintro e w3 ⟨v3, rfl, hR3, hB3⟩
  rw [← hP.out] at hR3
  obtain ⟨g3, c3, rfl, O3⟩ := OB.of hR3 hP1.out.1
  replace O1 := Aside0.mk (O1.out.below hB3)
  replace O2 := Aside0.mk (O2.out.below hB3)
  have B3 := Aside0.mk (below_two B2.out hB3)
  replace O3 := Aside0.mk O3
  have Z3 := Aside0.mk hB3.size
  clear hR3 hB3 B2
  go_wp2_with fail
  refine (putS_n (some ⟨g1, 0, none⟩) l0.length c1 l0 a2 w3 rfl (PC.out _ O1.out) (by have := C1.out; omega) HY.out.1 HY.out.2 HL.out).mono ?_
  rintro e w4 ⟨v4, rfl, hR4, hB4⟩
  rw [← hS.out] at hR4
  obtain ⟨g4, c4, rfl, O4⟩ := OB.of hR4 hS1.out.1
  replace O1 := Aside0.mk (O1.out.below hB4)
  replace O2 := Aside0.mk (O2.out.below hB4)
  replace O3 := Aside0.mk (O3.out.below hB4)
  have B4 := Aside0.mk (below_two B3.out hB4)
  replace O4 := Aside0.mk O4
  have Z4 := Aside0.mk hB4.size
  clear hR4 hB4 B3
  go_wp2_with fail
  refine (putU_n (some ⟨g1, 0, none⟩) l0.length c1 l0 a1 w4 rfl (PC.out _ O1.out) (by have := C1.out; omega) HX.out.1 HX.out.2 HL.out).mono ?_
  rintro e w5 ⟨v5, rfl, hR5, hB5⟩
  rw [← hP.out] at hR5
  obtain ⟨g5, c5, rfl, O5⟩ := OB.of hR5 hP1.out.1
  replace O1 := Aside0.mk (O1.out.below hB5)
  replace O2 := Aside0.mk (O2.out.below hB5)
  replace O3 := Aside0.mk (O3.out.below hB5)
  replace O4 := Aside0.mk (O4.out.below hB5)
  have B5 := Aside0.mk (below_two B4.out hB5)
  replace O5 := Aside0.mk O5
  have Z5 := Aside0.mk hB5.size
  clear hR5 hB5 B4 PC
  go_wp2_with fail
  refine (spillwayref04_U.calls 10 a1 _ w5 (refU_f HX.out.1 HX.out.2)).mono ?_
  rintro e w6 ⟨v6, rfl, hR6, hB6⟩
  obtain ⟨g6, c6, rfl, O6⟩ := OB.of hR6 (uform_pos _)
  replace O1 := Aside0.mk (O1.out.below hB6)
  replace O2 := Aside0.mk (O2.out.below hB6)
  replace O3 := Aside0.mk (O3.out.below hB6)
  replace O4 := Aside0.mk (O4.out.below hB6)
  replace O5 := Aside0.mk (O5.out.below hB6)
  have B6 := Aside0.mk (below_two B5.out hB6)
  have Z6 := Aside0.mk hB6.size
  clear hR6 hB6 B5
  replace O6 := Aside0.mk O6
  go_wp2_with fail
  refine (joined_n A0 l0.length c0 l0 (some ⟨g6, 0, none⟩) (uform a1.toNat).length c6 (uform a1.toNat) w6 rfl rfl (Kd.C_below HR0.out B6.out) HC0.out O6.out.C O6.out.pc (by have h1 := hP1.out.2; rw [hP.out, List.length_append] at h1; omega)).mono ?_
  rintro e w7 ⟨v7, rfl, hR7, hB7⟩
  rw [← hP.out] at hR7
  obtain ⟨g7, c7, rfl, O7⟩ := OB.of hR7 hP1.out.1
  replace O1 := Aside0.mk (O1.out.below hB7)
  replace O2 := Aside0.mk (O2.out.below hB7)
  replace O3 := Aside0.mk (O3.out.below hB7)
  replace O4 := Aside0.mk (O4.out.below hB7)
  replace O5 := Aside0.mk (O5.out.below hB7)
  have B7 := Aside0.mk (below_two B6.out hB7)
  replace O7 := Aside0.mk O7
  have Z7 := Aside0.mk hB7.size
  clear hR7 hB7 B6 O6
  go_wp2_with fail
  refine (spillwayref04_S.calls 10 a2 _ w7 (refS_f HY.out.1 HY.out.2)).mono ?_
  rintro e w8 ⟨v8, rfl, hR8, hB8⟩
  obtain ⟨g8, c8, rfl, O8⟩ := OB.of hR8 (uform_pos _)
  replace O1 := Aside0.mk (O1.out.below hB8)
  replace O2 := Aside0.mk (O2.out.below hB8)
  replace O3 := Aside0.mk (O3.out.below hB8)
  replace O4 := Aside0.mk (O4.out.below hB8)
  replace O5 := Aside0.mk (O5.out.below hB8)
  replace O7 := Aside0.mk (O7.out.below hB8)
  have B8 := Aside0.mk (below_two B7.out hB8)
  replace O8 := Aside0.mk O8
  have Z8 := Aside0.mk hB8.size
  clear hR8 hB8 B7
  go_wp2_with fail
  refine (joined_n A0 l0.length c0 l0 (some ⟨g8, 0, none⟩) (uform (sfold a2).toNat).length c8 (uform (sfold a2).toNat) w8 rfl rfl (Kd.C_below HR0.out B8.out) HC0.out O8.out.C O8.out.pc (by have h1 := hS1.out.2; rw [hS.out, List.length_append] at h1; omega)).mono ?_
  rintro e w9 ⟨v9, rfl, hR9, hB9⟩
  rw [← hS.out] at hR9
  obtain ⟨g9, c9, rfl, O9⟩ := OB.of hR9 hS1.out.1
  replace O1 := Aside0.mk (O1.out.below hB9)
  replace O2 := Aside0.mk (O2.out.below hB9)
  replace O3 := Aside0.mk (O3.out.below hB9)
  replace O4 := Aside0.mk (O4.out.below hB9)
  replace O5 := Aside0.mk (O5.out.below hB9)
  replace O7 := Aside0.mk (O7.out.below hB9)
  have B9 := Aside0.mk (below_two B8.out hB9)
  replace O9 := Aside0.mk O9
  have Z9 := Aside0.mk hB9.size
  clear hR9 hB9 B8 O8
  go_wp2_with fail
  refine (spillwaylaw04_fixed.calls true w9 rfl).mono ?_
  rintro e wa ⟨rfl, hBa⟩
  replace O1 := Aside0.mk (O1.out.below hBa)
  replace O2 := Aside0.mk (O2.out.below hBa)
  replace O3 := Aside0.mk (O3.out.below hBa)
  replace O4 := Aside0.mk (O4.out.below hBa)
  replace O5 := Aside0.mk (O5.out.below hBa)
  replace O7 := Aside0.mk (O7.out.below hBa)
  replace O9 := Aside0.mk (O9.out.below hBa)
  have Ba := Aside0.mk (below_two B9.out hBa)
  have Za := Aside0.mk hBa.size
  clear hBa B9
  have dr := fun (n : Nat) => pw_below_drewN (Below.refl wa.heap.size wa) n
  go_wp2_with fail
  refine (same_calls_refl _ c3 P _ c7 P.length P.length _ rfl rfl O3.out.C O3.out.pc O7.out.C O7.out.pc).mono ?_
  rintro e wb ⟨rfl, ⟨⟨n1, rfl⟩⟩⟩
  go_wp2_with fail
  refine (same_calls_refl _ c5 P _ c7 P.length P.length _ rfl rfl (O5.out.below (dr _)).C O5.out.pc (O7.out.below (dr _)).C O7.out.pc).mono ?_
  rintro e wb ⟨rfl, ⟨⟨n2, rfl⟩⟩⟩
  go_wp2_with fail
  refine (same_calls_refl _ c4 S _ c9 S.length S.length _ rfl rfl (O4.out.below (dr _)).C O4.out.pc (O9.out.below (dr _)).C O9.out.pc).mono ?_
  rintro e wb ⟨rfl, ⟨⟨n3, rfl⟩⟩⟩
  go_wp2_with fail
  refine (same_calls_refl _ c1 M _ c2 _ _ _ hMl.out hMl.out (O1.out.below (dr _)).C O1.out.pc (O2.out.below (dr _)).C O2.out.pc).mono ?_
  rintro e wb ⟨rfl, ⟨⟨n4, rfl⟩⟩⟩
  have dr2 := dr (n1 + n2 + n3 + n4)
  replace O1 := Aside0.mk (O1.out.below dr2)
  replace O2 := Aside0.mk (O2.out.below dr2)
  replace O3 := Aside0.mk (O3.out.below dr2)
  replace O4 := Aside0.mk (O4.out.below dr2)
  replace O5 := Aside0.mk (O5.out.below dr2)
  replace O7 := Aside0.mk (O7.out.below dr2)
  replace Ba := Aside0.mk (below_two Ba.out dr2)
  have hD := Aside0.mk (show g1 < g3 ∧ g2 < g3 ∧ g3 < g4 ∧ g4 < g5 ∧ g4 < g7 ∧ w.heap.size ≤ w2.heap.size ∧ w.heap.size ≤ w3.heap.size by
    have e1 := O1.out.phi; have e2 := O2.out.phi; have e3 := O3.out.plo; have e4 := O3.out.phi; have e5 := O4.out.plo; have e6 := O4.out.phi; have e7 := O5.out.plo; have e8 := O5.out.phi; have e9 := O7.out.plo
    obtain ⟨z1, z2⟩ := Z1.out
    have z3 := Z3.out; have z4 := Z4.out; have z5 := Z5.out; have z6 := Z6.out
    omega)
  have hPL : P.length ≤ 140737488355318 := by have := hP1.out; omega
  have hSL : S.length ≤ 140737488355318 := by have := hS1.out; omega
  clear dr dr2 O9 Z1 Z3 Z4 Z5 Z6 Z7 Z8 Z9 Za
  obtain ⟨X0, hX0⟩ : ∃ X, X = wa.drewN (n1 + n2 + n3 + n4) := ⟨_, rfl⟩
  have hX1 := Aside0.mk (World.grownBy.refl X0 (some g3))
  rw [← hX0] at O1 O2 O3 O4 O5 O7 Ba
  replace hX0 := Aside0.mk hX0
  go_wp2_with fail
  go_loopw [75] (fun iv wq => ∃ (i : Nat) (ys : List Int), iv = .int .i64 i ∧ i ≤ P.length ∧ Aside0 (OB wq w2.heap.size w3.heap.size g3 P.length c3 ys) ∧ Aside0 (X0.grownBy wq (some g3))) (fun iv _ => P.length - (intOf iv).toNat)
  case atStart => exact ⟨0, P, rfl, by omega, ⟨by have := O3.out; rw [hX0.out] at this; exact this⟩, ⟨by have := hX1.out; rw [← hX0.out]; exact this⟩⟩
  case round =>
    clear O3 hX1
    obtain ⟨i, ys, rfl, hi, O3, hG⟩ := hrel
    by_cases hlt : i < P.length
    · obtain ⟨hcell, hfr⟩ := O3.out.at_ i hlt
      obtain ⟨hp1, hp2⟩ := O3.out.put i 1
      have P1 := Aside0.mk hp1
      have P2 := Aside0.mk (hG.out.trans hp2)
      clear hp1 hp2 O3 hG
      go_wp2_with fail
      go_roundw
      case rel => exact ⟨i + 1, ys.set i 1, by go_num, by omega, P1, P2⟩
      case measure => simp [intOf]; omega
    · obtain rfl : i = P.length := by omega
      replace O1 := Aside0.mk (O1.out.grown hG.out (by have := hD.out; omega))
      replace O2 := Aside0.mk (O2.out.grown hG.out (by have := hD.out; omega))
      replace O4 := Aside0.mk (O4.out.grown hG.out (by have := hD.out; omega))
      replace O5 := Aside0.mk (O5.out.grown hG.out (by have := hD.out; omega))
      replace O7 := Aside0.mk (O7.out.grown hG.out (by have := hD.out; omega))
      replace Ba := Aside0.mk (below_grown Ba.out hG.out Ba.out.size (by have := hD.out; have := O3.out.plo; omega))
      have hX1 := Aside0.mk (World.grownBy.refl wr (some g4))
      have hyl := Aside0.mk O3.out.pn
      clear hG hX0 hlt hi
      go_wp2_with fail
      go_loopw [84] (fun iv wq => ∃ (i : Nat) (zs : List Int), iv = .int .i64 i ∧ i ≤ S.length ∧ Aside0 (OB wq w3.heap.size w4.heap.size g4 S.length c4 zs) ∧ Aside0 (wr.grownBy wq (some g4))) (fun iv _ => S.length - (intOf iv).toNat)
      case atStart => exact ⟨0, S, rfl, by omega, O4, hX1⟩
      case round =>
        clear O4 hX1
        obtain ⟨i, zs, rfl, hi, O4, hG⟩ := hrel
        by_cases hlt : i < S.length
        · obtain ⟨hcell, hfr⟩ := O4.out.at_ i hlt
          obtain ⟨hp1, hp2⟩ := O4.out.put i 2
          have P1 := Aside0.mk hp1
          have P2 := Aside0.mk (hG.out.trans hp2)
          clear hp1 hp2 O4 hG
          go_wp2_with fail
          go_roundw
          case rel => exact ⟨i + 1, zs.set i 2, by go_num, by omega, P1, P2⟩
          case measure => simp [intOf]; omega
        · obtain rfl : i = S.length := by omega
          replace O1 := Aside0.mk (O1.out.grown hG.out (by have := hD.out; omega))
          replace O2 := Aside0.mk (O2.out.grown hG.out (by have := hD.out; omega))
          replace O3 := Aside0.mk (O3.out.grown hG.out (by have := hD.out; omega))
          replace O5 := Aside0.mk (O5.out.grown hG.out (by have := hD.out; omega))
          replace O7 := Aside0.mk (O7.out.grown hG.out (by have := hD.out; omega))
          replace Ba := Aside0.mk (below_grown Ba.out hG.out Ba.out.size (by have := hD.out; have := O4.out.plo; omega))
          have hzl := Aside0.mk O4.out.pn
          clear hG hlt hi
          have e3 : (Value.slice (some ⟨g3, 0, none⟩) P.length c3).ownBlock = some g3 := rfl
          have e4 : (Value.slice (some ⟨g4, 0, none⟩) S.length c4).ownBlock = some g4 := rfl
          go_wp2_with (first
            | ((with_reducible refine gate_builtin (b := .append) (xs := #[.tmp 91, .tmp 92]) rfl ?_); at_builtin; refine Kd.R_append_rows (Kd.int .u8) (w0 := w) w.heap.size rfl (.tmp 91) (.tmp 92) 22 5 (.int .u8 0) 1 rfl Try.underlying22 info5 rfl (by decide) (by omega) (.slice (some ⟨g3, 0, none⟩) P.length c3) ys [3, 3, 3] _ 3 3 (fun _ => True) (fun _ => False) rfl rfl ?aO ?aR (fun _ _ h => h) (fun _ h => h.elim) ?aF ?aB ?aS ?aL ?_; (case aR => exact lit_u8 _ [3, 3, 3] (by decide)); (case aB => exact below_alloc Ba.out _); (case aF => exact (fun _ _ => trivial)); (case aO => exact Kd.R_alloc (Kd.R_lower O3.out.r hD.out.2.2.2.2.2.1) _); (case aS => exact below_size (below_alloc Ba.out _)); (case aL => have := hyl.out; omega); intro v20 w20 ho hb hg hat; rw [e3] at hg hat; have AL1 := below_alloc (Below.refl wr.heap.size wr) (Obj.cells #[.int .u8 3, .int .u8 3, .int .u8 3] 5); replace O4 := Aside0.mk ((O4.out.below AL1).grown hg (by have := hD.out; omega)); have R20 := Aside0.mk ho; have HB20 := Aside0.mk hb; have G20 := Aside0.mk hg; have AT20 := Aside0.mk hat; replace AL1 := Aside0.mk AL1; clear ho hb hg hat)
            | ((with_reducible refine gate_builtin (b := .append) (xs := #[.tmp 94, .tmp 95]) rfl ?_); at_builtin; refine Kd.R_append_rows (Kd.int .u8) (w0 := w) w.heap.size rfl (.tmp 94) (.tmp 95) 22 5 (.int .u8 0) 1 rfl Try.underlying22 info5 rfl (by decide) (by omega) (.slice (some ⟨g4, 0, none⟩) S.length c4) zs [4, 4, 4] _ 3 3 (fun _ => True) (fun _ => False) rfl rfl ?bO ?bR (fun _ _ h => h) (fun _ h => h.elim) ?bF ?bB ?bS ?bL ?_; (case bR => exact lit_u8 _ [4, 4, 4] (by decide)); (case bB => exact below_alloc HB20.out _); (case bF => exact (fun _ _ => trivial)); (case bO => exact Kd.R_alloc (Kd.R_lower O4.out.r hD.out.2.2.2.2.2.2) _); (case bS => exact below_size (below_alloc HB20.out _)); (case bL => have := hzl.out; omega); intro v21 w21 ho hb hg hat; rw [e4] at hg hat; have R21 := Aside0.mk ho; have HB21 := Aside0.mk hb; have G21 := Aside0.mk hg; clear ho hb hg hat))
          have AL2 := below_alloc (Below.refl w20.heap.size w20) (Obj.cells #[.int .u8 4, .int .u8 4, .int .u8 4] 5)
          have LIFT : ∀ {lo hi g n c : Nat} {xs : List Int}, OB wr lo hi g n c xs → g ≠ g3 → g ≠ g4 → OB w21 lo hi g n c xs := fun O h3 h4 => (((O.below AL1.out).grown G20.out h3).below AL2).grown G21.out h4
          have hlt4 : g4 < wr.heap.size := by have := hD.out; have := O5.out.phi; have := O5.out.psz; omega
          replace O1 := Aside0.mk (LIFT O1.out (by have := hD.out; omega) (by have := hD.out; omega))
          replace O2 := Aside0.mk (LIFT O2.out (by have := hD.out; omega) (by have := hD.out; omega))
          replace O5 := Aside0.mk (LIFT O5.out (by have := hD.out; omega) (by have := hD.out; omega))
          replace O7 := Aside0.mk (LIFT O7.out (by have := hD.out; omega) (by have := hD.out; omega))
          have hl20 : (ys ++ [3, 3, 3]).length = P.length + 3 := by rw [List.length_append, ← hyl.out]; rfl
          have hl21 : (zs ++ [4, 4, 4]).length = S.length + 3 := by rw [List.length_append, ← hzl.out]; rfl
          have R22 : Kd.R (Kd.int .u8) 5 w21 w.heap.size (fun _ => True) v20 (ys ++ [3, 3, 3]) := Kd.R_grown2 (Kd.R_alloc R20.out _) rfl G21.out (by
            intro k e
            injection e with e
            subst e
            rcases AT20.out with h | ⟨b, h, hb⟩
            · rw [h]; intro q; injection q with q; have := hD.out; omega
            · rw [h]; intro q; injection q with q; simp at hb; omega)
          obtain ⟨A20, c20, rfl, hc20⟩ := own_slice' R22
          obtain ⟨A21, c21, rfl, hc21⟩ := own_slice' R21.out
          have C20 := Kd.R_reads_row R22 hc20
          have C21 := Kd.R_reads_row R21.out hc21
          obtain ⟨ad20, rfl, hcell20⟩ := Kd.at_int C20 (P.length : Int) (by omega) (by omega)
          obtain ⟨ad21, rfl, hcell21⟩ := Kd.at_int C21 (S.length : Int) (by omega) (by omega)
          rw [Int.toNat_natCast, show rd (ys ++ [3, 3, 3]) (P.length : Int) = 3 by rw [rd, Int.toNat_natCast, hyl.out]; simp [List.getD]] at hcell20
          rw [Int.toNat_natCast, show rd (zs ++ [4, 4, 4]) (S.length : Int) = 4 by rw [rd, Int.toNat_natCast, hzl.out]; simp [List.getD]] at hcell21
          rw [hl20, hl21]
          have HB21 := HB21
          clear R22 C20 C21 hc20 hc21 hl20 hl21 R20 R21 G20 G21 AT20 AL1 AL2 LIFT O3 O4 hlt4
          have dr := fun (n : Nat) => pw_below_drewN (Below.refl w21.heap.size w21) n
          refine (same_calls_refl _ c5 P _ c7 P.length P.length _ rfl rfl O5.out.C O5.out.pc O7.out.C O7.out.pc).mono ?_
          rintro e wb ⟨rfl, ⟨⟨m1, rfl⟩⟩⟩
          go_wp2_with fail
          refine (same_calls_refl _ c1 M _ c2 _ _ _ hMl.out hMl.out (O1.out.below (dr _)).C O1.out.pc (O2.out.below (dr _)).C O2.out.pc).mono ?_
          rintro e wb ⟨rfl, ⟨⟨m2, rfl⟩⟩⟩
          go_wp2_with fail
          go_ret
          exact ⟨by first | rfl | (simp; done) | (refine ret_bool ?_; simp; omega), by repeat (first | exact HB21.out | apply pw_below_drewN)⟩

/-- THE ONE PURE STATEMENT of spillwaylaw04_WirePuts: yours. -/
def spillwaylaw04_WirePuts.Pure : Prop := ∀ (l0 : List Int) (a1 : Int) (a2 : Int), l0.length ≤ maxLen → l0.length * 1 ≤ 140737488351232 → (∀ x ∈ l0, (Lit.int .u8 x).wf = true) → (Lit.int .u64 a1).wf = true → (Lit.int .i64 a2).wf = true → spillwaylaw04_WirePuts.f l0 a1 a2 = some true
theorem spillwaylaw04_WirePuts.walk (P : spillwaylaw04_WirePuts.Pure) (a0 : Option Addr) (len0 cap0 : Nat) (z0 : List Int) (a1 : Int) (a2 : Int) (w : World) (w0 : (a0 = none ∧ len0 = 0 ∧ cap0 = 0 ∧ z0 = []) ∨ ∃ x, a0 = some x ∧ len0 ≤ cap0 ∧ cap0 ≤ maxLen ∧ z0.length = cap0 ∧ (∀ i, i < z0.length → w.cell? (x.add i) = some (.int .u8 (z0.getD i 0))) ∧ ∀ n ∈ z0, (Lit.int .u8 n).wf = true) (y0 : len0 * 1 ≤ 140737488351232) (w1 : (Lit.int .u64 a1).wf = true) (w2 : (Lit.int .i64 a2).wf = true) :
    Calls Try.prog 3 #[.slice a0 len0 cap0, .int .u64 a1, .int .i64 a2] w fun e w' => e = .returned (.bool true) ∧ Below w.heap.size w w' := by
  obtain ⟨l0, rfl, hr0, hm0, hw0, hc0⟩ := ReadsInt.ofRowC w0
  have h := P l0 a1 a2 hm0 y0 hw0 w1 w2
  refine (spillwaylaw04_WirePuts.calls _ _ l0 a1 a2 true w (Kd.C_of_reads (d := (0 : Int)) (h1 := fun _ => rfl) hr0) hc0 h).mono ?_
  rintro e w' ⟨rfl, hd⟩
  exact ⟨rfl, hd⟩

end Go.Proofs.Ytbepmlgpapdnpaa.PX
