-- by this session's xprint.py over the kit's print
import Derived.Test.YtbepmlgpapdnpaaPX0
import Derived.Test.YtbepmlgpapdnpaaPXFgroww
import Derived.Test.YtbepmlgpapdnpaaPXFwirePutU
import Derived.Test.YtbepmlgpapdnpaaPXFwirePutS
import Derived.Test.YtbepmlgpapdnpaaPXFrdstate
import Derived.Test.YtbepmlgpapdnpaaPXFvgetok
import Derived.Test.YtbepmlgpapdnpaaPXFtake
import Derived.Test.YtbepmlgpapdnpaaPXFreaderus
import Derived.Test.YtbepmlgpapdnpaaPXFreaderend
import Derived.Test.YtbepmlgpapdnpaaPXFreadernew
import Derived.Test.YtbepmlgpapdnpaaPXFspillwaylaw04fixed
import Derived.Test.YtbepmlgpapdnpaaPXFspillwaylaw04WireForms
namespace Go.Proofs.Ytbepmlgpapdnpaa.PX
open Go.RowKit Go.Proofs.YtbepmlgpapdnpaaW.PrintWords Go.Proofs.YtbepmlgpapdnpaaW.PrintLast Go.Proofs.YtbepmlgpapdnpaaW.PrintMore
attribute [local go_sem] max2_int min2_int max_two min_two max_three min_three max_four min_four   -- for this text's walks alone
set_option linter.unusedVariables false
set_option linter.unusedSimpArgs false

/-! ### spillwaylaw04_WireBack: function 4 -/
def encU (l : List Int) : List Int := l.flatMap (fun x => uform x.toNat)
def encS (l : List Int) : List Int := l.flatMap (fun x => uform (sfold x).toNat)
theorem rd_in {l : List Int} {i : Nat} (h : i < l.length) : rd l i ∈ l := by
  rw [rd, Int.toNat_natCast]; simp [List.getD, List.getElem?_eq_getElem h]
theorem take_snoc_rd {l : List Int} {i : Nat} (h : i < l.length) : l.take (i + 1) = l.take i ++ [rd l i] := by
  rw [List.take_succ_eq_append_getElem h, rd, Int.toNat_natCast]; simp [List.getD, List.getElem?_eq_getElem h]
theorem drop_cons_rd {l : List Int} {i : Nat} (h : i < l.length) : l.drop i = rd l i :: l.drop (i + 1) := by
  rw [List.drop_eq_getElem_cons h, rd, Int.toNat_natCast]; simp [List.getD, List.getElem?_eq_getElem h]
theorem encU_snoc {l : List Int} {i : Nat} (h : i < l.length) : encU (l.take i) ++ uform (rd l i).toNat = encU (l.take (i + 1)) := by
  rw [take_snoc_rd h]; simp [encU]
theorem encS_snoc {l : List Int} {i : Nat} (h : i < l.length) : encS (l.take i) ++ uform (sfold (rd l i)).toNat = encS (l.take (i + 1)) := by
  rw [take_snoc_rd h]; simp [encS]
theorem sfold_range {x : Int} (h0 : -9223372036854775808 ≤ x) (h1 : x ≤ 9223372036854775807) : 0 ≤ sfold x ∧ sfold x < 18446744073709551616 := by
  unfold sfold; split <;> omega
theorem sunfold_fold {x : Int} (h0 : -9223372036854775808 ≤ x) (h1 : x ≤ 9223372036854775807) : sunfold (sfold x) = x := by
  unfold sunfold sfold; split <;> split <;> omega
theorem encU_len : ∀ {l : List Int}, (∀ x ∈ l, 0 ≤ x ∧ x < 18446744073709551616) → (encU l).length ≤ 10 * l.length ∧ l.length ≤ (encU l).length
  | [], _ => by simp [encU]
  | x :: r, h => by
    have ih := encU_len (l := r) (fun y hy => h y (List.mem_cons_of_mem _ hy))
    have hx := h x List.mem_cons_self
    have h1 := uform_len64 (x := x.toNat) (by omega)
    have h2 := uform_pos x.toNat
    have e : (encU (x :: r)).length = (uform x.toNat).length + (encU r).length := by simp [encU]
    rw [e, List.length_cons]
    omega
theorem encS_len : ∀ {l : List Int}, (∀ x ∈ l, -9223372036854775808 ≤ x ∧ x ≤ 9223372036854775807) → (encS l).length ≤ 10 * l.length ∧ l.length ≤ (encS l).length
  | [], _ => by simp [encS]
  | x :: r, h => by
    have ih := encS_len (l := r) (fun y hy => h y (List.mem_cons_of_mem _ hy))
    have hx := h x List.mem_cons_self
    have hs := sfold_range hx.1 hx.2
    have h1 := uform_len64 (x := (sfold x).toNat) (by omega)
    have h2 := uform_pos (sfold x).toNat
    have e : (encS (x :: r)).length = (uform (sfold x).toNat).length + (encS r).length := by simp [encS]
    rw [e, List.length_cons]
    omega
theorem rU_put {p q : List Int} {y : Nat} (h : y < 18446744073709551616) : rU (p ++ (uform y ++ q)) p.length 0 = ((y : Int), p.length + (uform y).length, 0) := by
  unfold rU rtake
  rw [List.drop_left, vget_back y q h, if_neg (by simp), if_neg (by simp), if_neg (by simp only; omega)]
  simp
theorem encU_cut {l q : List Int} {i : Nat} (h : i < l.length) : encU l ++ q = encU (l.take i) ++ (uform (rd l i).toNat ++ (encU (l.drop (i + 1)) ++ q)) := by
  conv => lhs; rw [← List.take_append_drop i l, drop_cons_rd h]
  simp [encU]
theorem encS_cut {p l : List Int} {i : Nat} (h : i < l.length) : p ++ encS l = (p ++ encS (l.take i)) ++ (uform (sfold (rd l i)).toNat ++ encS (l.drop (i + 1))) := by
  conv => lhs; rw [← List.take_append_drop i l, drop_cons_rd h]
  simp [encS]
theorem encU_bytes {l : List Int} : ∀ v ∈ encU l, 0 ≤ v ∧ v < 256 := by
  intro v hv
  obtain ⟨x, _, h⟩ := List.mem_flatMap.1 hv
  exact uform_bytes _ v h
theorem encS_bytes {l : List Int} : ∀ v ∈ encS l, 0 ≤ v ∧ v < 256 := by
  intro v hv
  obtain ⟨x, _, h⟩ := List.mem_flatMap.1 hv
  exact uform_bytes _ v h
def spillwaylaw04_WireBack.f (l0 l1 : List Int) : Option Bool := if l0.length ≤ 1048576 ∧ l1.length ≤ 1048576 ∧ (∀ x ∈ l0, 0 ≤ x ∧ x < 18446744073709551616) ∧ (∀ x ∈ l1, -9223372036854775808 ≤ x ∧ x ≤ 9223372036854775807) then some true else none
set_option maxHeartbeats 8000000 in
set_option maxRecDepth 100000 in
theorem spillwaylaw04_WireBack.calls (A0 : Option Addr) (c0 : Nat) (l0 : List Int) (A1 : Option Addr) (c1 : Nat) (l1 : List Int) (r : Bool) (w : World) (hr0 : Kd.C (Kd.int .u64) w A0 l0.length l0) (hc0 : l0.length ≤ c0) (hr1 : Kd.C (Kd.int .i64) w A1 l1.length l1) (hc1 : l1.length ≤ c1) (h : spillwaylaw04_WireBack.f l0 l1 = some r) :
    Calls Try.prog 4 #[.slice A0 l0.length c0, .slice A1 l1.length c1] w fun e w' => e = .returned (.bool r) ∧ Below w.heap.size w w' := by
  unfold spillwaylaw04_WireBack.f at h
  split at h
  case isFalse => cases h
  rename_i hh
  obtain ⟨hL0, hL1, hV0, hV1⟩ := hh
  obtain rfl := Option.some.inj h
  clear h
  have hpn := fun (W : World) (p : Option Addr) => ptr_nil W p
  have HR0 := Aside0.mk hr0
  have HR1 := Aside0.mk hr1
  have HV0 := Aside0.mk hV0
  have HV1 := Aside0.mk hV1
  have HC0 := Aside0.mk hc0
  have HC1 := Aside0.mk hc1
  clear hr0 hr1 hV0 hV1 hc0 hc1
  go_enter Try.func4, Try.ntmps4
  go_wp2_with fail
  refine (spillwaylaw04_fixed.calls true w rfl).mono ?_
  rintro e w1 ⟨rfl, hB1⟩
  have B1 := Aside0.mk hB1
  clear hB1
  go_wp2_with fail
  go_loopw [5, 15] (fun bv iv w2 => ∃ (i : Nat) (A : Option Addr) (c : Nat) (ys : List Int), bv = .slice A ys.length c ∧ iv = .int .i64 i ∧ i ≤ l0.length ∧ Aside0 (ys = encU (l0.take i)) ∧ Aside0 (ys.length ≤ c) ∧ Aside0 (Kd.C (Kd.int .u8) w2 A ys.length ys) ∧ Aside0 (Below w.heap.size w w2)) (fun _ iv _ => l0.length - (intOf iv).toNat)
  case atStart => exact ⟨0, none, 0, [], rfl, rfl, by omega, ⟨rfl⟩, ⟨by decide⟩, ⟨C_nil0 _⟩, B1⟩
  case round =>
    obtain ⟨i, A, c, ys, rfl, rfl, hi, hE, hc, hC, hB⟩ := hrel
    by_cases hlt : i < l0.length
    · obtain ⟨ad, rfl, hcell⟩ := Kd.at_int (Kd.C_below HR0.out hB.out) (i : Int) (by omega) (by omega)
      rw [Int.toNat_natCast] at hcell
      have hx := HV0.out _ (rd_in hlt)
      have hlen := (encU_len (l := l0.take i) (fun x hx => HV0.out x (List.mem_of_mem_take hx))).1
      rw [← hE.out, List.length_take] at hlen
      have hl2 := Aside0.mk (show ys.length + 20 < 140737488355328 by omega)
      have hsn := Aside0.mk (encU_snoc hlt)
      generalize rd l0 i = x at hcell hx hsn
      have HX := Aside0.mk hx
      clear hlen hx
      go_wp2_with fail
      refine (putU_n A ys.length c ys x _ rfl hC.out hc.out HX.out.1 HX.out.2 hl2.out).mono ?_
      rintro e w3 ⟨v3, rfl, hR3, hB3⟩
      obtain ⟨A3, c3, rfl, hc3⟩ := own_slice' hR3
      have R3 := Aside0.mk (Kd.R_reads_row hR3 hc3)
      have B3 := Aside0.mk (below_two hB.out hB3)
      have C3 := Aside0.mk hc3
      clear hR3 hB3 hc3
      go_wp2_with fail
      go_roundw
      case rel => exact ⟨i + 1, A3, c3, _, by rw [List.length_append], by go_num, by omega, ⟨by rw [hE.out]; exact hsn.out⟩, C3, R3, B3⟩
      case measure => simp [intOf]; omega
    · obtain rfl : i = l0.length := by omega
      rw [List.take_length] at hE
      have hlenU := (encU_len HV0.out)
      rw [← hE.out] at hlenU
      have hl3 := Aside0.mk hlenU
      clear hlenU hlt hi
      go_wp2_with fail
      go_loopw [5, 27] (fun bv iv w2 => ∃ (i : Nat) (A : Option Addr) (c : Nat) (zs : List Int), bv = .slice A zs.length c ∧ iv = .int .i64 i ∧ i ≤ l1.length ∧ Aside0 (zs = ys ++ encS (l1.take i)) ∧ Aside0 (zs.length ≤ c) ∧ Aside0 (Kd.C (Kd.int .u8) w2 A zs.length zs) ∧ Aside0 (Below w.heap.size w w2)) (fun _ iv _ => l1.length - (intOf iv).toNat)
      case atStart => exact ⟨0, A, c, ys, rfl, rfl, by omega, ⟨by simp [encS]⟩, hc, hC, hB⟩
      case round =>
        clear hC hc hB
        obtain ⟨i, A, c, zs, rfl, rfl, hi, hZ, hc, hC, hB⟩ := hrel
        by_cases hlt : i < l1.length
        · obtain ⟨ad, rfl, hcell⟩ := Kd.at_int (Kd.C_below HR1.out hB.out) (i : Int) (by omega) (by omega)
          rw [Int.toNat_natCast] at hcell
          have hx := HV1.out _ (rd_in hlt)
          have hlen := (encS_len (l := l1.take i) (fun x hx => HV1.out x (List.mem_of_mem_take hx))).1
          rw [List.length_take] at hlen
          have hzl := congrArg List.length hZ.out
          rw [List.length_append] at hzl
          have hl2 := Aside0.mk (show zs.length + 20 < 140737488355328 by have := hl3.out; omega)
          have hsn := Aside0.mk (encS_snoc hlt)
          generalize rd l1 i = x at hcell hx hsn
          have HX := Aside0.mk hx
          clear hlen hx hzl
          go_wp2_with fail
          refine (putS_n A zs.length c zs x _ rfl hC.out hc.out HX.out.1 HX.out.2 hl2.out).mono ?_
          rintro e w3 ⟨v3, rfl, hR3, hB3⟩
          obtain ⟨A3, c3, rfl, hc3⟩ := own_slice' hR3
          have R3 := Aside0.mk (Kd.R_reads_row hR3 hc3)
          have B3 := Aside0.mk (below_two hB.out hB3)
          have C3 := Aside0.mk hc3
          clear hR3 hB3 hc3
          go_wp2_with fail
          go_roundw
          case rel => exact ⟨i + 1, A3, c3, _, by rw [List.length_append], by go_num, by omega, ⟨by rw [hZ.out, List.append_assoc, hsn.out]⟩, C3, R3, B3⟩
          case measure => simp [intOf]; omega
        · obtain rfl : i = l1.length := by omega
          rw [List.take_length] at hZ
          have hlenS := (encS_len HV1.out)
          have hzl := congrArg List.length hZ.out
          rw [List.length_append] at hzl
          have hl4 := Aside0.mk (show zs.length < 140737488355328 ∧ l0.length + l1.length ≤ zs.length by have := hl3.out; omega)
          have hbz := Aside0.mk (show ∀ v ∈ zs, 0 ≤ v ∧ v < 256 by
            intro v hv
            rw [hZ.out, hE.out] at hv
            rcases List.mem_append.1 hv with hv | hv
            · exact encU_bytes v hv
            · exact encS_bytes v hv)
          clear hlenS hzl hl3 hlt hi
          go_wp2_with fail
          refine (readerNew_n _ A zs.length c zs rfl hC.out hc.out hl4.out.1 hbz.out).mono ?_
          rintro e w4 ⟨g, h, A4, c4, rfl, hRD, hB4, hg, hh, _⟩
          have R4 := Aside0.mk hRD
          have B4 := Aside0.mk (below_two hB.out hB4)
          have S1 := Aside0.mk (Nat.le_trans hB.out.size hg)
          have S2 := Aside0.mk (Nat.le_trans hB.out.size hh)
          clear hRD hB4 hg hh hC hB hbz
          go_wp2_with fail
          go_loopw [43] (fun iv w5 => ∃ (i at_ : Nat), iv = .int .i64 i ∧ i ≤ l0.length ∧ Aside0 (at_ = (encU (l0.take i)).length) ∧ Aside0 (RD w5 g h A4 c4 zs at_ 0) ∧ Aside0 (Below w.heap.size w w5)) (fun iv _ => l0.length - (intOf iv).toNat)
          case atStart => exact ⟨0, 0, rfl, by omega, ⟨by simp [encU]⟩, R4, B4⟩
          case round =>
            clear R4 B4
            obtain ⟨i, at_, rfl, hi, hat, RR, BB⟩ := hrel
            by_cases hlt : i < l0.length
            · obtain ⟨ad, rfl, hcell⟩ := Kd.at_int (Kd.C_below HR0.out BB.out) (i : Int) (by omega) (by omega)
              rw [Int.toNat_natCast] at hcell
              have hx := HV0.out _ (rd_in hlt)
              have hcut := Aside0.mk (encU_cut (q := encS l1) hlt)
              have hsn := Aside0.mk (congrArg List.length (encU_snoc hlt))
              have KU := readerU_calls wr g h A4 c4 zs at_ 0 RR.out
              have KD := readerU_calls wr.drew g h A4 c4 zs at_ 0 (RR.out.drewN 1)
              have hput : rU zs at_ 0 = (rd l0 i, at_ + (uform (rd l0 i).toNat).length, 0) := by
                rw [hZ.out, hE.out, hcut.out, hat.out, rU_put (by omega), Int.toNat_of_nonneg hx.1]
              rw [hput] at KU KD
              clear KU hput
              have hcellB := fun (W : World) (hb : Below w.heap.size w W) => Kd.at_int (Kd.C_below HR0.out hb) (i : Int) (by omega) (by omega)
              rw [Int.toNat_natCast] at hcellB
              have HCB := Aside0.mk hcellB
              have KDD := Aside0.mk KD
              have hat2 := Aside0.mk (show at_ + (uform (rd l0 i).toNat).length = (encU (l0.take (i + 1))).length by rw [hat.out, ← hsn.out, List.length_append])
              generalize rd l0 i = x at hcell HCB KDD hat2
              clear KD hcut hsn hcellB hx
              go_wp2_with fail
              go_region_with (go_at_call 17; (with_reducible refine KDD.out.mono ?_); rintro e w5 ⟨rfl, hR5, hK5⟩; have B5 := Aside0.mk (KP.below_ (pw_below_drewN BB.out 1) hK5 S1.out S2.out); have R5 := Aside0.mk hR5; obtain ⟨ad5, e5, hcell5⟩ := HCB.out _ B5.out; cases e5; clear hR5 hK5)
              all_goals go_wp2_with fail
              all_goals go_roundw
              case rel => exact ⟨i + 1, _, by go_num, by omega, hat2, R5, B5⟩
              case rel => exact ⟨i + 1, _, by go_num, by omega, hat2, R5, B5⟩
              all_goals (simp [intOf]; omega)
            · obtain rfl : i = l0.length := by omega
              rw [List.take_length] at hat
              have hat3 := Aside0.mk (show at_ = ys.length by rw [hat.out, hE.out])
              clear hlt hi hat
              go_wp2_with fail
              go_loopw [56] (fun iv w5 => ∃ (i at_ : Nat), iv = .int .i64 i ∧ i ≤ l1.length ∧ Aside0 (at_ = (ys ++ encS (l1.take i)).length) ∧ Aside0 (RD w5 g h A4 c4 zs at_ 0) ∧ Aside0 (Below w.heap.size w w5)) (fun iv _ => l1.length - (intOf iv).toNat)
              case atStart => exact ⟨0, at_, rfl, by omega, ⟨by rw [hat3.out]; simp [encS]⟩, RR, BB⟩
              case round =>
                clear RR BB hat3
                obtain ⟨i, at_, rfl, hi, hat, RR, BB⟩ := hrel
                by_cases hlt : i < l1.length
                · obtain ⟨ad, rfl, hcell⟩ := Kd.at_int (Kd.C_below HR1.out BB.out) (i : Int) (by omega) (by omega)
                  rw [Int.toNat_natCast] at hcell
                  have hx := HV1.out _ (rd_in hlt)
                  have hxr := sfold_range hx.1 hx.2
                  have hcut := Aside0.mk (encS_cut (p := ys) hlt)
                  have hsn := Aside0.mk (congrArg List.length (encS_snoc hlt))
                  have KD := readerS_calls wr.drew g h A4 c4 zs at_ 0 (RR.out.drewN 1)
                  have hput : rU zs at_ 0 = (sfold (rd l1 i), at_ + (uform (sfold (rd l1 i)).toNat).length, 0) := by
                    rw [hZ.out, hcut.out, hat.out, rU_put (by omega), Int.toNat_of_nonneg hxr.1]
                  rw [hput, show sunfold ((sfold (rd l1 i), at_ + (uform (sfold (rd l1 i)).toNat).length, 0) : Int × Nat × Int).1 = rd l1 i from sunfold_fold hx.1 hx.2] at KD
                  clear hput
                  have hcellB := fun (W : World) (hb : Below w.heap.size w W) => Kd.at_int (Kd.C_below HR1.out hb) (i : Int) (by omega) (by omega)
                  rw [Int.toNat_natCast] at hcellB
                  have HCB := Aside0.mk hcellB
                  have KDD := Aside0.mk KD
                  have hat2 := Aside0.mk (show at_ + (uform (sfold (rd l1 i)).toNat).length = (ys ++ encS (l1.take (i + 1))).length by rw [hat.out, List.length_append, List.length_append, ← hsn.out, List.length_append]; omega)
                  generalize rd l1 i = x at hcell HCB KDD hat2
                  clear KD hcut hsn hcellB hx hxr
                  go_wp2_with fail
                  go_region_with (go_at_call 18; (with_reducible refine KDD.out.mono ?_); rintro e w5 ⟨rfl, hR5, hK5⟩; have B5 := Aside0.mk (KP.below_ (pw_below_drewN BB.out 1) hK5 S1.out S2.out); have R5 := Aside0.mk hR5; obtain ⟨ad5, e5, hcell5⟩ := HCB.out _ B5.out; cases e5; clear hR5 hK5)
                  all_goals go_wp2_with fail
                  all_goals go_roundw
                  case rel => exact ⟨i + 1, _, by go_num, by omega, hat2, R5, B5⟩
                  case rel => exact ⟨i + 1, _, by go_num, by omega, hat2, R5, B5⟩
                  all_goals (simp [intOf]; omega)
                · obtain rfl : i = l1.length := by omega
                  rw [List.take_length] at hat
                  have hat3 : at_ = zs.length := by rw [hat.out, hZ.out]
                  obtain ⟨h41, h42⟩ := hl4.out
                  have hz0 : (((zs.length : Int) - (at_ : Int)) == 0) = true := beq_iff_eq.2 (by omega)
                  have hz1 : decide ((l0.length : Int) + (l1.length : Int) ≤ (zs.length : Int)) = true := decide_eq_true (by omega)
                  have hat4 := Aside0.mk hat3
                  clear hlt hi hat hat3
                  go_wp2_with fail
                  refine (readerLeft_calls _ g h A4 c4 zs at_ 0 RR.out).mono ?_
                  rintro e w8 ⟨rfl, ⟨⟨n8, rfl⟩⟩⟩
                  go_wp2_with fail
                  refine (readerEnd_calls _ g h A4 c4 zs at_ 0 (RR.out.drewN n8)).mono ?_
                  rw [show rEnd zs at_ 0 = 0 by rw [rEnd, if_neg (by simp), if_pos hat4.out.symm]]
                  rintro e w9 ⟨rfl, ⟨⟨n9, rfl⟩⟩⟩
                  go_wp2_with fail
                  go_ret
                  exact ⟨by first | rfl | (simp; done) | (refine ret_bool ?_; simp; omega), by repeat (first | exact BB.out | apply pw_below_drewN)⟩

/-- THE ONE PURE STATEMENT of spillwaylaw04_WireBack: yours. -/
def spillwaylaw04_WireBack.Pure : Prop := ∀ (l0 : List Int) (l1 : List Int), l0.length ≤ maxLen → l0.length * 8 ≤ 140737488351232 → (∀ x ∈ l0, (Lit.int .u64 x).wf = true) → l1.length ≤ maxLen → l1.length * 8 ≤ 140737488351232 → (∀ x ∈ l1, (Lit.int .i64 x).wf = true) → spillwaylaw04_WireBack.f l0 l1 = some true
theorem spillwaylaw04_WireBack.walk (P : spillwaylaw04_WireBack.Pure) (a0 : Option Addr) (len0 cap0 : Nat) (z0 : List Int) (a1 : Option Addr) (len1 cap1 : Nat) (z1 : List Int) (w : World) (w0 : (a0 = none ∧ len0 = 0 ∧ cap0 = 0 ∧ z0 = []) ∨ ∃ x, a0 = some x ∧ len0 ≤ cap0 ∧ cap0 ≤ maxLen ∧ z0.length = cap0 ∧ (∀ i, i < z0.length → w.cell? (x.add i) = some (.int .u64 (z0.getD i 0))) ∧ ∀ n ∈ z0, (Lit.int .u64 n).wf = true) (y0 : len0 * 8 ≤ 140737488351232) (w1 : (a1 = none ∧ len1 = 0 ∧ cap1 = 0 ∧ z1 = []) ∨ ∃ x, a1 = some x ∧ len1 ≤ cap1 ∧ cap1 ≤ maxLen ∧ z1.length = cap1 ∧ (∀ i, i < z1.length → w.cell? (x.add i) = some (.int .i64 (z1.getD i 0))) ∧ ∀ n ∈ z1, (Lit.int .i64 n).wf = true) (y1 : len1 * 8 ≤ 140737488351232) :
    Calls Try.prog 4 #[.slice a0 len0 cap0, .slice a1 len1 cap1] w fun e w' => e = .returned (.bool true) ∧ Below w.heap.size w w' := by
  obtain ⟨l0, rfl, hr0, hm0, hw0, hc0⟩ := ReadsInt.ofRowC w0
  obtain ⟨l1, rfl, hr1, hm1, hw1, hc1⟩ := ReadsInt.ofRowC w1
  have h := P l0 l1 hm0 y0 hw0 hm1 y1 hw1
  refine (spillwaylaw04_WireBack.calls _ _ l0 _ _ l1 true w (Kd.C_of_reads (d := (0 : Int)) (h1 := fun _ => rfl) hr0) hc0 (Kd.C_of_reads (d := (0 : Int)) (h1 := fun _ => rfl) hr1) hc1 h).mono ?_
  rintro e w' ⟨rfl, hd⟩
  exact ⟨rfl, hd⟩

end Go.Proofs.Ytbepmlgpapdnpaa.PX
