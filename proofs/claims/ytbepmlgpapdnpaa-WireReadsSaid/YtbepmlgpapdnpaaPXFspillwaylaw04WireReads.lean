-- by this session's xprint.py over the kit's print
import Derived.Test.YtbepmlgpapdnpaaPX0
import Derived.Test.YtbepmlgpapdnpaaPXFgroww
import Derived.Test.YtbepmlgpapdnpaaPXFtake
import Derived.Test.YtbepmlgpapdnpaaPXFreaderend
import Derived.Test.YtbepmlgpapdnpaaPXFreadernew
import Derived.Test.YtbepmlgpapdnpaaPXFspillwaylaw04fixed
import Derived.Test.YtbepmlgpapdnpaaPXFrefget
import Derived.Test.YtbepmlgpapdnpaaPXFrefu
import Derived.Test.YtbepmlgpapdnpaaPXFjoinedn
import Derived.Test.YtbepmlgpapdnpaaPXFplstate
import Derived.Test.YtbepmlgpapdnpaaPXFplayrest
namespace Go.Proofs.Ytbepmlgpapdnpaa.PX
open Go.RowKit Go.Proofs.YtbepmlgpapdnpaaW.PrintWords Go.Proofs.YtbepmlgpapdnpaaW.PrintLast Go.Proofs.YtbepmlgpapdnpaaW.PrintMore
attribute [local go_sem] max2_int min2_int max_two min_two max_three min_three max_four min_four   -- for this text's walks alone
set_option linter.unusedVariables false
set_option linter.unusedSimpArgs false

/-! ### spillwaylaw04_WireReads: function 5 -/
theorem rd_inT {l : List S49} {i : Nat} (h : i < l.length) : rd_T49 l i ∈ l := by
  rw [rd_T49, Int.toNat_natCast]; simp [List.getD, List.getElem?_eq_getElem h]
theorem pick_block {w : World} {e base n c : Nat} {ok : Nat → Prop} {A : Option Addr} {xs : List Int} (h : (Kd.int .u8).R e w base ok (.slice A n c) xs) (hn : n = xs.length) (B : Nat) : ∃ b2, (∀ ad, A = some ad → 0 < xs.length → ad.block = b2) ∧ (base ≤ b2 ∧ b2 < w.heap.size ∨ b2 = B) := by
  by_cases h0 : 0 < xs.length
  · obtain ⟨g, rfl, h1, h2⟩ := R_addr h (by omega)
    exact ⟨g, fun ad e _ => by injection e with e; subst e; rfl, .inl ⟨h1, h2⟩⟩
  · exact ⟨B, fun _ _ h => absurd h h0, .inr rfl⟩
theorem RF.mk0 {w : World} {q b2 : Nat} {A : Option Addr} {c : Nat} {zs : List Int} (hq : w.heap[q]? = some (.cells #[.slice A zs.length c, .int .i64 0] 47 (0, 0))) (hc : zs.length ≤ c) (hr : (Kd.int .u8).C w A zs.length zs) (ha : ∀ ad, A = some ad → 0 < zs.length → ad.block = b2) (hne : b2 ≠ q) (hb : ∀ x ∈ zs, 0 ≤ x ∧ x < 256) : RF w q b2 A c zs 0 := ⟨hq, hc, hr, ha, hne, hb⟩
theorem quiet_D {P : Program} {f : FuncId} {args : Array Value} {w : World} {n : Nat} {v : Value} (h : Calls P f args (w.drewN n) fun e w' => e = .returned v ∧ Drawn0 (w.drewN n) w') : Calls P f args (w.drewN n) fun e w'' => e = .returned v ∧ ∃ m, w'' = w.drewN m := h.mono fun _ _ ⟨he, ⟨⟨m, hm⟩⟩⟩ => ⟨he, n + m, by rw [hm, World.drewN_drewN]⟩
def spillwaylaw04_WireReads.f (l0 l1 : List Int) (l2 : List S49) : Option Bool := if l0.length < 140737488355328 ∧ l1.length < 140737488355328 ∧ (∀ x ∈ l0, 0 ≤ x ∧ x < 256) ∧ (∀ x ∈ l1, 0 ≤ x ∧ x < 256) ∧ (∀ x ∈ l2, -9223372036854775808 ≤ x.f1 ∧ x.f1 ≤ 9223372036854775807) then some true else none
set_option maxHeartbeats 8000000 in
set_option maxRecDepth 100000 in
theorem spillwaylaw04_WireReads.calls (A0 : Option Addr) (c0 : Nat) (l0 : List Int) (A1 : Option Addr) (c1 : Nat) (l1 : List Int) (A2 : Option Addr) (c2 : Nat) (l2 : List (S49)) (r : Bool) (w : World) (hr0 : Kd.C (Kd.int .u8) w A0 l0.length l0) (hc0 : l0.length ≤ c0) (hr1 : Kd.C (Kd.int .u8) w A1 l1.length l1) (hc1 : l1.length ≤ c1) (hr2 : Kd.C k49 w A2 l2.length l2) (hc2 : l2.length ≤ c2) (h : spillwaylaw04_WireReads.f l0 l1 l2 = some r) :
    Calls Try.prog 5 #[.slice A0 l0.length c0, .slice A1 l1.length c1, .slice A2 l2.length c2] w fun e w' => e = .returned (.bool r) ∧ Below w.heap.size w w' := by
  unfold spillwaylaw04_WireReads.f at h
  split at h
  case isFalse => cases h
  rename_i hh
  obtain ⟨hL0, hL1, hV0, hV1, hV2⟩ := hh
  obtain rfl := Option.some.inj h
  clear h
  have hpn := fun (W : World) (p : Option Addr) => ptr_nil W p
  have HR0 := Aside0.mk hr0
  have HR1 := Aside0.mk hr1
  have HR2 := Aside0.mk hr2
  have HC0 := Aside0.mk hc0
  have HC1 := Aside0.mk hc1
  have HV0 := Aside0.mk hV0
  have HV1 := Aside0.mk hV1
  have HV2 := Aside0.mk hV2
  have HL := Aside0.mk (And.intro hL0 hL1)
  clear hr0 hr1 hr2 hc0 hc1 hc2 hV0 hV1 hV2 hL0 hL1
  go_enter Try.func5, Try.ntmps5
  go_wp2_with fail
  refine (readerNew_calls w A0 c0 l0 HR0.out HC0.out HL.out.1 HV0.out).mono ?_
  rintro e w1 ⟨g1, h1, Ab, cb, rfl, hR1, hB1, hg1, hh1, hA1⟩
  have R1 := Aside0.mk hR1
  have B1 := Aside0.mk hB1
  have S1 := Aside0.mk (And.intro hg1 (And.intro hh1 hA1))
  clear hR1 hB1 hg1 hh1 hA1
  go_wp2_with fail
  refine (readerNew_calls w1 A1 c1 l1 (Kd.C_below HR1.out B1.out) HC1.out HL.out.2 HV1.out).mono ?_
  rintro e w2 ⟨g2, h2, Ac, cc, rfl, hR2, hB2, hg2, hh2, hA2⟩
  have B2 := Aside0.mk (below_two B1.out hB2)
  have R1' := Aside0.mk (R1.out.keep (fun i hi => hB2.block i hi))
  have R2 := Aside0.mk hR2
  have S2 := Aside0.mk (And.intro hg2 (And.intro hh2 hA2))
  have T1 := Aside0.mk (And.intro (blk_lt R1.out.hg) (And.intro (blk_lt R1.out.hh) (And.intro (C_blk_lt R1.out.hr) hB2.size)))
  clear hR2 hB2 hg2 hh2 hA2 R1
  go_wp2_with fail
  refine (spillwaylaw04_fixed.calls true w2 rfl).mono ?_
  rintro e w3 ⟨rfl, hB3⟩
  have T2 := Aside0.mk (And.intro (blk_lt R2.out.hg) (And.intro (blk_lt R2.out.hh) (And.intro (C_blk_lt R2.out.hr) hB3.size)))
  replace R1' := Aside0.mk (R1'.out.keep (fun i hi => hB3.block i hi))
  replace R2 := Aside0.mk (R2.out.keep (fun i hi => hB3.block i hi))
  have B3 := Aside0.mk (below_two B2.out hB3)
  clear hB3 B2
  go_wp2_with fail
  refine (joined_n A0 l0.length c0 l0 none 0 0 [] w3 rfl rfl (Kd.C_below HR0.out B3.out) HC0.out (C_nil0 _) (by decide) (by have := HL.out.1; simpa using this)).mono ?_
  rintro e w4 ⟨v4, rfl, hR4, hB4⟩
  rw [List.append_nil] at hR4
  obtain ⟨A4, c4, rfl, hc4⟩ := own_slice' hR4
  have hB4' := below_two hB4 (below_alloc (Below.refl w4.heap.size w4) (Obj.cells #[.slice A4 l0.length c4, .int .i64 0] 47))
  replace R1' := Aside0.mk (R1'.out.keep (fun i hi => hB4'.block i hi))
  replace R2 := Aside0.mk (R2.out.keep (fun i hi => hB4'.block i hi))
  have B4 := Aside0.mk (below_two B3.out hB4')
  have R4 := Aside0.mk hR4
  have C4 := Aside0.mk hc4
  have Z4 := Aside0.mk hB4.size
  clear hR4 hc4 hB4 hB4' B3
  go_wp2_with fail
  refine (joined_n A1 l1.length c1 l1 none 0 0 [] _ rfl rfl (Kd.C_below HR1.out B4.out) HC1.out (C_nil0 _) (by decide) (by have := HL.out.2; simpa using this)).mono ?_
  rintro e w5 ⟨v5, rfl, hR5, hB5⟩
  rw [List.append_nil] at hR5
  obtain ⟨A5, c5, rfl, hc5⟩ := own_slice' hR5
  have AL5 := below_alloc (Below.refl w5.heap.size w5) (Obj.cells #[.slice A5 l1.length c5, .int .i64 0] 47)
  have hB5' := below_two hB5 AL5
  obtain ⟨b1, hb1, hb1r⟩ := pick_block R4.out rfl (w5.heap.size + 7)
  obtain ⟨b2, hb2, hb2r⟩ := pick_block hR5 rfl (w5.heap.size + 7)
  have hq1 : (w5.alloc (Obj.cells #[.slice A5 l1.length c5, .int .i64 0] 47)).heap[w4.heap.size]? = some (Obj.cells #[.slice A4 l0.length c4, .int .i64 0] 47) := (hB5'.block _ (by simp)).trans (blk_new w4 _)
  have z5 := hB5.size
  simp only [World.alloc, Array.size_push] at z5 hb2r
  have P1 : PL (w5.alloc (Obj.cells #[.slice A5 l1.length c5, .int .i64 0] 47)) g1 h1 w4.heap.size b1 Ab cb l0 0 0 := by
    obtain ⟨s1, s2, s3⟩ := S1.out
    obtain ⟨t1, t2, t3, t4⟩ := T1.out
    obtain ⟨t5, t6, t7, t8⟩ := T2.out
    have z4 := Z4.out
    refine ⟨R1'.out.keep (fun i hi => hB5'.block i hi), ⟨A4, c4, RF.mk0 hq1 C4.out ?_ hb1 (by omega) HV0.out⟩, by omega, by omega, fun ad e hn => by have := t3 ad e hn; omega, by omega⟩
    exact Kd.C_below (Kd.C_below (Kd.R_reads_row R4.out C4.out) (below_alloc (Below.refl _ _) _)) hB5'
  have P2 : PL (w5.alloc (Obj.cells #[.slice A5 l1.length c5, .int .i64 0] 47)) g2 h2 w5.heap.size b2 Ac cc l1 0 0 := by
    obtain ⟨t5, t6, t7, t8⟩ := T2.out
    have z4 := Z4.out
    refine ⟨R2.out.keep (fun i hi => hB5'.block i hi), ⟨A5, c5, RF.mk0 (blk_new w5 _) hc5 ?_ hb2 (by omega) HV1.out⟩, by omega, by omega, fun ad e hn => by have := t7 ad e hn; omega, by omega⟩
    exact Kd.C_below (Kd.R_reads_row hR5 hc5) AL5
  have D1 := Aside0.mk (show ∀ k, k = g1 ∨ k = h1 ∨ k = w4.heap.size ∨ k = b1 ∨ (∃ ad, Ab = some ad ∧ 0 < l0.length ∧ k = ad.block) → k ≠ g2 ∧ k ≠ h2 ∧ k ≠ w5.heap.size by
    obtain ⟨s1, s2, s3⟩ := S1.out
    obtain ⟨u1, u2, u3⟩ := S2.out
    obtain ⟨t1, t2, t3, t4⟩ := T1.out
    obtain ⟨t5, t6, t7, t8⟩ := T2.out
    have z4 := Z4.out
    intro k hk
    rcases hk with rfl | rfl | rfl | rfl | ⟨ad, e, hn, rfl⟩
    · omega
    · omega
    · omega
    · omega
    · have a1 := t3 ad e hn
      omega)
  have D2 := Aside0.mk (show ∀ k, k = g2 ∨ k = h2 ∨ k = w5.heap.size ∨ k = b2 ∨ (∃ ad, Ac = some ad ∧ 0 < l1.length ∧ k = ad.block) → k ≠ g1 ∧ k ≠ h1 ∧ k ≠ w4.heap.size by
    obtain ⟨s1, s2, s3⟩ := S1.out
    obtain ⟨u1, u2, u3⟩ := S2.out
    obtain ⟨t1, t2, t3, t4⟩ := T1.out
    obtain ⟨t5, t6, t7, t8⟩ := T2.out
    have z4 := Z4.out
    intro k hk
    rcases hk with rfl | rfl | rfl | rfl | ⟨ad, e, hn, rfl⟩
    · omega
    · omega
    · omega
    · omega
    · have a1 := t7 ad e hn
      have a2 := u3 ad e hn
      omega)
  have B5 := Aside0.mk (below_two B4.out hB5')
  replace P1 := Aside0.mk P1
  replace P2 := Aside0.mk P2
  have GE := Aside0.mk (show w.heap.size ≤ g1 ∧ w.heap.size ≤ h1 ∧ w.heap.size ≤ w4.heap.size ∧ w.heap.size ≤ g2 ∧ w.heap.size ≤ h2 ∧ w.heap.size ≤ w5.heap.size by
    obtain ⟨s1, s2, s3⟩ := S1.out
    obtain ⟨u1, u2, u3⟩ := S2.out
    obtain ⟨t1, t2, t3, t4⟩ := T1.out
    obtain ⟨t5, t6, t7, t8⟩ := T2.out
    have z4 := Z4.out
    omega)
  obtain ⟨x, hx⟩ : ∃ x, x = w4.heap.size := ⟨_, rfl⟩
  obtain ⟨y, hy⟩ : ∃ y, y = w5.heap.size := ⟨_, rfl⟩
  rw [← hx, ← hy] at D1 D2 GE
  rw [← hx] at P1
  rw [← hy] at P2
  clear hb1 hb1r hb2 hb2r hq1 z5 hR5 hB5 hB5' AL5 hc5 R4 C4 Z4 T1 T2 S1 S2 R1' R2 B4
  go_wp2_with fail
  rw [← hx, ← hy]
  replace hx := Aside0.mk hx
  replace hy := Aside0.mk hy
  have hlen2 : l2.length ≤ 9223372036854775807 := HR2.out.2.1
  go_loopw [37] (fun iv wq => ∃ (i a1 a2 : Nat) (d1 d2 : Int), iv = .int .i64 i ∧ i ≤ l2.length ∧ Aside0 (PL wq g1 h1 x b1 Ab cb l0 a1 d1) ∧ Aside0 (PL wq g2 h2 y b2 Ac cc l1 a2 d2) ∧ Aside0 (Below w.heap.size w wq)) (fun iv _ => l2.length - (intOf iv).toNat)
  case atStart => exact ⟨0, 0, 0, 0, 0, rfl, by omega, P1, P2, B5⟩
  case round =>
    clear P1 P2 B5
    obtain ⟨i, a1, a2, d1, d2, rfl, hi, P1, P2, BB⟩ := hrel
    by_cases hlt : i < l2.length
    · obtain ⟨ad, rfl, hcell0, hcell1⟩ := at_T49 (Kd.C_below HR2.out BB.out) (i : Int) (by omega) (by omega)
      rw [Int.toNat_natCast] at hcell0 hcell1
      have hv := HV2.out _ (rd_inT hlt)
      generalize rd_T49 l2 i = o at hcell0 hcell1 hv
      obtain ⟨kd, ms⟩ := o
      simp only at hcell0 hcell1 hv
      have HV := Aside0.mk hv
      clear hv
      have BX := below_alloc (Below.refl wr.heap.size wr) (Obj.cells #[.int .i64 kd, .int .i64 ms] 49)
      have BBX := Aside0.mk (below_two BB.out BX)
      have ql1 := P1.out.q_lt
      have hlt1 : wr.heap.size ≠ g1 ∧ wr.heap.size ≠ h1 ∧ wr.heap.size ≠ x := by omega
      replace P1 := Aside0.mk (P1.out.keep BX)
      replace P2 := Aside0.mk (P2.out.keep BX)
      clear ql1 BB BX
      by_cases hm : (i : Int) % 3 = 2
      · have hm1 : ((i : Int) % 3 == 2) = true := beq_iff_eq.2 hm
        go_wp2_with fail
        refine (play_calls _ g1 h1 x b1 Ab cb l0 a1 d1 kd ms P1.out HV.out.1 HV.out.2).mono ?_
        rintro e w7 ⟨rfl, ⟨a3, d3, hP⟩, hK⟩
        have hbx : w7.heap[wr.heap.size]? = some (Obj.cells #[.int .i64 kd, .int .i64 ms] 49) := (hK.block _ (by simp) hlt1.1 hlt1.2.1 hlt1.2.2).trans (blk_new wr _)
        have hx0 := blk_cell hbx 0
        have hx1 := blk_cell hbx 1
        simp only [List.getElem?_toArray, List.getElem?_cons_zero, List.getElem?_cons_succ] at hx0 hx1
        replace P1 := Aside0.mk hP
        replace P2 := Aside0.mk (P2.out.apart hK D2.out)
        have B7 := Aside0.mk (K3.below BBX.out hK GE.out.1 GE.out.2.1 GE.out.2.2.1)
        clear hP hK hbx
        go_wp2_with fail
        refine (play_calls _ g2 h2 y b2 Ac cc l1 a2 d2 kd ms P2.out HV.out.1 HV.out.2).mono ?_
        rintro e w8 ⟨rfl, ⟨a4, d4, hP⟩, hK⟩
        replace P2 := Aside0.mk hP
        replace P1 := Aside0.mk (P1.out.apart hK D1.out)
        have B8 := Aside0.mk (K3.below B7.out hK GE.out.2.2.2.1 GE.out.2.2.2.2.1 GE.out.2.2.2.2.2)
        clear hP hK hx0 hx1 hm hm1 hlt1
        go_wp2_with fail
        go_roundw
        case rel => exact ⟨i + 1, a3, a4, d3, d4, by go_num, by omega, P1, P2, B8⟩
        case measure => simp [intOf]; omega
      · have hm1 : ((i : Int) % 3 == 2) = false := beq_eq_false_iff_ne.2 hm
        go_wp2_with fail
        refine (play_calls _ g1 h1 x b1 Ab cb l0 a1 d1 kd ms P1.out HV.out.1 HV.out.2).mono ?_
        rintro e w7 ⟨rfl, ⟨a3, d3, hP⟩, hK⟩
        replace P1 := Aside0.mk hP
        replace P2 := Aside0.mk (P2.out.apart hK D2.out)
        have B7 := Aside0.mk (K3.below BBX.out hK GE.out.1 GE.out.2.1 GE.out.2.2.1)
        clear hP hK hlt1
        go_wp2_with fail
        clear hm hm1
        go_roundw
        case rel => exact ⟨i + 1, a3, a2, d3, d2, by go_num, by omega, P1, P2, B7⟩
        case measure => simp [intOf]; omega
    · obtain ⟨A8, c8, F1⟩ := P1.out.rf
      obtain ⟨A9, c9, F2⟩ := P2.out.rf
      have hx0 := blk_cell F1.hq 0
      have hy0 := blk_cell F2.hq 0
      simp only [List.getElem?_toArray, List.getElem?_cons_zero, List.getElem?_cons_succ] at hx0 hy0
      have e1 := end_eq (bad := d1) P1.out.rd.hat
      have e2 := end_eq (bad := d2) P2.out.rd.hat
      have hat1 := P1.out.rd.hat
      have hat2 := P2.out.rd.hat
      have hz1 : (((l0.length : Int) - (a1 : Int)) == ((l0.drop a1).length : Int)) = true := beq_iff_eq.2 (by rw [List.length_drop]; omega)
      have hz2 : (((l1.length : Int) - (a2 : Int)) == ((l1.drop a2).length : Int)) = true := beq_iff_eq.2 (by rw [List.length_drop]; omega)
      have RL1 := Aside0.mk (fun (n : Nat) => readerLeft_calls (wr.drewN n) g1 h1 Ab cb l0 a1 d1 (P1.out.rd.drewN n))
      have RL2 := Aside0.mk (fun (n : Nat) => readerLeft_calls (wr.drewN n) g2 h2 Ac cc l1 a2 d2 (P2.out.rd.drewN n))
      have RE1 := Aside0.mk (fun (n : Nat) => readerEnd_calls (wr.drewN n) g1 h1 Ab cb l0 a1 d1 (P1.out.rd.drewN n))
      have RE2 := Aside0.mk (fun (n : Nat) => readerEnd_calls (wr.drewN n) g2 h2 Ac cc l1 a2 d2 (P2.out.rd.drewN n))
      have FE1 := Aside0.mk (fun (n : Nat) => refEnd_calls (wr.drewN n) x b1 A8 c8 (l0.drop a1) d1 (F1.drewN n))
      have FE2 := Aside0.mk (fun (n : Nat) => refEnd_calls (wr.drewN n) y b2 A9 c9 (l1.drop a2) d2 (F2.drewN n))
      rw [← e1] at FE1
      rw [← e2] at FE2
      generalize rEnd l0 a1 d1 = u1 at RE1 FE1
      generalize rEnd l1 a2 d2 = u2 at RE2 FE2
      generalize l0.drop a1 = zs1 at hx0 hz1
      generalize l1.drop a2 = zs2 at hy0 hz2
      clear e1 e2 F1 F2
      go_wp2_with fail
      go_quiet (first | (go_at_call 19; with_reducible exact quiet_D (RL1.out _)) | (go_at_call 19; with_reducible exact quiet_D (RL2.out _)) | (go_at_call 20; with_reducible exact quiet_D (RE1.out _)) | (go_at_call 20; with_reducible exact quiet_D (RE2.out _)) | (go_at_call 22; with_reducible exact quiet_D (FE1.out _)) | (go_at_call 22; with_reducible exact quiet_D (FE2.out _)))
      go_wp2_with fail
      go_ret
      exact ⟨by first | rfl | (simp; done) | (refine ret_bool ?_; simp [hz1, hz2]), by repeat (first | exact BB.out | apply pw_below_drewN)⟩

end Go.Proofs.Ytbepmlgpapdnpaa.PX
